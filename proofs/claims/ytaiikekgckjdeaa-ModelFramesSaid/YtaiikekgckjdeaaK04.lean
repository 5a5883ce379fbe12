/- Contracts of an element: its stretch, weight, force and energy, and a move of it. -/
import Derived.Test.YtaiikekgckjdeaaK03
namespace Go.Proofs.Ytaiikekgckjdeaa
open Go.RowKit
open Calmly (Kept)

theorem setBlk {W : World} {b : Nat} {cs : Array Value} {t : TypeId} (h : W.heap[b]? = some (.cells cs t)) (i : Nat) (v : Value) : (W.setCell ⟨b, i, none⟩ v).heap[b]? = some (.cells (cs.setIfInBounds i v) t) := by
  simp [World.setCell, Array.getElem?_modify, h]
theorem sameCell {w w' : World} {b : Nat} (h : w'.heap[b]? = w.heap[b]?) (o : Nat) : w'.cell? ⟨b, o, none⟩ = w.cell? ⟨b, o, none⟩ := by simp [World.cell?, h]
/-- An element with its slip and the position of its spring. -/
def elV (k y : Int) (b : Bool) (s : Int) (br : Bool) (at' : Int) : Value := .agg #[.int .i64 k, .int .i64 y, .bool b, .int .i64 s, .bool br, .int .i64 at']
/-- Bounds of an element in a hold. -/
structure ElB (k y s at' : Int) : Prop where
  k : 0 ≤ k ∧ k ≤ 1000
  y : 0 ≤ y ∧ y ≤ 1000
  s : -10000 ≤ s ∧ s ≤ 10000
  a : -40000 ≤ at' ∧ at' ≤ 40000
def wgt (k : Int) (br : Bool) : Int := if br then 0 else k
def frcE (k s : Int) (br : Bool) (at' : Int) : Int := wgt k br * (at' - s)
def enrE (k s : Int) (br : Bool) (at' : Int) : Int := wgt k br * (at' - s) * (at' - s)
theorem mul_abs {a x A C : Int} (h1 : -A ≤ a) (h2 : a ≤ A) (h3 : -C ≤ x) (h4 : x ≤ C) : -(A * C) ≤ a * x ∧ a * x ≤ A * C := by
  have hA : 0 ≤ A := by omega
  have hC : 0 ≤ C := by omega
  have h5 : (a * x).natAbs ≤ A.natAbs * C.natAbs := by
    rw [Int.natAbs_mul]
    exact Nat.mul_le_mul (by omega) (by omega)
  have h6 : ((A.natAbs * C.natAbs : Nat) : Int) = A * C := by rw [Int.natCast_mul]; congr 1 <;> omega
  omega
theorem wgt_bd {k : Int} {br : Bool} (h : 0 ≤ k ∧ k ≤ 1000) : 0 ≤ wgt k br ∧ wgt k br ≤ 1000 := by
  unfold wgt
  split <;> omega
theorem frc_bd {k y s at' : Int} {br : Bool} (h : ElB k y s at') : -50000000 ≤ frcE k s br at' ∧ frcE k s br at' ≤ 50000000 := by
  have h1 := wgt_bd (br := br) h.k
  have h2 := h.s
  have h3 := h.a
  have := mul_abs (a := wgt k br) (x := at' - s) (A := 1000) (C := 50000) (by omega) (by omega) (by omega) (by omega)
  unfold frcE
  omega
theorem enr_bd {k y s at' : Int} {br : Bool} (h : ElB k y s at') : -2500000000000 ≤ enrE k s br at' ∧ enrE k s br at' ≤ 2500000000000 := by
  have h1 := frc_bd (br := br) h
  have h2 := h.s
  have h3 := h.a
  have := mul_abs (a := frcE k s br at') (x := at' - s) (A := 50000000) (C := 50000) (by omega) (by omega) (by omega) (by omega)
  unfold enrE
  unfold frcE at this
  omega

set_option maxRecDepth 100000 in
set_option maxHeartbeats 400000 in
theorem stretch_any (k y : Int) (b : Bool) (s : Int) (br : Bool) (at' : Int) (w : World) (h : ElB k y s at') :
    Calls Try.prog 135 #[elV k y b s br at'] w fun e w' => e = .returned (.int .i64 (at' - s)) ∧ Below w.heap.size w w' := by
  have BW : Below w.heap.size w (w.alloc (.cells #[.int .i64 k, .int .i64 y, .bool b, .int .i64 s, .bool br, .int .i64 at'] 154)) := (Below.refl _ _).alloc (Nat.le_refl _) _
  have hs := h.s
  have ha := h.a
  unfold elV
  go_enter Try.func135, Try.ntmps135
  go_wp2
  go_ret
  exact ⟨rfl, BW⟩
set_option maxRecDepth 100000 in
set_option maxHeartbeats 400000 in
theorem weight_any (k y : Int) (b : Bool) (s : Int) (br : Bool) (at' : Int) (w : World) :
    Calls Try.prog 134 #[elV k y b s br at'] w fun e w' => e = .returned (.int .i64 (wgt k br)) ∧ Below w.heap.size w w' := by
  have BW : Below w.heap.size w (w.alloc (.cells #[.int .i64 k, .int .i64 y, .bool b, .int .i64 s, .bool br, .int .i64 at'] 154)) := (Below.refl _ _).alloc (Nat.le_refl _) _
  unfold elV
  cases br
  · go_enter Try.func134, Try.ntmps134
    go_wp2
    go_ret
    exact ⟨rfl, BW⟩
  · go_enter Try.func134, Try.ntmps134
    go_wp2
    go_ret
    exact ⟨rfl, BW⟩

set_option maxRecDepth 100000 in
set_option maxHeartbeats 800000 in
theorem force_any (k y : Int) (b : Bool) (s : Int) (br : Bool) (at' : Int) (w : World) (h : ElB k y s at') :
    Calls Try.prog 101 #[elV k y b s br at'] w fun e w' => e = .returned (.int .i64 (frcE k s br at')) ∧ Below w.heap.size w w' := by
  have BW : Below w.heap.size w (w.alloc (.cells #[.int .i64 k, .int .i64 y, .bool b, .int .i64 s, .bool br, .int .i64 at'] 154)) := (Below.refl _ _).alloc (Nat.le_refl _) _
  have y0 := alloc_new w (.cells #[.int .i64 k, .int .i64 y, .bool b, .int .i64 s, .bool br, .int .i64 at'] 154)
  have c0 := cell_block y0 0
  have c1 := cell_block y0 1
  have c2 := cell_block y0 2
  have c3 := cell_block y0 3
  have c4 := cell_block y0 4
  have c5 := cell_block y0 5
  have hf := frc_bd (br := br) h
  have hF : wgt k br * (at' - s) = frcE k s br at' := rfl
  unfold elV
  go_enter Try.func101, Try.ntmps101
  go_wp2_with fail
  generalize w.alloc (.cells #[.int .i64 k, .int .i64 y, .bool b, .int .i64 s, .bool br, .int .i64 at'] 154) = W at *
  refine Calmly.wp_region_mix 4 (.fl 0 <| .fl 2 <| .eff 1 <| .eff 3 <| .tail [4, 5]) (by kernel_rfl) (by kernel_rfl) ?_
  replace c0 := cell_keep c0 (Below.refl _ _).drew
  replace c1 := cell_keep c1 (Below.refl _ _).drew
  replace c2 := cell_keep c2 (Below.refl _ _).drew
  replace c3 := cell_keep c3 (Below.refl _ _).drew
  replace c4 := cell_keep c4 (Below.refl _ _).drew
  replace c5 := cell_keep c5 (Below.refl _ _).drew
  replace BW := BW.drew
  generalize W.drew = V at *
  have hk := Below.refl V.heap.size V
  go_wp2_with (first | ((with_reducible refine Calmly.is_fl ?_); refine Calmly.mix_fl rfl ?_ (fun _ _ => ?_); (first | exact .move _ | exact .load _ _ | exact .fieldAddr _ _ _ (by kernel_rfl) | exact .assign _ | exact .binOp _ _ _ _ _ rfl | exact .indexAddr _ _ _ | exact .len _ _ (by kernel_rfl) | exact .field _ _ _ | exact .extract _ _ | exact .pick _ _ _ | exact .build _ _ | exact .slice _ _ _ _ _ | exact .unOp _ _ _ rfl | exact .index _ _ _ | exact .max _ _ _ rfl rfl | exact .min _ _ _ rfl rfl | exact .nilCheck _ _ rfl)) | ((with_reducible refine Calmly.is_gl ?_); refine Calmly.mix_gl rfl rfl rfl ?_; first | ((first | with_reducible refine Calmly.gl_tt ?_ (fun _ _ => ?_) | with_reducible refine Calmly.gl_ff ?_ (fun _ _ => ?_)); (first | exact .move _ | exact .load _ _ | exact .fieldAddr _ _ _ (by kernel_rfl) | exact .assign _ | exact .binOp _ _ _ _ _ rfl | exact .indexAddr _ _ _ | exact .len _ _ (by kernel_rfl) | exact .field _ _ _ | exact .extract _ _ | exact .pick _ _ _ | exact .build _ _ | exact .slice _ _ _ _ _ | exact .unOp _ _ _ rfl | exact .index _ _ _ | exact .max _ _ _ rfl rfl | exact .min _ _ _ rfl rfl | exact .nilCheck _ _ rfl)) | with_reducible refine Calmly.gl_tf (fun _ _ => ?_) | with_reducible refine Calmly.gl_ft (fun _ _ => ?_)) | ((with_reducible refine Calmly.is_eff ?_); refine Calmly.mix_eff rfl (fun _ _ => ?_)) | ((with_reducible refine Calmly.is_gf ?_); refine Calmly.mix_gf rfl rfl rfl ?_; first | with_reducible refine Calmly.gf_tt (fun _ _ => ?_) | with_reducible refine Calmly.gf_ff (fun _ _ => ?_) | with_reducible refine Calmly.gf_tf (kept_of hk) (fun _ _ => ?_) | with_reducible refine Calmly.gf_ft (kept_of hk) (fun _ _ => ?_)) | ((with_reducible refine Calmly.is_tail ?_); first | refine Calmly.mix_tail_nil ?_ | refine Calmly.mix_tail rfl (fun _ _ => ?_)) | ((with_reducible refine Calmly.is_kept ?_); refine ⟨kept_of hk, ?_⟩) | (with_reducible refine Calmly.mix_alt ?_ ?_))
  refine (weight_any k y b s br at' _).mono ?_
  rintro e u1 ⟨rfl, hs⟩
  replace hk := step_of hk hs
  clear hs
  go_wp2_with (first | ((with_reducible refine Calmly.is_fl ?_); refine Calmly.mix_fl rfl ?_ (fun _ _ => ?_); (first | exact .move _ | exact .load _ _ | exact .fieldAddr _ _ _ (by kernel_rfl) | exact .assign _ | exact .binOp _ _ _ _ _ rfl | exact .indexAddr _ _ _ | exact .len _ _ (by kernel_rfl) | exact .field _ _ _ | exact .extract _ _ | exact .pick _ _ _ | exact .build _ _ | exact .slice _ _ _ _ _ | exact .unOp _ _ _ rfl | exact .index _ _ _ | exact .max _ _ _ rfl rfl | exact .min _ _ _ rfl rfl | exact .nilCheck _ _ rfl)) | ((with_reducible refine Calmly.is_gl ?_); refine Calmly.mix_gl rfl rfl rfl ?_; first | ((first | with_reducible refine Calmly.gl_tt ?_ (fun _ _ => ?_) | with_reducible refine Calmly.gl_ff ?_ (fun _ _ => ?_)); (first | exact .move _ | exact .load _ _ | exact .fieldAddr _ _ _ (by kernel_rfl) | exact .assign _ | exact .binOp _ _ _ _ _ rfl | exact .indexAddr _ _ _ | exact .len _ _ (by kernel_rfl) | exact .field _ _ _ | exact .extract _ _ | exact .pick _ _ _ | exact .build _ _ | exact .slice _ _ _ _ _ | exact .unOp _ _ _ rfl | exact .index _ _ _ | exact .max _ _ _ rfl rfl | exact .min _ _ _ rfl rfl | exact .nilCheck _ _ rfl)) | with_reducible refine Calmly.gl_tf (fun _ _ => ?_) | with_reducible refine Calmly.gl_ft (fun _ _ => ?_)) | ((with_reducible refine Calmly.is_eff ?_); refine Calmly.mix_eff rfl (fun _ _ => ?_)) | ((with_reducible refine Calmly.is_gf ?_); refine Calmly.mix_gf rfl rfl rfl ?_; first | with_reducible refine Calmly.gf_tt (fun _ _ => ?_) | with_reducible refine Calmly.gf_ff (fun _ _ => ?_) | with_reducible refine Calmly.gf_tf (kept_of hk) (fun _ _ => ?_) | with_reducible refine Calmly.gf_ft (kept_of hk) (fun _ _ => ?_)) | ((with_reducible refine Calmly.is_tail ?_); first | refine Calmly.mix_tail_nil ?_ | refine Calmly.mix_tail rfl (fun _ _ => ?_)) | ((with_reducible refine Calmly.is_kept ?_); refine ⟨kept_of hk, ?_⟩) | (with_reducible refine Calmly.mix_alt ?_ ?_))
  refine (stretch_any k y b s br at' _ h).mono ?_
  rintro e u2 ⟨rfl, hs⟩
  replace hk := step_of hk hs
  clear hs
  have hm : -9223372036854775808 ≤ wgt k br * (at' - s) ∧ wgt k br * (at' - s) ≤ 9223372036854775807 := by rw [hF]; omega
  go_wp2_with (first | ((with_reducible refine Calmly.is_fl ?_); refine Calmly.mix_fl rfl ?_ (fun _ _ => ?_); (first | exact .move _ | exact .load _ _ | exact .fieldAddr _ _ _ (by kernel_rfl) | exact .assign _ | exact .binOp _ _ _ _ _ rfl | exact .indexAddr _ _ _ | exact .len _ _ (by kernel_rfl) | exact .field _ _ _ | exact .extract _ _ | exact .pick _ _ _ | exact .build _ _ | exact .slice _ _ _ _ _ | exact .unOp _ _ _ rfl | exact .index _ _ _ | exact .max _ _ _ rfl rfl | exact .min _ _ _ rfl rfl | exact .nilCheck _ _ rfl)) | ((with_reducible refine Calmly.is_gl ?_); refine Calmly.mix_gl rfl rfl rfl ?_; first | ((first | with_reducible refine Calmly.gl_tt ?_ (fun _ _ => ?_) | with_reducible refine Calmly.gl_ff ?_ (fun _ _ => ?_)); (first | exact .move _ | exact .load _ _ | exact .fieldAddr _ _ _ (by kernel_rfl) | exact .assign _ | exact .binOp _ _ _ _ _ rfl | exact .indexAddr _ _ _ | exact .len _ _ (by kernel_rfl) | exact .field _ _ _ | exact .extract _ _ | exact .pick _ _ _ | exact .build _ _ | exact .slice _ _ _ _ _ | exact .unOp _ _ _ rfl | exact .index _ _ _ | exact .max _ _ _ rfl rfl | exact .min _ _ _ rfl rfl | exact .nilCheck _ _ rfl)) | with_reducible refine Calmly.gl_tf (fun _ _ => ?_) | with_reducible refine Calmly.gl_ft (fun _ _ => ?_)) | ((with_reducible refine Calmly.is_eff ?_); refine Calmly.mix_eff rfl (fun _ _ => ?_)) | ((with_reducible refine Calmly.is_gf ?_); refine Calmly.mix_gf rfl rfl rfl ?_; first | with_reducible refine Calmly.gf_tt (fun _ _ => ?_) | with_reducible refine Calmly.gf_ff (fun _ _ => ?_) | with_reducible refine Calmly.gf_tf (kept_of hk) (fun _ _ => ?_) | with_reducible refine Calmly.gf_ft (kept_of hk) (fun _ _ => ?_)) | ((with_reducible refine Calmly.is_tail ?_); first | refine Calmly.mix_tail_nil ?_ | refine Calmly.mix_tail rfl (fun _ _ => ?_)) | ((with_reducible refine Calmly.is_kept ?_); refine ⟨kept_of hk, ?_⟩) | (with_reducible refine Calmly.mix_alt ?_ ?_))
  go_ret
  exact ⟨rfl, BW.trans (hk.mono BW.size)⟩
set_option maxRecDepth 100000 in
set_option maxHeartbeats 800000 in
theorem energy_any (k y : Int) (b : Bool) (s : Int) (br : Bool) (at' : Int) (w : World) (h : ElB k y s at') :
    Calls Try.prog 94 #[elV k y b s br at'] w fun e w' => e = .returned (.int .i64 (enrE k s br at')) ∧ Below w.heap.size w w' := by
  have BW : Below w.heap.size w (w.alloc (.cells #[.int .i64 k, .int .i64 y, .bool b, .int .i64 s, .bool br, .int .i64 at'] 154)) := (Below.refl _ _).alloc (Nat.le_refl _) _
  have y0 := alloc_new w (.cells #[.int .i64 k, .int .i64 y, .bool b, .int .i64 s, .bool br, .int .i64 at'] 154)
  have c0 := cell_block y0 0
  have c1 := cell_block y0 1
  have c2 := cell_block y0 2
  have c3 := cell_block y0 3
  have c4 := cell_block y0 4
  have c5 := cell_block y0 5
  have hf := frc_bd (br := br) h
  have hg := enr_bd (br := br) h
  have hF : wgt k br * (at' - s) = frcE k s br at' := rfl
  have hG : frcE k s br at' * (at' - s) = enrE k s br at' := rfl
  unfold elV
  go_enter Try.func94, Try.ntmps94
  go_wp2_with fail
  generalize w.alloc (.cells #[.int .i64 k, .int .i64 y, .bool b, .int .i64 s, .bool br, .int .i64 at'] 154) = W at *
  refine Calmly.wp_region_mix 7 (.fl 0 <| .fl 2 <| .fl 5 <| .eff 1 <| .eff 3 <| .fl 4 <| .eff 6 <| .tail [7, 8]) (by kernel_rfl) (by kernel_rfl) ?_
  replace c0 := cell_keep c0 (Below.refl _ _).drew
  replace c1 := cell_keep c1 (Below.refl _ _).drew
  replace c2 := cell_keep c2 (Below.refl _ _).drew
  replace c3 := cell_keep c3 (Below.refl _ _).drew
  replace c4 := cell_keep c4 (Below.refl _ _).drew
  replace c5 := cell_keep c5 (Below.refl _ _).drew
  replace BW := BW.drew
  generalize W.drew = V at *
  have hk := Below.refl V.heap.size V
  go_wp2_with (first | ((with_reducible refine Calmly.is_fl ?_); refine Calmly.mix_fl rfl ?_ (fun _ _ => ?_); (first | exact .move _ | exact .load _ _ | exact .fieldAddr _ _ _ (by kernel_rfl) | exact .assign _ | exact .binOp _ _ _ _ _ rfl | exact .indexAddr _ _ _ | exact .len _ _ (by kernel_rfl) | exact .field _ _ _ | exact .extract _ _ | exact .pick _ _ _ | exact .build _ _ | exact .slice _ _ _ _ _ | exact .unOp _ _ _ rfl | exact .index _ _ _ | exact .max _ _ _ rfl rfl | exact .min _ _ _ rfl rfl | exact .nilCheck _ _ rfl)) | ((with_reducible refine Calmly.is_gl ?_); refine Calmly.mix_gl rfl rfl rfl ?_; first | ((first | with_reducible refine Calmly.gl_tt ?_ (fun _ _ => ?_) | with_reducible refine Calmly.gl_ff ?_ (fun _ _ => ?_)); (first | exact .move _ | exact .load _ _ | exact .fieldAddr _ _ _ (by kernel_rfl) | exact .assign _ | exact .binOp _ _ _ _ _ rfl | exact .indexAddr _ _ _ | exact .len _ _ (by kernel_rfl) | exact .field _ _ _ | exact .extract _ _ | exact .pick _ _ _ | exact .build _ _ | exact .slice _ _ _ _ _ | exact .unOp _ _ _ rfl | exact .index _ _ _ | exact .max _ _ _ rfl rfl | exact .min _ _ _ rfl rfl | exact .nilCheck _ _ rfl)) | with_reducible refine Calmly.gl_tf (fun _ _ => ?_) | with_reducible refine Calmly.gl_ft (fun _ _ => ?_)) | ((with_reducible refine Calmly.is_eff ?_); refine Calmly.mix_eff rfl (fun _ _ => ?_)) | ((with_reducible refine Calmly.is_gf ?_); refine Calmly.mix_gf rfl rfl rfl ?_; first | with_reducible refine Calmly.gf_tt (fun _ _ => ?_) | with_reducible refine Calmly.gf_ff (fun _ _ => ?_) | with_reducible refine Calmly.gf_tf (kept_of hk) (fun _ _ => ?_) | with_reducible refine Calmly.gf_ft (kept_of hk) (fun _ _ => ?_)) | ((with_reducible refine Calmly.is_tail ?_); first | refine Calmly.mix_tail_nil ?_ | refine Calmly.mix_tail rfl (fun _ _ => ?_)) | ((with_reducible refine Calmly.is_kept ?_); refine ⟨kept_of hk, ?_⟩) | (with_reducible refine Calmly.mix_alt ?_ ?_))
  refine (weight_any k y b s br at' _).mono ?_
  rintro e u1 ⟨rfl, hs⟩
  replace hk := step_of hk hs
  clear hs
  go_wp2_with (first | ((with_reducible refine Calmly.is_fl ?_); refine Calmly.mix_fl rfl ?_ (fun _ _ => ?_); (first | exact .move _ | exact .load _ _ | exact .fieldAddr _ _ _ (by kernel_rfl) | exact .assign _ | exact .binOp _ _ _ _ _ rfl | exact .indexAddr _ _ _ | exact .len _ _ (by kernel_rfl) | exact .field _ _ _ | exact .extract _ _ | exact .pick _ _ _ | exact .build _ _ | exact .slice _ _ _ _ _ | exact .unOp _ _ _ rfl | exact .index _ _ _ | exact .max _ _ _ rfl rfl | exact .min _ _ _ rfl rfl | exact .nilCheck _ _ rfl)) | ((with_reducible refine Calmly.is_gl ?_); refine Calmly.mix_gl rfl rfl rfl ?_; first | ((first | with_reducible refine Calmly.gl_tt ?_ (fun _ _ => ?_) | with_reducible refine Calmly.gl_ff ?_ (fun _ _ => ?_)); (first | exact .move _ | exact .load _ _ | exact .fieldAddr _ _ _ (by kernel_rfl) | exact .assign _ | exact .binOp _ _ _ _ _ rfl | exact .indexAddr _ _ _ | exact .len _ _ (by kernel_rfl) | exact .field _ _ _ | exact .extract _ _ | exact .pick _ _ _ | exact .build _ _ | exact .slice _ _ _ _ _ | exact .unOp _ _ _ rfl | exact .index _ _ _ | exact .max _ _ _ rfl rfl | exact .min _ _ _ rfl rfl | exact .nilCheck _ _ rfl)) | with_reducible refine Calmly.gl_tf (fun _ _ => ?_) | with_reducible refine Calmly.gl_ft (fun _ _ => ?_)) | ((with_reducible refine Calmly.is_eff ?_); refine Calmly.mix_eff rfl (fun _ _ => ?_)) | ((with_reducible refine Calmly.is_gf ?_); refine Calmly.mix_gf rfl rfl rfl ?_; first | with_reducible refine Calmly.gf_tt (fun _ _ => ?_) | with_reducible refine Calmly.gf_ff (fun _ _ => ?_) | with_reducible refine Calmly.gf_tf (kept_of hk) (fun _ _ => ?_) | with_reducible refine Calmly.gf_ft (kept_of hk) (fun _ _ => ?_)) | ((with_reducible refine Calmly.is_tail ?_); first | refine Calmly.mix_tail_nil ?_ | refine Calmly.mix_tail rfl (fun _ _ => ?_)) | ((with_reducible refine Calmly.is_kept ?_); refine ⟨kept_of hk, ?_⟩) | (with_reducible refine Calmly.mix_alt ?_ ?_))
  refine (stretch_any k y b s br at' _ h).mono ?_
  rintro e u2 ⟨rfl, hs⟩
  replace hk := step_of hk hs
  clear hs
  have hm : -9223372036854775808 ≤ wgt k br * (at' - s) ∧ wgt k br * (at' - s) ≤ 9223372036854775807 := by rw [hF]; omega
  have hn : -9223372036854775808 ≤ wgt k br * (at' - s) * (at' - s) ∧ wgt k br * (at' - s) * (at' - s) ≤ 9223372036854775807 := by rw [hF, hG]; omega
  go_wp2_with (first | ((with_reducible refine Calmly.is_fl ?_); refine Calmly.mix_fl rfl ?_ (fun _ _ => ?_); (first | exact .move _ | exact .load _ _ | exact .fieldAddr _ _ _ (by kernel_rfl) | exact .assign _ | exact .binOp _ _ _ _ _ rfl | exact .indexAddr _ _ _ | exact .len _ _ (by kernel_rfl) | exact .field _ _ _ | exact .extract _ _ | exact .pick _ _ _ | exact .build _ _ | exact .slice _ _ _ _ _ | exact .unOp _ _ _ rfl | exact .index _ _ _ | exact .max _ _ _ rfl rfl | exact .min _ _ _ rfl rfl | exact .nilCheck _ _ rfl)) | ((with_reducible refine Calmly.is_gl ?_); refine Calmly.mix_gl rfl rfl rfl ?_; first | ((first | with_reducible refine Calmly.gl_tt ?_ (fun _ _ => ?_) | with_reducible refine Calmly.gl_ff ?_ (fun _ _ => ?_)); (first | exact .move _ | exact .load _ _ | exact .fieldAddr _ _ _ (by kernel_rfl) | exact .assign _ | exact .binOp _ _ _ _ _ rfl | exact .indexAddr _ _ _ | exact .len _ _ (by kernel_rfl) | exact .field _ _ _ | exact .extract _ _ | exact .pick _ _ _ | exact .build _ _ | exact .slice _ _ _ _ _ | exact .unOp _ _ _ rfl | exact .index _ _ _ | exact .max _ _ _ rfl rfl | exact .min _ _ _ rfl rfl | exact .nilCheck _ _ rfl)) | with_reducible refine Calmly.gl_tf (fun _ _ => ?_) | with_reducible refine Calmly.gl_ft (fun _ _ => ?_)) | ((with_reducible refine Calmly.is_eff ?_); refine Calmly.mix_eff rfl (fun _ _ => ?_)) | ((with_reducible refine Calmly.is_gf ?_); refine Calmly.mix_gf rfl rfl rfl ?_; first | with_reducible refine Calmly.gf_tt (fun _ _ => ?_) | with_reducible refine Calmly.gf_ff (fun _ _ => ?_) | with_reducible refine Calmly.gf_tf (kept_of hk) (fun _ _ => ?_) | with_reducible refine Calmly.gf_ft (kept_of hk) (fun _ _ => ?_)) | ((with_reducible refine Calmly.is_tail ?_); first | refine Calmly.mix_tail_nil ?_ | refine Calmly.mix_tail rfl (fun _ _ => ?_)) | ((with_reducible refine Calmly.is_kept ?_); refine ⟨kept_of hk, ?_⟩) | (with_reducible refine Calmly.mix_alt ?_ ?_))
  refine (stretch_any k y b s br at' _ h).mono ?_
  rintro e u3 ⟨rfl, hs⟩
  replace hk := step_of hk hs
  clear hs
  go_wp2_with (first | ((with_reducible refine Calmly.is_fl ?_); refine Calmly.mix_fl rfl ?_ (fun _ _ => ?_); (first | exact .move _ | exact .load _ _ | exact .fieldAddr _ _ _ (by kernel_rfl) | exact .assign _ | exact .binOp _ _ _ _ _ rfl | exact .indexAddr _ _ _ | exact .len _ _ (by kernel_rfl) | exact .field _ _ _ | exact .extract _ _ | exact .pick _ _ _ | exact .build _ _ | exact .slice _ _ _ _ _ | exact .unOp _ _ _ rfl | exact .index _ _ _ | exact .max _ _ _ rfl rfl | exact .min _ _ _ rfl rfl | exact .nilCheck _ _ rfl)) | ((with_reducible refine Calmly.is_gl ?_); refine Calmly.mix_gl rfl rfl rfl ?_; first | ((first | with_reducible refine Calmly.gl_tt ?_ (fun _ _ => ?_) | with_reducible refine Calmly.gl_ff ?_ (fun _ _ => ?_)); (first | exact .move _ | exact .load _ _ | exact .fieldAddr _ _ _ (by kernel_rfl) | exact .assign _ | exact .binOp _ _ _ _ _ rfl | exact .indexAddr _ _ _ | exact .len _ _ (by kernel_rfl) | exact .field _ _ _ | exact .extract _ _ | exact .pick _ _ _ | exact .build _ _ | exact .slice _ _ _ _ _ | exact .unOp _ _ _ rfl | exact .index _ _ _ | exact .max _ _ _ rfl rfl | exact .min _ _ _ rfl rfl | exact .nilCheck _ _ rfl)) | with_reducible refine Calmly.gl_tf (fun _ _ => ?_) | with_reducible refine Calmly.gl_ft (fun _ _ => ?_)) | ((with_reducible refine Calmly.is_eff ?_); refine Calmly.mix_eff rfl (fun _ _ => ?_)) | ((with_reducible refine Calmly.is_gf ?_); refine Calmly.mix_gf rfl rfl rfl ?_; first | with_reducible refine Calmly.gf_tt (fun _ _ => ?_) | with_reducible refine Calmly.gf_ff (fun _ _ => ?_) | with_reducible refine Calmly.gf_tf (kept_of hk) (fun _ _ => ?_) | with_reducible refine Calmly.gf_ft (kept_of hk) (fun _ _ => ?_)) | ((with_reducible refine Calmly.is_tail ?_); first | refine Calmly.mix_tail_nil ?_ | refine Calmly.mix_tail rfl (fun _ _ => ?_)) | ((with_reducible refine Calmly.is_kept ?_); refine ⟨kept_of hk, ?_⟩) | (with_reducible refine Calmly.mix_alt ?_ ?_))
  go_ret
  exact ⟨rfl, BW.trans (hk.mono BW.size)⟩
end Go.Proofs.Ytaiikekgckjdeaa
