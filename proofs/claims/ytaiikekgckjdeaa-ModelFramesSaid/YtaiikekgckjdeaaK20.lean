/- The reference's force and energy of a hold. The reference's check of a hold. -/
import Derived.Test.YtaiikekgckjdeaaK19
namespace Go.Proofs.Ytaiikekgckjdeaa
open Go.RowKit
open Calmly (Kept)
theorem sumR_abs {f : Nat → Int} {M : Int} {n : Nat} (h : ∀ i, i < n → -M ≤ f i ∧ f i ≤ M) : -(M * n) ≤ sumR f n ∧ sumR f n ≤ M * n := by
  induction n with
  | zero => simp [sumR]
  | succ n ih =>
    have h1 := ih (fun i hi => h i (by omega))
    have h2 := h n (by omega)
    have h3 : M * ((n + 1 : Nat) : Int) = M * n + M := by push_cast; rw [Int.mul_add, Int.mul_one]
    rw [h3]
    show -(M * n + M) ≤ sumR f n + f n ∧ sumR f n + f n ≤ M * n + M
    omega
set_option maxRecDepth 100000 in
set_option maxHeartbeats 1000000 in
theorem rForce_any (a a2 : Option Addr) (n c c2 : Nat) (l : List El) (at' : Int) (sl : List Sp) (w : World) (h1 : SEl w a n c l) (h2 : SSp w a2 n c2 sl) (hn : n ≤ 6) (hB : ∀ i, i < n → ElB (l[i]?.getD el0).1 (l[i]?.getD el0).2.1 (sl[i]?.getD sp0).1 at') :
    Calls Try.prog 40 #[.slice a n c, .agg #[.int .i64 at', .slice a2 n c2]] w fun e w' => e = .returned (.int .i64 (sumR (fun i => frcE (l[i]?.getD el0).1 (sl[i]?.getD sp0).1 (sl[i]?.getD sp0).2 at') n)) ∧ Below w.heap.size w w' := by
  obtain ⟨f, hf⟩ : ∃ f : Nat → Int, (fun i => frcE (l[i]?.getD el0).1 (sl[i]?.getD sp0).1 (sl[i]?.getD sp0).2 at') = f := ⟨_, rfl⟩
  rw [hf]
  have hfi : ∀ i, i < n → f i = frcE (l[i]?.getD el0).1 (sl[i]?.getD sp0).1 (sl[i]?.getD sp0).2 at' := fun i _ => by rw [← hf]
  have hfb : ∀ i, i < n → -50000000 ≤ f i ∧ f i ≤ 50000000 := fun i hi => by rw [hfi i hi]; exact frc_bd (hB i hi)
  have HF := Lib.hid hfi
  have HFB := Lib.hid hfb
  have HB := Lib.hid hB
  clear hf hfi hfb hB
  have c1 := h1.cap
  have m1 := h1.max
  have c3 := h2.cap
  have m2 := h2.max
  have y3 := alloc_new w (.cells #[.int .i64 at', .slice a2 n c2] 49)
  have BW : Below w.heap.size w (w.alloc (.cells #[.int .i64 at', .slice a2 n c2] 49)) := (Below.refl _ _).alloc (Nat.le_refl _) _
  go_enter Try.func40, Try.ntmps40
  go_wp2_with fail
  generalize w.alloc (.cells #[.int .i64 at', .slice a2 n c2] 49) = W at *
  go_loopw [5, 6] (fun x i wr => ∃ k : Nat, k ≤ n ∧ i = .int .i64 (k : Int) ∧ x = .int .i64 (sumR f k) ∧ Below W.heap.size W wr) (fun _ i _ => n - (intOf i).toNat)
  case atStart => exact ⟨0, by omega, rfl, rfl, Below.refl _ _⟩
  case round =>
    obtain ⟨k, hk, rfl, rfl, hb⟩ := hrel
    have hsb := sumR_abs (f := f) (M := 50000000) (n := k) (fun i hi => HFB.out i (by omega))
    have hB2 := BW.trans (hb.mono BW.size)
    by_cases hlt : k < n
    · obtain ⟨b1', o1, rfl, hc1⟩ := (h1.keep hB2).at_ (by omega)
      obtain ⟨b2', o2, rfl, hc2⟩ := (h2.keep hB2).at_ (by omega)
      obtain ⟨p0, p1, p2⟩ := hc1 k hlt
      obtain ⟨q0, q1⟩ := hc2 k hlt
      have hi : (k : Int) < (n : Int) := by omega
      have hi0 : (0 : Int) ≤ (k : Int) := by omega
      have hEB := HB.out k hlt
      have hfk := HF.out k hlt
      have hfb := HFB.out k hlt
      obtain ⟨xx, hxx⟩ : ∃ x, l[k]?.getD el0 = x := ⟨_, rfl⟩
      obtain ⟨yy, hyy⟩ : ∃ x, sl[k]?.getD sp0 = x := ⟨_, rfl⟩
      obtain ⟨x, y, z⟩ := xx
      obtain ⟨s, br⟩ := yy
      rw [hxx] at p0 p1 p2 hEB hfk
      rw [hyy] at q0 q1 hEB hfk
      dsimp only at p0 p1 p2 q0 q1 hEB hfk
      clear hc1 hc2 hxx hyy
      have z3 := blk_keep y3 hb
      obtain ⟨⟨k1, k2⟩, ⟨k3, k4⟩, ⟨k5, k6⟩, ⟨k7, k8⟩⟩ := hEB
      obtain ⟨S, hS⟩ : ∃ S, sumR f k = S := ⟨_, rfl⟩
      have hS1 : sumR f (k + 1) = S + f k := by show sumR f k + f k = S + f k; rw [hS]
      have HS1 := Lib.hid hS1
      rw [hS] at hsb ⊢
      clear hS hS1
      have hSb : -300000000 ≤ S ∧ S ≤ 300000000 := by omega
      obtain ⟨s1, s2⟩ := hSb
      obtain ⟨g1, g2⟩ := hfb
      clear hsb
      have f0 := cell_block z3 0
      have f1 := cell_block z3 1
      cases br
      · have hfk' : f k = x * (at' - s) := hfk
        rw [hfk'] at g1 g2
        have HFK := Lib.hid hfk'
        clear hfk hfk'
        go_wp2_with fail
        refine Calmly.wp_region_mix 16 (.fl 0 <| .fl 1 <| .fl 2 <| .fl 3 <| .fl 4 <| .fl 5 <| .fl 6 <| .fl 7 <| .fl 8 <| .fl 9 <| .fl 10 <| .fl 11 <| .fl 12 <| .fl 13 <| .fl 14 <| .fl 15 <| .tail [16, 17]) (by kernel_rfl) (by kernel_rfl) ?_
        have BD : Below wr.heap.size wr wr.drew := (Below.refl _ _).drew
        replace f0 := cell_block (blk_keep z3 BD) 0
        replace f1 := cell_block (blk_keep z3 BD) 1
        replace p0 := cell_keep p0 BD
        replace p1 := cell_keep p1 BD
        replace p2 := cell_keep p2 BD
        replace q0 := cell_keep q0 BD
        replace q1 := cell_keep q1 BD
        have hb2 := hb.trans (BD.mono hb.size)
        generalize wr.drew = V at *
        have hk5 := Below.refl V.heap.size V
        go_wp2_with (first | ((with_reducible refine Calmly.is_fl ?_); refine Calmly.mix_fl rfl ?_ (fun _ _ => ?_); (first | exact .move _ | exact .load _ _ | exact .fieldAddr _ _ _ (by kernel_rfl) | exact .assign _ | exact .binOp _ _ _ _ _ rfl | exact .indexAddr _ _ _ | exact .len _ _ (by kernel_rfl) | exact .field _ _ _ | exact .extract _ _ | exact .pick _ _ _ | exact .build _ _ | exact .slice _ _ _ _ _ | exact .unOp _ _ _ rfl | exact .index _ _ _ | exact .max _ _ _ rfl rfl | exact .min _ _ _ rfl rfl | exact .nilCheck _ _ rfl)) | ((with_reducible refine Calmly.is_gl ?_); refine Calmly.mix_gl rfl rfl rfl ?_; first | ((first | with_reducible refine Calmly.gl_tt ?_ (fun _ _ => ?_) | with_reducible refine Calmly.gl_ff ?_ (fun _ _ => ?_)); (first | exact .move _ | exact .load _ _ | exact .fieldAddr _ _ _ (by kernel_rfl) | exact .assign _ | exact .binOp _ _ _ _ _ rfl | exact .indexAddr _ _ _ | exact .len _ _ (by kernel_rfl) | exact .field _ _ _ | exact .extract _ _ | exact .pick _ _ _ | exact .build _ _ | exact .slice _ _ _ _ _ | exact .unOp _ _ _ rfl | exact .index _ _ _ | exact .max _ _ _ rfl rfl | exact .min _ _ _ rfl rfl | exact .nilCheck _ _ rfl)) | with_reducible refine Calmly.gl_tf (fun _ _ => ?_) | with_reducible refine Calmly.gl_ft (fun _ _ => ?_)) | ((with_reducible refine Calmly.is_eff ?_); refine Calmly.mix_eff rfl (fun _ _ => ?_)) | ((with_reducible refine Calmly.is_gf ?_); refine Calmly.mix_gf rfl rfl rfl ?_; first | with_reducible refine Calmly.gf_tt (fun _ _ => ?_) | with_reducible refine Calmly.gf_ff (fun _ _ => ?_) | with_reducible refine Calmly.gf_tf (kept_of hk) (fun _ _ => ?_) | with_reducible refine Calmly.gf_ft (kept_of hk) (fun _ _ => ?_)) | ((with_reducible refine Calmly.is_tail ?_); first | refine Calmly.mix_tail_nil ?_ | refine Calmly.mix_tail rfl (fun _ _ => ?_)) | ((with_reducible refine Calmly.is_kept ?_); refine ⟨kept_of hk, ?_⟩) | (with_reducible refine Calmly.mix_alt ?_ ?_))
        go_roundw
        case rel => exact ⟨k + 1, by omega, by go_num, by rw [HS1.out, HFK.out], hb2⟩
        case measure => simp [intOf]; omega
      · have hfk' : f k = 0 := by rw [hfk]; simp [frcE, wgt]
        have HFK := Lib.hid hfk'
        clear hfk hfk'
        go_wp2_with fail
        go_roundw
        case rel => exact ⟨k + 1, by omega, by go_num, by rw [HS1.out, HFK.out, Int.add_zero], hb⟩
        case measure => simp [intOf]; omega
    · have hle : (n : Int) ≤ (k : Int) := by omega
      obtain rfl : n = k := by omega
      clear hlt hk
      go_wp2_with fail
      go_ret
      exact ⟨rfl, hB2⟩
set_option maxRecDepth 100000 in
set_option maxHeartbeats 1000000 in
theorem rEnergy_any (a a2 : Option Addr) (n c c2 : Nat) (l : List El) (at' : Int) (sl : List Sp) (w : World) (h1 : SEl w a n c l) (h2 : SSp w a2 n c2 sl) (hn : n ≤ 6) (hB : ∀ i, i < n → ElB (l[i]?.getD el0).1 (l[i]?.getD el0).2.1 (sl[i]?.getD sp0).1 at') :
    Calls Try.prog 43 #[.slice a n c, .agg #[.int .i64 at', .slice a2 n c2]] w fun e w' => e = .returned (.int .i64 (sumR (fun i => enrE (l[i]?.getD el0).1 (sl[i]?.getD sp0).1 (sl[i]?.getD sp0).2 at') n)) ∧ Below w.heap.size w w' := by
  obtain ⟨f, hf⟩ : ∃ f : Nat → Int, (fun i => enrE (l[i]?.getD el0).1 (sl[i]?.getD sp0).1 (sl[i]?.getD sp0).2 at') = f := ⟨_, rfl⟩
  rw [hf]
  have hfi : ∀ i, i < n → f i = enrE (l[i]?.getD el0).1 (sl[i]?.getD sp0).1 (sl[i]?.getD sp0).2 at' := fun i _ => by rw [← hf]
  have hfb : ∀ i, i < n → -2500000000000 ≤ f i ∧ f i ≤ 2500000000000 := fun i hi => by rw [hfi i hi]; exact enr_bd (hB i hi)
  have HF := Lib.hid hfi
  have HFB := Lib.hid hfb
  have HB := Lib.hid hB
  clear hf hfi hfb hB
  have c1 := h1.cap
  have m1 := h1.max
  have c3 := h2.cap
  have m2 := h2.max
  have y3 := alloc_new w (.cells #[.int .i64 at', .slice a2 n c2] 49)
  have BW : Below w.heap.size w (w.alloc (.cells #[.int .i64 at', .slice a2 n c2] 49)) := (Below.refl _ _).alloc (Nat.le_refl _) _
  go_enter Try.func43, Try.ntmps43
  go_wp2_with fail
  generalize w.alloc (.cells #[.int .i64 at', .slice a2 n c2] 49) = W at *
  go_loopw [5, 6] (fun x i wr => ∃ k : Nat, k ≤ n ∧ i = .int .i64 (k : Int) ∧ x = .int .i64 (sumR f k) ∧ Below W.heap.size W wr) (fun _ i _ => n - (intOf i).toNat)
  case atStart => exact ⟨0, by omega, rfl, rfl, Below.refl _ _⟩
  case round =>
    obtain ⟨k, hk, rfl, rfl, hb⟩ := hrel
    have hsb := sumR_abs (f := f) (M := 2500000000000) (n := k) (fun i hi => HFB.out i (by omega))
    have hB2 := BW.trans (hb.mono BW.size)
    by_cases hlt : k < n
    · obtain ⟨b1', o1, rfl, hc1⟩ := (h1.keep hB2).at_ (by omega)
      obtain ⟨b2', o2, rfl, hc2⟩ := (h2.keep hB2).at_ (by omega)
      obtain ⟨p0, p1, p2⟩ := hc1 k hlt
      obtain ⟨q0, q1⟩ := hc2 k hlt
      have hi : (k : Int) < (n : Int) := by omega
      have hi0 : (0 : Int) ≤ (k : Int) := by omega
      have hEB := HB.out k hlt
      have hfk := HF.out k hlt
      have hfb := HFB.out k hlt
      obtain ⟨xx, hxx⟩ : ∃ x, l[k]?.getD el0 = x := ⟨_, rfl⟩
      obtain ⟨yy, hyy⟩ : ∃ x, sl[k]?.getD sp0 = x := ⟨_, rfl⟩
      obtain ⟨x, y, z⟩ := xx
      obtain ⟨s, br⟩ := yy
      rw [hxx] at p0 p1 p2 hEB hfk
      rw [hyy] at q0 q1 hEB hfk
      dsimp only at p0 p1 p2 q0 q1 hEB hfk
      clear hc1 hc2 hxx hyy
      have z3 := blk_keep y3 hb
      obtain ⟨⟨k1, k2⟩, ⟨k3, k4⟩, ⟨k5, k6⟩, ⟨k7, k8⟩⟩ := hEB
      obtain ⟨S, hS⟩ : ∃ S, sumR f k = S := ⟨_, rfl⟩
      have hS1 : sumR f (k + 1) = S + f k := by show sumR f k + f k = S + f k; rw [hS]
      have HS1 := Lib.hid hS1
      rw [hS] at hsb ⊢
      clear hS hS1
      have hSb : -15000000000000 ≤ S ∧ S ≤ 15000000000000 := by omega
      obtain ⟨s1, s2⟩ := hSb
      obtain ⟨g1, g2⟩ := hfb
      clear hsb
      have f0 := cell_block z3 0
      have f1 := cell_block z3 1
      have hd2 : -50000 ≤ at' - s ∧ at' - s ≤ 50000 := by omega
      have hm1 := mul_abs (a := x) (x := at' - s) (A := 1000) (C := 50000) (by omega) (by omega) hd2.1 hd2.2
      obtain ⟨m1', m2'⟩ := hm1
      have m3' : -50000000 ≤ x * (at' - s) := by omega
      have m4' : x * (at' - s) ≤ 50000000 := by omega
      clear m1' m2' hd2
      go_wp2_with fail
      refine Calmly.wp_region_mix 8 (.fl 0 <| .fl 1 <| .fl 2 <| .fl 3 <| .fl 4 <| .fl 5 <| .fl 6 <| .fl 7 <| .tail [8, 9]) (by kernel_rfl) (by kernel_rfl) ?_
      have BD : Below wr.heap.size wr wr.drew := (Below.refl _ _).drew
      replace f0 := cell_block (blk_keep z3 BD) 0
      replace f1 := cell_block (blk_keep z3 BD) 1
      replace p0 := cell_keep p0 BD
      replace p1 := cell_keep p1 BD
      replace p2 := cell_keep p2 BD
      replace q0 := cell_keep q0 BD
      replace q1 := cell_keep q1 BD
      have hb2 := hb.trans (BD.mono hb.size)
      generalize wr.drew = V at *
      have hk5 := Below.refl V.heap.size V
      cases br
      · have hfk' : f k = x * (at' - s) * (at' - s) := hfk
        rw [hfk'] at g1 g2
        have HFK := Lib.hid hfk'
        clear hfk hfk'
        go_wp2_with (first | ((with_reducible refine Calmly.is_fl ?_); refine Calmly.mix_fl rfl ?_ (fun _ _ => ?_); (first | exact .move _ | exact .load _ _ | exact .fieldAddr _ _ _ (by kernel_rfl) | exact .assign _ | exact .binOp _ _ _ _ _ rfl | exact .indexAddr _ _ _ | exact .len _ _ (by kernel_rfl) | exact .field _ _ _ | exact .extract _ _ | exact .pick _ _ _ | exact .build _ _ | exact .slice _ _ _ _ _ | exact .unOp _ _ _ rfl | exact .index _ _ _ | exact .max _ _ _ rfl rfl | exact .min _ _ _ rfl rfl | exact .nilCheck _ _ rfl)) | ((with_reducible refine Calmly.is_gl ?_); refine Calmly.mix_gl rfl rfl rfl ?_; first | ((first | with_reducible refine Calmly.gl_tt ?_ (fun _ _ => ?_) | with_reducible refine Calmly.gl_ff ?_ (fun _ _ => ?_)); (first | exact .move _ | exact .load _ _ | exact .fieldAddr _ _ _ (by kernel_rfl) | exact .assign _ | exact .binOp _ _ _ _ _ rfl | exact .indexAddr _ _ _ | exact .len _ _ (by kernel_rfl) | exact .field _ _ _ | exact .extract _ _ | exact .pick _ _ _ | exact .build _ _ | exact .slice _ _ _ _ _ | exact .unOp _ _ _ rfl | exact .index _ _ _ | exact .max _ _ _ rfl rfl | exact .min _ _ _ rfl rfl | exact .nilCheck _ _ rfl)) | with_reducible refine Calmly.gl_tf (fun _ _ => ?_) | with_reducible refine Calmly.gl_ft (fun _ _ => ?_)) | ((with_reducible refine Calmly.is_eff ?_); refine Calmly.mix_eff rfl (fun _ _ => ?_)) | ((with_reducible refine Calmly.is_gf ?_); refine Calmly.mix_gf rfl rfl rfl ?_; first | with_reducible refine Calmly.gf_tt (fun _ _ => ?_) | with_reducible refine Calmly.gf_ff (fun _ _ => ?_) | with_reducible refine Calmly.gf_tf (kept_of hk) (fun _ _ => ?_) | with_reducible refine Calmly.gf_ft (kept_of hk) (fun _ _ => ?_)) | ((with_reducible refine Calmly.is_tail ?_); first | refine Calmly.mix_tail_nil ?_ | refine Calmly.mix_tail rfl (fun _ _ => ?_)) | ((with_reducible refine Calmly.is_kept ?_); refine ⟨kept_of hk, ?_⟩) | (with_reducible refine Calmly.mix_alt ?_ ?_))
        go_roundw
        case rel => exact ⟨k + 1, by omega, by go_num, by rw [HS1.out, HFK.out], hb2⟩
        case measure => simp [intOf]; omega
      · have hfk' : f k = 0 := by rw [hfk]; simp [enrE, wgt]
        have HFK := Lib.hid hfk'
        clear hfk hfk'
        go_wp2_with (first | ((with_reducible refine Calmly.is_fl ?_); refine Calmly.mix_fl rfl ?_ (fun _ _ => ?_); (first | exact .move _ | exact .load _ _ | exact .fieldAddr _ _ _ (by kernel_rfl) | exact .assign _ | exact .binOp _ _ _ _ _ rfl | exact .indexAddr _ _ _ | exact .len _ _ (by kernel_rfl) | exact .field _ _ _ | exact .extract _ _ | exact .pick _ _ _ | exact .build _ _ | exact .slice _ _ _ _ _ | exact .unOp _ _ _ rfl | exact .index _ _ _ | exact .max _ _ _ rfl rfl | exact .min _ _ _ rfl rfl | exact .nilCheck _ _ rfl)) | ((with_reducible refine Calmly.is_gl ?_); refine Calmly.mix_gl rfl rfl rfl ?_; first | ((first | with_reducible refine Calmly.gl_tt ?_ (fun _ _ => ?_) | with_reducible refine Calmly.gl_ff ?_ (fun _ _ => ?_)); (first | exact .move _ | exact .load _ _ | exact .fieldAddr _ _ _ (by kernel_rfl) | exact .assign _ | exact .binOp _ _ _ _ _ rfl | exact .indexAddr _ _ _ | exact .len _ _ (by kernel_rfl) | exact .field _ _ _ | exact .extract _ _ | exact .pick _ _ _ | exact .build _ _ | exact .slice _ _ _ _ _ | exact .unOp _ _ _ rfl | exact .index _ _ _ | exact .max _ _ _ rfl rfl | exact .min _ _ _ rfl rfl | exact .nilCheck _ _ rfl)) | with_reducible refine Calmly.gl_tf (fun _ _ => ?_) | with_reducible refine Calmly.gl_ft (fun _ _ => ?_)) | ((with_reducible refine Calmly.is_eff ?_); refine Calmly.mix_eff rfl (fun _ _ => ?_)) | ((with_reducible refine Calmly.is_gf ?_); refine Calmly.mix_gf rfl rfl rfl ?_; first | with_reducible refine Calmly.gf_tt (fun _ _ => ?_) | with_reducible refine Calmly.gf_ff (fun _ _ => ?_) | with_reducible refine Calmly.gf_tf (kept_of hk) (fun _ _ => ?_) | with_reducible refine Calmly.gf_ft (kept_of hk) (fun _ _ => ?_)) | ((with_reducible refine Calmly.is_tail ?_); first | refine Calmly.mix_tail_nil ?_ | refine Calmly.mix_tail rfl (fun _ _ => ?_)) | ((with_reducible refine Calmly.is_kept ?_); refine ⟨kept_of hk, ?_⟩) | (with_reducible refine Calmly.mix_alt ?_ ?_))
        go_roundw
        case rel => exact ⟨k + 1, by omega, by go_num, by rw [HS1.out, HFK.out, Int.add_zero], hb2⟩
        case measure => simp [intOf]; omega
    · have hle : (n : Int) ≤ (k : Int) := by omega
      obtain rfl : n = k := by omega
      clear hlt hk
      go_wp2_with fail
      go_ret
      exact ⟨rfl, hB2⟩
end Go.Proofs.Ytaiikekgckjdeaa

namespace Go.Proofs.Ytaiikekgckjdeaa
open Go.RowKit
open Calmly (Kept)
theorem slE_form {x y s at' : Int} {z br : Bool} (hp : plc s = true) (hf : (br = true ∧ z = false) ∨ (z = true ∧ s ≠ 0)) : slE (x, y, z) at' (s, br) = 3 := by
  unfold slE
  rw [if_pos hp]
  show firstE [unlessE (!((br && !z) || (z && (s != 0)))) 3, _] = 3
  have h : ((br && !z) || (z && (s != 0))) = true := by
    rcases hf with ⟨rfl, rfl⟩ | ⟨rfl, h⟩
    · rfl
    · simp [h]
  rw [h]
  rfl
theorem slE_rest {x y s at' : Int} {z br : Bool} (hp : plc s = true) (hf : (br = true ∧ z = true ∧ s = 0) ∨ (br = false ∧ (z = false ∨ s = 0))) : slE (x, y, z) at' (s, br) = unlessE (br || szd (at' - s) y) 22 := by
  unfold slE
  rw [if_pos hp]
  show firstE [unlessE (!((br && !z) || (z && (s != 0)))) 3, unlessE (br || szd (at' - s) y) 22] = _
  have h : ((br && !z) || (z && (s != 0))) = false := by
    rcases hf with ⟨rfl, rfl, rfl⟩ | ⟨rfl, rfl | rfl⟩
    · rfl
    · rfl
    · simp
  rw [h]
  show (if (0 : Int) = 0 then (if unlessE (br || szd (at' - s) y) 22 = 0 then 0 else unlessE (br || szd (at' - s) y) 22) else 0) = _
  rw [if_pos rfl]
  split
  · rename_i h2; exact h2.symm
  · rfl
theorem slE_place {x : El} {s : Sp} {at' : Int} (hp : plc s.1 = false) : slE x at' s = 2 := by
  unfold slE
  rw [hp]
  rfl
set_option maxRecDepth 100000 in
set_option maxHeartbeats 4000000 in
theorem rCheckHold_any (a a2 : Option Addr) (n c n2 c2 : Nat) (l : List El) (at' : Int) (sl : List Sp) (w : World) (h1 : SEl w a n c l) (h2 : SSp w a2 n2 c2 sl) (hl : ∀ j, j < n → elErr (l[j]?.getD el0) = 0) :
    Calls Try.prog 42 #[.slice a n c, .agg #[.int .i64 at', .slice a2 n2 c2]] w fun e w' => e = .returned (.tuple #[.int .i64 (hldE l at' sl).1, .int .i64 (hldE l at' sl).2]) ∧ Below w.heap.size w w' := by
  have l1 : n = l.length := h1.len
  have l2 : n2 = sl.length := h2.len
  have m1 := h1.max
  have cc1 := h1.cap
  have m2 := h2.max
  have cc2 := h2.cap
  have y3 := alloc_new w (.cells #[.int .i64 at', .slice a2 n2 c2] 49)
  have BW : Below w.heap.size w (w.alloc (.cells #[.int .i64 at', .slice a2 n2 c2] 49)) := (Below.refl _ _).alloc (Nat.le_refl _) _
  have hS : hldE l at' sl = if hldH at' n2 n = 0 then eaF (fun i => slE (l[i]?.getD el0) at' (sl[i]?.getD sp0)) 0 n2 else (0, hldH at' n2 n) := by rw [hldE, ← l1, ← l2]
  obtain ⟨R, hR⟩ : ∃ R, hldE l at' sl = R := ⟨_, rfl⟩
  rw [hR] at hS ⊢
  obtain ⟨I, E⟩ := R
  have HS := Lib.hid hS
  have HL := Lib.hid hl
  clear l1 l2 hS hR hl
  have f0 := cell_block y3 0
  have f1 := cell_block y3 1
  go_enter Try.func42, Try.ntmps42
  go_wp2_with fail
  generalize w.alloc (.cells #[.int .i64 at', .slice a2 n2 c2] 49) = W at *
  refine (rPlaceErr_any at' _).mono ?_
  rintro e w1 ⟨rfl, rfl⟩
  cases hp : plc at'
  · have hR0 : (I, E) = (0, 2) := by
      rw [HS.out, if_neg (by rw [hldH, hp]; intro h; have h2 : (2 : Int) = 0 := h; omega), hldH, hp]
      rfl
    injection hR0 with e1 e2
    subst e1 e2
    have b1 : (unlessE false 2 != 0) = true := rfl
    have b2 : unlessE false 2 = 2 := rfl
    rw [b2]
    go_wp2_with fail
    refine bodyPost_ret (v := .tuple #[.int .i64 0, .int .i64 2]) (by simp [results, Try.results42]) rfl ⟨rfl, BW⟩
  have b2 : unlessE true 2 = 0 := rfl
  rw [b2]
  by_cases hne : n2 = n
  case neg =>
    have hR0 : (I, E) = (0, 10) := by
      have h5 : ((n2 : Int) == (n : Int)) = false := by simp; omega
      rw [HS.out, if_neg (by rw [hldH, hp, h5]; intro h; have h2 : (10 : Int) = 0 := h; omega), hldH, hp, h5]
      rfl
    injection hR0 with e1 e2
    subst e1 e2
    have b3 : ((n2 : Int) != (n : Int)) = true := by simp; omega
    clear b2
    go_wp2_with fail
    refine bodyPost_ret (v := .tuple #[.int .i64 0, .int .i64 10]) (by simp [results, Try.results42]) rfl ⟨rfl, BW⟩
  case pos =>
    subst hne
    have b3 : ((n2 : Int) != (n2 : Int)) = false := by simp
    have hR1 : (I, E) = eaF (fun i => slE (l[i]?.getD el0) at' (sl[i]?.getD sp0)) 0 n2 := by
      have h5 : ((n2 : Int) == (n2 : Int)) = true := by simp
      rw [HS.out, if_pos (by rw [hldH, hp, h5]; rfl)]
    have HR := Lib.hid hR1
    have hpl := plc_ok hp
    clear hR1 b2 HS
    go_wp2_with fail
    go_loopw [7] (fun i wr => ∃ k : Nat, k ≤ n2 ∧ i = .int .i64 (k : Int) ∧ eaF (fun i => slE (l[i]?.getD el0) at' (sl[i]?.getD sp0)) k (n2 - k) = (I, E) ∧ Below W.heap.size W wr) (fun i _ => n2 - (intOf i).toNat)
    case atStart => exact ⟨0, by omega, rfl, HR.out.symm, Below.refl _ _⟩
    case round =>
      clear f0 f1
      obtain ⟨k, hk, rfl, ht, hb⟩ := hrel
      have HT := Lib.hid ht
      clear ht
      have hB2 := BW.trans (hb.mono BW.size)
      by_cases hlt : k < n2
      · obtain ⟨b1', o1, rfl, hc1⟩ := (h1.keep hB2).at_ (by omega)
        obtain ⟨b2', o2, rfl, hc2⟩ := (h2.keep hB2).at_ (by omega)
        obtain ⟨p0, p1, p2⟩ := hc1 k hlt
        obtain ⟨q0, q1⟩ := hc2 k hlt
        have hi : (k : Int) < (n2 : Int) := by omega
        have hi0 : (0 : Int) ≤ (k : Int) := by omega
        have he := elErr_ok (HL.out k hlt)
        have hrow : ∀ e, slE (l[k]?.getD el0) at' (sl[k]?.getD sp0) = e → e ≠ 0 → (I, E) = ((k : Int), e) := fun e h h0 => by
          rw [← HT.out, eaF_bad hlt (by show slE _ _ _ ≠ 0; rw [h]; exact h0), h]
        have hgo : slE (l[k]?.getD el0) at' (sl[k]?.getD sp0) = 0 → eaF (fun i => slE (l[i]?.getD el0) at' (sl[i]?.getD sp0)) (k + 1) (n2 - (k + 1)) = (I, E) := fun h => (eaF_ok (err := fun i => slE (l[i]?.getD el0) at' (sl[i]?.getD sp0)) hlt h).symm.trans HT.out
        obtain ⟨xx, hxx⟩ : ∃ x, l[k]?.getD el0 = x := ⟨_, rfl⟩
        obtain ⟨yy, hyy⟩ : ∃ x, sl[k]?.getD sp0 = x := ⟨_, rfl⟩
        obtain ⟨x, y, z⟩ := xx
        obtain ⟨s, br⟩ := yy
        rw [hxx] at p0 p1 p2 hrow hgo he
        rw [hyy] at q0 q1 hrow hgo
        dsimp only at p0 p1 p2 q0 q1 he
        have HROW := Lib.hid hrow
        have HGO := Lib.hid hgo
        clear hc1 hc2 hxx hyy hrow hgo
        obtain ⟨_, he1, he2⟩ := he
        have z3 := blk_keep y3 hb
        have f0 := cell_block z3 0
        have f1 := cell_block z3 1
        have z8 := alloc_new wr (.cells #[.int .i64 s, .bool br] 64)
        have hA : Below wr.heap.size wr (wr.alloc (.cells #[.int .i64 s, .bool br] 64)) := (Below.refl _ _).alloc (Nat.le_refl _) _
        go_wp2_with fail
        have hb2 := hb.trans (hA.mono hb.size)
        replace z3 := blk_keep z3 hA
        replace f0 := cell_block z3 0
        replace f1 := cell_block z3 1
        replace p0 := cell_keep p0 hA
        replace p1 := cell_keep p1 hA
        replace p2 := cell_keep p2 hA
        replace q0 := cell_keep q0 hA
        replace q1 := cell_keep q1 hA
        have g0 := cell_block z8 0
        have g1 := cell_block z8 1
        clear hA
        generalize hq : wr.heap.size = q at *
        generalize wr.alloc (.cells #[.int .i64 s, .bool br] 64) = V at *
        refine (rPlaceErr_any s _).mono ?_
        rintro e w1 ⟨rfl, rfl⟩
        cases hps : plc s
        · have c2 : unlessE false 2 = 2 := rfl
          rw [c2]
          clear c2
          have hbad := HROW.out 2 (slE_place hps) (by decide)
          injection hbad with e1 e2
          have E1 := Lib.hid e1
          have E2 := Lib.hid e2
          clear e1 e2
          go_wp2_with fail
          refine bodyPost_ret (v := .tuple #[.int .i64 (k : Int), .int .i64 2]) (by simp [results, Try.results42]) rfl ⟨by rw [E1.out, E2.out], BW.trans (hb2.mono BW.size)⟩
        have c2 : unlessE true 2 = 0 := rfl
        rw [c2]
        clear c2
        have hpb := plc_ok hps
        cases br <;> cases z
        · as_aux_lemma =>
            obtain ⟨N, hN⟩ : ∃ N : Int, ((at' - s).natAbs : Int) = N := ⟨_, rfl⟩
            have hW : ∀ w, Calls Try.prog 92 #[.int .i64 (at' - s)] w fun e w' => e = .returned (.int .i64 N) ∧ w = w' := fun w => by
              have h := size_any (at' - s) w (by omega) (by omega)
              rw [hN] at h
              exact h
            have hNy : szd (at' - s) y = true ↔ N ≤ y := by
              rw [szd, wIn_iff]
              omega
            have HW := Lib.hid hW
            have HNY := Lib.hid hNy
            clear hW hNy
            by_cases hgt : y < N
            · have c4 : ¬ N ≤ y := by omega
              clear hN
              have hbad := HROW.out 22 (by rw [slE_rest hps (.inr ⟨rfl, .inl rfl⟩), show szd (at' - s) y = false by rw [Bool.eq_false_iff]; intro h; exact c4 (HNY.out.1 h)]; rfl) (by decide)
              injection hbad with e1 e2
              have E1 := Lib.hid e1
              have E2 := Lib.hid e2
              clear e1 e2
              go_wp2_with fail
              refine Calmly.wp_region_mix 16 (.fl 0 <| .fl 1 <| .fl 2 <| .fl 3 <| .gl 4 <| .gl 5 <| .gl 6 <| .gl 7 <| .gl 8 <| .gl 10 <| .gl 11 <| .gl 12 <| .gl 13 <| .gl 14 <| .gf 9 <| .gl 15 <| .tail [16]) (by kernel_rfl) (by kernel_rfl) ?_
              have BD : Below V.heap.size V V.drew := (Below.refl _ _).drew
              replace f0 := cell_block (blk_keep z3 BD) 0
              replace f1 := cell_block (blk_keep z3 BD) 1
              replace g0 := cell_block (blk_keep z8 BD) 0
              replace g1 := cell_block (blk_keep z8 BD) 1
              replace p0 := cell_keep p0 BD
              replace p1 := cell_keep p1 BD
              replace p2 := cell_keep p2 BD
              have hb3 := hb2.trans (BD.mono hb2.size)
              clear z3 z8 q0 q1
              generalize V.drew = V2 at *
              have hk := Below.refl V2.heap.size V2
              go_wp2_with (first | ((with_reducible refine Calmly.is_fl ?_); refine Calmly.mix_fl rfl ?_ (fun _ _ => ?_); (first | exact .move _ | exact .load _ _ | exact .fieldAddr _ _ _ (by kernel_rfl) | exact .assign _ | exact .binOp _ _ _ _ _ rfl | exact .indexAddr _ _ _ | exact .len _ _ (by kernel_rfl) | exact .field _ _ _ | exact .extract _ _ | exact .pick _ _ _ | exact .build _ _ | exact .slice _ _ _ _ _ | exact .unOp _ _ _ rfl | exact .index _ _ _ | exact .max _ _ _ rfl rfl | exact .min _ _ _ rfl rfl | exact .nilCheck _ _ rfl)) | ((with_reducible refine Calmly.is_gl ?_); refine Calmly.mix_gl rfl rfl rfl ?_; first | ((first | with_reducible refine Calmly.gl_tt ?_ (fun _ _ => ?_) | with_reducible refine Calmly.gl_ff ?_ (fun _ _ => ?_)); (first | exact .move _ | exact .load _ _ | exact .fieldAddr _ _ _ (by kernel_rfl) | exact .assign _ | exact .binOp _ _ _ _ _ rfl | exact .indexAddr _ _ _ | exact .len _ _ (by kernel_rfl) | exact .field _ _ _ | exact .extract _ _ | exact .pick _ _ _ | exact .build _ _ | exact .slice _ _ _ _ _ | exact .unOp _ _ _ rfl | exact .index _ _ _ | exact .max _ _ _ rfl rfl | exact .min _ _ _ rfl rfl | exact .nilCheck _ _ rfl)) | with_reducible refine Calmly.gl_tf (fun _ _ => ?_) | with_reducible refine Calmly.gl_ft (fun _ _ => ?_)) | ((with_reducible refine Calmly.is_eff ?_); refine Calmly.mix_eff rfl (fun _ _ => ?_)) | ((with_reducible refine Calmly.is_gf ?_); refine Calmly.mix_gf rfl rfl rfl ?_; first | with_reducible refine Calmly.gf_tt (fun _ _ => ?_) | with_reducible refine Calmly.gf_ff (fun _ _ => ?_) | with_reducible refine Calmly.gf_tf (kept_of hk) (fun _ _ => ?_) | with_reducible refine Calmly.gf_ft (kept_of hk) (fun _ _ => ?_)) | ((with_reducible refine Calmly.is_tail ?_); first | refine Calmly.mix_tail_nil ?_ | refine Calmly.mix_tail rfl (fun _ _ => ?_)) | ((with_reducible refine Calmly.is_kept ?_); refine ⟨kept_of hk, ?_⟩) | (with_reducible refine Calmly.mix_alt ?_ ?_) | (go_at_call 92; refine (HW.out _).mono ?_; rintro e w1 ⟨rfl, rfl⟩))
              refine bodyPost_ret (v := .tuple #[.int .i64 (k : Int), .int .i64 22]) (by simp [results, Try.results42]) rfl ⟨by rw [E1.out, E2.out], BW.trans (hb3.mono BW.size)⟩
            · have c4 : N ≤ y := by omega
              have HG := Lib.hid (HGO.out (by rw [slE_rest hps (.inr ⟨rfl, .inl rfl⟩), HNY.out.2 c4]; rfl))
              clear hN
              go_wp2_with fail
              refine Calmly.wp_region_mix 16 (.fl 0 <| .fl 1 <| .fl 2 <| .fl 3 <| .gl 4 <| .gl 5 <| .gl 6 <| .gl 7 <| .gl 8 <| .gl 10 <| .gl 11 <| .gl 12 <| .gl 13 <| .gl 14 <| .gf 9 <| .gl 15 <| .tail [16]) (by kernel_rfl) (by kernel_rfl) ?_
              have BD : Below V.heap.size V V.drew := (Below.refl _ _).drew
              replace f0 := cell_block (blk_keep z3 BD) 0
              replace f1 := cell_block (blk_keep z3 BD) 1
              replace g0 := cell_block (blk_keep z8 BD) 0
              replace g1 := cell_block (blk_keep z8 BD) 1
              replace p0 := cell_keep p0 BD
              replace p1 := cell_keep p1 BD
              replace p2 := cell_keep p2 BD
              have hb3 := hb2.trans (BD.mono hb2.size)
              clear z3 z8 q0 q1
              generalize V.drew = V2 at *
              have hk := Below.refl V2.heap.size V2
              go_wp2_with (first | ((with_reducible refine Calmly.is_fl ?_); refine Calmly.mix_fl rfl ?_ (fun _ _ => ?_); (first | exact .move _ | exact .load _ _ | exact .fieldAddr _ _ _ (by kernel_rfl) | exact .assign _ | exact .binOp _ _ _ _ _ rfl | exact .indexAddr _ _ _ | exact .len _ _ (by kernel_rfl) | exact .field _ _ _ | exact .extract _ _ | exact .pick _ _ _ | exact .build _ _ | exact .slice _ _ _ _ _ | exact .unOp _ _ _ rfl | exact .index _ _ _ | exact .max _ _ _ rfl rfl | exact .min _ _ _ rfl rfl | exact .nilCheck _ _ rfl)) | ((with_reducible refine Calmly.is_gl ?_); refine Calmly.mix_gl rfl rfl rfl ?_; first | ((first | with_reducible refine Calmly.gl_tt ?_ (fun _ _ => ?_) | with_reducible refine Calmly.gl_ff ?_ (fun _ _ => ?_)); (first | exact .move _ | exact .load _ _ | exact .fieldAddr _ _ _ (by kernel_rfl) | exact .assign _ | exact .binOp _ _ _ _ _ rfl | exact .indexAddr _ _ _ | exact .len _ _ (by kernel_rfl) | exact .field _ _ _ | exact .extract _ _ | exact .pick _ _ _ | exact .build _ _ | exact .slice _ _ _ _ _ | exact .unOp _ _ _ rfl | exact .index _ _ _ | exact .max _ _ _ rfl rfl | exact .min _ _ _ rfl rfl | exact .nilCheck _ _ rfl)) | with_reducible refine Calmly.gl_tf (fun _ _ => ?_) | with_reducible refine Calmly.gl_ft (fun _ _ => ?_)) | ((with_reducible refine Calmly.is_eff ?_); refine Calmly.mix_eff rfl (fun _ _ => ?_)) | ((with_reducible refine Calmly.is_gf ?_); refine Calmly.mix_gf rfl rfl rfl ?_; first | with_reducible refine Calmly.gf_tt (fun _ _ => ?_) | with_reducible refine Calmly.gf_ff (fun _ _ => ?_) | with_reducible refine Calmly.gf_tf (kept_of hk) (fun _ _ => ?_) | with_reducible refine Calmly.gf_ft (kept_of hk) (fun _ _ => ?_)) | ((with_reducible refine Calmly.is_tail ?_); first | refine Calmly.mix_tail_nil ?_ | refine Calmly.mix_tail rfl (fun _ _ => ?_)) | ((with_reducible refine Calmly.is_kept ?_); refine ⟨kept_of hk, ?_⟩) | (with_reducible refine Calmly.mix_alt ?_ ?_) | (go_at_call 92; refine (HW.out _).mono ?_; rintro e w1 ⟨rfl, rfl⟩))
              go_roundw
              case rel => exact ⟨k + 1, by omega, by go_num, HG.out, hb3⟩
              case measure => simp [intOf]; omega
        · as_aux_lemma =>
            by_cases hs0 : s = 0
            · have c5 : (s != 0) = false := by simpa using hs0
              have HS0 := Lib.hid hs0
              clear hs0
              obtain ⟨N, hN⟩ : ∃ N : Int, ((at' - s).natAbs : Int) = N := ⟨_, rfl⟩
              have hW : ∀ w, Calls Try.prog 92 #[.int .i64 (at' - s)] w fun e w' => e = .returned (.int .i64 N) ∧ w = w' := fun w => by
                have h := size_any (at' - s) w (by omega) (by omega)
                rw [hN] at h
                exact h
              have hNy : szd (at' - s) y = true ↔ N ≤ y := by
                rw [szd, wIn_iff]
                omega
              have HW := Lib.hid hW
              have HNY := Lib.hid hNy
              clear hW hNy
              by_cases hgt : y < N
              · have c4 : ¬ N ≤ y := by omega
                clear hN
                have hbad := HROW.out 22 (by rw [slE_rest hps (.inr ⟨rfl, .inr HS0.out⟩), show szd (at' - s) y = false by rw [Bool.eq_false_iff]; intro h; exact c4 (HNY.out.1 h)]; rfl) (by decide)
                injection hbad with e1 e2
                have E1 := Lib.hid e1
                have E2 := Lib.hid e2
                clear e1 e2
                go_wp2_with fail
                refine Calmly.wp_region_mix 16 (.fl 0 <| .fl 1 <| .fl 2 <| .fl 3 <| .gl 4 <| .gl 5 <| .gl 6 <| .gl 7 <| .gl 8 <| .gl 10 <| .gl 11 <| .gl 12 <| .gl 13 <| .gl 14 <| .gf 9 <| .gl 15 <| .tail [16]) (by kernel_rfl) (by kernel_rfl) ?_
                have BD : Below V.heap.size V V.drew := (Below.refl _ _).drew
                replace f0 := cell_block (blk_keep z3 BD) 0
                replace f1 := cell_block (blk_keep z3 BD) 1
                replace g0 := cell_block (blk_keep z8 BD) 0
                replace g1 := cell_block (blk_keep z8 BD) 1
                replace p0 := cell_keep p0 BD
                replace p1 := cell_keep p1 BD
                replace p2 := cell_keep p2 BD
                have hb3 := hb2.trans (BD.mono hb2.size)
                clear z3 z8 q0 q1
                generalize V.drew = V2 at *
                have hk := Below.refl V2.heap.size V2
                go_wp2_with (first | ((with_reducible refine Calmly.is_fl ?_); refine Calmly.mix_fl rfl ?_ (fun _ _ => ?_); (first | exact .move _ | exact .load _ _ | exact .fieldAddr _ _ _ (by kernel_rfl) | exact .assign _ | exact .binOp _ _ _ _ _ rfl | exact .indexAddr _ _ _ | exact .len _ _ (by kernel_rfl) | exact .field _ _ _ | exact .extract _ _ | exact .pick _ _ _ | exact .build _ _ | exact .slice _ _ _ _ _ | exact .unOp _ _ _ rfl | exact .index _ _ _ | exact .max _ _ _ rfl rfl | exact .min _ _ _ rfl rfl | exact .nilCheck _ _ rfl)) | ((with_reducible refine Calmly.is_gl ?_); refine Calmly.mix_gl rfl rfl rfl ?_; first | ((first | with_reducible refine Calmly.gl_tt ?_ (fun _ _ => ?_) | with_reducible refine Calmly.gl_ff ?_ (fun _ _ => ?_)); (first | exact .move _ | exact .load _ _ | exact .fieldAddr _ _ _ (by kernel_rfl) | exact .assign _ | exact .binOp _ _ _ _ _ rfl | exact .indexAddr _ _ _ | exact .len _ _ (by kernel_rfl) | exact .field _ _ _ | exact .extract _ _ | exact .pick _ _ _ | exact .build _ _ | exact .slice _ _ _ _ _ | exact .unOp _ _ _ rfl | exact .index _ _ _ | exact .max _ _ _ rfl rfl | exact .min _ _ _ rfl rfl | exact .nilCheck _ _ rfl)) | with_reducible refine Calmly.gl_tf (fun _ _ => ?_) | with_reducible refine Calmly.gl_ft (fun _ _ => ?_)) | ((with_reducible refine Calmly.is_eff ?_); refine Calmly.mix_eff rfl (fun _ _ => ?_)) | ((with_reducible refine Calmly.is_gf ?_); refine Calmly.mix_gf rfl rfl rfl ?_; first | with_reducible refine Calmly.gf_tt (fun _ _ => ?_) | with_reducible refine Calmly.gf_ff (fun _ _ => ?_) | with_reducible refine Calmly.gf_tf (kept_of hk) (fun _ _ => ?_) | with_reducible refine Calmly.gf_ft (kept_of hk) (fun _ _ => ?_)) | ((with_reducible refine Calmly.is_tail ?_); first | refine Calmly.mix_tail_nil ?_ | refine Calmly.mix_tail rfl (fun _ _ => ?_)) | ((with_reducible refine Calmly.is_kept ?_); refine ⟨kept_of hk, ?_⟩) | (with_reducible refine Calmly.mix_alt ?_ ?_) | (go_at_call 92; refine (HW.out _).mono ?_; rintro e w1 ⟨rfl, rfl⟩))
                refine bodyPost_ret (v := .tuple #[.int .i64 (k : Int), .int .i64 22]) (by simp [results, Try.results42]) rfl ⟨by rw [E1.out, E2.out], BW.trans (hb3.mono BW.size)⟩
              · have c4 : N ≤ y := by omega
                have HG := Lib.hid (HGO.out (by rw [slE_rest hps (.inr ⟨rfl, .inr HS0.out⟩), HNY.out.2 c4]; rfl))
                clear hN
                go_wp2_with fail
                refine Calmly.wp_region_mix 16 (.fl 0 <| .fl 1 <| .fl 2 <| .fl 3 <| .gl 4 <| .gl 5 <| .gl 6 <| .gl 7 <| .gl 8 <| .gl 10 <| .gl 11 <| .gl 12 <| .gl 13 <| .gl 14 <| .gf 9 <| .gl 15 <| .tail [16]) (by kernel_rfl) (by kernel_rfl) ?_
                have BD : Below V.heap.size V V.drew := (Below.refl _ _).drew
                replace f0 := cell_block (blk_keep z3 BD) 0
                replace f1 := cell_block (blk_keep z3 BD) 1
                replace g0 := cell_block (blk_keep z8 BD) 0
                replace g1 := cell_block (blk_keep z8 BD) 1
                replace p0 := cell_keep p0 BD
                replace p1 := cell_keep p1 BD
                replace p2 := cell_keep p2 BD
                have hb3 := hb2.trans (BD.mono hb2.size)
                clear z3 z8 q0 q1
                generalize V.drew = V2 at *
                have hk := Below.refl V2.heap.size V2
                go_wp2_with (first | ((with_reducible refine Calmly.is_fl ?_); refine Calmly.mix_fl rfl ?_ (fun _ _ => ?_); (first | exact .move _ | exact .load _ _ | exact .fieldAddr _ _ _ (by kernel_rfl) | exact .assign _ | exact .binOp _ _ _ _ _ rfl | exact .indexAddr _ _ _ | exact .len _ _ (by kernel_rfl) | exact .field _ _ _ | exact .extract _ _ | exact .pick _ _ _ | exact .build _ _ | exact .slice _ _ _ _ _ | exact .unOp _ _ _ rfl | exact .index _ _ _ | exact .max _ _ _ rfl rfl | exact .min _ _ _ rfl rfl | exact .nilCheck _ _ rfl)) | ((with_reducible refine Calmly.is_gl ?_); refine Calmly.mix_gl rfl rfl rfl ?_; first | ((first | with_reducible refine Calmly.gl_tt ?_ (fun _ _ => ?_) | with_reducible refine Calmly.gl_ff ?_ (fun _ _ => ?_)); (first | exact .move _ | exact .load _ _ | exact .fieldAddr _ _ _ (by kernel_rfl) | exact .assign _ | exact .binOp _ _ _ _ _ rfl | exact .indexAddr _ _ _ | exact .len _ _ (by kernel_rfl) | exact .field _ _ _ | exact .extract _ _ | exact .pick _ _ _ | exact .build _ _ | exact .slice _ _ _ _ _ | exact .unOp _ _ _ rfl | exact .index _ _ _ | exact .max _ _ _ rfl rfl | exact .min _ _ _ rfl rfl | exact .nilCheck _ _ rfl)) | with_reducible refine Calmly.gl_tf (fun _ _ => ?_) | with_reducible refine Calmly.gl_ft (fun _ _ => ?_)) | ((with_reducible refine Calmly.is_eff ?_); refine Calmly.mix_eff rfl (fun _ _ => ?_)) | ((with_reducible refine Calmly.is_gf ?_); refine Calmly.mix_gf rfl rfl rfl ?_; first | with_reducible refine Calmly.gf_tt (fun _ _ => ?_) | with_reducible refine Calmly.gf_ff (fun _ _ => ?_) | with_reducible refine Calmly.gf_tf (kept_of hk) (fun _ _ => ?_) | with_reducible refine Calmly.gf_ft (kept_of hk) (fun _ _ => ?_)) | ((with_reducible refine Calmly.is_tail ?_); first | refine Calmly.mix_tail_nil ?_ | refine Calmly.mix_tail rfl (fun _ _ => ?_)) | ((with_reducible refine Calmly.is_kept ?_); refine ⟨kept_of hk, ?_⟩) | (with_reducible refine Calmly.mix_alt ?_ ?_) | (go_at_call 92; refine (HW.out _).mono ?_; rintro e w1 ⟨rfl, rfl⟩))
                go_roundw
                case rel => exact ⟨k + 1, by omega, by go_num, HG.out, hb3⟩
                case measure => simp [intOf]; omega
            · have c5 : (s != 0) = true := by simpa using hs0
              have hbad := HROW.out 3 (slE_form hps (.inr ⟨rfl, hs0⟩)) (by decide)
              injection hbad with e1 e2
              have E1 := Lib.hid e1
              have E2 := Lib.hid e2
              clear e1 e2
              go_wp2_with fail
              refine bodyPost_ret (v := .tuple #[.int .i64 (k : Int), .int .i64 3]) (by simp [results, Try.results42]) rfl ⟨by rw [E1.out, E2.out], BW.trans (hb2.mono BW.size)⟩
        · as_aux_lemma =>
            have hbad := HROW.out 3 (slE_form hps (.inl ⟨rfl, rfl⟩)) (by decide)
            injection hbad with e1 e2
            have E1 := Lib.hid e1
            have E2 := Lib.hid e2
            clear e1 e2
            go_wp2_with fail
            refine bodyPost_ret (v := .tuple #[.int .i64 (k : Int), .int .i64 3]) (by simp [results, Try.results42]) rfl ⟨by rw [E1.out, E2.out], BW.trans (hb2.mono BW.size)⟩
        · as_aux_lemma =>
            by_cases hs0 : s = 0
            · have c5 : (s != 0) = false := by simpa using hs0
              have HG := Lib.hid (HGO.out (by rw [slE_rest hps (.inl ⟨rfl, rfl, hs0⟩)]; rfl))
              clear hs0
              go_wp2_with fail
              refine Calmly.wp_region_mix 16 (.fl 0 <| .fl 1 <| .fl 2 <| .fl 3 <| .gl 4 <| .gl 5 <| .gl 6 <| .gl 7 <| .gl 8 <| .gl 10 <| .gl 11 <| .gl 12 <| .gl 13 <| .gl 14 <| .gf 9 <| .gl 15 <| .tail [16]) (by kernel_rfl) (by kernel_rfl) ?_
              have BD : Below V.heap.size V V.drew := (Below.refl _ _).drew
              replace f0 := cell_block (blk_keep z3 BD) 0
              replace f1 := cell_block (blk_keep z3 BD) 1
              replace g0 := cell_block (blk_keep z8 BD) 0
              replace g1 := cell_block (blk_keep z8 BD) 1
              replace p0 := cell_keep p0 BD
              replace p1 := cell_keep p1 BD
              replace p2 := cell_keep p2 BD
              have hb3 := hb2.trans (BD.mono hb2.size)
              clear z3 z8 q0 q1
              generalize V.drew = V2 at *
              have hk := Below.refl V2.heap.size V2
              go_wp2_with (first | ((with_reducible refine Calmly.is_fl ?_); refine Calmly.mix_fl rfl ?_ (fun _ _ => ?_); (first | exact .move _ | exact .load _ _ | exact .fieldAddr _ _ _ (by kernel_rfl) | exact .assign _ | exact .binOp _ _ _ _ _ rfl | exact .indexAddr _ _ _ | exact .len _ _ (by kernel_rfl) | exact .field _ _ _ | exact .extract _ _ | exact .pick _ _ _ | exact .build _ _ | exact .slice _ _ _ _ _ | exact .unOp _ _ _ rfl | exact .index _ _ _ | exact .max _ _ _ rfl rfl | exact .min _ _ _ rfl rfl | exact .nilCheck _ _ rfl)) | ((with_reducible refine Calmly.is_gl ?_); refine Calmly.mix_gl rfl rfl rfl ?_; first | ((first | with_reducible refine Calmly.gl_tt ?_ (fun _ _ => ?_) | with_reducible refine Calmly.gl_ff ?_ (fun _ _ => ?_)); (first | exact .move _ | exact .load _ _ | exact .fieldAddr _ _ _ (by kernel_rfl) | exact .assign _ | exact .binOp _ _ _ _ _ rfl | exact .indexAddr _ _ _ | exact .len _ _ (by kernel_rfl) | exact .field _ _ _ | exact .extract _ _ | exact .pick _ _ _ | exact .build _ _ | exact .slice _ _ _ _ _ | exact .unOp _ _ _ rfl | exact .index _ _ _ | exact .max _ _ _ rfl rfl | exact .min _ _ _ rfl rfl | exact .nilCheck _ _ rfl)) | with_reducible refine Calmly.gl_tf (fun _ _ => ?_) | with_reducible refine Calmly.gl_ft (fun _ _ => ?_)) | ((with_reducible refine Calmly.is_eff ?_); refine Calmly.mix_eff rfl (fun _ _ => ?_)) | ((with_reducible refine Calmly.is_gf ?_); refine Calmly.mix_gf rfl rfl rfl ?_; first | with_reducible refine Calmly.gf_tt (fun _ _ => ?_) | with_reducible refine Calmly.gf_ff (fun _ _ => ?_) | with_reducible refine Calmly.gf_tf (kept_of hk) (fun _ _ => ?_) | with_reducible refine Calmly.gf_ft (kept_of hk) (fun _ _ => ?_)) | ((with_reducible refine Calmly.is_tail ?_); first | refine Calmly.mix_tail_nil ?_ | refine Calmly.mix_tail rfl (fun _ _ => ?_)) | ((with_reducible refine Calmly.is_kept ?_); refine ⟨kept_of hk, ?_⟩) | (with_reducible refine Calmly.mix_alt ?_ ?_))
              go_roundw
              case rel => exact ⟨k + 1, by omega, by go_num, HG.out, hb3⟩
              case measure => simp [intOf]; omega
            · have c5 : (s != 0) = true := by simpa using hs0
              have hbad := HROW.out 3 (slE_form hps (.inr ⟨rfl, hs0⟩)) (by decide)
              injection hbad with e1 e2
              have E1 := Lib.hid e1
              have E2 := Lib.hid e2
              clear e1 e2
              go_wp2_with fail
              refine bodyPost_ret (v := .tuple #[.int .i64 (k : Int), .int .i64 3]) (by simp [results, Try.results42]) rfl ⟨by rw [E1.out, E2.out], BW.trans (hb2.mono BW.size)⟩
      · have hle : (n2 : Int) ≤ (k : Int) := by omega
        have hR0 : (I, E) = (0, 0) := by rw [← HT.out, eaF_end (by omega)]
        injection hR0 with e1 e2
        subst e1 e2
        go_wp2_with fail
        refine bodyPost_ret (v := .tuple #[.int .i64 0, .int .i64 0]) (by simp [results, Try.results42]) rfl ⟨rfl, hB2⟩
end Go.Proofs.Ytaiikekgckjdeaa
