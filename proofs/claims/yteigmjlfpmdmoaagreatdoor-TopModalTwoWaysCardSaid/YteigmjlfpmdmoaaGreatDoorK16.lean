/- The law ModalStrings, walked. -/
import Derived.Test.YteigmjlfpmdmoaaGreatDoorK15
namespace Go.Proofs.YteigmjlfpmdmoaaGreatDoor
open Go.RowKit
open Calmly (Kept)

set_option maxHeartbeats 400000 in
theorem Same_any (a b a' b' : Option Addr) (n c m k n' c' m' k' : Nat) (ms ks : List Int) (w : World) (h1 : SI w a n c ms) (h2 : SI w b m k ks) (h3 : SI w a' n' c' ms) (h4 : SI w b' m' k' ks) :
    Calls Tryz.prog 26 #[.agg #[.slice a n c, .slice b m k], .agg #[.slice a' n' c', .slice b' m' k']] w fun e w' => e = .returned (.bool true) ∧ Below w.heap.size w w' := by
  have hb : ∀ o o', Below w.heap.size w ((w.alloc o).alloc o') := fun o o' => ((Below.refl _ _).alloc (Nat.le_refl _) _).alloc (by simp) _
  go_enter Tryz.func26, Tryz.ntmps26
  go_wp2_with fail
  refine (ints_any a a' n n' c c' ms ms _ (h1.keep (hb _ _)) (h3.keep (hb _ _))).mono ?_
  rintro e w1 ⟨rfl, p, rfl⟩
  rw [decide_eq_true (rfl : ms = ms)]
  have B := hb (.cells #[.slice a n c, .slice b m k] 52) (.cells #[.slice a' n' c', .slice b' m' k'] 52)
  obtain ⟨x1, x2⟩ := box2 (w := w) (o := .cells #[.slice a n c, .slice b m k] 52) (o' := .cells #[.slice a' n' c', .slice b' m' k'] 52) (below_drewN (Below.refl _ _) p)
  have B1 := below_drewN B p
  generalize World.drewN _ p = V at *
  have f0 := cell_block x1 0
  have f1 := cell_block x1 1
  have g0 := cell_block x2 0
  have g1 := cell_block x2 1
  go_wp2_with fail
  refine (ints_any b b' m m' k k' ks ks V (h2.keep B1) (h4.keep B1)).mono ?_
  rintro e w1 ⟨rfl, q, rfl⟩
  rw [decide_eq_true (rfl : ks = ks)]
  go_wp2_with fail
  go_ret
  exact ⟨rfl, below_drewN B1 q⟩
set_option maxHeartbeats 400000 in
theorem SameDecay_any (a a' : Option Addr) (n c n' c' : Nat) (xs : List Int) (off : Int) (w : World) (h1 : SI w a n c xs) (h3 : SI w a' n' c' xs) :
    Calls Tryz.prog 16 #[.agg #[.slice a n c, .int .i64 off], .agg #[.slice a' n' c', .int .i64 off]] w fun e w' => e = .returned (.bool true) ∧ Below w.heap.size w w' := by
  have hb : ∀ o o', Below w.heap.size w ((w.alloc o).alloc o') := fun o o' => ((Below.refl _ _).alloc (Nat.le_refl _) _).alloc (by simp) _
  go_enter Tryz.func16, Tryz.ntmps16
  go_wp2_with fail
  refine (ints_any a a' n n' c c' xs xs _ (h1.keep (hb _ _)) (h3.keep (hb _ _))).mono ?_
  rintro e w1 ⟨rfl, p, rfl⟩
  rw [decide_eq_true (rfl : xs = xs)]
  go_wp2_with fail
  go_ret
  exact ⟨rfl, below_drewN (hb _ _) p⟩

set_option maxRecDepth 100000 in
set_option maxHeartbeats 4000000 in
theorem ModalStrings_walk (a b xa : Option Addr) (n c m k xn xc : Nat) (ms ks xs : List Int) (off : Int) (s : List UInt8) (w : World) (hv : Vars w) (h1 : SI w a n c ms) (h2 : SI w b m k ks) (h3 : SI w xa xn xc xs) (i1 : I64 ms) (i2 : I64 ks) (i3 : I64 xs) (o3 : -9223372036854775808 ≤ off) (o4 : off ≤ 9223372036854775807) (hs : s.length ≤ 9223372036854775807) :
    Calls Tryz.prog 6 #[.agg #[.slice a n c, .slice b m k], .agg #[.slice xa xn xc, .int .i64 off], .string (bs s)] w fun e w' => e = .returned (.bool true) ∧ Below w.heap.size w w' := by
  have ca := h1.cap
  have ma := h1.max
  have cb := h2.cap
  have mb := h2.max
  have cx := h3.cap
  have mx := h3.max
  have hz := bs_size s
  have HZ := Lib.hid hz
  clear hz
  have hb0 : ∀ o o', Below w.heap.size w ((w.alloc o).alloc o') := fun o o' => ((Below.refl _ _).alloc (Nat.le_refl _) _).alloc (by simp) _
  go_enter Tryz.func6, Tryz.ntmps6
  go_wp2_with fail
  refine (awake_any _).mono ?_
  rintro e w0 ⟨rfl, hb⟩
  obtain ⟨x1, x2⟩ := box2 (w := w) (o := .cells #[.slice a n c, .slice b m k] 52) (o' := .cells #[.slice xa xn xc, .int .i64 off] 28) hb
  have B := (hb0 (.cells #[.slice a n c, .slice b m k] 52) (.cells #[.slice xa xn xc, .int .i64 off] 28)).trans (hb.mono (hb0 _ _).size)
  have fx10 := cell_block x1 0
  have fx11 := cell_block x1 1
  clear hb hb0
  by_cases hf : n ≤ 6 ∧ m ≤ 6
  case neg =>
    have hff : (decide (n ≤ 6) && decide (m ≤ 6)) = false := by
      rw [Bool.and_eq_false_iff, decide_eq_false_iff_not, decide_eq_false_iff_not]; omega
    go_wp2_with fail
    refine (few_any a b n c m k _ (by omega) (by omega)).mono ?_
    rintro e w1 ⟨rfl, hb⟩
    rw [hff]
    have B1 := B.trans (hb.mono B.size)
    clear hf hff
    go_wp2_with fail
    go_ret
    exact ⟨rfl, B1⟩
  obtain ⟨hn6, hm6⟩ := hf
  have hff : (decide (n ≤ 6) && decide (m ≤ 6)) = true := by
    rw [Bool.and_eq_true, decide_eq_true_iff, decide_eq_true_iff]; omega
  go_wp2_with fail
  refine (few_any a b n c m k _ (by omega) (by omega)).mono ?_
  rintro e w1 ⟨rfl, hb⟩
  rw [hff]
  replace x1 := blk_keep x1 hb
  replace x2 := blk_keep x2 hb
  replace B := B.trans (hb.mono B.size)
  clear hb hff fx10 fx11
  have fx20 := cell_block x2 0
  have fx21 := cell_block x2 1
  by_cases h62 : xn ≤ 62
  case neg =>
    go_wp2_with fail
    refine (fewSamples_any xa xn xc off _ false (decide_eq_false (by omega)).symm).mono ?_
    rintro e w2 ⟨rfl, hb⟩
    have B1 := B.trans (hb.mono B.size)
    go_wp2_with fail
    go_ret
    exact ⟨rfl, B1⟩
  go_wp2_with fail
  refine (fewSamples_any xa xn xc off _ true (decide_eq_true (by omega)).symm).mono ?_
  rintro e w2 ⟨rfl, hb⟩
  replace x1 := blk_keep x1 hb
  replace x2 := blk_keep x2 hb
  replace B := B.trans (hb.mono B.size)
  clear hb fx20 fx21
  by_cases hA : 300 < s.length ∧ s.length ≤ 60000
  · have g1 : (300 : Int) < ((bs s).size : Int) := by rw [HZ.out]; omega
    have g2 : ((bs s).size : Int) ≤ 60000 := by rw [HZ.out]; omega
    go_wp2_with fail
    go_ret
    exact ⟨rfl, B⟩
  by_cases hC : 60010 < s.length
  · have g1 : (300 : Int) < ((bs s).size : Int) := by rw [HZ.out]; omega
    have g2 : ¬ ((bs s).size : Int) ≤ 60000 := by rw [HZ.out]; omega
    have g3 : (60010 : Int) < ((bs s).size : Int) := by rw [HZ.out]; omega
    go_wp2_with fail
    go_ret
    exact ⟨rfl, B⟩
  have hs2 : s.length ≤ 1000000 := by omega
  by_cases h300 : 300 < s.length
  · have g1 : (300 : Int) < ((bs s).size : Int) := by rw [HZ.out]; omega
    have g2 : ¬ ((bs s).size : Int) ≤ 60000 := by rw [HZ.out]; omega
    have g3 : ¬ (60010 : Int) < ((bs s).size : Int) := by rw [HZ.out]; omega
    clear hA hC h300
    go_wp2_with fail
    refine Calmly.wp_region_mix 6 (.fl 0 <| .fl 3 <| .eff 1 <| .eff 2 <| .eff 4 <| .eff 5 <| .tail [6, 7]) (by kernel_rfl) (by kernel_rfl) ?_
    replace x1 := blk_keep x1 (Below.refl _ _).drew
    replace x2 := blk_keep x2 (Below.refl _ _).drew
    replace B := B.drew
    generalize World.drew _ = V at *
    have fx10 := cell_block x1 0
    have fx11 := cell_block x1 1
    have fx20 := cell_block x2 0
    have fx21 := cell_block x2 1
    have hk := Below.refl V.heap.size V
    go_wp2_with (first | ((with_reducible refine Calmly.is_fl ?_); refine Calmly.mix_fl rfl ?_ (fun _ _ => ?_); (first | exact .move _ | exact .load _ _ | exact .fieldAddr _ _ _ (by kernel_rfl) | exact .assign _ | exact .binOp _ _ _ _ _ rfl | exact .indexAddr _ _ _ | exact .len _ _ (by kernel_rfl) | exact .field _ _ _ | exact .extract _ _ | exact .pick _ _ _ | exact .build _ _ | exact .slice _ _ _ _ _ | exact .unOp _ _ _ rfl | exact .index _ _ _ | exact .max _ _ _ rfl rfl | exact .min _ _ _ rfl rfl | exact .nilCheck _ _ rfl)) | ((with_reducible refine Calmly.is_gl ?_); refine Calmly.mix_gl rfl rfl rfl ?_; first | ((first | with_reducible refine Calmly.gl_tt ?_ (fun _ _ => ?_) | with_reducible refine Calmly.gl_ff ?_ (fun _ _ => ?_)); (first | exact .move _ | exact .load _ _ | exact .fieldAddr _ _ _ (by kernel_rfl) | exact .assign _ | exact .binOp _ _ _ _ _ rfl | exact .indexAddr _ _ _ | exact .len _ _ (by kernel_rfl) | exact .field _ _ _ | exact .extract _ _ | exact .pick _ _ _ | exact .build _ _ | exact .slice _ _ _ _ _ | exact .unOp _ _ _ rfl | exact .index _ _ _ | exact .max _ _ _ rfl rfl | exact .min _ _ _ rfl rfl | exact .nilCheck _ _ rfl)) | with_reducible refine Calmly.gl_tf (fun _ _ => ?_) | with_reducible refine Calmly.gl_ft (fun _ _ => ?_)) | ((with_reducible refine Calmly.is_eff ?_); refine Calmly.mix_eff rfl (fun _ _ => ?_)) | ((with_reducible refine Calmly.is_gf ?_); refine Calmly.mix_gf rfl rfl rfl ?_; first | with_reducible refine Calmly.gf_tt (fun _ _ => ?_) | with_reducible refine Calmly.gf_ff (fun _ _ => ?_) | with_reducible refine Calmly.gf_tf (kept_of hk) (fun _ _ => ?_) | with_reducible refine Calmly.gf_ft (kept_of hk) (fun _ _ => ?_)) | ((with_reducible refine Calmly.is_tail ?_); first | refine Calmly.mix_tail_nil ?_ | refine Calmly.mix_tail rfl (fun _ _ => ?_)) | ((with_reducible refine Calmly.is_kept ?_); refine ⟨kept_of hk, ?_⟩) | (with_reducible refine Calmly.mix_alt ?_ ?_))
    refine (Copy_any a b n c m k ms ks V (h1.keep B) (h2.keep B) (by omega) (by omega)).mono ?_
    rintro e w1 ⟨a1, c1, b1, k1, _, rfl, o1, o2, _, _, hb1⟩
    replace hk := step_of hk hb1
    have s1 := o1.si
    have s2 := o2.si
    clear o1 o2
    go_wp2_with (first | ((with_reducible refine Calmly.is_fl ?_); refine Calmly.mix_fl rfl ?_ (fun _ _ => ?_); (first | exact .move _ | exact .load _ _ | exact .fieldAddr _ _ _ (by kernel_rfl) | exact .assign _ | exact .binOp _ _ _ _ _ rfl | exact .indexAddr _ _ _ | exact .len _ _ (by kernel_rfl) | exact .field _ _ _ | exact .extract _ _ | exact .pick _ _ _ | exact .build _ _ | exact .slice _ _ _ _ _ | exact .unOp _ _ _ rfl | exact .index _ _ _ | exact .max _ _ _ rfl rfl | exact .min _ _ _ rfl rfl | exact .nilCheck _ _ rfl)) | ((with_reducible refine Calmly.is_gl ?_); refine Calmly.mix_gl rfl rfl rfl ?_; first | ((first | with_reducible refine Calmly.gl_tt ?_ (fun _ _ => ?_) | with_reducible refine Calmly.gl_ff ?_ (fun _ _ => ?_)); (first | exact .move _ | exact .load _ _ | exact .fieldAddr _ _ _ (by kernel_rfl) | exact .assign _ | exact .binOp _ _ _ _ _ rfl | exact .indexAddr _ _ _ | exact .len _ _ (by kernel_rfl) | exact .field _ _ _ | exact .extract _ _ | exact .pick _ _ _ | exact .build _ _ | exact .slice _ _ _ _ _ | exact .unOp _ _ _ rfl | exact .index _ _ _ | exact .max _ _ _ rfl rfl | exact .min _ _ _ rfl rfl | exact .nilCheck _ _ rfl)) | with_reducible refine Calmly.gl_tf (fun _ _ => ?_) | with_reducible refine Calmly.gl_ft (fun _ _ => ?_)) | ((with_reducible refine Calmly.is_eff ?_); refine Calmly.mix_eff rfl (fun _ _ => ?_)) | ((with_reducible refine Calmly.is_gf ?_); refine Calmly.mix_gf rfl rfl rfl ?_; first | with_reducible refine Calmly.gf_tt (fun _ _ => ?_) | with_reducible refine Calmly.gf_ff (fun _ _ => ?_) | with_reducible refine Calmly.gf_tf (kept_of hk) (fun _ _ => ?_) | with_reducible refine Calmly.gf_ft (kept_of hk) (fun _ _ => ?_)) | ((with_reducible refine Calmly.is_tail ?_); first | refine Calmly.mix_tail_nil ?_ | refine Calmly.mix_tail rfl (fun _ _ => ?_)) | ((with_reducible refine Calmly.is_kept ?_); refine ⟨kept_of hk, ?_⟩) | (with_reducible refine Calmly.mix_alt ?_ ?_))
    refine (FormatFrame_any a1 b1 n c1 m k1 ms ks w1 (hv.keep (B.trans (hk.mono B.size))) s1 s2 (by omega) (by omega) i1 i2).mono ?_
    rintro e w2 ⟨rfl, hb2⟩
    replace hk := step_of hk hb2
    clear s1 s2
    go_wp2_with (first | ((with_reducible refine Calmly.is_fl ?_); refine Calmly.mix_fl rfl ?_ (fun _ _ => ?_); (first | exact .move _ | exact .load _ _ | exact .fieldAddr _ _ _ (by kernel_rfl) | exact .assign _ | exact .binOp _ _ _ _ _ rfl | exact .indexAddr _ _ _ | exact .len _ _ (by kernel_rfl) | exact .field _ _ _ | exact .extract _ _ | exact .pick _ _ _ | exact .build _ _ | exact .slice _ _ _ _ _ | exact .unOp _ _ _ rfl | exact .index _ _ _ | exact .max _ _ _ rfl rfl | exact .min _ _ _ rfl rfl | exact .nilCheck _ _ rfl)) | ((with_reducible refine Calmly.is_gl ?_); refine Calmly.mix_gl rfl rfl rfl ?_; first | ((first | with_reducible refine Calmly.gl_tt ?_ (fun _ _ => ?_) | with_reducible refine Calmly.gl_ff ?_ (fun _ _ => ?_)); (first | exact .move _ | exact .load _ _ | exact .fieldAddr _ _ _ (by kernel_rfl) | exact .assign _ | exact .binOp _ _ _ _ _ rfl | exact .indexAddr _ _ _ | exact .len _ _ (by kernel_rfl) | exact .field _ _ _ | exact .extract _ _ | exact .pick _ _ _ | exact .build _ _ | exact .slice _ _ _ _ _ | exact .unOp _ _ _ rfl | exact .index _ _ _ | exact .max _ _ _ rfl rfl | exact .min _ _ _ rfl rfl | exact .nilCheck _ _ rfl)) | with_reducible refine Calmly.gl_tf (fun _ _ => ?_) | with_reducible refine Calmly.gl_ft (fun _ _ => ?_)) | ((with_reducible refine Calmly.is_eff ?_); refine Calmly.mix_eff rfl (fun _ _ => ?_)) | ((with_reducible refine Calmly.is_gf ?_); refine Calmly.mix_gf rfl rfl rfl ?_; first | with_reducible refine Calmly.gf_tt (fun _ _ => ?_) | with_reducible refine Calmly.gf_ff (fun _ _ => ?_) | with_reducible refine Calmly.gf_tf (kept_of hk) (fun _ _ => ?_) | with_reducible refine Calmly.gf_ft (kept_of hk) (fun _ _ => ?_)) | ((with_reducible refine Calmly.is_tail ?_); first | refine Calmly.mix_tail_nil ?_ | refine Calmly.mix_tail rfl (fun _ _ => ?_)) | ((with_reducible refine Calmly.is_kept ?_); refine ⟨kept_of hk, ?_⟩) | (with_reducible refine Calmly.mix_alt ?_ ?_))
    refine (CopyDecay_any xa xn xc xs off w2 ((h3.keep B).keep hk) (by omega)).mono ?_
    rintro e w3 ⟨a3, c3, rfl, s3, hb3⟩
    replace hk := step_of hk hb3
    go_wp2_with (first | ((with_reducible refine Calmly.is_fl ?_); refine Calmly.mix_fl rfl ?_ (fun _ _ => ?_); (first | exact .move _ | exact .load _ _ | exact .fieldAddr _ _ _ (by kernel_rfl) | exact .assign _ | exact .binOp _ _ _ _ _ rfl | exact .indexAddr _ _ _ | exact .len _ _ (by kernel_rfl) | exact .field _ _ _ | exact .extract _ _ | exact .pick _ _ _ | exact .build _ _ | exact .slice _ _ _ _ _ | exact .unOp _ _ _ rfl | exact .index _ _ _ | exact .max _ _ _ rfl rfl | exact .min _ _ _ rfl rfl | exact .nilCheck _ _ rfl)) | ((with_reducible refine Calmly.is_gl ?_); refine Calmly.mix_gl rfl rfl rfl ?_; first | ((first | with_reducible refine Calmly.gl_tt ?_ (fun _ _ => ?_) | with_reducible refine Calmly.gl_ff ?_ (fun _ _ => ?_)); (first | exact .move _ | exact .load _ _ | exact .fieldAddr _ _ _ (by kernel_rfl) | exact .assign _ | exact .binOp _ _ _ _ _ rfl | exact .indexAddr _ _ _ | exact .len _ _ (by kernel_rfl) | exact .field _ _ _ | exact .extract _ _ | exact .pick _ _ _ | exact .build _ _ | exact .slice _ _ _ _ _ | exact .unOp _ _ _ rfl | exact .index _ _ _ | exact .max _ _ _ rfl rfl | exact .min _ _ _ rfl rfl | exact .nilCheck _ _ rfl)) | with_reducible refine Calmly.gl_tf (fun _ _ => ?_) | with_reducible refine Calmly.gl_ft (fun _ _ => ?_)) | ((with_reducible refine Calmly.is_eff ?_); refine Calmly.mix_eff rfl (fun _ _ => ?_)) | ((with_reducible refine Calmly.is_gf ?_); refine Calmly.mix_gf rfl rfl rfl ?_; first | with_reducible refine Calmly.gf_tt (fun _ _ => ?_) | with_reducible refine Calmly.gf_ff (fun _ _ => ?_) | with_reducible refine Calmly.gf_tf (kept_of hk) (fun _ _ => ?_) | with_reducible refine Calmly.gf_ft (kept_of hk) (fun _ _ => ?_)) | ((with_reducible refine Calmly.is_tail ?_); first | refine Calmly.mix_tail_nil ?_ | refine Calmly.mix_tail rfl (fun _ _ => ?_)) | ((with_reducible refine Calmly.is_kept ?_); refine ⟨kept_of hk, ?_⟩) | (with_reducible refine Calmly.mix_alt ?_ ?_))
    refine (FormatDecay_any a3 xn c3 xs off w3 (hv.keep (B.trans (hk.mono B.size))) s3 (by omega) i3 o3 o4).mono ?_
    rintro e w4 ⟨rfl, hb4⟩
    replace hk := step_of hk hb4
    clear s3 hb1 hb2 hb3 hb4
    go_wp2_with (first | ((with_reducible refine Calmly.is_fl ?_); refine Calmly.mix_fl rfl ?_ (fun _ _ => ?_); (first | exact .move _ | exact .load _ _ | exact .fieldAddr _ _ _ (by kernel_rfl) | exact .assign _ | exact .binOp _ _ _ _ _ rfl | exact .indexAddr _ _ _ | exact .len _ _ (by kernel_rfl) | exact .field _ _ _ | exact .extract _ _ | exact .pick _ _ _ | exact .build _ _ | exact .slice _ _ _ _ _ | exact .unOp _ _ _ rfl | exact .index _ _ _ | exact .max _ _ _ rfl rfl | exact .min _ _ _ rfl rfl | exact .nilCheck _ _ rfl)) | ((with_reducible refine Calmly.is_gl ?_); refine Calmly.mix_gl rfl rfl rfl ?_; first | ((first | with_reducible refine Calmly.gl_tt ?_ (fun _ _ => ?_) | with_reducible refine Calmly.gl_ff ?_ (fun _ _ => ?_)); (first | exact .move _ | exact .load _ _ | exact .fieldAddr _ _ _ (by kernel_rfl) | exact .assign _ | exact .binOp _ _ _ _ _ rfl | exact .indexAddr _ _ _ | exact .len _ _ (by kernel_rfl) | exact .field _ _ _ | exact .extract _ _ | exact .pick _ _ _ | exact .build _ _ | exact .slice _ _ _ _ _ | exact .unOp _ _ _ rfl | exact .index _ _ _ | exact .max _ _ _ rfl rfl | exact .min _ _ _ rfl rfl | exact .nilCheck _ _ rfl)) | with_reducible refine Calmly.gl_tf (fun _ _ => ?_) | with_reducible refine Calmly.gl_ft (fun _ _ => ?_)) | ((with_reducible refine Calmly.is_eff ?_); refine Calmly.mix_eff rfl (fun _ _ => ?_)) | ((with_reducible refine Calmly.is_gf ?_); refine Calmly.mix_gf rfl rfl rfl ?_; first | with_reducible refine Calmly.gf_tt (fun _ _ => ?_) | with_reducible refine Calmly.gf_ff (fun _ _ => ?_) | with_reducible refine Calmly.gf_tf (kept_of hk) (fun _ _ => ?_) | with_reducible refine Calmly.gf_ft (kept_of hk) (fun _ _ => ?_)) | ((with_reducible refine Calmly.is_tail ?_); first | refine Calmly.mix_tail_nil ?_ | refine Calmly.mix_tail rfl (fun _ _ => ?_)) | ((with_reducible refine Calmly.is_kept ?_); refine ⟨kept_of hk, ?_⟩) | (with_reducible refine Calmly.mix_alt ?_ ?_))
    replace x1 := blk_keep x1 hk
    replace x2 := blk_keep x2 hk
    replace B := B.trans (hk.mono B.size)
    clear fx10 fx11 fx20 fx21 hk

    refine (ParseFrame_any s w4 (hv.keep B) hs2).mono ?_
    rintro e w5 ⟨a9, n9, c9, b9, m9, k9, rfl, s9, t9, hb⟩
    dsimp only
    replace x1 := blk_keep x1 hb
    replace x2 := blk_keep x2 hb
    replace B := B.trans (hb.mono B.size)
    clear hb
    go_wp2_with fail
    have hb : Below w5.heap.size w5 (w5.alloc (.cells #[.slice a9 n9 c9, .slice b9 m9 k9] 52)) := (Below.refl _ _).alloc (Nat.le_refl _) _
    have y9 := alloc_new w5 (.cells #[.slice a9 n9 c9, .slice b9 m9 k9] 52)
    generalize w5.alloc (.cells #[.slice a9 n9 c9, .slice b9 m9 k9] 52) = V5 at *
    replace x1 := blk_keep x1 hb
    replace x2 := blk_keep x2 hb
    replace s9 := s9.keep hb
    replace t9 := t9.keep hb
    replace B := B.trans (hb.mono B.size)
    clear hb
    refine (ParseDecay_any s V5 (hv.keep B) hs2).mono ?_
    rintro e w6 ⟨a11, n11, c11, rfl, s11, hb⟩
    dsimp only
    replace x1 := blk_keep x1 hb
    replace x2 := blk_keep x2 hb
    replace y9 := blk_keep y9 hb
    replace s9 := s9.keep hb
    replace t9 := t9.keep hb
    replace B := B.trans (hb.mono B.size)
    clear hb
    obtain ⟨q2, hq2⟩ : ∃ q, (pdV s).2 = q := ⟨_, rfl⟩
    rw [hq2]
    go_wp2_with fail
    have hb : Below w6.heap.size w6 (w6.alloc (.cells #[.slice a11 n11 c11, .int .i64 q2] 28)) := (Below.refl _ _).alloc (Nat.le_refl _) _
    have y11 := alloc_new w6 (.cells #[.slice a11 n11 c11, .int .i64 q2] 28)
    generalize w6.alloc (.cells #[.slice a11 n11 c11, .int .i64 q2] 28) = V6 at *
    replace x1 := blk_keep x1 hb
    replace x2 := blk_keep x2 hb
    replace y9 := blk_keep y9 hb
    replace s9 := s9.keep hb
    replace t9 := t9.keep hb
    replace s11 := s11.keep hb
    replace B := B.trans (hb.mono B.size)
    clear hb
    refine (rParseFrame_any s V6 hs2).mono ?_
    rintro e w7 ⟨a13, n13, c13, b13, m13, k13, rfl, s13, t13, hb⟩
    dsimp only
    replace x1 := blk_keep x1 hb
    replace x2 := blk_keep x2 hb
    replace y9 := blk_keep y9 hb
    replace y11 := blk_keep y11 hb
    replace s9 := s9.keep hb
    replace t9 := t9.keep hb
    replace s11 := s11.keep hb
    replace B := B.trans (hb.mono B.size)
    clear hb
    go_wp2_with fail
    have hb : Below w7.heap.size w7 (w7.alloc (.cells #[.slice a13 n13 c13, .slice b13 m13 k13] 52)) := (Below.refl _ _).alloc (Nat.le_refl _) _
    have y13 := alloc_new w7 (.cells #[.slice a13 n13 c13, .slice b13 m13 k13] 52)
    generalize w7.alloc (.cells #[.slice a13 n13 c13, .slice b13 m13 k13] 52) = V7 at *
    replace x1 := blk_keep x1 hb
    replace x2 := blk_keep x2 hb
    replace y9 := blk_keep y9 hb
    replace y11 := blk_keep y11 hb
    replace s9 := s9.keep hb
    replace t9 := t9.keep hb
    replace s11 := s11.keep hb
    replace s13 := s13.keep hb
    replace t13 := t13.keep hb
    replace B := B.trans (hb.mono B.size)
    clear hb
    refine (rParseDecay_any s V7 hs2).mono ?_
    rintro e w8 ⟨a15, n15, c15, rfl, s15, hb⟩
    dsimp only
    rw [hq2]
    clear hq2
    replace x1 := blk_keep x1 hb
    replace x2 := blk_keep x2 hb
    replace y9 := blk_keep y9 hb
    replace y11 := blk_keep y11 hb
    replace y13 := blk_keep y13 hb
    replace s9 := s9.keep hb
    replace t9 := t9.keep hb
    replace s11 := s11.keep hb
    replace s13 := s13.keep hb
    replace t13 := t13.keep hb
    replace B := B.trans (hb.mono B.size)
    clear hb
    have fx1a := cell_block x1 0
    have fx1b := cell_block x1 1
    have hb : Below w8.heap.size w8 (w8.alloc (.cells #[.slice a15 n15 c15, .int .i64 q2] 28)) := (Below.refl _ _).alloc (Nat.le_refl _) _
    have hl1 := blk_lt x1
    have y15 := alloc_new w8 (.cells #[.slice a15 n15 c15, .int .i64 q2] 28)
    go_wp2_with fail
    generalize w8.alloc (.cells #[.slice a15 n15 c15, .int .i64 q2] 28) = V8 at *
    replace x1 := blk_keep x1 hb
    replace x2 := blk_keep x2 hb
    replace y9 := blk_keep y9 hb
    replace y11 := blk_keep y11 hb
    replace y13 := blk_keep y13 hb
    replace s9 := s9.keep hb
    replace t9 := t9.keep hb
    replace s11 := s11.keep hb
    replace s13 := s13.keep hb
    replace t13 := t13.keep hb
    replace s15 := s15.keep hb
    replace B := B.trans (hb.mono B.size)
    clear hb fx1a fx1b hl1
    refine (rFormatFrame_any a b n c m k ms ks V8 (h1.keep B) (h2.keep B) (by omega) (by omega) i1 i2).mono ?_
    rintro e w9 ⟨rfl, hb⟩
    replace x1 := blk_keep x1 hb
    replace x2 := blk_keep x2 hb
    replace y9 := blk_keep y9 hb
    replace y11 := blk_keep y11 hb
    replace y13 := blk_keep y13 hb
    replace y15 := blk_keep y15 hb
    replace s9 := s9.keep hb
    replace t9 := t9.keep hb
    replace s11 := s11.keep hb
    replace s13 := s13.keep hb
    replace t13 := t13.keep hb
    replace s15 := s15.keep hb
    replace B := B.trans (hb.mono B.size)
    clear hb

    have fa := cell_block x2 0
    have fb := cell_block x2 1
    go_wp2_with fail
    refine (rFormatDecay_any xa xn xc xs off w9 (h3.keep B) (by omega) i3 o3 o4).mono ?_
    rintro e w10 ⟨rfl, hb⟩
    clear fa fb
    replace x1 := blk_keep x1 hb
    replace x2 := blk_keep x2 hb
    replace y9 := blk_keep y9 hb
    replace y11 := blk_keep y11 hb
    replace y13 := blk_keep y13 hb
    replace y15 := blk_keep y15 hb
    replace s9 := s9.keep hb
    replace t9 := t9.keep hb
    replace s11 := s11.keep hb
    replace s13 := s13.keep hb
    replace t13 := t13.keep hb
    replace s15 := s15.keep hb
    replace B := B.trans (hb.mono B.size)
    clear hb

    have fa := cell_block y9 0
    have fb := cell_block y9 1
    have fc := cell_block y13 0
    have fd := cell_block y13 1
    go_wp2_with fail
    refine (Same_any a9 b9 a13 b13 n9 c9 m9 k9 n13 c13 m13 k13 _ _ w10 s9 t9 s13 t13).mono ?_
    rintro e w11 ⟨rfl, hb⟩
    clear fa fb fc fd
    replace x1 := blk_keep x1 hb
    replace x2 := blk_keep x2 hb
    replace y9 := blk_keep y9 hb
    replace y11 := blk_keep y11 hb
    replace y13 := blk_keep y13 hb
    replace y15 := blk_keep y15 hb
    replace s9 := s9.keep hb
    replace t9 := t9.keep hb
    replace s11 := s11.keep hb
    replace s13 := s13.keep hb
    replace t13 := t13.keep hb
    replace s15 := s15.keep hb
    replace B := B.trans (hb.mono B.size)
    clear hb

    have fa := cell_block y11 0
    have fb := cell_block y11 1
    have fc := cell_block y15 0
    have fd := cell_block y15 1
    have fe := cell_block x1 0
    have ff := cell_block x1 1
    go_wp2_with fail
    refine (SameDecay_any a11 a15 n11 c11 n15 c15 _ q2 w11 s11 s15).mono ?_
    rintro e w12 ⟨rfl, hb⟩
    replace x1 := blk_keep x1 hb
    replace x2 := blk_keep x2 hb
    replace B := B.trans (hb.mono B.size)
    clear fa fb fc fd fe ff hb y9 y11 y13 y15 s9 t9 s11 s13 t13 s15
    have fa := cell_block x1 0
    have fb := cell_block x1 1
    go_wp2_with fail
    refine (FrameErr_any a b n c m k ms ks w12 (h1.keep B) (h2.keep B)).mono ?_
    rintro e w13 ⟨rfl, hb⟩
    replace x1 := blk_keep x1 hb
    replace x2 := blk_keep x2 hb
    replace B := B.trans (hb.mono B.size)
    clear fa fb hb
    have fa := cell_block x1 0
    have fb := cell_block x1 1
    have fc := cell_block x2 0
    have fd := cell_block x2 1
    obtain ⟨Z, hZ⟩ : ∃ Z, (checkF ms ks).2 = Z := ⟨_, rfl⟩
    rw [hZ]
    by_cases hz : Z = 0
    · subst hz
      have hbk := pf_back hZ
      have HBK := Lib.hid hbk
      have lw := words_len20 i1
      have lw2 := words_len20 i2
      have hlm := h1.len
      have hlk := h2.len
      have hlf : (fmtF ms ks).length ≤ 1000000 := by unfold fmtF; rw [List.length_append, List.length_cons]; omega
      clear hbk hZ lw lw2 hlm hlk
      go_wp2_with fail
      refine (ParseFrame_any (fmtF ms ks) w13 (hv.keep B) hlf).mono ?_
      rintro e w14 ⟨a17, n17, c17, b17, m17, k17, rfl, s17, t17, hb⟩
      rw [HBK.out.2] at s17 t17
      rw [HBK.out.1]
      dsimp only at s17 t17 ⊢
      replace x1 := blk_keep x1 hb
      replace x2 := blk_keep x2 hb
      replace B := B.trans (hb.mono B.size)
      clear hb fa fb fc fd
      have hb : Below w14.heap.size w14 (w14.alloc (.cells #[.slice a17 n17 c17, .slice b17 m17 k17] 52)) := (Below.refl _ _).alloc (Nat.le_refl _) _
      have y17 := alloc_new w14 (.cells #[.slice a17 n17 c17, .slice b17 m17 k17] 52)
      have hl1 := blk_lt x1
      have fa := cell_block x1 0
      have fb := cell_block x1 1
      go_wp2_with fail
      generalize w14.alloc (.cells #[.slice a17 n17 c17, .slice b17 m17 k17] 52) = V14 at *
      replace x1 := blk_keep x1 hb
      replace x2 := blk_keep x2 hb
      replace s17 := s17.keep hb
      replace t17 := t17.keep hb
      replace B := B.trans (hb.mono B.size)
      clear hb fa fb hl1
      refine (Same_any a17 b17 a b n17 c17 m17 k17 n c m k ms ks V14 s17 t17 (h1.keep B) (h2.keep B)).mono ?_
      rintro e w15 ⟨rfl, hb⟩
      replace x2 := blk_keep x2 hb
      replace B := B.trans (hb.mono B.size)
      clear hb x1 y17 s17 t17
      have fa := cell_block x2 0
      have fb := cell_block x2 1
      go_wp2_with fail
      refine (DecayErr_any xa xn xc xs off w15 (h3.keep B)).mono ?_
      rintro e w16 ⟨rfl, hb⟩
      replace x2 := blk_keep x2 hb
      replace B := B.trans (hb.mono B.size)
      clear hb fa fb
      obtain ⟨Z2, hZ2⟩ : ∃ Z2, decayE xs off = Z2 := ⟨_, rfl⟩
      rw [hZ2]
      by_cases hz2 : Z2 = 0
      · subst hz2
        have hbk := pd_back hZ2
        have HBK := Lib.hid hbk
        have lw := words_len20 i3
        have lw2 := words_len20 (xs := [off]) (fun x hx => by have := List.mem_singleton.1 hx; omega)
        have hlm := h3.len
        have hlf : (fmtD xs off).length ≤ 1000000 := by
          unfold fmtD
          rw [List.length_append, List.length_cons]
          simp only [List.length_cons, List.length_nil] at lw2
          omega
        clear hbk hZ2 lw lw2 hlm
        go_wp2_with fail
        refine (ParseDecay_any (fmtD xs off) w16 (hv.keep B) hlf).mono ?_
        rintro e w17 ⟨a19, n19, c19, rfl, s19, hb⟩
        rw [HBK.out.2] at s19
        rw [HBK.out.2, HBK.out.1]
        dsimp only at s19 ⊢
        replace x2 := blk_keep x2 hb
        replace B := B.trans (hb.mono B.size)
        clear hb
        have hb : Below w17.heap.size w17 (w17.alloc (.cells #[.slice a19 n19 c19, .int .i64 off] 28)) := (Below.refl _ _).alloc (Nat.le_refl _) _
        have hl1 := blk_lt x2
        have fa := cell_block x2 0
        have fb := cell_block x2 1
        go_wp2_with fail
        generalize w17.alloc (.cells #[.slice a19 n19 c19, .int .i64 off] 28) = V17 at *
        replace s19 := s19.keep hb
        replace B := B.trans (hb.mono B.size)
        clear hb fa fb hl1 x2
        refine (SameDecay_any a19 xa n19 c19 xn xc xs off V17 s19 (h3.keep B)).mono ?_
        rintro e w18 ⟨rfl, hb⟩
        replace B := B.trans (hb.mono B.size)
        clear hb s19
        go_wp2_with fail
        go_ret
        exact ⟨rfl, B⟩
      · have hz3 : (Z2 != 0) = true := by simpa using hz2
        clear hz2 hZ2
        go_wp2_with fail
        go_ret
        exact ⟨rfl, B⟩
    · have hz1 : (Z == 0) = false := by rw [beq_eq_false_iff_ne]; exact hz
      clear hz hZ
      go_wp2_with fail
      refine (DecayErr_any xa xn xc xs off w13 (h3.keep B)).mono ?_
      rintro e w16 ⟨rfl, hb⟩
      replace x2 := blk_keep x2 hb
      replace B := B.trans (hb.mono B.size)
      clear hb fa fb fc fd
      obtain ⟨Z2, hZ2⟩ : ∃ Z2, decayE xs off = Z2 := ⟨_, rfl⟩
      rw [hZ2]
      by_cases hz2 : Z2 = 0
      · subst hz2
        have hbk := pd_back hZ2
        have HBK := Lib.hid hbk
        have lw := words_len20 i3
        have lw2 := words_len20 (xs := [off]) (fun x hx => by have := List.mem_singleton.1 hx; omega)
        have hlm := h3.len
        have hlf : (fmtD xs off).length ≤ 1000000 := by
          unfold fmtD
          rw [List.length_append, List.length_cons]
          simp only [List.length_cons, List.length_nil] at lw2
          omega
        clear hbk hZ2 lw lw2 hlm
        go_wp2_with fail
        refine (ParseDecay_any (fmtD xs off) w16 (hv.keep B) hlf).mono ?_
        rintro e w17 ⟨a19, n19, c19, rfl, s19, hb⟩
        rw [HBK.out.2] at s19
        rw [HBK.out.2, HBK.out.1]
        dsimp only at s19 ⊢
        replace x2 := blk_keep x2 hb
        replace B := B.trans (hb.mono B.size)
        clear hb
        have hb : Below w17.heap.size w17 (w17.alloc (.cells #[.slice a19 n19 c19, .int .i64 off] 28)) := (Below.refl _ _).alloc (Nat.le_refl _) _
        have hl1 := blk_lt x2
        have fa := cell_block x2 0
        have fb := cell_block x2 1
        go_wp2_with fail
        generalize w17.alloc (.cells #[.slice a19 n19 c19, .int .i64 off] 28) = V17 at *
        replace s19 := s19.keep hb
        replace B := B.trans (hb.mono B.size)
        clear hb fa fb hl1 x2
        refine (SameDecay_any a19 xa n19 c19 xn xc xs off V17 s19 (h3.keep B)).mono ?_
        rintro e w18 ⟨rfl, hb⟩
        replace B := B.trans (hb.mono B.size)
        clear hb s19
        go_wp2_with fail
        go_ret
        exact ⟨rfl, B⟩
      · have hz3 : (Z2 != 0) = true := by simpa using hz2
        clear hz2 hZ2
        go_wp2_with fail
        go_ret
        exact ⟨rfl, B⟩
  · have g1 : ¬ (300 : Int) < ((bs s).size : Int) := by rw [HZ.out]; omega
    have g3 : ¬ (60010 : Int) < ((bs s).size : Int) := by rw [HZ.out]; omega
    clear hA hC h300
    go_wp2_with fail
    refine Calmly.wp_region_mix 6 (.fl 0 <| .fl 3 <| .eff 1 <| .eff 2 <| .eff 4 <| .eff 5 <| .tail [6, 7]) (by kernel_rfl) (by kernel_rfl) ?_
    replace x1 := blk_keep x1 (Below.refl _ _).drew
    replace x2 := blk_keep x2 (Below.refl _ _).drew
    replace B := B.drew
    generalize World.drew _ = V at *
    have fx10 := cell_block x1 0
    have fx11 := cell_block x1 1
    have fx20 := cell_block x2 0
    have fx21 := cell_block x2 1
    have hk := Below.refl V.heap.size V
    go_wp2_with (first | ((with_reducible refine Calmly.is_fl ?_); refine Calmly.mix_fl rfl ?_ (fun _ _ => ?_); (first | exact .move _ | exact .load _ _ | exact .fieldAddr _ _ _ (by kernel_rfl) | exact .assign _ | exact .binOp _ _ _ _ _ rfl | exact .indexAddr _ _ _ | exact .len _ _ (by kernel_rfl) | exact .field _ _ _ | exact .extract _ _ | exact .pick _ _ _ | exact .build _ _ | exact .slice _ _ _ _ _ | exact .unOp _ _ _ rfl | exact .index _ _ _ | exact .max _ _ _ rfl rfl | exact .min _ _ _ rfl rfl | exact .nilCheck _ _ rfl)) | ((with_reducible refine Calmly.is_gl ?_); refine Calmly.mix_gl rfl rfl rfl ?_; first | ((first | with_reducible refine Calmly.gl_tt ?_ (fun _ _ => ?_) | with_reducible refine Calmly.gl_ff ?_ (fun _ _ => ?_)); (first | exact .move _ | exact .load _ _ | exact .fieldAddr _ _ _ (by kernel_rfl) | exact .assign _ | exact .binOp _ _ _ _ _ rfl | exact .indexAddr _ _ _ | exact .len _ _ (by kernel_rfl) | exact .field _ _ _ | exact .extract _ _ | exact .pick _ _ _ | exact .build _ _ | exact .slice _ _ _ _ _ | exact .unOp _ _ _ rfl | exact .index _ _ _ | exact .max _ _ _ rfl rfl | exact .min _ _ _ rfl rfl | exact .nilCheck _ _ rfl)) | with_reducible refine Calmly.gl_tf (fun _ _ => ?_) | with_reducible refine Calmly.gl_ft (fun _ _ => ?_)) | ((with_reducible refine Calmly.is_eff ?_); refine Calmly.mix_eff rfl (fun _ _ => ?_)) | ((with_reducible refine Calmly.is_gf ?_); refine Calmly.mix_gf rfl rfl rfl ?_; first | with_reducible refine Calmly.gf_tt (fun _ _ => ?_) | with_reducible refine Calmly.gf_ff (fun _ _ => ?_) | with_reducible refine Calmly.gf_tf (kept_of hk) (fun _ _ => ?_) | with_reducible refine Calmly.gf_ft (kept_of hk) (fun _ _ => ?_)) | ((with_reducible refine Calmly.is_tail ?_); first | refine Calmly.mix_tail_nil ?_ | refine Calmly.mix_tail rfl (fun _ _ => ?_)) | ((with_reducible refine Calmly.is_kept ?_); refine ⟨kept_of hk, ?_⟩) | (with_reducible refine Calmly.mix_alt ?_ ?_))
    refine (Copy_any a b n c m k ms ks V (h1.keep B) (h2.keep B) (by omega) (by omega)).mono ?_
    rintro e w1 ⟨a1, c1, b1, k1, _, rfl, o1, o2, _, _, hb1⟩
    replace hk := step_of hk hb1
    have s1 := o1.si
    have s2 := o2.si
    clear o1 o2
    go_wp2_with (first | ((with_reducible refine Calmly.is_fl ?_); refine Calmly.mix_fl rfl ?_ (fun _ _ => ?_); (first | exact .move _ | exact .load _ _ | exact .fieldAddr _ _ _ (by kernel_rfl) | exact .assign _ | exact .binOp _ _ _ _ _ rfl | exact .indexAddr _ _ _ | exact .len _ _ (by kernel_rfl) | exact .field _ _ _ | exact .extract _ _ | exact .pick _ _ _ | exact .build _ _ | exact .slice _ _ _ _ _ | exact .unOp _ _ _ rfl | exact .index _ _ _ | exact .max _ _ _ rfl rfl | exact .min _ _ _ rfl rfl | exact .nilCheck _ _ rfl)) | ((with_reducible refine Calmly.is_gl ?_); refine Calmly.mix_gl rfl rfl rfl ?_; first | ((first | with_reducible refine Calmly.gl_tt ?_ (fun _ _ => ?_) | with_reducible refine Calmly.gl_ff ?_ (fun _ _ => ?_)); (first | exact .move _ | exact .load _ _ | exact .fieldAddr _ _ _ (by kernel_rfl) | exact .assign _ | exact .binOp _ _ _ _ _ rfl | exact .indexAddr _ _ _ | exact .len _ _ (by kernel_rfl) | exact .field _ _ _ | exact .extract _ _ | exact .pick _ _ _ | exact .build _ _ | exact .slice _ _ _ _ _ | exact .unOp _ _ _ rfl | exact .index _ _ _ | exact .max _ _ _ rfl rfl | exact .min _ _ _ rfl rfl | exact .nilCheck _ _ rfl)) | with_reducible refine Calmly.gl_tf (fun _ _ => ?_) | with_reducible refine Calmly.gl_ft (fun _ _ => ?_)) | ((with_reducible refine Calmly.is_eff ?_); refine Calmly.mix_eff rfl (fun _ _ => ?_)) | ((with_reducible refine Calmly.is_gf ?_); refine Calmly.mix_gf rfl rfl rfl ?_; first | with_reducible refine Calmly.gf_tt (fun _ _ => ?_) | with_reducible refine Calmly.gf_ff (fun _ _ => ?_) | with_reducible refine Calmly.gf_tf (kept_of hk) (fun _ _ => ?_) | with_reducible refine Calmly.gf_ft (kept_of hk) (fun _ _ => ?_)) | ((with_reducible refine Calmly.is_tail ?_); first | refine Calmly.mix_tail_nil ?_ | refine Calmly.mix_tail rfl (fun _ _ => ?_)) | ((with_reducible refine Calmly.is_kept ?_); refine ⟨kept_of hk, ?_⟩) | (with_reducible refine Calmly.mix_alt ?_ ?_))
    refine (FormatFrame_any a1 b1 n c1 m k1 ms ks w1 (hv.keep (B.trans (hk.mono B.size))) s1 s2 (by omega) (by omega) i1 i2).mono ?_
    rintro e w2 ⟨rfl, hb2⟩
    replace hk := step_of hk hb2
    clear s1 s2
    go_wp2_with (first | ((with_reducible refine Calmly.is_fl ?_); refine Calmly.mix_fl rfl ?_ (fun _ _ => ?_); (first | exact .move _ | exact .load _ _ | exact .fieldAddr _ _ _ (by kernel_rfl) | exact .assign _ | exact .binOp _ _ _ _ _ rfl | exact .indexAddr _ _ _ | exact .len _ _ (by kernel_rfl) | exact .field _ _ _ | exact .extract _ _ | exact .pick _ _ _ | exact .build _ _ | exact .slice _ _ _ _ _ | exact .unOp _ _ _ rfl | exact .index _ _ _ | exact .max _ _ _ rfl rfl | exact .min _ _ _ rfl rfl | exact .nilCheck _ _ rfl)) | ((with_reducible refine Calmly.is_gl ?_); refine Calmly.mix_gl rfl rfl rfl ?_; first | ((first | with_reducible refine Calmly.gl_tt ?_ (fun _ _ => ?_) | with_reducible refine Calmly.gl_ff ?_ (fun _ _ => ?_)); (first | exact .move _ | exact .load _ _ | exact .fieldAddr _ _ _ (by kernel_rfl) | exact .assign _ | exact .binOp _ _ _ _ _ rfl | exact .indexAddr _ _ _ | exact .len _ _ (by kernel_rfl) | exact .field _ _ _ | exact .extract _ _ | exact .pick _ _ _ | exact .build _ _ | exact .slice _ _ _ _ _ | exact .unOp _ _ _ rfl | exact .index _ _ _ | exact .max _ _ _ rfl rfl | exact .min _ _ _ rfl rfl | exact .nilCheck _ _ rfl)) | with_reducible refine Calmly.gl_tf (fun _ _ => ?_) | with_reducible refine Calmly.gl_ft (fun _ _ => ?_)) | ((with_reducible refine Calmly.is_eff ?_); refine Calmly.mix_eff rfl (fun _ _ => ?_)) | ((with_reducible refine Calmly.is_gf ?_); refine Calmly.mix_gf rfl rfl rfl ?_; first | with_reducible refine Calmly.gf_tt (fun _ _ => ?_) | with_reducible refine Calmly.gf_ff (fun _ _ => ?_) | with_reducible refine Calmly.gf_tf (kept_of hk) (fun _ _ => ?_) | with_reducible refine Calmly.gf_ft (kept_of hk) (fun _ _ => ?_)) | ((with_reducible refine Calmly.is_tail ?_); first | refine Calmly.mix_tail_nil ?_ | refine Calmly.mix_tail rfl (fun _ _ => ?_)) | ((with_reducible refine Calmly.is_kept ?_); refine ⟨kept_of hk, ?_⟩) | (with_reducible refine Calmly.mix_alt ?_ ?_))
    refine (CopyDecay_any xa xn xc xs off w2 ((h3.keep B).keep hk) (by omega)).mono ?_
    rintro e w3 ⟨a3, c3, rfl, s3, hb3⟩
    replace hk := step_of hk hb3
    go_wp2_with (first | ((with_reducible refine Calmly.is_fl ?_); refine Calmly.mix_fl rfl ?_ (fun _ _ => ?_); (first | exact .move _ | exact .load _ _ | exact .fieldAddr _ _ _ (by kernel_rfl) | exact .assign _ | exact .binOp _ _ _ _ _ rfl | exact .indexAddr _ _ _ | exact .len _ _ (by kernel_rfl) | exact .field _ _ _ | exact .extract _ _ | exact .pick _ _ _ | exact .build _ _ | exact .slice _ _ _ _ _ | exact .unOp _ _ _ rfl | exact .index _ _ _ | exact .max _ _ _ rfl rfl | exact .min _ _ _ rfl rfl | exact .nilCheck _ _ rfl)) | ((with_reducible refine Calmly.is_gl ?_); refine Calmly.mix_gl rfl rfl rfl ?_; first | ((first | with_reducible refine Calmly.gl_tt ?_ (fun _ _ => ?_) | with_reducible refine Calmly.gl_ff ?_ (fun _ _ => ?_)); (first | exact .move _ | exact .load _ _ | exact .fieldAddr _ _ _ (by kernel_rfl) | exact .assign _ | exact .binOp _ _ _ _ _ rfl | exact .indexAddr _ _ _ | exact .len _ _ (by kernel_rfl) | exact .field _ _ _ | exact .extract _ _ | exact .pick _ _ _ | exact .build _ _ | exact .slice _ _ _ _ _ | exact .unOp _ _ _ rfl | exact .index _ _ _ | exact .max _ _ _ rfl rfl | exact .min _ _ _ rfl rfl | exact .nilCheck _ _ rfl)) | with_reducible refine Calmly.gl_tf (fun _ _ => ?_) | with_reducible refine Calmly.gl_ft (fun _ _ => ?_)) | ((with_reducible refine Calmly.is_eff ?_); refine Calmly.mix_eff rfl (fun _ _ => ?_)) | ((with_reducible refine Calmly.is_gf ?_); refine Calmly.mix_gf rfl rfl rfl ?_; first | with_reducible refine Calmly.gf_tt (fun _ _ => ?_) | with_reducible refine Calmly.gf_ff (fun _ _ => ?_) | with_reducible refine Calmly.gf_tf (kept_of hk) (fun _ _ => ?_) | with_reducible refine Calmly.gf_ft (kept_of hk) (fun _ _ => ?_)) | ((with_reducible refine Calmly.is_tail ?_); first | refine Calmly.mix_tail_nil ?_ | refine Calmly.mix_tail rfl (fun _ _ => ?_)) | ((with_reducible refine Calmly.is_kept ?_); refine ⟨kept_of hk, ?_⟩) | (with_reducible refine Calmly.mix_alt ?_ ?_))
    refine (FormatDecay_any a3 xn c3 xs off w3 (hv.keep (B.trans (hk.mono B.size))) s3 (by omega) i3 o3 o4).mono ?_
    rintro e w4 ⟨rfl, hb4⟩
    replace hk := step_of hk hb4
    clear s3 hb1 hb2 hb3 hb4
    go_wp2_with (first | ((with_reducible refine Calmly.is_fl ?_); refine Calmly.mix_fl rfl ?_ (fun _ _ => ?_); (first | exact .move _ | exact .load _ _ | exact .fieldAddr _ _ _ (by kernel_rfl) | exact .assign _ | exact .binOp _ _ _ _ _ rfl | exact .indexAddr _ _ _ | exact .len _ _ (by kernel_rfl) | exact .field _ _ _ | exact .extract _ _ | exact .pick _ _ _ | exact .build _ _ | exact .slice _ _ _ _ _ | exact .unOp _ _ _ rfl | exact .index _ _ _ | exact .max _ _ _ rfl rfl | exact .min _ _ _ rfl rfl | exact .nilCheck _ _ rfl)) | ((with_reducible refine Calmly.is_gl ?_); refine Calmly.mix_gl rfl rfl rfl ?_; first | ((first | with_reducible refine Calmly.gl_tt ?_ (fun _ _ => ?_) | with_reducible refine Calmly.gl_ff ?_ (fun _ _ => ?_)); (first | exact .move _ | exact .load _ _ | exact .fieldAddr _ _ _ (by kernel_rfl) | exact .assign _ | exact .binOp _ _ _ _ _ rfl | exact .indexAddr _ _ _ | exact .len _ _ (by kernel_rfl) | exact .field _ _ _ | exact .extract _ _ | exact .pick _ _ _ | exact .build _ _ | exact .slice _ _ _ _ _ | exact .unOp _ _ _ rfl | exact .index _ _ _ | exact .max _ _ _ rfl rfl | exact .min _ _ _ rfl rfl | exact .nilCheck _ _ rfl)) | with_reducible refine Calmly.gl_tf (fun _ _ => ?_) | with_reducible refine Calmly.gl_ft (fun _ _ => ?_)) | ((with_reducible refine Calmly.is_eff ?_); refine Calmly.mix_eff rfl (fun _ _ => ?_)) | ((with_reducible refine Calmly.is_gf ?_); refine Calmly.mix_gf rfl rfl rfl ?_; first | with_reducible refine Calmly.gf_tt (fun _ _ => ?_) | with_reducible refine Calmly.gf_ff (fun _ _ => ?_) | with_reducible refine Calmly.gf_tf (kept_of hk) (fun _ _ => ?_) | with_reducible refine Calmly.gf_ft (kept_of hk) (fun _ _ => ?_)) | ((with_reducible refine Calmly.is_tail ?_); first | refine Calmly.mix_tail_nil ?_ | refine Calmly.mix_tail rfl (fun _ _ => ?_)) | ((with_reducible refine Calmly.is_kept ?_); refine ⟨kept_of hk, ?_⟩) | (with_reducible refine Calmly.mix_alt ?_ ?_))
    replace x1 := blk_keep x1 hk
    replace x2 := blk_keep x2 hk
    replace B := B.trans (hk.mono B.size)
    clear fx10 fx11 fx20 fx21 hk

    refine (ParseFrame_any s w4 (hv.keep B) hs2).mono ?_
    rintro e w5 ⟨a9, n9, c9, b9, m9, k9, rfl, s9, t9, hb⟩
    dsimp only
    replace x1 := blk_keep x1 hb
    replace x2 := blk_keep x2 hb
    replace B := B.trans (hb.mono B.size)
    clear hb
    go_wp2_with fail
    have hb : Below w5.heap.size w5 (w5.alloc (.cells #[.slice a9 n9 c9, .slice b9 m9 k9] 52)) := (Below.refl _ _).alloc (Nat.le_refl _) _
    have y9 := alloc_new w5 (.cells #[.slice a9 n9 c9, .slice b9 m9 k9] 52)
    generalize w5.alloc (.cells #[.slice a9 n9 c9, .slice b9 m9 k9] 52) = V5 at *
    replace x1 := blk_keep x1 hb
    replace x2 := blk_keep x2 hb
    replace s9 := s9.keep hb
    replace t9 := t9.keep hb
    replace B := B.trans (hb.mono B.size)
    clear hb
    refine (ParseDecay_any s V5 (hv.keep B) hs2).mono ?_
    rintro e w6 ⟨a11, n11, c11, rfl, s11, hb⟩
    dsimp only
    replace x1 := blk_keep x1 hb
    replace x2 := blk_keep x2 hb
    replace y9 := blk_keep y9 hb
    replace s9 := s9.keep hb
    replace t9 := t9.keep hb
    replace B := B.trans (hb.mono B.size)
    clear hb
    obtain ⟨q2, hq2⟩ : ∃ q, (pdV s).2 = q := ⟨_, rfl⟩
    rw [hq2]
    go_wp2_with fail
    have hb : Below w6.heap.size w6 (w6.alloc (.cells #[.slice a11 n11 c11, .int .i64 q2] 28)) := (Below.refl _ _).alloc (Nat.le_refl _) _
    have y11 := alloc_new w6 (.cells #[.slice a11 n11 c11, .int .i64 q2] 28)
    generalize w6.alloc (.cells #[.slice a11 n11 c11, .int .i64 q2] 28) = V6 at *
    replace x1 := blk_keep x1 hb
    replace x2 := blk_keep x2 hb
    replace y9 := blk_keep y9 hb
    replace s9 := s9.keep hb
    replace t9 := t9.keep hb
    replace s11 := s11.keep hb
    replace B := B.trans (hb.mono B.size)
    clear hb
    refine (rParseFrame_any s V6 hs2).mono ?_
    rintro e w7 ⟨a13, n13, c13, b13, m13, k13, rfl, s13, t13, hb⟩
    dsimp only
    replace x1 := blk_keep x1 hb
    replace x2 := blk_keep x2 hb
    replace y9 := blk_keep y9 hb
    replace y11 := blk_keep y11 hb
    replace s9 := s9.keep hb
    replace t9 := t9.keep hb
    replace s11 := s11.keep hb
    replace B := B.trans (hb.mono B.size)
    clear hb
    go_wp2_with fail
    have hb : Below w7.heap.size w7 (w7.alloc (.cells #[.slice a13 n13 c13, .slice b13 m13 k13] 52)) := (Below.refl _ _).alloc (Nat.le_refl _) _
    have y13 := alloc_new w7 (.cells #[.slice a13 n13 c13, .slice b13 m13 k13] 52)
    generalize w7.alloc (.cells #[.slice a13 n13 c13, .slice b13 m13 k13] 52) = V7 at *
    replace x1 := blk_keep x1 hb
    replace x2 := blk_keep x2 hb
    replace y9 := blk_keep y9 hb
    replace y11 := blk_keep y11 hb
    replace s9 := s9.keep hb
    replace t9 := t9.keep hb
    replace s11 := s11.keep hb
    replace s13 := s13.keep hb
    replace t13 := t13.keep hb
    replace B := B.trans (hb.mono B.size)
    clear hb
    refine (rParseDecay_any s V7 hs2).mono ?_
    rintro e w8 ⟨a15, n15, c15, rfl, s15, hb⟩
    dsimp only
    rw [hq2]
    clear hq2
    replace x1 := blk_keep x1 hb
    replace x2 := blk_keep x2 hb
    replace y9 := blk_keep y9 hb
    replace y11 := blk_keep y11 hb
    replace y13 := blk_keep y13 hb
    replace s9 := s9.keep hb
    replace t9 := t9.keep hb
    replace s11 := s11.keep hb
    replace s13 := s13.keep hb
    replace t13 := t13.keep hb
    replace B := B.trans (hb.mono B.size)
    clear hb
    have fx1a := cell_block x1 0
    have fx1b := cell_block x1 1
    have hb : Below w8.heap.size w8 (w8.alloc (.cells #[.slice a15 n15 c15, .int .i64 q2] 28)) := (Below.refl _ _).alloc (Nat.le_refl _) _
    have hl1 := blk_lt x1
    have y15 := alloc_new w8 (.cells #[.slice a15 n15 c15, .int .i64 q2] 28)
    go_wp2_with fail
    generalize w8.alloc (.cells #[.slice a15 n15 c15, .int .i64 q2] 28) = V8 at *
    replace x1 := blk_keep x1 hb
    replace x2 := blk_keep x2 hb
    replace y9 := blk_keep y9 hb
    replace y11 := blk_keep y11 hb
    replace y13 := blk_keep y13 hb
    replace s9 := s9.keep hb
    replace t9 := t9.keep hb
    replace s11 := s11.keep hb
    replace s13 := s13.keep hb
    replace t13 := t13.keep hb
    replace s15 := s15.keep hb
    replace B := B.trans (hb.mono B.size)
    clear hb fx1a fx1b hl1
    refine (rFormatFrame_any a b n c m k ms ks V8 (h1.keep B) (h2.keep B) (by omega) (by omega) i1 i2).mono ?_
    rintro e w9 ⟨rfl, hb⟩
    replace x1 := blk_keep x1 hb
    replace x2 := blk_keep x2 hb
    replace y9 := blk_keep y9 hb
    replace y11 := blk_keep y11 hb
    replace y13 := blk_keep y13 hb
    replace y15 := blk_keep y15 hb
    replace s9 := s9.keep hb
    replace t9 := t9.keep hb
    replace s11 := s11.keep hb
    replace s13 := s13.keep hb
    replace t13 := t13.keep hb
    replace s15 := s15.keep hb
    replace B := B.trans (hb.mono B.size)
    clear hb

    have fa := cell_block x2 0
    have fb := cell_block x2 1
    go_wp2_with fail
    refine (rFormatDecay_any xa xn xc xs off w9 (h3.keep B) (by omega) i3 o3 o4).mono ?_
    rintro e w10 ⟨rfl, hb⟩
    clear fa fb
    replace x1 := blk_keep x1 hb
    replace x2 := blk_keep x2 hb
    replace y9 := blk_keep y9 hb
    replace y11 := blk_keep y11 hb
    replace y13 := blk_keep y13 hb
    replace y15 := blk_keep y15 hb
    replace s9 := s9.keep hb
    replace t9 := t9.keep hb
    replace s11 := s11.keep hb
    replace s13 := s13.keep hb
    replace t13 := t13.keep hb
    replace s15 := s15.keep hb
    replace B := B.trans (hb.mono B.size)
    clear hb

    have fa := cell_block y9 0
    have fb := cell_block y9 1
    have fc := cell_block y13 0
    have fd := cell_block y13 1
    go_wp2_with fail
    refine (Same_any a9 b9 a13 b13 n9 c9 m9 k9 n13 c13 m13 k13 _ _ w10 s9 t9 s13 t13).mono ?_
    rintro e w11 ⟨rfl, hb⟩
    clear fa fb fc fd
    replace x1 := blk_keep x1 hb
    replace x2 := blk_keep x2 hb
    replace y9 := blk_keep y9 hb
    replace y11 := blk_keep y11 hb
    replace y13 := blk_keep y13 hb
    replace y15 := blk_keep y15 hb
    replace s9 := s9.keep hb
    replace t9 := t9.keep hb
    replace s11 := s11.keep hb
    replace s13 := s13.keep hb
    replace t13 := t13.keep hb
    replace s15 := s15.keep hb
    replace B := B.trans (hb.mono B.size)
    clear hb

    have fa := cell_block y11 0
    have fb := cell_block y11 1
    have fc := cell_block y15 0
    have fd := cell_block y15 1
    have fe := cell_block x1 0
    have ff := cell_block x1 1
    go_wp2_with fail
    refine (SameDecay_any a11 a15 n11 c11 n15 c15 _ q2 w11 s11 s15).mono ?_
    rintro e w12 ⟨rfl, hb⟩
    replace x1 := blk_keep x1 hb
    replace x2 := blk_keep x2 hb
    replace B := B.trans (hb.mono B.size)
    clear fa fb fc fd fe ff hb y9 y11 y13 y15 s9 t9 s11 s13 t13 s15
    have fa := cell_block x1 0
    have fb := cell_block x1 1
    go_wp2_with fail
    refine (FrameErr_any a b n c m k ms ks w12 (h1.keep B) (h2.keep B)).mono ?_
    rintro e w13 ⟨rfl, hb⟩
    replace x1 := blk_keep x1 hb
    replace x2 := blk_keep x2 hb
    replace B := B.trans (hb.mono B.size)
    clear fa fb hb
    have fa := cell_block x1 0
    have fb := cell_block x1 1
    have fc := cell_block x2 0
    have fd := cell_block x2 1
    obtain ⟨Z, hZ⟩ : ∃ Z, (checkF ms ks).2 = Z := ⟨_, rfl⟩
    rw [hZ]
    by_cases hz : Z = 0
    · subst hz
      have hbk := pf_back hZ
      have HBK := Lib.hid hbk
      have lw := words_len20 i1
      have lw2 := words_len20 i2
      have hlm := h1.len
      have hlk := h2.len
      have hlf : (fmtF ms ks).length ≤ 1000000 := by unfold fmtF; rw [List.length_append, List.length_cons]; omega
      clear hbk hZ lw lw2 hlm hlk
      go_wp2_with fail
      refine (ParseFrame_any (fmtF ms ks) w13 (hv.keep B) hlf).mono ?_
      rintro e w14 ⟨a17, n17, c17, b17, m17, k17, rfl, s17, t17, hb⟩
      rw [HBK.out.2] at s17 t17
      rw [HBK.out.1]
      dsimp only at s17 t17 ⊢
      replace x1 := blk_keep x1 hb
      replace x2 := blk_keep x2 hb
      replace B := B.trans (hb.mono B.size)
      clear hb fa fb fc fd
      have hb : Below w14.heap.size w14 (w14.alloc (.cells #[.slice a17 n17 c17, .slice b17 m17 k17] 52)) := (Below.refl _ _).alloc (Nat.le_refl _) _
      have y17 := alloc_new w14 (.cells #[.slice a17 n17 c17, .slice b17 m17 k17] 52)
      have hl1 := blk_lt x1
      have fa := cell_block x1 0
      have fb := cell_block x1 1
      go_wp2_with fail
      generalize w14.alloc (.cells #[.slice a17 n17 c17, .slice b17 m17 k17] 52) = V14 at *
      replace x1 := blk_keep x1 hb
      replace x2 := blk_keep x2 hb
      replace s17 := s17.keep hb
      replace t17 := t17.keep hb
      replace B := B.trans (hb.mono B.size)
      clear hb fa fb hl1
      refine (Same_any a17 b17 a b n17 c17 m17 k17 n c m k ms ks V14 s17 t17 (h1.keep B) (h2.keep B)).mono ?_
      rintro e w15 ⟨rfl, hb⟩
      replace x2 := blk_keep x2 hb
      replace B := B.trans (hb.mono B.size)
      clear hb x1 y17 s17 t17
      have fa := cell_block x2 0
      have fb := cell_block x2 1
      go_wp2_with fail
      refine (DecayErr_any xa xn xc xs off w15 (h3.keep B)).mono ?_
      rintro e w16 ⟨rfl, hb⟩
      replace x2 := blk_keep x2 hb
      replace B := B.trans (hb.mono B.size)
      clear hb fa fb
      obtain ⟨Z2, hZ2⟩ : ∃ Z2, decayE xs off = Z2 := ⟨_, rfl⟩
      rw [hZ2]
      by_cases hz2 : Z2 = 0
      · subst hz2
        have hbk := pd_back hZ2
        have HBK := Lib.hid hbk
        have lw := words_len20 i3
        have lw2 := words_len20 (xs := [off]) (fun x hx => by have := List.mem_singleton.1 hx; omega)
        have hlm := h3.len
        have hlf : (fmtD xs off).length ≤ 1000000 := by
          unfold fmtD
          rw [List.length_append, List.length_cons]
          simp only [List.length_cons, List.length_nil] at lw2
          omega
        clear hbk hZ2 lw lw2 hlm
        go_wp2_with fail
        refine (ParseDecay_any (fmtD xs off) w16 (hv.keep B) hlf).mono ?_
        rintro e w17 ⟨a19, n19, c19, rfl, s19, hb⟩
        rw [HBK.out.2] at s19
        rw [HBK.out.2, HBK.out.1]
        dsimp only at s19 ⊢
        replace x2 := blk_keep x2 hb
        replace B := B.trans (hb.mono B.size)
        clear hb
        have hb : Below w17.heap.size w17 (w17.alloc (.cells #[.slice a19 n19 c19, .int .i64 off] 28)) := (Below.refl _ _).alloc (Nat.le_refl _) _
        have hl1 := blk_lt x2
        have fa := cell_block x2 0
        have fb := cell_block x2 1
        go_wp2_with fail
        generalize w17.alloc (.cells #[.slice a19 n19 c19, .int .i64 off] 28) = V17 at *
        replace s19 := s19.keep hb
        replace B := B.trans (hb.mono B.size)
        clear hb fa fb hl1 x2
        refine (SameDecay_any a19 xa n19 c19 xn xc xs off V17 s19 (h3.keep B)).mono ?_
        rintro e w18 ⟨rfl, hb⟩
        replace B := B.trans (hb.mono B.size)
        clear hb s19
        go_wp2_with fail
        go_ret
        exact ⟨rfl, B⟩
      · have hz3 : (Z2 != 0) = true := by simpa using hz2
        clear hz2 hZ2
        go_wp2_with fail
        go_ret
        exact ⟨rfl, B⟩
    · have hz1 : (Z == 0) = false := by rw [beq_eq_false_iff_ne]; exact hz
      clear hz hZ
      go_wp2_with fail
      refine (DecayErr_any xa xn xc xs off w13 (h3.keep B)).mono ?_
      rintro e w16 ⟨rfl, hb⟩
      replace x2 := blk_keep x2 hb
      replace B := B.trans (hb.mono B.size)
      clear hb fa fb fc fd
      obtain ⟨Z2, hZ2⟩ : ∃ Z2, decayE xs off = Z2 := ⟨_, rfl⟩
      rw [hZ2]
      by_cases hz2 : Z2 = 0
      · subst hz2
        have hbk := pd_back hZ2
        have HBK := Lib.hid hbk
        have lw := words_len20 i3
        have lw2 := words_len20 (xs := [off]) (fun x hx => by have := List.mem_singleton.1 hx; omega)
        have hlm := h3.len
        have hlf : (fmtD xs off).length ≤ 1000000 := by
          unfold fmtD
          rw [List.length_append, List.length_cons]
          simp only [List.length_cons, List.length_nil] at lw2
          omega
        clear hbk hZ2 lw lw2 hlm
        go_wp2_with fail
        refine (ParseDecay_any (fmtD xs off) w16 (hv.keep B) hlf).mono ?_
        rintro e w17 ⟨a19, n19, c19, rfl, s19, hb⟩
        rw [HBK.out.2] at s19
        rw [HBK.out.2, HBK.out.1]
        dsimp only at s19 ⊢
        replace x2 := blk_keep x2 hb
        replace B := B.trans (hb.mono B.size)
        clear hb
        have hb : Below w17.heap.size w17 (w17.alloc (.cells #[.slice a19 n19 c19, .int .i64 off] 28)) := (Below.refl _ _).alloc (Nat.le_refl _) _
        have hl1 := blk_lt x2
        have fa := cell_block x2 0
        have fb := cell_block x2 1
        go_wp2_with fail
        generalize w17.alloc (.cells #[.slice a19 n19 c19, .int .i64 off] 28) = V17 at *
        replace s19 := s19.keep hb
        replace B := B.trans (hb.mono B.size)
        clear hb fa fb hl1 x2
        refine (SameDecay_any a19 xa n19 c19 xn xc xs off V17 s19 (h3.keep B)).mono ?_
        rintro e w18 ⟨rfl, hb⟩
        replace B := B.trans (hb.mono B.size)
        clear hb s19
        go_wp2_with fail
        go_ret
        exact ⟨rfl, B⟩
      · have hz3 : (Z2 != 0) = true := by simpa using hz2
        clear hz2 hZ2
        go_wp2_with fail
        go_ret
        exact ⟨rfl, B⟩
end Go.Proofs.YteigmjlfpmdmoaaGreatDoor
