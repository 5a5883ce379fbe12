/- Contracts of chapter 6's package: frames. -/
import Derived.Test.YtmaidjankakppaaMa
namespace Go.Proofs.Ytmaidjankakppaa
open Go.RowKit
open Calmly (Kept)

set_option maxHeartbeats 1000000 in
theorem above_any (a b : Option Addr) (n c m d : Nat) (ks : List Int) (i : Int) (w : World) (h1 : SI w b m d ks) (hi : 0 ≤ i) (hi2 : i < 9223372036854775807) :
    Calls Try.prog 95 #[.agg #[.slice a n c, .slice b m d], .int .i64 i] w fun e w' => e = .returned (.int .i64 (ks[i.toNat + 1]?.getD 0)) ∧ Below w.heap.size w w' := by
  obtain ⟨l1, l2⟩ : m ≤ ks.length ∧ ks.length ≤ m := by have := h1.len; omega
  have m1 := h1.max
  have c1 := h1.cap
  have hb : ∀ o, Below w.heap.size w (w.alloc o) := fun o => (Below.refl _ _).alloc (Nat.le_refl _) _
  by_cases hlt : i + 1 < m
  · obtain ⟨b1, o1, rfl, hc1⟩ := h1.at_ (by omega)
    have e1 := hc1 (i.toNat + 1) (by omega)
    clear hc1
    have hlt' := cell_lt e1
    have hj : (i + 1).toNat = i.toNat + 1 := by omega
    go_enter Try.func95, Try.ntmps95
    go_wp2
    go_ret
    exact ⟨rfl, hb _⟩
  · have hge : (m : Int) ≤ i + 1 := by omega
    go_enter Try.func95, Try.ntmps95
    go_wp2
    go_ret
    refine ⟨ret_int ?_, hb _⟩
    rw [List.getElem?_eq_none (by omega)]
    rfl

theorem gcds_two (x y : Int) : gcds [x, y] = Int.gcd x y := by
  show Int.gcd ((Int.gcd 0 x : Nat) : Int) y = _
  simp [Int.gcd]

set_option maxRecDepth 100000 in
set_option maxHeartbeats 1000000 in
theorem fraction_any (x y : Int) (w : World) (hx1 : -9223372036854775807 ≤ x) (hx2 : x ≤ 9223372036854775807) (hy1 : 0 < y) (hy2 : y ≤ 9223372036854775807) :
    Calls Try.prog 96 #[.int .i64 x, .int .i64 y] w fun e w' => e = .returned (.agg #[.int .i64 (x.tdiv (Int.gcd x y)), .int .i64 (y.tdiv (Int.gcd x y))]) ∧ Below w.heap.size w w' := by
  go_enter Try.func96, Try.ntmps96
  go_wp2_with fail
  refine (divisor_any _ 2 2 [x, y] _ (SI.two _ x y _ (by simp)) (by simp; omega)).mono ?_
  rintro e w1 ⟨rfl, k, rfl⟩
  rw [gcds_two]
  have hg0 : (0 : Int) < Int.gcd x y := by have := Int.gcd_pos_of_ne_zero_right (a := x) (b := y) (by omega); omega
  have hg1 : (Int.gcd x y : Int) ≤ 9223372036854775807 := by have := Int.gcd_le_right x hy1; omega
  obtain ⟨g, hgg⟩ : ∃ g : Int, (Int.gcd x y : Int) = g := ⟨_, rfl⟩
  rw [hgg] at hg0 hg1 ⊢
  have HGG := Lib.hid hgg
  clear hgg
  have hg2 : (g == 0) = false := by simp; omega
  have b1 : -9223372036854775807 ≤ x.tdiv g ∧ x.tdiv g ≤ 9223372036854775807 := by
    have := Int.natAbs_tdiv_le_natAbs x g
    omega
  have b2 : -9223372036854775807 ≤ y.tdiv g ∧ y.tdiv g ≤ 9223372036854775807 := by
    have := Int.natAbs_tdiv_le_natAbs y g
    omega
  obtain ⟨b11, b12⟩ := b1
  obtain ⟨b21, b22⟩ := b2
  go_wp2_with fail
  refine Calmly.wp_region_mix 6 (.fl 0 <| .fl 1 <| .fl 2 <| .fl 3 <| .fl 4 <| .fl 5 <| .tail [6, 7]) (by kernel_rfl) (by kernel_rfl) ?_
  go_wp2_with (first | ((with_reducible refine Calmly.is_fl ?_); refine Calmly.mix_fl rfl ?_ (fun _ _ => ?_); (first | exact .move _ | exact .load _ _ | exact .fieldAddr _ _ _ (by kernel_rfl) | exact .assign _ | exact .binOp _ _ _ _ _ rfl | exact .indexAddr _ _ _ | exact .len _ _ (by kernel_rfl) | exact .field _ _ _ | exact .extract _ _ | exact .pick _ _ _ | exact .build _ _ | exact .slice _ _ _ _ _ | exact .unOp _ _ _ rfl | exact .index _ _ _ | exact .max _ _ _ rfl rfl | exact .min _ _ _ rfl rfl)) | ((with_reducible refine Calmly.is_gl ?_); refine Calmly.mix_gl rfl rfl rfl ?_; first | ((first | with_reducible refine Calmly.gl_tt ?_ (fun _ _ => ?_) | with_reducible refine Calmly.gl_ff ?_ (fun _ _ => ?_)); (first | exact .move _ | exact .load _ _ | exact .fieldAddr _ _ _ (by kernel_rfl) | exact .assign _ | exact .binOp _ _ _ _ _ rfl | exact .indexAddr _ _ _ | exact .len _ _ (by kernel_rfl) | exact .field _ _ _ | exact .extract _ _ | exact .pick _ _ _ | exact .build _ _ | exact .slice _ _ _ _ _ | exact .unOp _ _ _ rfl | exact .index _ _ _ | exact .max _ _ _ rfl rfl | exact .min _ _ _ rfl rfl)) | with_reducible refine Calmly.gl_tf (fun _ _ => ?_) | with_reducible refine Calmly.gl_ft (fun _ _ => ?_)) | ((with_reducible refine Calmly.is_eff ?_); refine Calmly.mix_eff rfl (fun _ _ => ?_)) | ((with_reducible refine Calmly.is_gf ?_); refine Calmly.mix_gf rfl rfl rfl ?_; first | with_reducible refine Calmly.gf_tt (fun _ _ => ?_) | with_reducible refine Calmly.gf_ff (fun _ _ => ?_) | with_reducible refine Calmly.gf_tf (kept_of hk) (fun _ _ => ?_) | with_reducible refine Calmly.gf_ft (kept_of hk) (fun _ _ => ?_)) | ((with_reducible refine Calmly.is_tail ?_); first | refine Calmly.mix_tail_nil ?_ | refine Calmly.mix_tail rfl (fun _ _ => ?_)) | ((with_reducible refine Calmly.is_kept ?_); refine ⟨kept_of hk, ?_⟩) | (with_reducible refine Calmly.mix_alt ?_ ?_))
  refine bodyPost_ret (v := .agg #[.int .i64 (x.tdiv g), .int .i64 (y.tdiv g)]) (by simp [results, Try.results96, go_sem]) rfl ⟨by rw [HGG.out], ?_⟩
  exact ((below_drewN (((Below.refl _ _).alloc (Nat.le_refl _) _).alloc (by simp) _) k).drew.setCell (by simp) _).setCell (by simp) _
/-- The first storey that is not valid. -/
def badF : Nat → List Int → List Int → Int × Int
  | _, [], _ => (0, 0)
  | i, m :: ms, ks => if wIn m 1 10 && wIn (ks.head?.getD 0) 1 20 then badF (i + 1) ms ks.tail else ((i : Int), 2)
theorem badF_drop (ms ks : List Int) (k : Nat) (h : k < ms.length) : badF k (ms.drop k) (ks.drop k) =
    if wIn (ms[k]?.getD 0) 1 10 && wIn (ks[k]?.getD 0) 1 20 then badF (k + 1) (ms.drop (k + 1)) (ks.drop (k + 1)) else ((k : Int), 2) := by
  rw [List.drop_eq_getElem_cons h]
  simp [badF, h]
/-- The index and the error of a frame. -/
def checkF (ms ks : List Int) : Int × Int := if ms.length = 0 ∨ ks.length ≠ ms.length then (0, 10) else if 4 < ms.length then (0, 8) else badF 0 ms ks
theorem checkF_shape {ms ks : List Int} (h : ms.length = 0 ∨ ks.length ≠ ms.length) : checkF ms ks = (0, 10) := by unfold checkF; rw [if_pos h]
theorem checkF_large {ms ks : List Int} (h : ¬ (ms.length = 0 ∨ ks.length ≠ ms.length)) (h2 : 4 < ms.length) : checkF ms ks = (0, 8) := by unfold checkF; rw [if_neg h, if_pos h2]
theorem checkF_rest {ms ks : List Int} (h : ¬ (ms.length = 0 ∨ ks.length ≠ ms.length)) (h2 : ¬ 4 < ms.length) : checkF ms ks = badF 0 ms ks := by unfold checkF; rw [if_neg h, if_neg h2]

theorem ret_two {a b c d : Int} (h : (a, b) = (c, d)) : Ending.returned (Value.tuple #[.int .i64 a, .int .i64 b]) = .returned (.tuple #[.int .i64 c, .int .i64 d]) := by cases h; rfl

set_option maxRecDepth 100000 in
set_option maxHeartbeats 2000000 in
theorem rCheckFrame_any (a b : Option Addr) (n c m d : Nat) (ms ks : List Int) (w : World) (h1 : SI w a n c ms) (h2 : SI w b m d ks) :
    Calls Try.prog 21 #[.agg #[.slice a n c, .slice b m d]] w fun e w' => e = .returned (.tuple #[.int .i64 (checkF ms ks).1, .int .i64 (checkF ms ks).2]) ∧ Below w.heap.size w w' := by
  obtain ⟨l1, l2⟩ : n ≤ ms.length ∧ ms.length ≤ n := by have := h1.len; omega
  obtain ⟨k1, k2⟩ : m ≤ ks.length ∧ ks.length ≤ m := by have := h2.len; omega
  have m1 := h1.max
  have c1 := h1.cap
  have m2 := h2.max
  have c2 := h2.cap
  have hb : ∀ o, Below w.heap.size w (w.alloc o) := fun o => (Below.refl _ _).alloc (Nat.le_refl _) _
  by_cases hz : n = 0
  · have hn : ((n : Int) == 0) = true := by simp [hz]
    have hr := checkF_shape (ms := ms) (ks := ks) (.inl (by omega))
    have HR := Lib.hid hr
    clear hr
    go_enter Try.func21, Try.ntmps21
    go_wp2
    go_ret2
    exact ⟨ret_two HR.out.symm, hb _⟩
  have hn : ((n : Int) == 0) = false := by simp [hz]
  by_cases he : m = n
  case neg =>
    have hn2 : ((m : Int) != (n : Int)) = true := by simp; omega
    have hr := checkF_shape (ms := ms) (ks := ks) (.inr (by omega))
    have HR := Lib.hid hr
    clear hr
    go_enter Try.func21, Try.ntmps21
    go_wp2
    go_ret2
    exact ⟨ret_two HR.out.symm, hb _⟩
  subst he
  by_cases hl : 4 < m
  · have hr := checkF_large (ms := ms) (ks := ks) (by omega) (by omega)
    have HR := Lib.hid hr
    clear hr
    go_enter Try.func21, Try.ntmps21
    go_wp2
    go_ret2
    exact ⟨ret_two HR.out.symm, hb _⟩
  have hr := checkF_rest (ms := ms) (ks := ks) (by omega) (by omega)
  have HR := Lib.hid hr
  clear hr
  go_enter Try.func21, Try.ntmps21
  go_wp2
  go_loop [4] (fun i => ∃ k : Nat, k ≤ m ∧ i = .int .i64 k ∧ badF 0 ms ks = badF k (ms.drop k) (ks.drop k)) (fun i => m - (intOf i).toNat)
  case atStart => exact ⟨0, by omega, rfl, rfl⟩
  case round =>
    obtain ⟨k, hk, rfl, ht⟩ := hrel
    have HT := Lib.hid ht
    clear ht
    by_cases hlt : k < m
    · obtain ⟨b1, o1, rfl, hc1⟩ := h1.at_ (by omega)
      obtain ⟨b2, o2, rfl, hc2⟩ := h2.at_ (by omega)
      have e1 := hc1 k hlt
      have e2 := hc2 k hlt
      clear hc1 hc2
      have hlt1 := cell_lt e1
      have hlt2 := cell_lt e2
      have hd := badF_drop ms ks k (by omega)
      have HD := Lib.hid hd
      clear hd
      have hi : (k : Int) < (m : Int) := by omega
      have hi0 : (0 : Int) ≤ (k : Int) := by omega
      go_wp2_with fail
      refine (within_any _ 1 10 _).mono ?_
      rintro e w1 ⟨rfl, rfl⟩
      cases hw : wIn (ms[k]?.getD 0) 1 10
      · go_wp2_with fail
        go_ret2
        refine ⟨ret_two ?_, hb _⟩
        rw [HR.out, HT.out, HD.out, hw]
        rfl
      · go_wp2_with fail
        refine (within_any _ 1 20 _).mono ?_
        rintro e w1 ⟨rfl, rfl⟩
        cases hv : wIn (ks[k]?.getD 0) 1 20
        · go_wp2_with fail
          go_ret2
          refine ⟨ret_two ?_, hb _⟩
          rw [HR.out, HT.out, HD.out, hw, hv]
          rfl
        · go_wp2_with fail
          go_round
          case rel => exact ⟨k + 1, by omega, by go_num, by rw [HT.out, HD.out, hw, hv]; rfl⟩
          case measure => simp [intOf]; omega
    · have hle : (m : Int) ≤ (k : Int) := by omega
      go_wp2
      go_ret2
      refine ⟨ret_two ?_, hb _⟩
      rw [HR.out, HT.out, List.drop_eq_nil_of_le (by omega)]
      rfl

set_option maxHeartbeats 400000 in
theorem FrameErr_any (a b : Option Addr) (n c m d : Nat) (ms ks : List Int) (w : World) (h1 : SI w a n c ms) (h2 : SI w b m d ks) :
    Calls Try.prog 28 #[.agg #[.slice a n c, .slice b m d]] w fun e w' => e = .returned (.int .i64 (checkF ms ks).2) ∧ Below w.heap.size w w' := by
  have hb : ∀ o, Below w.heap.size w (w.alloc o) := fun o => (Below.refl _ _).alloc (Nat.le_refl _) _
  go_enter Try.func28, Try.ntmps28
  go_wp2_with fail
  refine (rCheckFrame_any a b n c m d ms ks _ (h1.keep (hb _)) (h2.keep (hb _))).mono ?_
  rintro e w1 ⟨rfl, hb1⟩
  go_wp2_with fail
  go_ret
  exact ⟨rfl, (hb _).trans (hb1.mono (by simp))⟩

set_option maxHeartbeats 1000000 in
theorem Own_any (a b : Option Addr) (n c m d : Nat) (ks : List Int) (i : Int) (w : World) (h1 : SI w b m d ks) (hi : 0 ≤ i) (hi2 : i < m) (hks : ∀ k ∈ ks, 1 ≤ k ∧ k ≤ 20) :
    Calls Try.prog 97 #[.agg #[.slice a n c, .slice b m d], .int .i64 i] w fun e w' => e = .returned (.int .i64 (ks[i.toNat]?.getD 0 + ks[i.toNat + 1]?.getD 0)) ∧ Below w.heap.size w w' := by
  obtain ⟨l1, l2⟩ : m ≤ ks.length ∧ ks.length ≤ m := by have := h1.len; omega
  have m1 := h1.max
  have c1 := h1.cap
  have hb : ∀ o, Below w.heap.size w (w.alloc o) := fun o => (Below.refl _ _).alloc (Nat.le_refl _) _
  have hk : ∀ j, j < m → 1 ≤ ks[j]?.getD 0 ∧ ks[j]?.getD 0 ≤ 20 := fun j hj => by
    have : j < ks.length := by omega
    rw [List.getElem?_eq_getElem this]
    exact hks _ (List.getElem_mem this)
  obtain ⟨b1, o1, rfl, hc1⟩ := h1.at_ (by omega)
  have e1 := hc1 i.toNat (by omega)
  have hlt' := cell_lt e1
  obtain ⟨x1, x2⟩ := hk i.toNat (by omega)
  by_cases hlt : i + 1 < m
  · have e2 := hc1 (i.toNat + 1) (by omega)
    obtain ⟨y1, y2⟩ := hk (i.toNat + 1) (by omega)
    clear hc1 hk hks
    have hj : (i + 1).toNat = i.toNat + 1 := by omega
    go_enter Try.func97, Try.ntmps97
    go_wp2_with fail
    refine Calmly.wp_region_mix 11 (.fl 0 <| .fl 1 <| .fl 2 <| .fl 3 <| .fl 4 <| .fl 5 <| .fl 6 <| .fl 7 <| .fl 8 <| .fl 9 <| .fl 10 <| .tail [11, 12]) (by kernel_rfl) (by kernel_rfl) ?_
    go_wp2_with (first | ((with_reducible refine Calmly.is_fl ?_); refine Calmly.mix_fl rfl ?_ (fun _ _ => ?_); (first | exact .move _ | exact .load _ _ | exact .fieldAddr _ _ _ (by kernel_rfl) | exact .assign _ | exact .binOp _ _ _ _ _ rfl | exact .indexAddr _ _ _ | exact .len _ _ (by kernel_rfl) | exact .field _ _ _ | exact .extract _ _ | exact .pick _ _ _ | exact .build _ _ | exact .slice _ _ _ _ _ | exact .unOp _ _ _ rfl | exact .index _ _ _ | exact .max _ _ _ rfl rfl | exact .min _ _ _ rfl rfl)) | ((with_reducible refine Calmly.is_gl ?_); refine Calmly.mix_gl rfl rfl rfl ?_; first | ((first | with_reducible refine Calmly.gl_tt ?_ (fun _ _ => ?_) | with_reducible refine Calmly.gl_ff ?_ (fun _ _ => ?_)); (first | exact .move _ | exact .load _ _ | exact .fieldAddr _ _ _ (by kernel_rfl) | exact .assign _ | exact .binOp _ _ _ _ _ rfl | exact .indexAddr _ _ _ | exact .len _ _ (by kernel_rfl) | exact .field _ _ _ | exact .extract _ _ | exact .pick _ _ _ | exact .build _ _ | exact .slice _ _ _ _ _ | exact .unOp _ _ _ rfl | exact .index _ _ _ | exact .max _ _ _ rfl rfl | exact .min _ _ _ rfl rfl)) | with_reducible refine Calmly.gl_tf (fun _ _ => ?_) | with_reducible refine Calmly.gl_ft (fun _ _ => ?_)) | ((with_reducible refine Calmly.is_eff ?_); refine Calmly.mix_eff rfl (fun _ _ => ?_)) | ((with_reducible refine Calmly.is_gf ?_); refine Calmly.mix_gf rfl rfl rfl ?_; first | with_reducible refine Calmly.gf_tt (fun _ _ => ?_) | with_reducible refine Calmly.gf_ff (fun _ _ => ?_) | with_reducible refine Calmly.gf_tf (kept_of hk) (fun _ _ => ?_) | with_reducible refine Calmly.gf_ft (kept_of hk) (fun _ _ => ?_)) | ((with_reducible refine Calmly.is_tail ?_); first | refine Calmly.mix_tail_nil ?_ | refine Calmly.mix_tail rfl (fun _ _ => ?_)) | ((with_reducible refine Calmly.is_kept ?_); refine ⟨kept_of hk, ?_⟩) | (with_reducible refine Calmly.mix_alt ?_ ?_))
    go_ret
    exact ⟨rfl, (hb _).drew⟩
  · have hge : (m : Int) ≤ i + 1 := by omega
    clear hc1 hk hks
    go_enter Try.func97, Try.ntmps97
    go_wp2
    go_ret
    refine ⟨ret_int ?_, hb _⟩
    rw [List.getElem?_eq_none (l := ks) (i := i.toNat + 1) (by omega)]
    simp
end Go.Proofs.Ytmaidjankakppaa
