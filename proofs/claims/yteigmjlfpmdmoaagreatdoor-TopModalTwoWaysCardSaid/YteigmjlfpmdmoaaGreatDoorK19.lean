/- Contracts of chapter 6: errors of squares, the count below a square, and whether it belongs to a mode. Words that the packages share: appends behind a region that draws its order, the greatest common divisor of a list. Small laws of rational numbers. -/
import Derived.Test.YteigmjlfpmdmoaaGreatDoorK18
namespace Go.Proofs.YteigmjlfpmdmoaaGreatDoor
open Go.RowKit
open Calmly (Kept)

theorem tmod_bd0 {a b : Int} (hb : b ≠ 0) (h1 : -9223372036854775808 ≤ b) (h2 : b ≤ 9223372036854775807) : -9223372036854775807 ≤ a.tmod b ∧ a.tmod b ≤ 9223372036854775807 := by
  have := tmod_lt (a := a) hb
  omega

set_option maxRecDepth 100000 in
set_option maxHeartbeats 400000 in
theorem gcd_any0 (a b : Int) (w : World) (ha1 : -9223372036854775808 ≤ a) (ha2 : a ≤ 9223372036854775807) (hb0 : 0 < b) (hb2 : b ≤ 9223372036854775807) :
    Calls Tryz.prog 63 #[.int .i64 a, .int .i64 b] w fun e w' => e = .returned (.int .i64 (Int.gcd a b)) ∧ ∃ n, w' = w.drewN n := by
  go_enter Tryz.func63, Tryz.ntmps63
  go_wp2
  go_loopw [0, 1] (fun x y wr => ∃ p q : Int, x = .int .i64 p ∧ y = .int .i64 q ∧ Int.gcd p q = Int.gcd a b ∧ -9223372036854775808 ≤ p ∧ (q = 0 → -9223372036854775807 ≤ p) ∧ p ≤ 9223372036854775807 ∧ -9223372036854775807 ≤ q ∧ q ≤ 9223372036854775807 ∧ ∃ n, wr = w.drewN n) (fun _ y _ => (intOf y).natAbs)
  case atStart => exact ⟨a, b, rfl, rfl, rfl, ha1, fun h => by omega, ha2, by omega, hb2, 0, rfl⟩
  case round =>
    obtain ⟨p, q, rfl, rfl, hg, hp1, hp0, hp2, hq1, hq2, n, rfl⟩ := hrel
    have HG := Lib.hid hg
    clear hg
    by_cases hz : q = 0
    · have hb : (q != 0) = false := by simp [hz]
      have hp1' := hp0 hz
      have Hz := Lib.hid hz
      clear hz hp0
      go_wp2_with (first | (go_at_call 9; refine (size_any _ _ hp1' hp2).mono ?_; rintro e w' ⟨rfl, rfl⟩))
      go_ret
      refine ⟨ret_int ?_, n, rfl⟩
      have := HG.out
      rw [Hz.out] at this
      simp at this
      omega
    · have hb : (q != 0) = true := by simpa using hz
      have h1 := tmod_bd (a := p) hz hq1 hq2
      have h2 := tmod_lt (a := p) hz
      have hc : (q == 0) = false := by simpa using hz
      clear hp0
      go_wp2_with fail
      refine Calmly.wp_region_mix 5 (.fl 0 <| .fl 1 <| .fl 2 <| .fl 3 <| .fl 4 <| .tail [5]) (by kernel_rfl) (by kernel_rfl) ?_
      go_wp2_with (first | ((with_reducible refine Calmly.is_fl ?_); refine Calmly.mix_fl rfl ?_ (fun _ _ => ?_); (first | exact .move _ | exact .load _ _ | exact .fieldAddr _ _ _ (by kernel_rfl) | exact .assign _ | exact .binOp _ _ _ _ _ rfl | exact .indexAddr _ _ _ | exact .len _ _ (by kernel_rfl) | exact .field _ _ _ | exact .extract _ _ | exact .pick _ _ _ | exact .build _ _ | exact .slice _ _ _ _ _ | exact .unOp _ _ _ rfl | exact .index _ _ _ | exact .max _ _ _ rfl rfl | exact .min _ _ _ rfl rfl | exact .nilCheck _ _ rfl)) | ((with_reducible refine Calmly.is_gl ?_); refine Calmly.mix_gl rfl rfl rfl ?_; first | ((first | with_reducible refine Calmly.gl_tt ?_ (fun _ _ => ?_) | with_reducible refine Calmly.gl_ff ?_ (fun _ _ => ?_)); (first | exact .move _ | exact .load _ _ | exact .fieldAddr _ _ _ (by kernel_rfl) | exact .assign _ | exact .binOp _ _ _ _ _ rfl | exact .indexAddr _ _ _ | exact .len _ _ (by kernel_rfl) | exact .field _ _ _ | exact .extract _ _ | exact .pick _ _ _ | exact .build _ _ | exact .slice _ _ _ _ _ | exact .unOp _ _ _ rfl | exact .index _ _ _ | exact .max _ _ _ rfl rfl | exact .min _ _ _ rfl rfl | exact .nilCheck _ _ rfl)) | with_reducible refine Calmly.gl_tf (fun _ _ => ?_) | with_reducible refine Calmly.gl_ft (fun _ _ => ?_)) | ((with_reducible refine Calmly.is_eff ?_); refine Calmly.mix_eff rfl (fun _ _ => ?_)) | ((with_reducible refine Calmly.is_gf ?_); refine Calmly.mix_gf rfl rfl rfl ?_; first | with_reducible refine Calmly.gf_tt (fun _ _ => ?_) | with_reducible refine Calmly.gf_ff (fun _ _ => ?_) | with_reducible refine Calmly.gf_tf (kept_of hk) (fun _ _ => ?_) | with_reducible refine Calmly.gf_ft (kept_of hk) (fun _ _ => ?_)) | ((with_reducible refine Calmly.is_tail ?_); first | refine Calmly.mix_tail_nil ?_ | refine Calmly.mix_tail rfl (fun _ _ => ?_)) | ((with_reducible refine Calmly.is_kept ?_); refine ⟨kept_of hk, ?_⟩) | (with_reducible refine Calmly.mix_alt ?_ ?_))
      go_roundw
      case rel => exact ⟨q, p.tmod q, rfl, rfl, by rw [gcd_step]; exact HG.out, by omega, fun _ => by omega, hq2, h1.1, h1.2, n + 1, rfl⟩
      case measure => simpa [intOf] using h2

set_option maxRecDepth 100000 in
set_option maxHeartbeats 1000000 in
theorem isLowest_any0 (x y : Int) (w : World) (hx1 : -9223372036854775808 ≤ x) (hx2 : x ≤ 9223372036854775807) (hy2 : y ≤ 9223372036854775807) :
    Calls Tryz.prog 17 #[.agg #[.int .i64 x, .int .i64 y]] w fun e w' => e = .returned (.bool (isLow x y)) ∧ Below w.heap.size w w' := by
  have hb : ∀ o, Below w.heap.size w (w.alloc o) := fun o => (Below.refl _ _).alloc (Nat.le_refl _) _
  by_cases h : 0 < y
  · go_enter Tryz.func17, Tryz.ntmps17
    go_wp2_with fail
    refine (gcd_any0 x y _ (by omega) (by omega) (by omega) (by omega)).mono ?_
    rintro e w1 ⟨rfl, k, rfl⟩
    go_wp2_with fail
    go_ret
    refine ⟨ret_bool ?_, below_drewN (hb _) k⟩
    unfold isLow
    rw [decide_eq_true h]
    rfl
  · have h' : y ≤ 0 := by omega
    go_enter Tryz.func17, Tryz.ntmps17
    go_wp2_with fail
    go_ret
    refine ⟨ret_bool ?_, hb _⟩
    unfold isLow
    rw [decide_eq_false (by omega)]
    rfl

set_option maxRecDepth 100000 in
set_option maxHeartbeats 1000000 in
theorem divisor_any0 (a : Option Addr) (n c : Nat) (xs : List Int) (w : World) (h1 : SI w a n c xs) (hn2 : 2 ≤ n) (hb : ∀ x ∈ xs, -9223372036854775808 ≤ x ∧ x ≤ 9223372036854775807) (hb1 : ∀ j, 1 ≤ j → j < n → -9223372036854775807 ≤ xs[j]?.getD 0 ∧ xs[j]?.getD 0 ≠ 0) :
    Calls Tryz.prog 92 #[.slice a n c] w fun e w' => e = .returned (.int .i64 (gcds xs)) ∧ ∃ n, w' = w.drewN n := by
  obtain ⟨l1, l2⟩ : n ≤ xs.length ∧ xs.length ≤ n := by have := h1.len; omega
  have m1 := h1.max
  have c1 := h1.cap
  have HB := Lib.hid hb
  have HB1 := Lib.hid hb1
  clear hb hb1
  go_enter Tryz.func92, Tryz.ntmps92
  go_wp2
  go_loopw [3, 8] (fun g i wr => ∃ (k : Nat) (p : Int), k ≤ n ∧ i = .int .i64 k ∧ g = .int .i64 p ∧ p.natAbs = gcds (xs.take k) ∧ -9223372036854775808 ≤ p ∧ (1 < k → -9223372036854775807 ≤ p) ∧ p ≤ 9223372036854775807 ∧ ∃ n, wr = w.drewN n) (fun _ i _ => n - (intOf i).toNat)
  case atStart => exact ⟨0, 0, by omega, rfl, rfl, rfl, by omega, by omega, by omega, 0, rfl⟩
  case round =>
    obtain ⟨k, p, hk, rfl, rfl, hg, hp1, hp0, hp2, q, rfl⟩ := hrel
    have HG := Lib.hid hg
    have HP0 := Lib.hid hp0
    clear hg hp0
    by_cases hlt : k < n
    · obtain ⟨b1, o1, rfl, hc1⟩ := h1.at_ (by omega)
      have e1 := hc1 k hlt
      clear hc1
      have hd := gcds_take xs k (by omega)
      rw [← HG.out] at hd
      have HD := Lib.hid hd
      clear hd
      have hx : -9223372036854775808 ≤ xs[k]?.getD 0 ∧ xs[k]?.getD 0 ≤ 9223372036854775807 := by
        have : k < xs.length := by omega
        simp only [List.getElem?_eq_getElem this, Option.getD_some]
        exact HB.out _ (List.getElem_mem this)
      have hx0 := fun h => HB1.out k h hlt
      obtain ⟨hx1, hx2⟩ := hx
      generalize xs[k]?.getD 0 = x at *
      have HX0 := Lib.hid hx0
      clear hx0
      have hi : (k : Int) < (n : Int) := by omega
      have hi0 : (0 : Int) ≤ (k : Int) := by omega
      go_wp2_with fail
      go_loopw [3, 5] (fun g y wr => ∃ (u v : Int), g = .int .i64 u ∧ y = .int .i64 v ∧ Int.gcd u v = Int.gcd p x ∧ -9223372036854775808 ≤ u ∧ u ≤ 9223372036854775807 ∧ -9223372036854775808 ≤ v ∧ v ≤ 9223372036854775807 ∧ (1 ≤ k → -9223372036854775807 ≤ v ∧ (v = 0 → -9223372036854775807 ≤ u)) ∧ (v = -9223372036854775808 → u = p) ∧ ∃ n, wr = w.drewN n) (fun _ y _ => (intOf y).natAbs)
      case atStart => exact ⟨p, x, rfl, rfl, rfl, hp1, hp2, hx1, hx2, fun h => ⟨(HX0.out h).1, fun h0 => absurd h0 (HX0.out h).2⟩, fun _ => rfl, q, rfl⟩
      case round =>
        obtain ⟨u, v, rfl, rfl, hg, hu1, hu2, hv1, hv2, hkk, hvu, q', rfl⟩ := hrel
        have HG2 := Lib.hid hg
        have HK := Lib.hid hkk
        clear hg hkk hvu
        by_cases hz : v = 0
        · have hb : (v != 0) = false := by simp [hz]
          have Hz := Lib.hid hz
          clear hz
          go_wp2_with fail
          go_round
          case rel =>
            refine ⟨k + 1, u, by omega, by go_num, rfl, ?_, hu1, fun h => (HK.out (by omega)).2 Hz.out, hu2, q', rfl⟩
            have := HG2.out
            rw [Hz.out] at this
            have h3 := HD.out
            rw [Int.gcd] at h3 this
            simp at h3 this
            rw [h3, this, Int.gcd]
          case measure => simp [intOf]; omega
        · have hb : (v != 0) = true := by simpa using hz
          have h1 := tmod_bd0 (a := u) hz hv1 hv2
          have h2 := tmod_lt (a := u) hz
          have hc : (v == 0) = false := by simpa using hz
          go_wp2_with fail
          refine Calmly.wp_region_mix 5 (.fl 0 <| .fl 1 <| .fl 2 <| .fl 3 <| .fl 4 <| .tail [5]) (by kernel_rfl) (by kernel_rfl) ?_
          go_wp2_with (first | ((with_reducible refine Calmly.is_fl ?_); refine Calmly.mix_fl rfl ?_ (fun _ _ => ?_); (first | exact .move _ | exact .load _ _ | exact .fieldAddr _ _ _ (by kernel_rfl) | exact .assign _ | exact .binOp _ _ _ _ _ rfl | exact .indexAddr _ _ _ | exact .len _ _ (by kernel_rfl) | exact .field _ _ _ | exact .extract _ _ | exact .pick _ _ _ | exact .build _ _ | exact .slice _ _ _ _ _ | exact .unOp _ _ _ rfl | exact .index _ _ _ | exact .max _ _ _ rfl rfl | exact .min _ _ _ rfl rfl | exact .nilCheck _ _ rfl)) | ((with_reducible refine Calmly.is_gl ?_); refine Calmly.mix_gl rfl rfl rfl ?_; first | ((first | with_reducible refine Calmly.gl_tt ?_ (fun _ _ => ?_) | with_reducible refine Calmly.gl_ff ?_ (fun _ _ => ?_)); (first | exact .move _ | exact .load _ _ | exact .fieldAddr _ _ _ (by kernel_rfl) | exact .assign _ | exact .binOp _ _ _ _ _ rfl | exact .indexAddr _ _ _ | exact .len _ _ (by kernel_rfl) | exact .field _ _ _ | exact .extract _ _ | exact .pick _ _ _ | exact .build _ _ | exact .slice _ _ _ _ _ | exact .unOp _ _ _ rfl | exact .index _ _ _ | exact .max _ _ _ rfl rfl | exact .min _ _ _ rfl rfl | exact .nilCheck _ _ rfl)) | with_reducible refine Calmly.gl_tf (fun _ _ => ?_) | with_reducible refine Calmly.gl_ft (fun _ _ => ?_)) | ((with_reducible refine Calmly.is_eff ?_); refine Calmly.mix_eff rfl (fun _ _ => ?_)) | ((with_reducible refine Calmly.is_gf ?_); refine Calmly.mix_gf rfl rfl rfl ?_; first | with_reducible refine Calmly.gf_tt (fun _ _ => ?_) | with_reducible refine Calmly.gf_ff (fun _ _ => ?_) | with_reducible refine Calmly.gf_tf (kept_of hk) (fun _ _ => ?_) | with_reducible refine Calmly.gf_ft (kept_of hk) (fun _ _ => ?_)) | ((with_reducible refine Calmly.is_tail ?_); first | refine Calmly.mix_tail_nil ?_ | refine Calmly.mix_tail rfl (fun _ _ => ?_)) | ((with_reducible refine Calmly.is_kept ?_); refine ⟨kept_of hk, ?_⟩) | (with_reducible refine Calmly.mix_alt ?_ ?_))
          go_roundw
          case rel => exact ⟨v, u.tmod v, rfl, rfl, by rw [gcd_step]; exact HG2.out, hv1, hv2, by omega, h1.2, fun h => ⟨h1.1, fun _ => (HK.out h).1⟩, fun h => by omega, q' + 1, rfl⟩
          case measure => simpa [intOf] using h2
    · have hle : (n : Int) ≤ (k : Int) := by omega
      have hp1' := HP0.out (by omega)
      by_cases hlt2 : p < -p
      · go_wp2_with fail
        go_ret
        refine ⟨ret_int ?_, q, rfl⟩
        have := HG.out
        rw [List.take_of_length_le (by omega)] at this
        rw [← this]
        omega
      · go_wp2_with fail
        go_ret
        refine ⟨ret_int ?_, q, rfl⟩
        have := HG.out
        rw [List.take_of_length_le (by omega)] at this
        rw [← this]
        omega

/-- The error of a square. -/
def squareE (x y : Int) : Int := if isLow x y = true then (if (wIn x (-100) 100 && decide (y ≤ 100)) = true then 0 else 2) else 3
theorem squareE_ok {x y : Int} (h : squareE x y = 0) : isLow x y = true ∧ 0 < y ∧ y ≤ 100 ∧ -100 ≤ x ∧ x ≤ 100 := by
  unfold squareE at h
  split at h
  · split at h
    · rename_i h1 h2
      have h3 := h1
      unfold isLow at h3
      simp only [Bool.and_eq_true, decide_eq_true_eq, wIn] at h2 h3
      exact ⟨h1, h3.1, h2.2, h2.1.1, h2.1.2⟩
    · cases h
  · cases h

set_option maxRecDepth 100000 in
set_option maxHeartbeats 1000000 in
theorem rSquareErr_any (x y : Int) (w : World) (hx1 : -9223372036854775808 ≤ x) (hx2 : x ≤ 9223372036854775807) (hy2 : y ≤ 9223372036854775807) :
    Calls Tryz.prog 22 #[.agg #[.int .i64 x, .int .i64 y]] w fun e w' => e = .returned (.int .i64 (squareE x y)) ∧ Below w.heap.size w w' := by
  have hb : ∀ o, Below w.heap.size w (w.alloc o) := fun o => (Below.refl _ _).alloc (Nat.le_refl _) _
  unfold squareE
  cases hl : isLow x y
  · go_enter Tryz.func22, Tryz.ntmps22
    go_wp2_with fail
    refine (isLowest_any0 x y _ hx1 hx2 hy2).mono ?_
    rintro e w1 ⟨rfl, hb1⟩
    rw [hl]
    go_wp2_with fail
    go_ret
    exact ⟨rfl, (hb _).trans (hb1.mono (by simp))⟩
  · have HL := Lib.hid hl
    clear hl
    rw [if_pos rfl]
    cases hw : wIn x (-100) 100
    · go_enter Tryz.func22, Tryz.ntmps22
      go_wp2_with fail
      refine (isLowest_any0 x y _ hx1 hx2 hy2).mono ?_
      rintro e w1 ⟨rfl, hb1⟩
      rw [HL.out]
      have x1 := box1 (w := w) hb1
      have f0 : w1.cell? ⟨w.heap.size, 0, none⟩ = some (.int .i64 x) := cell_block x1 0
      have f1 : w1.cell? ⟨w.heap.size, 1, none⟩ = some (.int .i64 y) := cell_block x1 1
      go_wp2_with fail
      refine (within_any _ _ _ _).mono ?_
      rintro e w' ⟨rfl, rfl⟩
      rw [hw]
      go_wp2_with fail
      go_ret
      exact ⟨rfl, (hb _).trans (hb1.mono (by simp))⟩
    · rcases Int.lt_or_le 100 y with hy | hy
      · rw [if_neg (by simp; omega)]
        go_enter Tryz.func22, Tryz.ntmps22
        go_wp2_with fail
        refine (isLowest_any0 x y _ hx1 hx2 hy2).mono ?_
        rintro e w1 ⟨rfl, hb1⟩
        rw [HL.out]
        have x1 := box1 (w := w) hb1
        have f0 : w1.cell? ⟨w.heap.size, 0, none⟩ = some (.int .i64 x) := cell_block x1 0
        have f1 : w1.cell? ⟨w.heap.size, 1, none⟩ = some (.int .i64 y) := cell_block x1 1
        have B := (hb (.cells #[.int .i64 x, .int .i64 y] 39)).trans (hb1.mono (by simp))
        go_wp2_with fail
        refine (within_any _ _ _ _).mono ?_
        rintro e w' ⟨rfl, rfl⟩
        rw [hw]
        go_wp2_with fail
        go_ret
        exact ⟨rfl, B⟩
      · rw [if_pos (by simp; omega)]
        go_enter Tryz.func22, Tryz.ntmps22
        go_wp2_with fail
        refine (isLowest_any0 x y _ hx1 hx2 hy2).mono ?_
        rintro e w1 ⟨rfl, hb1⟩
        rw [HL.out]
        have x1 := box1 (w := w) hb1
        have f0 : w1.cell? ⟨w.heap.size, 0, none⟩ = some (.int .i64 x) := cell_block x1 0
        have f1 : w1.cell? ⟨w.heap.size, 1, none⟩ = some (.int .i64 y) := cell_block x1 1
        have B := (hb (.cells #[.int .i64 x, .int .i64 y] 39)).trans (hb1.mono (by simp))
        go_wp2_with fail
        refine (within_any _ _ _ _).mono ?_
        rintro e w' ⟨rfl, rfl⟩
        rw [hw]
        go_wp2_with fail
        go_ret
        exact ⟨rfl, B⟩

set_option maxRecDepth 100000 in
set_option maxHeartbeats 1000000 in
theorem mSquareErr_any (x y : Int) (w : World) (hx1 : -9223372036854775808 ≤ x) (hx2 : x ≤ 9223372036854775807) (hy2 : y ≤ 9223372036854775807) :
    Calls Tryz.prog 67 #[.agg #[.int .i64 x, .int .i64 y]] w fun e w' => e = .returned (.int .i64 (squareE x y)) ∧ Below w.heap.size w w' := by
  have hb : ∀ o, Below w.heap.size w (w.alloc o) := fun o => (Below.refl _ _).alloc (Nat.le_refl _) _
  have hfin : firstE [unlessE (isLow x y) 3, unlessE (wIn x (-100) 100 && decide (y ≤ 100)) 2] = squareE x y := by
    rw [firstE_two]
    unfold squareE unlessE
    cases isLow x y
    · simp
    · cases (wIn x (-100) 100 && decide (y ≤ 100)) <;> simp
  have hl1 : 0 < y → isLow x y = ((Int.gcd x y : Int) == 1) := fun h => by unfold isLow; rw [decide_eq_true h]; rfl
  have HF := Lib.hid hfin
  have HL := Lib.hid hl1
  clear hfin hl1
  have hfin : ∀ (W : World) (o : Obj), Below W.heap.size W (W.alloc o) := fun W o => (Below.refl _ _).alloc (Nat.le_refl _) _
  cases hw : wIn x (-100) 100
  · by_cases h : 0 < y
    · go_enter Tryz.func67, Tryz.ntmps67
      go_wp2_with fail
      refine Calmly.wp_region_mix 24 (.fl 0 <| .fl 1 <| .fl 2 <| .fl 3 <| .gl 4 <| .gl 5 <| .gl 6 <| .gl 7 <| .fl 13 <| .fl 14 <| .gf 8 <| .gf 9 <| .gl 10 <| .fl 11 <| .eff 12 <| .eff 15 <| .fl 16 <| .gl 17 <| .gl 18 <| .gl 19 <| .fl 20 <| .eff 21 <| .eff 22 <| .eff 23 <| .tail [24]) (by kernel_rfl) (by kernel_rfl) ?_
      have hk := Below.refl (w.alloc (.cells #[.int .i64 x, .int .i64 y] 39)).drew.heap.size (w.alloc (.cells #[.int .i64 x, .int .i64 y] 39)).drew
      go_wp2_with (first | ((with_reducible refine Calmly.is_fl ?_); refine Calmly.mix_fl rfl ?_ (fun _ _ => ?_); (first | exact .move _ | exact .load _ _ | exact .fieldAddr _ _ _ (by kernel_rfl) | exact .assign _ | exact .binOp _ _ _ _ _ rfl | exact .indexAddr _ _ _ | exact .len _ _ (by kernel_rfl) | exact .field _ _ _ | exact .extract _ _ | exact .pick _ _ _ | exact .build _ _ | exact .slice _ _ _ _ _ | exact .unOp _ _ _ rfl | exact .index _ _ _ | exact .max _ _ _ rfl rfl | exact .min _ _ _ rfl rfl | exact .nilCheck _ _ rfl)) | ((with_reducible refine Calmly.is_gl ?_); refine Calmly.mix_gl rfl rfl rfl ?_; first | ((first | with_reducible refine Calmly.gl_tt ?_ (fun _ _ => ?_) | with_reducible refine Calmly.gl_ff ?_ (fun _ _ => ?_)); (first | exact .move _ | exact .load _ _ | exact .fieldAddr _ _ _ (by kernel_rfl) | exact .assign _ | exact .binOp _ _ _ _ _ rfl | exact .indexAddr _ _ _ | exact .len _ _ (by kernel_rfl) | exact .field _ _ _ | exact .extract _ _ | exact .pick _ _ _ | exact .build _ _ | exact .slice _ _ _ _ _ | exact .unOp _ _ _ rfl | exact .index _ _ _ | exact .max _ _ _ rfl rfl | exact .min _ _ _ rfl rfl | exact .nilCheck _ _ rfl)) | with_reducible refine Calmly.gl_tf (fun _ _ => ?_) | with_reducible refine Calmly.gl_ft (fun _ _ => ?_)) | ((with_reducible refine Calmly.is_eff ?_); refine Calmly.mix_eff rfl (fun _ _ => ?_)) | ((with_reducible refine Calmly.is_gf ?_); refine Calmly.mix_gf rfl rfl rfl ?_; first | with_reducible refine Calmly.gf_tt (fun _ _ => ?_) | with_reducible refine Calmly.gf_ff (fun _ _ => ?_) | with_reducible refine Calmly.gf_tf (kept_of hk) (fun _ _ => ?_) | with_reducible refine Calmly.gf_ft (kept_of hk) (fun _ _ => ?_)) | ((with_reducible refine Calmly.is_tail ?_); first | refine Calmly.mix_tail_nil ?_ | refine Calmly.mix_tail rfl (fun _ _ => ?_)) | ((with_reducible refine Calmly.is_kept ?_); refine ⟨kept_of hk, ?_⟩) | (with_reducible refine Calmly.mix_alt ?_ ?_) | (refine kept_alloc hk (fun hk' hblk hge => ?_); replace hk := hk'; clear hk') | (go_at_call 61; refine (unless_any _ _ _).mono ?_; rintro e w' ⟨rfl, rfl⟩) | (go_at_call 89; refine (isSized_any _ _ _ (by omega) (by omega)).mono ?_; rintro e w' ⟨rfl, rfl⟩))
      refine (divisor_any0 _ 2 2 [x, y] _ (SI.two _ x y _ (by simp)).drew (by omega) (by simp; omega) (by intro j hj1 hj2; obtain rfl : j = 1 := (by omega); exact ⟨by simp; omega, by simp; omega⟩)).mono ?_
      rintro e w' ⟨rfl, nd, rfl⟩
      rw [gcds_two]
      have hkd := below_drewN (Below.refl ((w.alloc (.cells #[.int .i64 x, .int .i64 y] 39)).alloc (.cells #[.int .i64 x, .int .i64 y] 3)).drew.heap.size ((w.alloc (.cells #[.int .i64 x, .int .i64 y] 39)).alloc (.cells #[.int .i64 x, .int .i64 y] 3)).drew) nd
      replace hk := step_of hk hkd
      obtain ⟨W1, hW1⟩ : ∃ W, (((w.alloc (.cells #[.int .i64 x, .int .i64 y] 39)).alloc (.cells #[.int .i64 x, .int .i64 y] 3)).drew.drewN nd) = W := ⟨_, rfl⟩
      rw [hW1] at hk ⊢
      clear hW1 hkd hblk hge
      obtain ⟨G, hG⟩ : ∃ G, ((Int.gcd x y : Int) == 1) = G := ⟨_, rfl⟩
      have hl := HL.out h
      rw [hG] at hl
      have HLG := Lib.hid hl
      clear hl
      go_wp2_with (first | ((with_reducible refine Calmly.is_fl ?_); refine Calmly.mix_fl rfl ?_ (fun _ _ => ?_); (first | exact .move _ | exact .load _ _ | exact .fieldAddr _ _ _ (by kernel_rfl) | exact .assign _ | exact .binOp _ _ _ _ _ rfl | exact .indexAddr _ _ _ | exact .len _ _ (by kernel_rfl) | exact .field _ _ _ | exact .extract _ _ | exact .pick _ _ _ | exact .build _ _ | exact .slice _ _ _ _ _ | exact .unOp _ _ _ rfl | exact .index _ _ _ | exact .max _ _ _ rfl rfl | exact .min _ _ _ rfl rfl | exact .nilCheck _ _ rfl)) | ((with_reducible refine Calmly.is_gl ?_); refine Calmly.mix_gl rfl rfl rfl ?_; first | ((first | with_reducible refine Calmly.gl_tt ?_ (fun _ _ => ?_) | with_reducible refine Calmly.gl_ff ?_ (fun _ _ => ?_)); (first | exact .move _ | exact .load _ _ | exact .fieldAddr _ _ _ (by kernel_rfl) | exact .assign _ | exact .binOp _ _ _ _ _ rfl | exact .indexAddr _ _ _ | exact .len _ _ (by kernel_rfl) | exact .field _ _ _ | exact .extract _ _ | exact .pick _ _ _ | exact .build _ _ | exact .slice _ _ _ _ _ | exact .unOp _ _ _ rfl | exact .index _ _ _ | exact .max _ _ _ rfl rfl | exact .min _ _ _ rfl rfl | exact .nilCheck _ _ rfl)) | with_reducible refine Calmly.gl_tf (fun _ _ => ?_) | with_reducible refine Calmly.gl_ft (fun _ _ => ?_)) | ((with_reducible refine Calmly.is_eff ?_); refine Calmly.mix_eff rfl (fun _ _ => ?_)) | ((with_reducible refine Calmly.is_gf ?_); refine Calmly.mix_gf rfl rfl rfl ?_; first | with_reducible refine Calmly.gf_tt (fun _ _ => ?_) | with_reducible refine Calmly.gf_ff (fun _ _ => ?_) | with_reducible refine Calmly.gf_tf (kept_of hk) (fun _ _ => ?_) | with_reducible refine Calmly.gf_ft (kept_of hk) (fun _ _ => ?_)) | ((with_reducible refine Calmly.is_tail ?_); first | refine Calmly.mix_tail_nil ?_ | refine Calmly.mix_tail rfl (fun _ _ => ?_)) | ((with_reducible refine Calmly.is_kept ?_); refine ⟨kept_of hk, ?_⟩) | (with_reducible refine Calmly.mix_alt ?_ ?_) | (refine kept_alloc hk (fun hk' hblk hge => ?_); replace hk := hk'; clear hk') | (go_at_call 61; refine (unless_any _ _ _).mono ?_; rintro e w' ⟨rfl, rfl⟩) | (go_at_call 89; refine (isSized_any _ _ _ (by omega) (by omega)).mono ?_; rintro e w' ⟨rfl, rfl⟩))
      refine (first_any _ 2 2 _ _ (SI.two _ _ _ _ (by simp))).mono ?_
      rintro e w' ⟨rfl, rfl⟩
      go_wp2_with (first | ((with_reducible refine Calmly.is_fl ?_); refine Calmly.mix_fl rfl ?_ (fun _ _ => ?_); (first | exact .move _ | exact .load _ _ | exact .fieldAddr _ _ _ (by kernel_rfl) | exact .assign _ | exact .binOp _ _ _ _ _ rfl | exact .indexAddr _ _ _ | exact .len _ _ (by kernel_rfl) | exact .field _ _ _ | exact .extract _ _ | exact .pick _ _ _ | exact .build _ _ | exact .slice _ _ _ _ _ | exact .unOp _ _ _ rfl | exact .index _ _ _ | exact .max _ _ _ rfl rfl | exact .min _ _ _ rfl rfl | exact .nilCheck _ _ rfl)) | ((with_reducible refine Calmly.is_gl ?_); refine Calmly.mix_gl rfl rfl rfl ?_; first | ((first | with_reducible refine Calmly.gl_tt ?_ (fun _ _ => ?_) | with_reducible refine Calmly.gl_ff ?_ (fun _ _ => ?_)); (first | exact .move _ | exact .load _ _ | exact .fieldAddr _ _ _ (by kernel_rfl) | exact .assign _ | exact .binOp _ _ _ _ _ rfl | exact .indexAddr _ _ _ | exact .len _ _ (by kernel_rfl) | exact .field _ _ _ | exact .extract _ _ | exact .pick _ _ _ | exact .build _ _ | exact .slice _ _ _ _ _ | exact .unOp _ _ _ rfl | exact .index _ _ _ | exact .max _ _ _ rfl rfl | exact .min _ _ _ rfl rfl | exact .nilCheck _ _ rfl)) | with_reducible refine Calmly.gl_tf (fun _ _ => ?_) | with_reducible refine Calmly.gl_ft (fun _ _ => ?_)) | ((with_reducible refine Calmly.is_eff ?_); refine Calmly.mix_eff rfl (fun _ _ => ?_)) | ((with_reducible refine Calmly.is_gf ?_); refine Calmly.mix_gf rfl rfl rfl ?_; first | with_reducible refine Calmly.gf_tt (fun _ _ => ?_) | with_reducible refine Calmly.gf_ff (fun _ _ => ?_) | with_reducible refine Calmly.gf_tf (kept_of hk) (fun _ _ => ?_) | with_reducible refine Calmly.gf_ft (kept_of hk) (fun _ _ => ?_)) | ((with_reducible refine Calmly.is_tail ?_); first | refine Calmly.mix_tail_nil ?_ | refine Calmly.mix_tail rfl (fun _ _ => ?_)) | ((with_reducible refine Calmly.is_kept ?_); refine ⟨kept_of hk, ?_⟩) | (with_reducible refine Calmly.mix_alt ?_ ?_))
      go_ret
      refine ⟨ret_int ?_, (hb _).drew.trans (hk.mono (by simp))⟩
      rw [← HF.out, HLG.out, hw]
      rfl
    · have h' : decide (0 < y) = false := by simp; omega
      have hl : isLow x y = false := by unfold isLow; rw [h']; rfl
      have HL0 := Lib.hid hl
      clear h hl
      go_enter Tryz.func67, Tryz.ntmps67
      go_wp2_with fail
      refine Calmly.wp_region_mix 24 (.fl 0 <| .fl 1 <| .fl 2 <| .fl 3 <| .gl 4 <| .gl 5 <| .gl 6 <| .gl 7 <| .fl 13 <| .fl 14 <| .gf 8 <| .gf 9 <| .gl 10 <| .fl 11 <| .eff 12 <| .eff 15 <| .fl 16 <| .gl 17 <| .gl 18 <| .gl 19 <| .fl 20 <| .eff 21 <| .eff 22 <| .eff 23 <| .tail [24]) (by kernel_rfl) (by kernel_rfl) ?_
      have hk := Below.refl (w.alloc (.cells #[.int .i64 x, .int .i64 y] 39)).drew.heap.size (w.alloc (.cells #[.int .i64 x, .int .i64 y] 39)).drew
      go_wp2_with (first | ((with_reducible refine Calmly.is_fl ?_); refine Calmly.mix_fl rfl ?_ (fun _ _ => ?_); (first | exact .move _ | exact .load _ _ | exact .fieldAddr _ _ _ (by kernel_rfl) | exact .assign _ | exact .binOp _ _ _ _ _ rfl | exact .indexAddr _ _ _ | exact .len _ _ (by kernel_rfl) | exact .field _ _ _ | exact .extract _ _ | exact .pick _ _ _ | exact .build _ _ | exact .slice _ _ _ _ _ | exact .unOp _ _ _ rfl | exact .index _ _ _ | exact .max _ _ _ rfl rfl | exact .min _ _ _ rfl rfl | exact .nilCheck _ _ rfl)) | ((with_reducible refine Calmly.is_gl ?_); refine Calmly.mix_gl rfl rfl rfl ?_; first | ((first | with_reducible refine Calmly.gl_tt ?_ (fun _ _ => ?_) | with_reducible refine Calmly.gl_ff ?_ (fun _ _ => ?_)); (first | exact .move _ | exact .load _ _ | exact .fieldAddr _ _ _ (by kernel_rfl) | exact .assign _ | exact .binOp _ _ _ _ _ rfl | exact .indexAddr _ _ _ | exact .len _ _ (by kernel_rfl) | exact .field _ _ _ | exact .extract _ _ | exact .pick _ _ _ | exact .build _ _ | exact .slice _ _ _ _ _ | exact .unOp _ _ _ rfl | exact .index _ _ _ | exact .max _ _ _ rfl rfl | exact .min _ _ _ rfl rfl | exact .nilCheck _ _ rfl)) | with_reducible refine Calmly.gl_tf (fun _ _ => ?_) | with_reducible refine Calmly.gl_ft (fun _ _ => ?_)) | ((with_reducible refine Calmly.is_eff ?_); refine Calmly.mix_eff rfl (fun _ _ => ?_)) | ((with_reducible refine Calmly.is_gf ?_); refine Calmly.mix_gf rfl rfl rfl ?_; first | with_reducible refine Calmly.gf_tt (fun _ _ => ?_) | with_reducible refine Calmly.gf_ff (fun _ _ => ?_) | with_reducible refine Calmly.gf_tf (kept_of hk) (fun _ _ => ?_) | with_reducible refine Calmly.gf_ft (kept_of hk) (fun _ _ => ?_)) | ((with_reducible refine Calmly.is_tail ?_); first | refine Calmly.mix_tail_nil ?_ | refine Calmly.mix_tail rfl (fun _ _ => ?_)) | ((with_reducible refine Calmly.is_kept ?_); refine ⟨kept_of hk, ?_⟩) | (with_reducible refine Calmly.mix_alt ?_ ?_) | (refine kept_alloc hk (fun hk' hblk hge => ?_); replace hk := hk'; clear hk') | (go_at_call 61; refine (unless_any _ _ _).mono ?_; rintro e w' ⟨rfl, rfl⟩) | (go_at_call 89; refine (isSized_any _ _ _ (by omega) (by omega)).mono ?_; rintro e w' ⟨rfl, rfl⟩))
      refine (first_any _ 2 2 _ _ (SI.two _ _ _ _ (by simp)).drew).mono ?_
      rintro e w' ⟨rfl, rfl⟩
      go_wp2_with (first | ((with_reducible refine Calmly.is_fl ?_); refine Calmly.mix_fl rfl ?_ (fun _ _ => ?_); (first | exact .move _ | exact .load _ _ | exact .fieldAddr _ _ _ (by kernel_rfl) | exact .assign _ | exact .binOp _ _ _ _ _ rfl | exact .indexAddr _ _ _ | exact .len _ _ (by kernel_rfl) | exact .field _ _ _ | exact .extract _ _ | exact .pick _ _ _ | exact .build _ _ | exact .slice _ _ _ _ _ | exact .unOp _ _ _ rfl | exact .index _ _ _ | exact .max _ _ _ rfl rfl | exact .min _ _ _ rfl rfl | exact .nilCheck _ _ rfl)) | ((with_reducible refine Calmly.is_gl ?_); refine Calmly.mix_gl rfl rfl rfl ?_; first | ((first | with_reducible refine Calmly.gl_tt ?_ (fun _ _ => ?_) | with_reducible refine Calmly.gl_ff ?_ (fun _ _ => ?_)); (first | exact .move _ | exact .load _ _ | exact .fieldAddr _ _ _ (by kernel_rfl) | exact .assign _ | exact .binOp _ _ _ _ _ rfl | exact .indexAddr _ _ _ | exact .len _ _ (by kernel_rfl) | exact .field _ _ _ | exact .extract _ _ | exact .pick _ _ _ | exact .build _ _ | exact .slice _ _ _ _ _ | exact .unOp _ _ _ rfl | exact .index _ _ _ | exact .max _ _ _ rfl rfl | exact .min _ _ _ rfl rfl | exact .nilCheck _ _ rfl)) | with_reducible refine Calmly.gl_tf (fun _ _ => ?_) | with_reducible refine Calmly.gl_ft (fun _ _ => ?_)) | ((with_reducible refine Calmly.is_eff ?_); refine Calmly.mix_eff rfl (fun _ _ => ?_)) | ((with_reducible refine Calmly.is_gf ?_); refine Calmly.mix_gf rfl rfl rfl ?_; first | with_reducible refine Calmly.gf_tt (fun _ _ => ?_) | with_reducible refine Calmly.gf_ff (fun _ _ => ?_) | with_reducible refine Calmly.gf_tf (kept_of hk) (fun _ _ => ?_) | with_reducible refine Calmly.gf_ft (kept_of hk) (fun _ _ => ?_)) | ((with_reducible refine Calmly.is_tail ?_); first | refine Calmly.mix_tail_nil ?_ | refine Calmly.mix_tail rfl (fun _ _ => ?_)) | ((with_reducible refine Calmly.is_kept ?_); refine ⟨kept_of hk, ?_⟩) | (with_reducible refine Calmly.mix_alt ?_ ?_))
      go_ret
      refine ⟨ret_int ?_, ((hb _).alloc (by simp) _).drew⟩
      rw [← HF.out, HL0.out, hw]
      rfl
  · by_cases h : 0 < y
    · go_enter Tryz.func67, Tryz.ntmps67
      go_wp2_with fail
      refine Calmly.wp_region_mix 24 (.fl 0 <| .fl 1 <| .fl 2 <| .fl 3 <| .gl 4 <| .gl 5 <| .gl 6 <| .gl 7 <| .fl 13 <| .fl 14 <| .gf 8 <| .gf 9 <| .gl 10 <| .fl 11 <| .eff 12 <| .eff 15 <| .fl 16 <| .gl 17 <| .gl 18 <| .gl 19 <| .fl 20 <| .eff 21 <| .eff 22 <| .eff 23 <| .tail [24]) (by kernel_rfl) (by kernel_rfl) ?_
      have hk := Below.refl (w.alloc (.cells #[.int .i64 x, .int .i64 y] 39)).drew.heap.size (w.alloc (.cells #[.int .i64 x, .int .i64 y] 39)).drew
      go_wp2_with (first | ((with_reducible refine Calmly.is_fl ?_); refine Calmly.mix_fl rfl ?_ (fun _ _ => ?_); (first | exact .move _ | exact .load _ _ | exact .fieldAddr _ _ _ (by kernel_rfl) | exact .assign _ | exact .binOp _ _ _ _ _ rfl | exact .indexAddr _ _ _ | exact .len _ _ (by kernel_rfl) | exact .field _ _ _ | exact .extract _ _ | exact .pick _ _ _ | exact .build _ _ | exact .slice _ _ _ _ _ | exact .unOp _ _ _ rfl | exact .index _ _ _ | exact .max _ _ _ rfl rfl | exact .min _ _ _ rfl rfl | exact .nilCheck _ _ rfl)) | ((with_reducible refine Calmly.is_gl ?_); refine Calmly.mix_gl rfl rfl rfl ?_; first | ((first | with_reducible refine Calmly.gl_tt ?_ (fun _ _ => ?_) | with_reducible refine Calmly.gl_ff ?_ (fun _ _ => ?_)); (first | exact .move _ | exact .load _ _ | exact .fieldAddr _ _ _ (by kernel_rfl) | exact .assign _ | exact .binOp _ _ _ _ _ rfl | exact .indexAddr _ _ _ | exact .len _ _ (by kernel_rfl) | exact .field _ _ _ | exact .extract _ _ | exact .pick _ _ _ | exact .build _ _ | exact .slice _ _ _ _ _ | exact .unOp _ _ _ rfl | exact .index _ _ _ | exact .max _ _ _ rfl rfl | exact .min _ _ _ rfl rfl | exact .nilCheck _ _ rfl)) | with_reducible refine Calmly.gl_tf (fun _ _ => ?_) | with_reducible refine Calmly.gl_ft (fun _ _ => ?_)) | ((with_reducible refine Calmly.is_eff ?_); refine Calmly.mix_eff rfl (fun _ _ => ?_)) | ((with_reducible refine Calmly.is_gf ?_); refine Calmly.mix_gf rfl rfl rfl ?_; first | with_reducible refine Calmly.gf_tt (fun _ _ => ?_) | with_reducible refine Calmly.gf_ff (fun _ _ => ?_) | with_reducible refine Calmly.gf_tf (kept_of hk) (fun _ _ => ?_) | with_reducible refine Calmly.gf_ft (kept_of hk) (fun _ _ => ?_)) | ((with_reducible refine Calmly.is_tail ?_); first | refine Calmly.mix_tail_nil ?_ | refine Calmly.mix_tail rfl (fun _ _ => ?_)) | ((with_reducible refine Calmly.is_kept ?_); refine ⟨kept_of hk, ?_⟩) | (with_reducible refine Calmly.mix_alt ?_ ?_) | (refine kept_alloc hk (fun hk' hblk hge => ?_); replace hk := hk'; clear hk') | (go_at_call 61; refine (unless_any _ _ _).mono ?_; rintro e w' ⟨rfl, rfl⟩) | (go_at_call 89; refine (isSized_any _ _ _ (by omega) (by omega)).mono ?_; rintro e w' ⟨rfl, rfl⟩))
      refine (divisor_any0 _ 2 2 [x, y] _ (SI.two _ x y _ (by simp)).drew (by omega) (by simp; omega) (by intro j hj1 hj2; obtain rfl : j = 1 := (by omega); exact ⟨by simp; omega, by simp; omega⟩)).mono ?_
      rintro e w' ⟨rfl, nd, rfl⟩
      rw [gcds_two]
      have hkd := below_drewN (Below.refl ((w.alloc (.cells #[.int .i64 x, .int .i64 y] 39)).alloc (.cells #[.int .i64 x, .int .i64 y] 3)).drew.heap.size ((w.alloc (.cells #[.int .i64 x, .int .i64 y] 39)).alloc (.cells #[.int .i64 x, .int .i64 y] 3)).drew) nd
      replace hk := step_of hk hkd
      obtain ⟨W1, hW1⟩ : ∃ W, (((w.alloc (.cells #[.int .i64 x, .int .i64 y] 39)).alloc (.cells #[.int .i64 x, .int .i64 y] 3)).drew.drewN nd) = W := ⟨_, rfl⟩
      rw [hW1] at hk ⊢
      clear hW1 hkd hblk hge
      obtain ⟨G, hG⟩ : ∃ G, ((Int.gcd x y : Int) == 1) = G := ⟨_, rfl⟩
      have hl := HL.out h
      rw [hG] at hl
      have HLG := Lib.hid hl
      clear hl
      go_wp2_with (first | ((with_reducible refine Calmly.is_fl ?_); refine Calmly.mix_fl rfl ?_ (fun _ _ => ?_); (first | exact .move _ | exact .load _ _ | exact .fieldAddr _ _ _ (by kernel_rfl) | exact .assign _ | exact .binOp _ _ _ _ _ rfl | exact .indexAddr _ _ _ | exact .len _ _ (by kernel_rfl) | exact .field _ _ _ | exact .extract _ _ | exact .pick _ _ _ | exact .build _ _ | exact .slice _ _ _ _ _ | exact .unOp _ _ _ rfl | exact .index _ _ _ | exact .max _ _ _ rfl rfl | exact .min _ _ _ rfl rfl | exact .nilCheck _ _ rfl)) | ((with_reducible refine Calmly.is_gl ?_); refine Calmly.mix_gl rfl rfl rfl ?_; first | ((first | with_reducible refine Calmly.gl_tt ?_ (fun _ _ => ?_) | with_reducible refine Calmly.gl_ff ?_ (fun _ _ => ?_)); (first | exact .move _ | exact .load _ _ | exact .fieldAddr _ _ _ (by kernel_rfl) | exact .assign _ | exact .binOp _ _ _ _ _ rfl | exact .indexAddr _ _ _ | exact .len _ _ (by kernel_rfl) | exact .field _ _ _ | exact .extract _ _ | exact .pick _ _ _ | exact .build _ _ | exact .slice _ _ _ _ _ | exact .unOp _ _ _ rfl | exact .index _ _ _ | exact .max _ _ _ rfl rfl | exact .min _ _ _ rfl rfl | exact .nilCheck _ _ rfl)) | with_reducible refine Calmly.gl_tf (fun _ _ => ?_) | with_reducible refine Calmly.gl_ft (fun _ _ => ?_)) | ((with_reducible refine Calmly.is_eff ?_); refine Calmly.mix_eff rfl (fun _ _ => ?_)) | ((with_reducible refine Calmly.is_gf ?_); refine Calmly.mix_gf rfl rfl rfl ?_; first | with_reducible refine Calmly.gf_tt (fun _ _ => ?_) | with_reducible refine Calmly.gf_ff (fun _ _ => ?_) | with_reducible refine Calmly.gf_tf (kept_of hk) (fun _ _ => ?_) | with_reducible refine Calmly.gf_ft (kept_of hk) (fun _ _ => ?_)) | ((with_reducible refine Calmly.is_tail ?_); first | refine Calmly.mix_tail_nil ?_ | refine Calmly.mix_tail rfl (fun _ _ => ?_)) | ((with_reducible refine Calmly.is_kept ?_); refine ⟨kept_of hk, ?_⟩) | (with_reducible refine Calmly.mix_alt ?_ ?_) | (refine kept_alloc hk (fun hk' hblk hge => ?_); replace hk := hk'; clear hk') | (go_at_call 61; refine (unless_any _ _ _).mono ?_; rintro e w' ⟨rfl, rfl⟩) | (go_at_call 89; refine (isSized_any _ _ _ (by omega) (by omega)).mono ?_; rintro e w' ⟨rfl, rfl⟩))
      refine (first_any _ 2 2 _ _ (SI.two _ _ _ _ (by simp))).mono ?_
      rintro e w' ⟨rfl, rfl⟩
      go_wp2_with (first | ((with_reducible refine Calmly.is_fl ?_); refine Calmly.mix_fl rfl ?_ (fun _ _ => ?_); (first | exact .move _ | exact .load _ _ | exact .fieldAddr _ _ _ (by kernel_rfl) | exact .assign _ | exact .binOp _ _ _ _ _ rfl | exact .indexAddr _ _ _ | exact .len _ _ (by kernel_rfl) | exact .field _ _ _ | exact .extract _ _ | exact .pick _ _ _ | exact .build _ _ | exact .slice _ _ _ _ _ | exact .unOp _ _ _ rfl | exact .index _ _ _ | exact .max _ _ _ rfl rfl | exact .min _ _ _ rfl rfl | exact .nilCheck _ _ rfl)) | ((with_reducible refine Calmly.is_gl ?_); refine Calmly.mix_gl rfl rfl rfl ?_; first | ((first | with_reducible refine Calmly.gl_tt ?_ (fun _ _ => ?_) | with_reducible refine Calmly.gl_ff ?_ (fun _ _ => ?_)); (first | exact .move _ | exact .load _ _ | exact .fieldAddr _ _ _ (by kernel_rfl) | exact .assign _ | exact .binOp _ _ _ _ _ rfl | exact .indexAddr _ _ _ | exact .len _ _ (by kernel_rfl) | exact .field _ _ _ | exact .extract _ _ | exact .pick _ _ _ | exact .build _ _ | exact .slice _ _ _ _ _ | exact .unOp _ _ _ rfl | exact .index _ _ _ | exact .max _ _ _ rfl rfl | exact .min _ _ _ rfl rfl | exact .nilCheck _ _ rfl)) | with_reducible refine Calmly.gl_tf (fun _ _ => ?_) | with_reducible refine Calmly.gl_ft (fun _ _ => ?_)) | ((with_reducible refine Calmly.is_eff ?_); refine Calmly.mix_eff rfl (fun _ _ => ?_)) | ((with_reducible refine Calmly.is_gf ?_); refine Calmly.mix_gf rfl rfl rfl ?_; first | with_reducible refine Calmly.gf_tt (fun _ _ => ?_) | with_reducible refine Calmly.gf_ff (fun _ _ => ?_) | with_reducible refine Calmly.gf_tf (kept_of hk) (fun _ _ => ?_) | with_reducible refine Calmly.gf_ft (kept_of hk) (fun _ _ => ?_)) | ((with_reducible refine Calmly.is_tail ?_); first | refine Calmly.mix_tail_nil ?_ | refine Calmly.mix_tail rfl (fun _ _ => ?_)) | ((with_reducible refine Calmly.is_kept ?_); refine ⟨kept_of hk, ?_⟩) | (with_reducible refine Calmly.mix_alt ?_ ?_))
      go_ret
      refine ⟨ret_int ?_, (hb _).drew.trans (hk.mono (by simp))⟩
      rw [← HF.out, HLG.out, hw]
      rfl
    · have h' : decide (0 < y) = false := by simp; omega
      have hl : isLow x y = false := by unfold isLow; rw [h']; rfl
      have HL0 := Lib.hid hl
      clear h hl
      go_enter Tryz.func67, Tryz.ntmps67
      go_wp2_with fail
      refine Calmly.wp_region_mix 24 (.fl 0 <| .fl 1 <| .fl 2 <| .fl 3 <| .gl 4 <| .gl 5 <| .gl 6 <| .gl 7 <| .fl 13 <| .fl 14 <| .gf 8 <| .gf 9 <| .gl 10 <| .fl 11 <| .eff 12 <| .eff 15 <| .fl 16 <| .gl 17 <| .gl 18 <| .gl 19 <| .fl 20 <| .eff 21 <| .eff 22 <| .eff 23 <| .tail [24]) (by kernel_rfl) (by kernel_rfl) ?_
      have hk := Below.refl (w.alloc (.cells #[.int .i64 x, .int .i64 y] 39)).drew.heap.size (w.alloc (.cells #[.int .i64 x, .int .i64 y] 39)).drew
      go_wp2_with (first | ((with_reducible refine Calmly.is_fl ?_); refine Calmly.mix_fl rfl ?_ (fun _ _ => ?_); (first | exact .move _ | exact .load _ _ | exact .fieldAddr _ _ _ (by kernel_rfl) | exact .assign _ | exact .binOp _ _ _ _ _ rfl | exact .indexAddr _ _ _ | exact .len _ _ (by kernel_rfl) | exact .field _ _ _ | exact .extract _ _ | exact .pick _ _ _ | exact .build _ _ | exact .slice _ _ _ _ _ | exact .unOp _ _ _ rfl | exact .index _ _ _ | exact .max _ _ _ rfl rfl | exact .min _ _ _ rfl rfl | exact .nilCheck _ _ rfl)) | ((with_reducible refine Calmly.is_gl ?_); refine Calmly.mix_gl rfl rfl rfl ?_; first | ((first | with_reducible refine Calmly.gl_tt ?_ (fun _ _ => ?_) | with_reducible refine Calmly.gl_ff ?_ (fun _ _ => ?_)); (first | exact .move _ | exact .load _ _ | exact .fieldAddr _ _ _ (by kernel_rfl) | exact .assign _ | exact .binOp _ _ _ _ _ rfl | exact .indexAddr _ _ _ | exact .len _ _ (by kernel_rfl) | exact .field _ _ _ | exact .extract _ _ | exact .pick _ _ _ | exact .build _ _ | exact .slice _ _ _ _ _ | exact .unOp _ _ _ rfl | exact .index _ _ _ | exact .max _ _ _ rfl rfl | exact .min _ _ _ rfl rfl | exact .nilCheck _ _ rfl)) | with_reducible refine Calmly.gl_tf (fun _ _ => ?_) | with_reducible refine Calmly.gl_ft (fun _ _ => ?_)) | ((with_reducible refine Calmly.is_eff ?_); refine Calmly.mix_eff rfl (fun _ _ => ?_)) | ((with_reducible refine Calmly.is_gf ?_); refine Calmly.mix_gf rfl rfl rfl ?_; first | with_reducible refine Calmly.gf_tt (fun _ _ => ?_) | with_reducible refine Calmly.gf_ff (fun _ _ => ?_) | with_reducible refine Calmly.gf_tf (kept_of hk) (fun _ _ => ?_) | with_reducible refine Calmly.gf_ft (kept_of hk) (fun _ _ => ?_)) | ((with_reducible refine Calmly.is_tail ?_); first | refine Calmly.mix_tail_nil ?_ | refine Calmly.mix_tail rfl (fun _ _ => ?_)) | ((with_reducible refine Calmly.is_kept ?_); refine ⟨kept_of hk, ?_⟩) | (with_reducible refine Calmly.mix_alt ?_ ?_) | (refine kept_alloc hk (fun hk' hblk hge => ?_); replace hk := hk'; clear hk') | (go_at_call 61; refine (unless_any _ _ _).mono ?_; rintro e w' ⟨rfl, rfl⟩) | (go_at_call 89; refine (isSized_any _ _ _ (by omega) (by omega)).mono ?_; rintro e w' ⟨rfl, rfl⟩))
      refine (first_any _ 2 2 _ _ (SI.two _ _ _ _ (by simp)).drew).mono ?_
      rintro e w' ⟨rfl, rfl⟩
      go_wp2_with (first | ((with_reducible refine Calmly.is_fl ?_); refine Calmly.mix_fl rfl ?_ (fun _ _ => ?_); (first | exact .move _ | exact .load _ _ | exact .fieldAddr _ _ _ (by kernel_rfl) | exact .assign _ | exact .binOp _ _ _ _ _ rfl | exact .indexAddr _ _ _ | exact .len _ _ (by kernel_rfl) | exact .field _ _ _ | exact .extract _ _ | exact .pick _ _ _ | exact .build _ _ | exact .slice _ _ _ _ _ | exact .unOp _ _ _ rfl | exact .index _ _ _ | exact .max _ _ _ rfl rfl | exact .min _ _ _ rfl rfl | exact .nilCheck _ _ rfl)) | ((with_reducible refine Calmly.is_gl ?_); refine Calmly.mix_gl rfl rfl rfl ?_; first | ((first | with_reducible refine Calmly.gl_tt ?_ (fun _ _ => ?_) | with_reducible refine Calmly.gl_ff ?_ (fun _ _ => ?_)); (first | exact .move _ | exact .load _ _ | exact .fieldAddr _ _ _ (by kernel_rfl) | exact .assign _ | exact .binOp _ _ _ _ _ rfl | exact .indexAddr _ _ _ | exact .len _ _ (by kernel_rfl) | exact .field _ _ _ | exact .extract _ _ | exact .pick _ _ _ | exact .build _ _ | exact .slice _ _ _ _ _ | exact .unOp _ _ _ rfl | exact .index _ _ _ | exact .max _ _ _ rfl rfl | exact .min _ _ _ rfl rfl | exact .nilCheck _ _ rfl)) | with_reducible refine Calmly.gl_tf (fun _ _ => ?_) | with_reducible refine Calmly.gl_ft (fun _ _ => ?_)) | ((with_reducible refine Calmly.is_eff ?_); refine Calmly.mix_eff rfl (fun _ _ => ?_)) | ((with_reducible refine Calmly.is_gf ?_); refine Calmly.mix_gf rfl rfl rfl ?_; first | with_reducible refine Calmly.gf_tt (fun _ _ => ?_) | with_reducible refine Calmly.gf_ff (fun _ _ => ?_) | with_reducible refine Calmly.gf_tf (kept_of hk) (fun _ _ => ?_) | with_reducible refine Calmly.gf_ft (kept_of hk) (fun _ _ => ?_)) | ((with_reducible refine Calmly.is_tail ?_); first | refine Calmly.mix_tail_nil ?_ | refine Calmly.mix_tail rfl (fun _ _ => ?_)) | ((with_reducible refine Calmly.is_kept ?_); refine ⟨kept_of hk, ?_⟩) | (with_reducible refine Calmly.mix_alt ?_ ?_))
      go_ret
      refine ⟨ret_int ?_, ((hb _).alloc (by simp) _).drew⟩
      rw [← HF.out, HL0.out, hw]
      rfl

theorem sq_of {x y : Int} (h : squareE x y = 0) : Sq x y := by
  obtain ⟨_, h1, h2, h3, h4⟩ := squareE_ok h
  exact ⟨by omega, by omega, by omega, h2⟩

set_option maxRecDepth 100000 in
set_option maxHeartbeats 4000000 in
theorem CountBelow_any (a b : Option Addr) (n c m d : Nat) (ms ks : List Int) (x y : Int) (w : World) (h1 : SI w a n c ms) (h2 : SI w b m d ks) (hx1 : -9223372036854775808 ≤ x) (hx2 : x ≤ 9223372036854775807) (hy2 : y ≤ 9223372036854775807)
    (E : Int) (R : Int) (hE : (if (checkF ms ks).2 = 0 then squareE x y else (checkF ms ks).2) = E) (hok : E = 0 → belowF ms ks x y = R) (hno : E ≠ 0 → R = 0) :
    Calls Tryz.prog 27 #[.agg #[.slice a n c, .slice b m d], .agg #[.int .i64 x, .int .i64 y]] w fun e w' => e = .returned (.tuple #[.int .i64 R, .int .i64 E]) ∧ Below w.heap.size w w' := by
  have HE := Lib.hid hE
  have HOK := Lib.hid hok
  have HNO := Lib.hid hno
  clear hE hok hno
  have hA : ∀ (A : World) (o : Obj), Below A.heap.size A (A.alloc o) := fun A o => (Below.refl _ _).alloc (Nat.le_refl _) _
  have hb2 : Below w.heap.size w ((w.alloc (.cells #[.slice a n c, .slice b m d] 52)).alloc (.cells #[.int .i64 x, .int .i64 y] 39)) := ((Below.refl _ _).alloc (Nat.le_refl _) _).alloc (by simp) _
  have m1 := h1.max
  have c1 := h1.cap
  go_enter Tryz.func27, Tryz.ntmps27
  go_wp2_with fail
  refine (open_any a b n c m d ms ks _ (h1.keep hb2) (h2.keep hb2)).mono ?_
  rintro e w1 ⟨rfl, hb1⟩
  obtain ⟨x1, x2⟩ := box2 (w := w) (o := .cells #[.slice a n c, .slice b m d] 52) (o' := .cells #[.int .i64 x, .int .i64 y] 39) hb1
  have hs1 := blk_lt x2
  have hbw : Below w.heap.size w w1 := hb2.trans (hb1.mono (by simp; omega))
  have g0 : w1.cell? ⟨w.heap.size + 1, 0, none⟩ = some (.int .i64 x) := cell_block x2 0
  have g1 : w1.cell? ⟨w.heap.size + 1, 1, none⟩ = some (.int .i64 y) := cell_block x2 1
  have hb3 := hA w1 (.cells #[.slice a n c, .slice b m d] 118)
  have y1 := alloc_new w1 (.cells #[.slice a n c, .slice b m d] 118)
  replace x2 := blk_keep x2 hb3
  have hs3 : w.heap.size + 1 < w1.heap.size + 1 := by omega
  go_wp2_with fail
  refine (mSquareErr_any x y _ hx1 hx2 hy2).mono ?_
  rintro e w2 ⟨rfl, hb4⟩
  replace x2 := blk_keep x2 hb4
  replace y1 := blk_keep y1 hb4
  have hs4 := blk_lt y1
  have hb5 := hbw.trans ((hb3.trans (hb4.mono (by simp))).mono hbw.size)
  clear g0 g1
  go_wp2_with fail
  refine (first_any _ 2 2 _ _ (SI.two _ _ _ _ (by simp))).mono ?_
  rintro e w' ⟨rfl, rfl⟩
  rw [firstE_two]
  have HEE : (if (checkF ms ks).2 = 0 then squareE x y else (checkF ms ks).2) = E := HE.out
  rw [HEE]
  clear HEE
  have hb6 := hA w2 (.cells #[.int .i64 (checkF ms ks).2, .int .i64 (squareE x y)] 30)
  replace x2 := blk_keep x2 hb6
  replace y1 := blk_keep y1 hb6
  have hb7 := hb5.trans (hb6.mono hb5.size)
  obtain ⟨w3, hw3⟩ : ∃ v, w2.alloc (.cells #[.int .i64 (checkF ms ks).2, .int .i64 (squareE x y)] 30) = v := ⟨_, rfl⟩
  rw [hw3] at x2 y1 hb7 ⊢
  clear hw3 hb6
  have g0 : w3.cell? ⟨w.heap.size + 1, 0, none⟩ = some (.int .i64 x) := cell_block x2 0
  have g1 : w3.cell? ⟨w.heap.size + 1, 1, none⟩ = some (.int .i64 y) := cell_block x2 1
  have y0 : w3.cell? ⟨w1.heap.size, 0, none⟩ = some (.slice a n c) := cell_block y1 0
  have y2 : w3.cell? ⟨w1.heap.size, 1, none⟩ = some (.slice b m d) := cell_block y1 1
  by_cases hz : E = 0
  · subst hz
    have hR := HOK.out rfl
    have hc0 : (checkF ms ks).2 = 0 := by
      by_cases h : (checkF ms ks).2 = 0
      · exact h
      · have := HE.out
        rwa [if_neg h] at this
    have hq : Sq x y := sq_of (by have := HE.out; rwa [if_pos hc0] at this)
    have hnm : n = m := by
      have h3 := (checkF_ok hc0).1
      have := h1.len
      have := h2.len
      omega
    subst hnm
    have HR := Lib.hid hR
    have HC := Lib.hid hc0
    clear hR hc0
    go_wp2_with fail
    refine (below_any a b n c d ms ks x y _ (h1.keep hb7) (h2.keep hb7) HC.out hq).mono ?_
    rintro e w4 ⟨rfl, hb8⟩
    have hRR : belowF ms ks x y = R := HR.out
    rw [hRR]
    clear hRR
    have hb9 := hb7.trans (hb8.mono hb7.size)
    go_wp2_with fail
    exact bodyPost_ret (v := .tuple #[.int .i64 R, .int .i64 0]) (by simp [results, Tryz.results27, go_sem]) rfl ⟨rfl, hb9⟩
  · have hz1 : (E != 0) = true := by simpa using hz
    obtain rfl := HNO.out hz
    clear hz
    go_wp2_with fail
    exact bodyPost_ret (v := .tuple #[.int .i64 0, .int .i64 E]) (by simp [results, Tryz.results27, go_sem]) rfl ⟨rfl, hb7⟩

set_option maxRecDepth 100000 in
set_option maxHeartbeats 4000000 in
theorem IsMode_any (a b : Option Addr) (n c m d : Nat) (ms ks : List Int) (x y : Int) (w : World) (h1 : SI w a n c ms) (h2 : SI w b m d ks) (hx1 : -9223372036854775808 ≤ x) (hx2 : x ≤ 9223372036854775807) (hy2 : y ≤ 9223372036854775807)
    (E : Int) (R : Bool) (hE : (if (checkF ms ks).2 = 0 then squareE x y else (checkF ms ks).2) = E) (hok : E = 0 → modeF ms ks x y = R) (hno : E ≠ 0 → R = false) :
    Calls Tryz.prog 28 #[.agg #[.slice a n c, .slice b m d], .agg #[.int .i64 x, .int .i64 y]] w fun e w' => e = .returned (.tuple #[.bool R, .int .i64 E]) ∧ Below w.heap.size w w' := by
  have HE := Lib.hid hE
  have HOK := Lib.hid hok
  have HNO := Lib.hid hno
  clear hE hok hno
  have hA : ∀ (A : World) (o : Obj), Below A.heap.size A (A.alloc o) := fun A o => (Below.refl _ _).alloc (Nat.le_refl _) _
  have hb2 : Below w.heap.size w ((w.alloc (.cells #[.slice a n c, .slice b m d] 52)).alloc (.cells #[.int .i64 x, .int .i64 y] 39)) := ((Below.refl _ _).alloc (Nat.le_refl _) _).alloc (by simp) _
  have m1 := h1.max
  have c1 := h1.cap
  go_enter Tryz.func28, Tryz.ntmps28
  go_wp2_with fail
  refine (open_any a b n c m d ms ks _ (h1.keep hb2) (h2.keep hb2)).mono ?_
  rintro e w1 ⟨rfl, hb1⟩
  obtain ⟨x1, x2⟩ := box2 (w := w) (o := .cells #[.slice a n c, .slice b m d] 52) (o' := .cells #[.int .i64 x, .int .i64 y] 39) hb1
  have hs1 := blk_lt x2
  have hbw : Below w.heap.size w w1 := hb2.trans (hb1.mono (by simp; omega))
  have g0 : w1.cell? ⟨w.heap.size + 1, 0, none⟩ = some (.int .i64 x) := cell_block x2 0
  have g1 : w1.cell? ⟨w.heap.size + 1, 1, none⟩ = some (.int .i64 y) := cell_block x2 1
  have hb3 := hA w1 (.cells #[.slice a n c, .slice b m d] 118)
  have y1 := alloc_new w1 (.cells #[.slice a n c, .slice b m d] 118)
  replace x2 := blk_keep x2 hb3
  have hs3 : w.heap.size + 1 < w1.heap.size + 1 := by omega
  go_wp2_with fail
  refine (mSquareErr_any x y _ hx1 hx2 hy2).mono ?_
  rintro e w2 ⟨rfl, hb4⟩
  replace x2 := blk_keep x2 hb4
  replace y1 := blk_keep y1 hb4
  have hs4 := blk_lt y1
  have hb5 := hbw.trans ((hb3.trans (hb4.mono (by simp))).mono hbw.size)
  clear g0 g1
  go_wp2_with fail
  refine (first_any _ 2 2 _ _ (SI.two _ _ _ _ (by simp))).mono ?_
  rintro e w' ⟨rfl, rfl⟩
  rw [firstE_two]
  have HEE : (if (checkF ms ks).2 = 0 then squareE x y else (checkF ms ks).2) = E := HE.out
  rw [HEE]
  clear HEE
  have hb6 := hA w2 (.cells #[.int .i64 (checkF ms ks).2, .int .i64 (squareE x y)] 30)
  replace x2 := blk_keep x2 hb6
  replace y1 := blk_keep y1 hb6
  have hb7 := hb5.trans (hb6.mono hb5.size)
  obtain ⟨w3, hw3⟩ : ∃ v, w2.alloc (.cells #[.int .i64 (checkF ms ks).2, .int .i64 (squareE x y)] 30) = v := ⟨_, rfl⟩
  rw [hw3] at x2 y1 hb7 ⊢
  clear hw3 hb6
  have g0 : w3.cell? ⟨w.heap.size + 1, 0, none⟩ = some (.int .i64 x) := cell_block x2 0
  have g1 : w3.cell? ⟨w.heap.size + 1, 1, none⟩ = some (.int .i64 y) := cell_block x2 1
  have y0 : w3.cell? ⟨w1.heap.size, 0, none⟩ = some (.slice a n c) := cell_block y1 0
  have y2 : w3.cell? ⟨w1.heap.size, 1, none⟩ = some (.slice b m d) := cell_block y1 1
  by_cases hz : E = 0
  · subst hz
    have hR := HOK.out rfl
    have hc0 : (checkF ms ks).2 = 0 := by
      by_cases h : (checkF ms ks).2 = 0
      · exact h
      · have := HE.out
        rwa [if_neg h] at this
    have hq : Sq x y := sq_of (by have := HE.out; rwa [if_pos hc0] at this)
    have hnm : n = m := by
      have h3 := (checkF_ok hc0).1
      have := h1.len
      have := h2.len
      omega
    subst hnm
    have HR := Lib.hid hR
    have HC := Lib.hid hc0
    clear hR hc0
    go_wp2_with fail
    refine (below_any a b n c d ms ks x y _ (h1.keep hb7) (h2.keep hb7) HC.out hq).mono ?_
    rintro e w4 ⟨rfl, hb8⟩
    have hRR : modeF ms ks x y = R := HR.out
    rw [hRR]
    clear hRR
    have hb9 := hb7.trans (hb8.mono hb7.size)
    go_wp2_with fail
    exact bodyPost_ret (v := .tuple #[.bool R, .int .i64 0]) (by simp [results, Tryz.results28, go_sem]) rfl ⟨rfl, hb9⟩
  · have hz1 : (E != 0) = true := by simpa using hz
    obtain rfl := HNO.out hz
    clear hz
    go_wp2_with fail
    exact bodyPost_ret (v := .tuple #[.bool false, .int .i64 E]) (by simp [results, Tryz.results28, go_sem]) rfl ⟨rfl, hb7⟩
end Go.Proofs.YteigmjlfpmdmoaaGreatDoor

namespace Go.Calmly
theorem wpOps_list {P : Program} {ops : Array Oper} {Q : Exit → Act → World → Prop} (l : List Nat) : wpOps P ops Q l = wpList P ops Q (l.filterMap (fun i => ops[i]?)) := by
  induction l with
  | nil => funext a w; simp [wpOps, wpList]
  | cons i l ih =>
    funext a w
    cases h : ops[i]? with
    | none => simp only [wpOps, h, List.filterMap_cons, ih]
    | some o => simp only [wpOps, h, List.filterMap_cons, ih, wpList]
/-- The next operation of the tail is one that may have no room: an append. -/
theorem mix_tail_app {P : Program} {ops : Array Oper} {Q : Exit → Act → World → Prop} {w0 : World} {i : Nat} {l : List Nat} {dst : Option Tmp} {op : Op} {ty : TypeId} {pos : String} {after : Array Edge} {a : Act} {w : World} (hi : ops[i]? = some ⟨dst, op, ty, pos, after, none⟩)
    (h : ∀ rest, (∀ a' w', WpMix P ops Q w0 (.tail l) a' w' → wpList P ops Q rest a' w') → wpList P ops Q (⟨dst, op, ty, pos, after, none⟩ :: rest) a w) : WpMix P ops Q w0 (.tail (i :: l)) a w := by
  refine ⟨?_⟩
  show wpOps P ops Q (i :: l) a w
  rw [wpOps_list, List.filterMap_cons, hi]
  refine h _ fun a' w' hh => ?_
  have := hh.out
  rw [← wpOps_list]
  exact this
end Go.Calmly
namespace Go.Proofs.YteigmjlfpmdmoaaGreatDoor
open Go.RowKit
open Calmly (Kept)

/-- An append to a row of numbers, the world being that of the new number up to what is drawn. -/
theorem appIw {ops : Array Oper} {rest : List Oper} {o : Oper} {a : Act} {Q : Exit → Act → World → Prop} {Wx : World} (w0 : World) {B : Nat} {av : Option Addr} {n c : Nat} {xs : List Int} {v : Int}
    (hW : Wx = w0.alloc (.cells #[.int .i64 v] 3)) (hgd : o.guard = none) (s x : Operand)
    (ho : o.op = .call { callee := .builtin .append, args := #[s, x], argTypes := #[22, 22] })
    (hown : OwI w0 B av n c xs) (hs : a.eval s = .slice av n c) (hx : a.eval x = .slice (some ⟨w0.heap.size, 0, none⟩) 1 1)
    (hb1 : n + 1 ≤ 17592186044416) (hB : B ≤ w0.heap.size)
    (h : ∀ a' c' w', OwI w' B a' (n + 1) c' (xs ++ [v]) → Below B w0 w' → w0.heap.size < w'.heap.size → wpList Tryz.prog ops Q rest (a.put o.dst (.slice a' (n + 1) c')) w') :
    wpList Tryz.prog ops Q (o :: rest) a Wx := by
  subst hW
  exact appI hgd s x ho hown hs hx hb1 hB h
theorem gcd_mul_dvd (d a b x : Nat) : d ∣ Nat.gcd a b * x ↔ d ∣ a * x ∧ d ∣ b * x := by
  rw [← Nat.gcd_mul_right, Nat.dvd_gcd_iff]
theorem gcds_fold (l : List Int) (g d x : Nat) : d ∣ (l.foldl (fun g x => Int.gcd g x) g) * x ↔ d ∣ g * x ∧ ∀ p ∈ l, d ∣ p.natAbs * x := by
  induction l generalizing g with
  | nil => simp
  | cons p l ih =>
    rw [List.foldl_cons, ih]
    have : Int.gcd (g : Int) p = Nat.gcd g p.natAbs := by simp [Int.gcd]
    rw [this, gcd_mul_dvd]
    simp [and_assoc]
theorem gcds_dvd (l : List Int) (d x : Nat) : d ∣ gcds l * x ↔ ∀ p ∈ l, d ∣ p.natAbs * x := by
  unfold gcds
  rw [gcds_fold]
  simp
theorem gcds_dvd_mem {l : List Int} {p : Int} (h : p ∈ l) : ((gcds l : Nat) : Int) ∣ p := by
  have := (gcds_dvd l (gcds l) 1).1 (by simp) p h
  rw [Nat.mul_one] at this
  exact Int.natAbs_dvd_natAbs.1 (by simpa using this)
theorem gcds_pos {l : List Int} {p : Int} (h : p ∈ l) (hp : p ≠ 0) : 0 < gcds l := by
  rcases Nat.eq_zero_or_pos (gcds l) with h0 | h0
  · have := gcds_dvd_mem h
    rw [h0] at this
    simp at this
    exact absurd this hp
  · exact h0
end Go.Proofs.YteigmjlfpmdmoaaGreatDoor

namespace Go.Proofs.YteigmjlfpmdmoaaGreatDoor

theorem make_two {z1 z2 : Int} (hz : 0 < z2) : (Rat.divInt z1 z2).num = z1 / (Int.gcd z1 z2 : Int) ∧ ((Rat.divInt z1 z2).den : Int) = z2 / (Int.gcd z1 z2 : Int) := by
  rw [Rat.num_divInt, Rat.den_divInt, if_neg (by omega), Int.gcd_comm, Int.sign_eq_one_of_pos hz]
  refine ⟨by simp, ?_⟩
  rw [Int.natCast_ediv, Int.natAbs_of_nonneg (by omega)]
theorem num_neg {y : Rat} (h : y < 0) : y.num < 0 := by
  rcases Int.lt_or_le y.num 0 with h1 | h1
  · exact h1
  · exact absurd h (Rat.not_lt.2 (Rat.num_nonneg.1 h1))
theorem num_pos {y : Rat} (h : 0 < y) : 0 < y.num := by
  have h1 : 0 ≤ y.num := Rat.num_nonneg.2 (Rat.le_of_lt h)
  have h2 : y.num ≠ 0 := fun h3 => by
    rw [Rat.num_eq_zero.1 h3] at h
    exact absurd h (by decide)
  omega
theorem rat_cases (y : Rat) : y < 0 ∨ y = 0 ∨ 0 < y := by
  rcases Rat.le_total (a := y) (b := 0) with h | h
  · by_cases h2 : y = 0
    · exact .inr (.inl h2)
    · exact .inl (Rat.lt_of_le_of_ne h h2)
  · by_cases h2 : y = 0
    · exact .inr (.inl h2)
    · exact .inr (.inr (Rat.lt_of_le_of_ne h (Ne.symm h2)))
theorem sign_of_mul {z : Int} {P y : Rat} (hP : 0 < P) (h : (z : Rat) = P * y) : y.num.sign = z.sign := by
  rcases rat_cases y with hy | hy | hy
  · have h1 : (z : Rat) < 0 := by
      have := Rat.mul_pos hP (show 0 < -y by grind)
      grind
    have h2 : z < 0 := Rat.intCast_lt_intCast.1 h1
    rw [Int.sign_eq_neg_one_of_neg h2, Int.sign_eq_neg_one_of_neg (num_neg hy)]
  · rw [hy, Rat.mul_zero] at h
    have h2 : z = 0 := Rat.intCast_inj.1 h
    rw [h2, hy]
    rfl
  · have h1 : 0 < (z : Rat) := by
      rw [h]
      exact Rat.mul_pos hP hy
    have h2 : 0 < z := Rat.intCast_lt_intCast.1 h1
    rw [Int.sign_eq_one_of_pos h2, Int.sign_eq_one_of_pos (num_pos hy)]
end Go.Proofs.YteigmjlfpmdmoaaGreatDoor
