/- Small functions of the helpers' package: modulo, floors, comparisons of fractions of any size. Fractions in lowest terms. Contracts of the base package: the comparison of small fractions, and whole numbers. The examples of chapter 6 as the laws across layers see them; the plain law of a wave that repeats. -/
import Derived.Test.YteigmjlfpmdmoaaGreatDoorK16
namespace Go.Proofs.YteigmjlfpmdmoaaGreatDoor
open Go.RowKit
open Calmly (Kept)

theorem tdiv_floor (n d : Int) (h : 0 < d) : n / d = if n.tmod d < 0 then n.tdiv d - 1 else n.tdiv d := by
  have h1 := Int.tmod_add_mul_tdiv n d
  have h2 := Int.emod_add_mul_ediv n d
  have h3 := Int.emod_nonneg n (by omega : d ≠ 0)
  have h4 := Int.emod_lt_of_pos n h
  have h5 : n.tmod d < d := Int.tmod_lt_of_pos n h
  have h6 : -d < n.tmod d := by
    have := Int.lt_tmod_of_pos n h
    omega
  by_cases hn : n.tmod d < 0
  · rw [if_pos hn]
    have h7 : d * (n / d) = d * (n.tdiv d - 1) + (d + n.tmod d - n % d) := by rw [Int.mul_sub]; omega
    have h8 : d * (n / d - (n.tdiv d - 1)) = d + n.tmod d - n % d := by rw [Int.mul_sub]; omega
    have h9 : n / d - (n.tdiv d - 1) < 1 := by
      rcases Int.lt_or_le (n / d - (n.tdiv d - 1)) 1 with h | h'
      · exact h
      · have := Int.mul_le_mul_of_nonneg_left h' (by omega : 0 ≤ d)
        omega
    have h10 : -1 < n / d - (n.tdiv d - 1) := by
      rcases Int.lt_or_le (-1) (n / d - (n.tdiv d - 1)) with h | h'
      · exact h
      · have := Int.mul_le_mul_of_nonneg_left h' (by omega : 0 ≤ d)
        omega
    omega
  · rw [if_neg hn]
    have h8 : d * (n / d - n.tdiv d) = n.tmod d - n % d := by rw [Int.mul_sub]; omega
    have h9 : n / d - n.tdiv d < 1 := by
      rcases Int.lt_or_le (n / d - n.tdiv d) 1 with h | h'
      · exact h
      · have := Int.mul_le_mul_of_nonneg_left h' (by omega : 0 ≤ d)
        omega
    have h10 : -1 < n / d - n.tdiv d := by
      rcases Int.lt_or_le (-1) (n / d - n.tdiv d) with h | h'
      · exact h
      · have := Int.mul_le_mul_of_nonneg_left h' (by omega : 0 ≤ d)
        omega
    omega
theorem tmod_emod (n d : Int) (h : 0 < d) : n % d = if n.tmod d < 0 then n.tmod d + d else n.tmod d := by
  have h1 := Int.tmod_add_mul_tdiv n d
  have h2 := Int.emod_add_mul_ediv n d
  have h3 := tdiv_floor n d h
  split at h3
  · rename_i h4
    rw [if_pos h4]
    rw [h3, Int.mul_sub] at h2
    omega
  · rename_i h4
    rw [if_neg h4]
    rw [h3] at h2
    omega
theorem tdivq_bd (n d : Int) (h : 0 < d) (h1 : -9223372036854775808 ≤ n) (h2 : n ≤ 9223372036854775807) : -9223372036854775808 ≤ n.tdiv d ∧ n.tdiv d ≤ 9223372036854775807 := by
  rcases Int.le_total 0 n with h0 | h0
  · have h3 : 0 ≤ n.tdiv d := Int.tdiv_nonneg h0 (by omega)
    have h4 : n.tdiv d ≤ n := by
      rw [Int.tdiv_eq_ediv_of_nonneg h0]
      exact Int.ediv_le_self d h0
    omega
  · have h3 : 0 ≤ (-n).tdiv d := Int.tdiv_nonneg (by omega) (by omega)
    have h4 : (-n).tdiv d ≤ -n := by
      rw [Int.tdiv_eq_ediv_of_nonneg (by omega)]
      exact Int.ediv_le_self d (by omega)
    rw [Int.neg_tdiv] at h3 h4
    omega

set_option maxRecDepth 100000 in
set_option maxHeartbeats 400000 in
theorem mod_any (n d : Int) (w : World) (h : 0 < d) (h2 : d ≤ 9223372036854775807) (_ : -9223372036854775808 ≤ n) (_ : n ≤ 9223372036854775807) :
    Calls Tryz.prog 10 #[.int .i64 n, .int .i64 d] w fun e w' => e = .returned (.int .i64 (n % d)) ∧ w = w' := by
  have h3 := tmod_emod n d h
  have h4 : n.tmod d < d := Int.tmod_lt_of_pos n h
  have h5 : -d < n.tmod d := by
    have := Int.lt_tmod_of_pos n h
    omega
  have hd : (d == 0) = false := by simp; omega
  by_cases hm : n.tmod d < 0
  · rw [if_pos hm] at h3
    rw [h3]
    clear h3
    go_enter Tryz.func10, Tryz.ntmps10
    go_wp2_with fail
    go_ret
    exact ⟨rfl, rfl⟩
  · rw [if_neg hm] at h3
    rw [h3]
    have hm' : 0 ≤ n.tmod d := by omega
    clear h3 hm
    go_enter Tryz.func10, Tryz.ntmps10
    go_wp2_with fail
    go_ret
    exact ⟨rfl, rfl⟩

set_option maxRecDepth 100000 in
set_option maxHeartbeats 400000 in
theorem floor_any (n d : Int) (w : World) (h : 0 < d) (h2 : d ≤ 9223372036854775807) (hn1 : -9223372036854775807 ≤ n) (hn2 : n ≤ 9223372036854775807) :
    Calls Tryz.prog 79 #[.int .i64 n, .int .i64 d] w fun e w' => e = .returned (.int .i64 (n / d)) ∧ w = w' := by
  have h3 := tdiv_floor n d h
  have h4 : n.tmod d < d := Int.tmod_lt_of_pos n h
  have h5 : -d < n.tmod d := by
    have := Int.lt_tmod_of_pos n h
    omega
  have h6 := Int.natAbs_tdiv_le_natAbs n d
  have hd : (d == 0) = false := by simp; omega
  have h7 : -9223372036854775807 ≤ n.tdiv d := by omega
  have h8 : n.tdiv d ≤ 9223372036854775807 := by omega
  by_cases hm : n.tmod d < 0
  · rw [if_pos hm] at h3
    rw [h3]
    clear h3 h6
    go_enter Tryz.func79, Tryz.ntmps79
    go_wp2_with fail
    go_ret
    exact ⟨rfl, rfl⟩
  · rw [if_neg hm] at h3
    rw [h3]
    have hm' : 0 ≤ n.tmod d := by omega
    clear h3 hm h6
    go_enter Tryz.func79, Tryz.ntmps79
    go_wp2_with fail
    go_ret
    exact ⟨rfl, rfl⟩

/-- How two numbers compare: -1, 0 or 1. -/
def cmpQ (x y : Int) : Int := if x < y then -1 else if y < x then 1 else 0
theorem cmpQ_shift (x y z : Int) : cmpQ (x + z) (y + z) = cmpQ x y := by
  unfold cmpQ
  have e1 : (x + z < y + z) = (x < y) := by simp
  have e2 : (y + z < x + z) = (y < x) := by simp
  simp only [e1, e2]
/-- A step of the comparison of fractions. -/
theorem cmp_lt {n d m k : Int} (hd : 0 < d) (hk : 0 < k) (h : n / d < m / k) : cmpQ (n * k) (m * d) = -1 := by
  have h1 : n < d * (n / d) + d := by
    have := Int.emod_add_mul_ediv n d
    have := Int.emod_lt_of_pos n hd
    omega
  have h2 : k * (m / k) ≤ m := by
    have := Int.emod_add_mul_ediv m k
    have := Int.emod_nonneg m (by omega : k ≠ 0)
    omega
  have h3 : n * k < (d * (n / d) + d) * k := Int.mul_lt_mul_of_pos_right h1 hk
  have h4 : k * (m / k) * d ≤ m * d := Int.mul_le_mul_of_nonneg_right h2 (by omega)
  have h5 : (d * (n / d) + d) * k = (n / d + 1) * (d * k) := by
    rw [show d * (n / d) + d = d * (n / d + 1) by rw [Int.mul_add, Int.mul_one]]
    rw [Int.mul_comm d (n / d + 1), Int.mul_assoc]
  have h6 : k * (m / k) * d = (m / k) * (d * k) := by
    rw [Int.mul_comm k (m / k), Int.mul_assoc, Int.mul_comm k d]
  have h7 : (n / d + 1) * (d * k) ≤ (m / k) * (d * k) := Int.mul_le_mul_of_nonneg_right (by omega) (Int.mul_nonneg (by omega) (by omega))
  unfold cmpQ
  rw [if_pos (by omega)]
theorem cmp_swap (x y : Int) : cmpQ y x = - cmpQ x y := by
  unfold cmpQ
  split <;> split <;> first | omega | (split <;> omega) | rfl
theorem cmp_gt {n d m k : Int} (hd : 0 < d) (hk : 0 < k) (h : m / k < n / d) : cmpQ (n * k) (m * d) = 1 := by
  rw [cmp_swap, cmp_lt hk hd h]
  rfl
theorem cmp_eq {n d m k : Int} (h : n / d = m / k) : cmpQ (n * k) (m * d) = cmpQ ((n % d) * k) ((m % k) * d) := by
  have h1 := Int.emod_add_mul_ediv n d
  have h2 := Int.emod_add_mul_ediv m k
  have e1 : n * k = (n % d) * k + d * (n / d) * k := by rw [← Int.add_mul, h1]
  have e2 : m * d = (m % k) * d + d * (n / d) * k := by
    rw [h, show d * (m / k) * k = k * (m / k) * d by rw [Int.mul_comm d, Int.mul_assoc, Int.mul_comm d k, ← Int.mul_assoc, Int.mul_comm (m / k) k], ← Int.add_mul, h2]
  rw [e1, e2, cmpQ_shift]

set_option maxRecDepth 100000 in
set_option maxHeartbeats 1000000 in
theorem compare_any (n d m k : Int) (w : World) (hd : 0 < d) (hd2 : d ≤ 4611686018427387904) (hk : 0 < k) (hk2 : k ≤ 4611686018427387904) (hn1 : -4611686018427387904 ≤ n) (hn2 : n ≤ 4611686018427387904) (hm1 : -4611686018427387904 ≤ m) (hm2 : m ≤ 4611686018427387904) :
    Calls Tryz.prog 43 #[.int .i64 n, .int .i64 d, .int .i64 m, .int .i64 k] w fun e w' => e = .returned (.int .i64 (cmpQ (n * k) (m * d))) ∧ w = w' := by
  obtain ⟨R, hR⟩ : ∃ R, cmpQ (n * k) (m * d) = R := ⟨_, rfl⟩
  rw [hR]
  have HR := Lib.hid hR
  clear hR
  go_enter Tryz.func43, Tryz.ntmps43
  go_wp2_with fail
  go_loop [0, 1, 2, 3] (fun x0 x1 x2 x3 => ∃ n d m k : Int, x0 = .int .i64 n ∧ x1 = .int .i64 d ∧ x2 = .int .i64 m ∧ x3 = .int .i64 k ∧ 0 < d ∧ d ≤ 4611686018427387904 ∧ 0 < k ∧ k ≤ 4611686018427387904 ∧ -4611686018427387904 ≤ n ∧ n ≤ 4611686018427387904 ∧ -4611686018427387904 ≤ m ∧ m ≤ 4611686018427387904 ∧ cmpQ (n * k) (m * d) = R) (fun _ x1 _ x3 => (intOf x1 + intOf x3).toNat)
  case atStart => exact ⟨n, d, m, k, rfl, rfl, rfl, rfl, hd, hd2, hk, hk2, hn1, hn2, hm1, hm2, HR.out⟩
  case round =>
    clear HR hd hd2 hk hk2 hn1 hn2 hm1 hm2
    obtain ⟨n, d, m, k, rfl, rfl, rfl, rfl, hd, hd2, hk, hk2, hn1, hn2, hm1, hm2, hR⟩ := hrel
    have HR := Lib.hid hR
    clear hR
    have a1 := Int.emod_add_mul_ediv n d
    have a2 := Int.emod_lt_of_pos n hd
    have a3 := Int.emod_nonneg n (by omega : d ≠ 0)
    have b1 := Int.emod_add_mul_ediv m k
    have b2 := Int.emod_lt_of_pos m hk
    have b3 := Int.emod_nonneg m (by omega : k ≠ 0)
    rw [Int.mul_comm] at a1 b1
    go_wp2_with fail
    refine (floor_any n d _ hd (by omega) (by omega) (by omega)).mono ?_
    rintro e w1 ⟨rfl, rfl⟩
    go_wp2_with fail
    refine (floor_any m k _ hk (by omega) (by omega) (by omega)).mono ?_
    rintro e w1 ⟨rfl, rfl⟩
    rcases Int.lt_trichotomy (n / d) (m / k) with h | h | h
    · have hc := cmp_lt hd hk h
      obtain ⟨p, hp⟩ : ∃ p, n / d = p := ⟨_, rfl⟩
      obtain ⟨q, hq⟩ : ∃ q, m / k = q := ⟨_, rfl⟩
      rw [hp, hq] at h
      rw [hp, hq]
      have HC := Lib.hid hc
      clear hp hq hc a1 a2 a3 b1 b2 b3
      go_wp2_with fail
      go_ret
      exact ⟨ret_int (by rw [← HR.out, HC.out]), rfl⟩
    · have hc := cmp_eq h
      rw [← h] at b1 ⊢
      obtain ⟨p, hp⟩ : ∃ p, n / d = p := ⟨_, rfl⟩
      rw [hp] at a1 b1 ⊢
      obtain ⟨u, hu⟩ : ∃ u, n % d = u := ⟨_, rfl⟩
      obtain ⟨v, hv⟩ : ∃ v, m % k = v := ⟨_, rfl⟩
      rw [hu] at a1 a2 a3 hc
      rw [hv] at b1 b2 b3 hc
      have HC := Lib.hid (hc.symm.trans HR.out)
      clear h hp hu hv hc HR
      have f1 : -9223372036854775808 ≤ p * d := by omega
      have f2 : p * d ≤ 9223372036854775807 := by omega
      have f3 : -9223372036854775808 ≤ p * k := by omega
      have f4 : p * k ≤ 9223372036854775807 := by omega
      have e1 : n - p * d = u := by omega
      have e2 : m - p * k = v := by omega
      have f5 : -9223372036854775808 ≤ n - p * d := by omega
      have f6 : n - p * d ≤ 9223372036854775807 := by omega
      have f7 : -9223372036854775808 ≤ m - p * k := by omega
      have f8 : m - p * k ≤ 9223372036854775807 := by omega
      have G1 := Lib.hid e1
      have G2 := Lib.hid e2
      by_cases hu : u = 0
      · have t1 : (n - p * d == 0) = true := by simp; omega
        have T1 := Lib.hid t1
        by_cases hv : v = 0
        · have t2 : (m - p * k == 0) = true := by simp; omega
          subst hu
          subst hv
          clear e1 e2 a1 b1 a2 a3 b2 b3 T1
          go_wp2_with fail
          go_ret
          exact ⟨ret_int (by rw [← HC.out]; simp [cmpQ]), rfl⟩
        · have t2 : (m - p * k == 0) = false := by simp; omega
          have hvv : 0 < v * d := Int.mul_pos (by omega) hd
          subst hu
          have HV := Lib.hid hvv
          clear e1 e2 a1 b1 a2 a3 b2 b3 hv hvv
          go_wp2_with fail
          go_ret
          exact ⟨ret_int (by rw [← HC.out]; unfold cmpQ; rw [Int.zero_mul, if_pos HV.out]), rfl⟩
      · have t1 : (n - p * d == 0) = false := by simp; omega
        by_cases hv : v = 0
        · have t2 : (m - p * k == 0) = true := by simp; omega
          have hvv : 0 < u * k := Int.mul_pos (by omega) hk
          subst hv
          have HV := Lib.hid hvv
          clear e1 e2 a1 b1 a2 a3 b2 b3 hu hvv
          go_wp2_with fail
          go_ret
          exact ⟨ret_int (by rw [← HC.out]; unfold cmpQ; rw [Int.zero_mul, if_neg (by have := HV.out; omega), if_pos HV.out]), rfl⟩
        · have t2 : (m - p * k == 0) = false := by simp; omega
          have A := Lib.hid (And.intro a2 (And.intro a3 (And.intro b2 b3)))
          have U := Lib.hid (And.intro hu hv)
          clear e1 e2 a1 b1 a2 a3 b2 b3 hu hv
          go_wp2_with fail
          go_round
          case rel =>
            obtain ⟨a2, a3, b2, b3⟩ := A.out
            obtain ⟨hu, hv⟩ := U.out
            have e1 := G1.out
            have e2 := G2.out
            refine ⟨k, m - p * k, d, n - p * d, rfl, rfl, rfl, rfl, by omega, by omega, by omega, by omega, by omega, by omega, by omega, by omega, ?_⟩
            rw [e1, e2, Int.mul_comm k u, Int.mul_comm d v]
            exact HC.out
          case measure =>
            obtain ⟨a2, a3, b2, b3⟩ := A.out
            have e1 := G1.out
            have e2 := G2.out
            simp only [intOf]
            simp
            omega
    · have hc := cmp_gt hd hk h
      obtain ⟨p, hp⟩ : ∃ p, n / d = p := ⟨_, rfl⟩
      obtain ⟨q, hq⟩ : ∃ q, m / k = q := ⟨_, rfl⟩
      rw [hp, hq] at h
      rw [hp, hq]
      have h' : q ≤ p := by omega
      have HC := Lib.hid hc
      clear hp hq hc a1 a2 a3 b1 b2 b3
      go_wp2_with fail
      go_ret
      exact ⟨ret_int (by rw [← HR.out, HC.out]), rfl⟩

/-- A fraction in lowest terms, with a denominator above 0; its parts are small. -/
def isLow (x y : Int) : Bool := decide (0 < y) && (Int.gcd x y : Int) == 1
def isSmallF (x y : Int) : Bool := wIn x (-1000000000) 1000000000 && wIn y 1 1000000000

set_option maxRecDepth 100000 in
set_option maxHeartbeats 1000000 in
theorem isLowest_any (x y : Int) (w : World) (hx1 : -9223372036854775807 ≤ x) (hx2 : x ≤ 9223372036854775807) (hy2 : y ≤ 9223372036854775807) :
    Calls Tryz.prog 17 #[.agg #[.int .i64 x, .int .i64 y]] w fun e w' => e = .returned (.bool (isLow x y)) ∧ Below w.heap.size w w' := by
  have hb : ∀ o, Below w.heap.size w (w.alloc o) := fun o => (Below.refl _ _).alloc (Nat.le_refl _) _
  by_cases h : 0 < y
  · go_enter Tryz.func17, Tryz.ntmps17
    go_wp2_with fail
    refine (gcd_any x y _ (by omega) (by omega) (by omega) (by omega)).mono ?_
    rintro e w1 ⟨rfl, k, rfl⟩
    go_wp2_with fail
    go_ret
    refine ⟨ret_bool ?_, below_drewN (hb _) k⟩
    unfold isLow
    rw [decide_eq_true h]
    rfl
  · have h' : y ≤ 0 := by omega
    go_enter Tryz.func17, Tryz.ntmps17
    go_wp2_with fail
    go_ret
    refine ⟨ret_bool ?_, hb _⟩
    unfold isLow
    rw [decide_eq_false (by omega)]
    rfl

set_option maxRecDepth 100000 in
set_option maxHeartbeats 1000000 in
theorem isSmall_any (x y : Int) (w : World) :
    Calls Tryz.prog 18 #[.agg #[.int .i64 x, .int .i64 y]] w fun e w' => e = .returned (.bool (isSmallF x y)) ∧ Below w.heap.size w w' := by
  have hb : ∀ o, Below w.heap.size w (w.alloc o) := fun o => (Below.refl _ _).alloc (Nat.le_refl _) _
  unfold isSmallF
  cases h : wIn x (-1000000000) 1000000000
  · go_enter Tryz.func18, Tryz.ntmps18
    go_wp2_with (first | (go_at_call 8; refine (within_any _ _ _ _).mono ?_; rintro e w' ⟨rfl, rfl⟩))
    go_ret
    exact ⟨rfl, hb _⟩
  · cases h2 : wIn y 1 1000000000
    · go_enter Tryz.func18, Tryz.ntmps18
      go_wp2_with (first | (go_at_call 8; refine (within_any _ _ _ _).mono ?_; rintro e w' ⟨rfl, rfl⟩))
      go_ret
      exact ⟨rfl, hb _⟩
    · go_enter Tryz.func18, Tryz.ntmps18
      go_wp2_with (first | (go_at_call 8; refine (within_any _ _ _ _).mono ?_; rintro e w' ⟨rfl, rfl⟩))
      go_ret
      exact ⟨rfl, hb _⟩
end Go.Proofs.YteigmjlfpmdmoaaGreatDoor

namespace Go.Proofs.YteigmjlfpmdmoaaGreatDoor
open Go.RowKit

/-- The fraction in lowest terms. -/
theorem fracF_low (x y : Int) (hy : 0 < y) : isLow (fracF x y).1 (fracF x y).2 = true := by
  have hg : 0 < Int.gcd x y := Int.gcd_pos_of_ne_zero_right x (by omega)
  have hgI : (0 : Int) < (Int.gcd x y : Int) := by omega
  obtain ⟨a, ha⟩ := Int.gcd_dvd_left x y
  obtain ⟨b, hb⟩ := Int.gcd_dvd_right x y
  have e1 : x.tdiv (Int.gcd x y) = a := by
    conv => lhs; arg 1; rw [ha]
    exact Int.mul_tdiv_cancel_left a (by omega)
  have e2 : y.tdiv (Int.gcd x y) = b := by
    conv => lhs; arg 1; rw [hb]
    exact Int.mul_tdiv_cancel_left b (by omega)
  unfold fracF isLow
  rw [e1, e2]
  have h3 : Int.gcd ((Int.gcd x y : Int) * a) ((Int.gcd x y : Int) * b) = Int.gcd x y * Int.gcd a b := by
    rw [Int.gcd_mul_left]
    simp
  rw [← ha, ← hb] at h3
  have h4 : Int.gcd a b = 1 := by
    have : Int.gcd x y * Int.gcd a b = Int.gcd x y * 1 := by rw [← h3, Nat.mul_one]
    exact Nat.eq_of_mul_eq_mul_left hg this
  have h5 : 0 < b := by
    rcases Int.lt_or_le 0 b with h | h
    · exact h
    · have := Int.mul_le_mul_of_nonneg_left h (by omega : 0 ≤ (Int.gcd x y : Int))
      omega
  rw [h4, decide_eq_true h5]
  rfl
theorem fracF_parts (x y : Int) (hy : 0 < y) : ∃ g : Int, 0 < g ∧ x = g * (fracF x y).1 ∧ y = g * (fracF x y).2 := by
  have hg : 0 < Int.gcd x y := Int.gcd_pos_of_ne_zero_right x (by omega)
  obtain ⟨a, ha⟩ := Int.gcd_dvd_left x y
  obtain ⟨b, hb⟩ := Int.gcd_dvd_right x y
  have e1 : x.tdiv (Int.gcd x y) = a := by
    conv => lhs; arg 1; rw [ha]
    exact Int.mul_tdiv_cancel_left a (by omega)
  have e2 : y.tdiv (Int.gcd x y) = b := by
    conv => lhs; arg 1; rw [hb]
    exact Int.mul_tdiv_cancel_left b (by omega)
  refine ⟨Int.gcd x y, by omega, ?_, ?_⟩
  · show x = (Int.gcd x y : Int) * x.tdiv (Int.gcd x y); rw [e1]; exact ha
  · show y = (Int.gcd x y : Int) * y.tdiv (Int.gcd x y); rw [e2]; exact hb
theorem fracF_bd (x y : Int) (hy : 0 < y) (B : Int) (hx1 : -B ≤ x) (hx2 : x ≤ B) (hyB : y ≤ B) : -B ≤ (fracF x y).1 ∧ (fracF x y).1 ≤ B ∧ 0 < (fracF x y).2 ∧ (fracF x y).2 ≤ B := by
  obtain ⟨g, hg, h1, h2⟩ := fracF_parts x y hy
  generalize (fracF x y).1 = a at *
  generalize (fracF x y).2 = b at *
  have h3 := Int.natAbs_mul g a
  have h4 := Int.natAbs_mul g b
  rw [← h1] at h3
  rw [← h2] at h4
  have h5 : a.natAbs ≤ g.natAbs * a.natAbs := Nat.le_mul_of_pos_left _ (by omega)
  have h6 : b.natAbs ≤ g.natAbs * b.natAbs := Nat.le_mul_of_pos_left _ (by omega)
  have h7 : 0 < b := by
    rcases Int.lt_or_le 0 b with h | h
    · exact h
    · have := Int.mul_le_mul_of_nonneg_left h (by omega : 0 ≤ g)
      omega
  omega
end Go.Proofs.YteigmjlfpmdmoaaGreatDoor

namespace Go.Proofs.YteigmjlfpmdmoaaGreatDoor
open Go.RowKit
open Calmly (Kept)

theorem small_mul {x y : Int} (h1 : -1000000 ≤ x) (h2 : x ≤ 1000000) (h3 : -1000000 ≤ y) (h4 : y ≤ 1000000) : -1000000000000 ≤ x * y ∧ x * y ≤ 1000000000000 := by
  have e : (x * y).natAbs ≤ 1000000 * 1000000 := by
    rw [Int.natAbs_mul]
    exact Nat.mul_le_mul (by omega) (by omega)
  omega
set_option maxRecDepth 100000 in
set_option maxHeartbeats 1000000 in
theorem Cmp_any (x y x' y' : Int) (w : World) (h1 : -1000000 ≤ x) (h2 : x ≤ 1000000) (h3 : -1000000 ≤ y) (h4 : y ≤ 1000000) (h1' : -1000000 ≤ x') (h2' : x' ≤ 1000000) (h3' : -1000000 ≤ y') (h4' : y' ≤ 1000000) :
    Calls Tryz.prog 19 #[.agg #[.int .i64 x, .int .i64 y], .agg #[.int .i64 x', .int .i64 y']] w fun e w' => e = .returned (.int .i64 (cmpQ (x * y') (x' * y))) ∧ Below w.heap.size w w' := by
  have hb2 : Below w.heap.size w ((w.alloc (.cells #[.int .i64 x, .int .i64 y] 39)).alloc (.cells #[.int .i64 x', .int .i64 y'] 39)) := ((Below.refl _ _).alloc (Nat.le_refl _) _).alloc (by simp) _
  obtain ⟨a1, a2⟩ := small_mul h1 h2 h3' h4'
  obtain ⟨b1, b2⟩ := small_mul h1' h2' h3 h4
  go_enter Tryz.func19, Tryz.ntmps19
  go_wp2_with fail
  refine Calmly.wp_region_mix 11 (.fl 0 <| .fl 1 <| .fl 2 <| .fl 3 <| .fl 4 <| .fl 5 <| .fl 6 <| .fl 7 <| .fl 8 <| .fl 9 <| .fl 10 <| .tail [11]) (by kernel_rfl) (by kernel_rfl) ?_
  go_wp2_with (first | ((with_reducible refine Calmly.is_fl ?_); refine Calmly.mix_fl rfl ?_ (fun _ _ => ?_); (first | exact .move _ | exact .load _ _ | exact .fieldAddr _ _ _ (by kernel_rfl) | exact .assign _ | exact .binOp _ _ _ _ _ rfl | exact .indexAddr _ _ _ | exact .len _ _ (by kernel_rfl) | exact .field _ _ _ | exact .extract _ _ | exact .pick _ _ _ | exact .build _ _ | exact .slice _ _ _ _ _ | exact .unOp _ _ _ rfl | exact .index _ _ _ | exact .max _ _ _ rfl rfl | exact .min _ _ _ rfl rfl | exact .nilCheck _ _ rfl)) | ((with_reducible refine Calmly.is_gl ?_); refine Calmly.mix_gl rfl rfl rfl ?_; first | ((first | with_reducible refine Calmly.gl_tt ?_ (fun _ _ => ?_) | with_reducible refine Calmly.gl_ff ?_ (fun _ _ => ?_)); (first | exact .move _ | exact .load _ _ | exact .fieldAddr _ _ _ (by kernel_rfl) | exact .assign _ | exact .binOp _ _ _ _ _ rfl | exact .indexAddr _ _ _ | exact .len _ _ (by kernel_rfl) | exact .field _ _ _ | exact .extract _ _ | exact .pick _ _ _ | exact .build _ _ | exact .slice _ _ _ _ _ | exact .unOp _ _ _ rfl | exact .index _ _ _ | exact .max _ _ _ rfl rfl | exact .min _ _ _ rfl rfl | exact .nilCheck _ _ rfl)) | with_reducible refine Calmly.gl_tf (fun _ _ => ?_) | with_reducible refine Calmly.gl_ft (fun _ _ => ?_)) | ((with_reducible refine Calmly.is_eff ?_); refine Calmly.mix_eff rfl (fun _ _ => ?_)) | ((with_reducible refine Calmly.is_gf ?_); refine Calmly.mix_gf rfl rfl rfl ?_; first | with_reducible refine Calmly.gf_tt (fun _ _ => ?_) | with_reducible refine Calmly.gf_ff (fun _ _ => ?_) | with_reducible refine Calmly.gf_tf (kept_of hk) (fun _ _ => ?_) | with_reducible refine Calmly.gf_ft (kept_of hk) (fun _ _ => ?_)) | ((with_reducible refine Calmly.is_tail ?_); first | refine Calmly.mix_tail_nil ?_ | refine Calmly.mix_tail rfl (fun _ _ => ?_)) | ((with_reducible refine Calmly.is_kept ?_); refine ⟨kept_of hk, ?_⟩) | (with_reducible refine Calmly.mix_alt ?_ ?_))
  all_goals
    go_ret
    refine ⟨?_, hb2.drew⟩
    unfold cmpQ
    first
      | (rw [if_pos (by assumption)]; rfl)
      | (rw [if_neg (by omega), if_pos (by assumption)]; rfl)
      | (rw [if_neg (by omega), if_neg (by omega)]; rfl)
set_option maxRecDepth 100000 in
set_option maxHeartbeats 1000000 in
theorem Whole_any (x : Int) (w : World) : Calls Tryz.prog 20 #[.int .i64 x] w fun e w' => e = .returned (.agg #[.int .i64 x, .int .i64 1]) ∧ Below w.heap.size w w' := by
  have X := alloc_new w (.cells #[.int .i64 0, .int .i64 0] 39)
  have f0 := cell_block X 0
  have f1 := cell_block X 1
  have f2 := frozen_block X 0
  have f3 := frozen_block X 1
  go_enter Tryz.func20, Tryz.ntmps20
  go_wp2_with fail
  refine bodyPost_ret (v := .agg #[.int .i64 x, .int .i64 1]) (by simp [results, Tryz.results20, go_sem]) rfl ⟨rfl, ?_⟩
  exact (Below.refl _ _).alloc (Nat.le_refl _) _
end Go.Proofs.YteigmjlfpmdmoaaGreatDoor

namespace Go.Proofs.YteigmjlfpmdmoaaGreatDoor
open Go.RowKit
open Calmly (Kept)

set_option maxRecDepth 100000 in
set_option maxHeartbeats 1000000 in
theorem modalShown_any (w : World) : Calls Tryz.prog 7 #[] w fun e w' => e = .returned (.bool true) ∧ Below w.heap.size w w' := by
  have hA : ∀ (A : World) (o : Obj), Below A.heap.size A (A.alloc o) := fun A o => (Below.refl _ _).alloc (Nat.le_refl _) _
  go_enter Tryz.func7, Tryz.ntmps7
  go_wp2_with fail
  refine (lFrame_any _).mono ?_
  rintro e w3 ⟨a3, b3, rfl, fa3, fb3, B3⟩
  go_wp2_with fail
  refine (EnclosureOf_any a3 b3 2 2 2 2 [1, 1] [2, 1] 1 10 _ fa3 fb3 0 34 35 ex_encErr (fun _ => ex_enc) (fun h => absurd rfl h)).mono ?_
  rintro e w4 ⟨rfl, hb4⟩
  have B4 := B3.trans (hb4.mono B3.size)
  go_wp2_with fail
  refine (lDecay_any _).mono ?_
  rintro e w5 ⟨a5, rfl, fa5, hb5⟩
  have B5 := B4.trans (((hA w4 (.cells #[.int .i64 34, .int .i64 35] 46)).trans (hb5.mono (by simp))).mono B4.size)
  have r5 := blk_keep (alloc_new w4 (.cells #[.int .i64 34, .int .i64 35] 46)) hb5
  go_wp2_with fail
  refine (PeriodIn_any a5 11 11 _ 2 0 7 2 5 1 _ fa5 ex_perE (fun h => absurd rfl h) (fun _ => ex_per)).mono ?_
  rintro e w6 ⟨rfl, hb6⟩
  have B6 := B5.trans (hb6.mono B5.size)
  have r6 := blk_keep r5 hb6
  have g0 : w6.cell? ⟨w4.heap.size, 0, none⟩ = some (.int .i64 34) := cell_block r6 0
  have g1 : w6.cell? ⟨w4.heap.size, 1, none⟩ = some (.int .i64 35) := cell_block r6 1
  have hlt := blk_lt r6
  clear B3 B4 B5 r5 hb4 hb5 hb6 fa3 fb3 fa5
  go_wp2_with fail
  go_ret
  exact ⟨rfl, B6.trans ((hA _ _).mono B6.size)⟩

/-- How many numbers below k have the property. -/
def upsN (p : Nat → Bool) : Nat → Nat
  | 0 => 0
  | k + 1 => upsN p k + if p k then 1 else 0
theorem upsN_le (p : Nat → Bool) (k : Nat) : upsN p k ≤ k := by
  induction k with
  | zero => simp [upsN]
  | succ k ih => unfold upsN; split <;> omega
theorem upsN_pos {p : Nat → Bool} {k a : Nat} (h : a < k) (ha : p a = true) : 1 ≤ upsN p k := by
  induction k with
  | zero => omega
  | succ k ih =>
    unfold upsN
    by_cases e : a = k
    · subst e; rw [if_pos ha]; omega
    · have := ih (by omega); omega
theorem upsN_two {p : Nat → Bool} {k a b : Nat} (h : a < b) (hb : b < k) (ha : p a = true) (hp : p b = true) : 2 ≤ upsN p k := by
  induction k with
  | zero => omega
  | succ k ih =>
    unfold upsN
    by_cases e : b = k
    · subst e; rw [if_pos hp]; have := upsN_pos h ha; omega
    · have := ih (by omega); omega
theorem upsN_ex {p : Nat → Bool} {k : Nat} (h : 1 ≤ upsN p k) : ∃ a, a < k ∧ p a = true := by
  induction k with
  | zero => simp [upsN] at h
  | succ k ih =>
    unfold upsN at h
    by_cases e : p k = true
    · exact ⟨k, by omega, e⟩
    · rw [if_neg e] at h
      obtain ⟨a, ha, hp⟩ := ih (by omega)
      exact ⟨a, by omega, hp⟩
theorem upsN_one {p : Nat → Bool} {k : Nat} (h : upsN p k = 1) : ∃ a, a < k ∧ p a = true ∧ ∀ b, b < k → p b = true → b = a := by
  obtain ⟨a, ha, hp⟩ := upsN_ex (p := p) (k := k) (by omega)
  refine ⟨a, ha, hp, fun b hb hq => ?_⟩
  rcases Nat.lt_trichotomy a b with e | e | e
  · have := upsN_two e hb hp hq; omega
  · exact e.symm
  · have := upsN_two e ha hq hp; omega

/-- Crossings of one tick each, one period apart. -/
def PerL (n : Int) : Option Int → List (Int × Int) → Prop
  | _, [] => True
  | o, (b, i) :: r => i = b + 1 ∧ (∀ l, o = some l → b = l + n) ∧ PerL n (some b) r
theorem PerL.at_ {n : Int} {o : Option Int} {l : List (Int × Int)} (h : PerL n o l) (j : Nat) (hj : j < l.length) :
    (l[j]?.getD (0, 0)).2 = (l[j]?.getD (0, 0)).1 + 1 ∧ (l[j]?.getD (0, 0)).1 = (l[0]?.getD (0, 0)).1 + j * n := by
  induction l generalizing o j with
  | nil => simp at hj
  | cons x r ih =>
    obtain ⟨b, i⟩ := x
    obtain ⟨h1, _, h3⟩ := h
    cases j with
    | zero => simp [h1]
    | succ j =>
      have hj' : j < r.length := by simpa using hj
      have q := ih h3 j hj'
      have e : (((b, i) :: r)[j + 1]?.getD (0, 0)) = r[j]?.getD (0, 0) := by simp
      rw [e]
      refine ⟨q.1, ?_⟩
      rw [q.2]
      cases r with
      | nil => simp at hj'
      | cons y r =>
        obtain ⟨b', i'⟩ := y
        have := h3.2.1 b rfl
        simp only [List.getElem?_cons_zero, Option.getD_some, Int.natCast_add, Int.add_mul]
        omega
theorem PerL.next {n : Int} {o : Option Int} {l : List (Int × Int)} (h : PerL n o l) (j : Nat) (hj : j < l.length) (h0 : 0 < j) : (l[j]?.getD (0, 0)).1 = (l[j - 1]?.getD (0, 0)).1 + n := by
  have h1 := (h.at_ j hj).2
  have h2 := (h.at_ (j - 1) (by omega)).2
  obtain ⟨k, rfl⟩ : ∃ k, j = k + 1 := ⟨j - 1, by omega⟩
  simp only [Nat.add_sub_cancel] at h2 ⊢
  rw [h1, h2]
  simp only [Int.natCast_add, Int.add_mul]
  omega

theorem crossF_per {n i0 : Nat} (hn : 0 < n) {off : Int} {neg : Nat → Bool} {f : Nat → Int} (h1 : ∀ t, neg t = true → f t < -off) (h2 : ∀ t, neg t = false → off < f t) (hoff : 0 ≤ off)
    (h3 : ∀ t, neg t = true → neg (t + 1) = false → t % n = i0) (h4 : ∀ t, t % n = i0 → neg t = true ∧ neg (t + 1) = false) (k : Nat) :
    ∀ (t : Nat) (b : Int) (o : Option Int), ((1 ≤ t ∧ neg (t - 1) = true) → b = (t : Int) - 1) → (¬ (1 ≤ t ∧ neg (t - 1) = true) → b = -1) →
      (∀ l, o = some l → ∃ m : Nat, l = m ∧ m % n = i0 ∧ m + 2 ≤ t ∧ t ≤ m + n + 1) → PerL n o (crossF off t b ((List.range' t k).map f)) := by
  induction k with
  | zero => intro t b o _ _ _; simp [crossF, PerL]
  | succ k ih =>
    intro t b o hb1 hb2 ho
    rw [List.range'_succ, List.map_cons]
    unfold crossF
    have et : ((t + 1 : Nat) : Int) = (t : Int) + 1 := by omega
    have hstep : ∀ m : Nat, m % n = i0 → t = m + n + 1 → neg t = false ∧ neg (t - 1) = true := fun m hm e => by
      have := h4 (m + n) (by rw [Nat.add_mod_right]; exact hm)
      rw [e]
      exact ⟨this.2, this.1⟩
    cases hg : neg t with
    | true =>
      rw [if_pos (h1 t hg), ← et]
      refine ih (t + 1) t o (fun _ => by omega) (fun h => absurd ⟨by omega, by simpa using hg⟩ h) (fun l hl => ?_)
      obtain ⟨m, e, hm, q1, q2⟩ := ho l hl
      refine ⟨m, e, hm, by omega, ?_⟩
      rcases Nat.lt_or_ge m (t - n) with h | h
      · have := (hstep m hm (by omega)).1
        rw [hg] at this; cases this
      · omega
    | false =>
      have hf := h2 t hg
      rw [if_neg (by omega)]
      by_cases hp : 0 ≤ b
      · rw [if_pos ⟨hf, hp⟩]
        have hup : 1 ≤ t ∧ neg (t - 1) = true := Decidable.byContradiction fun h => by have := hb2 h; omega
        have eb := hb1 hup
        have hmod : (t - 1) % n = i0 := h3 (t - 1) hup.2 (by rw [show t - 1 + 1 = t by omega]; exact hg)
        refine ⟨by omega, fun l hl => ?_, ?_⟩
        · obtain ⟨m, e, hm, q1, q2⟩ := ho l hl
          have hd := Nat.sub_mod_eq_zero_of_mod_eq (hmod.trans hm.symm)
          rcases Nat.lt_or_ge (t - 1 - m) n with h | h
          · rw [Nat.mod_eq_of_lt h] at hd; omega
          · omega
        · rw [← et]
          refine ih (t + 1) (-1) (some b) (fun h => ?_) (fun _ => rfl) (fun l hl => ⟨t - 1, ?_, hmod, by omega, by omega⟩)
          · have := h.2; rw [Nat.add_sub_cancel, hg] at this; cases this
          · cases hl; omega
      · rw [if_neg (fun h => hp h.2), ← et]
        have hnu : ¬ (1 ≤ t ∧ neg (t - 1) = true) := fun h => by have := hb1 h; omega
        have eb := hb2 hnu
        refine ih (t + 1) b o (fun h => ?_) (fun _ => eb) (fun l hl => ?_)
        · have := h.2; rw [Nat.add_sub_cancel, hg] at this; cases this
        · obtain ⟨m, e, hm, q1, q2⟩ := ho l hl
          refine ⟨m, e, hm, by omega, ?_⟩
          rcases Nat.lt_or_ge m (t - n) with h | h
          · exact absurd ⟨by omega, (hstep m hm (by omega)).2⟩ hnu
          · omega

/-- Whether a wave rises above 0 behind this sample. -/
def upP (v : List Int) (i : Nat) : Bool := decide (v[i]?.getD 0 < 0) && decide (0 < v[(i + 1) % v.length]?.getD 0)
/-- The sample of a decay that repeats a wave, with its error. -/
def smp (v es : List Int) (off : Int) (t : Nat) : Int := v[t % v.length]?.getD 0 + (es[t % es.length]?.getD 0 % (2 * off + 1)) - off
def smps (v es : List Int) (off : Int) (k : Nat) : List Int := (List.range k).map (smp v es off)
theorem smps_snoc (v es : List Int) (off : Int) (k : Nat) : smps v es off (k + 1) = smps v es off k ++ [smp v es off k] := by simp [smps, List.range_succ]
theorem smps_len (v es : List Int) (off : Int) (k : Nat) : (smps v es off k).length = k := by simp [smps]
def WvOk (v : List Int) (off : Int) : Prop := ∀ i, i < v.length → -5000 ≤ v[i]?.getD 0 ∧ v[i]?.getD 0 ≤ 5000 ∧ 2 * off < (v[i]?.getD 0).natAbs
theorem smp_bd {v es : List Int} {off : Int} (hv : 0 < v.length) (h : WvOk v off) (h0 : 0 ≤ off) (h1 : off ≤ 1000) (t : Nat) :
    (v[t % v.length]?.getD 0 < 0 → smp v es off t < -off) ∧ (¬ v[t % v.length]?.getD 0 < 0 → off < smp v es off t) ∧ -10000 ≤ smp v es off t ∧ smp v es off t ≤ 10000 ∧ (v[t % v.length]?.getD 0 ≠ 0) := by
  have := h (t % v.length) (Nat.mod_lt _ hv)
  have e1 := Int.emod_nonneg (es[t % es.length]?.getD 0) (b := 2 * off + 1) (by omega)
  have e2 := Int.emod_lt_of_pos (es[t % es.length]?.getD 0) (b := 2 * off + 1) (by omega)
  unfold smp
  generalize (es[t % es.length]?.getD 0) % (2 * off + 1) = r at *
  omega
theorem smps_per {v es : List Int} {off : Int} (hv : 0 < v.length) (h : WvOk v off) (h0 : 0 ≤ off) (h1 : off ≤ 1000) (hu : upsN (upP v) v.length = 1) (k : Nat) : PerL v.length none (crossF off 0 (-1) (smps v es off k)) := by
  obtain ⟨i0, hi0, hp, huq⟩ := upsN_one hu
  have hb := smp_bd (es := es) hv h h0 h1
  have hnext : ∀ t : Nat, (t % v.length + 1) % v.length = (t + 1) % v.length := fun t => by rw [Nat.mod_add_mod]
  have hiff : ∀ t : Nat, upP v (t % v.length) = true ↔ v[t % v.length]?.getD 0 < 0 ∧ ¬ v[(t + 1) % v.length]?.getD 0 < 0 := fun t => by
    have hne := (hb (t + 1)).2.2.2.2
    unfold upP
    rw [hnext]
    simp only [Bool.and_eq_true, decide_eq_true_eq]
    omega
  have := crossF_per (n := v.length) (i0 := i0) hv (off := off) (neg := fun t => decide (v[t % v.length]?.getD 0 < 0)) (f := smp v es off) (fun t ht => (hb t).1 (by simpa using ht)) (fun t ht => (hb t).2.1 (by simpa using ht)) h0
    (fun t ha hb' => huq _ (Nat.mod_lt _ hv) ((hiff t).2 ⟨by simpa using ha, by simpa using hb'⟩))
    (fun t ht => by have := (hiff t).1 (by rw [ht]; exact hp); simpa using this) k 0 (-1) none (fun h => by omega) (fun _ => rfl) (fun l hl => by cases hl)
  simpa [smps, List.range_eq_range'] using this
theorem smps_ok {v es : List Int} {off : Int} {k : Nat} (hv : 0 < v.length) (h : WvOk v off) (h0 : 0 ≤ off) (h1 : off ≤ 1000) (hk : 0 < k) (hk2 : k ≤ 40) : decayE (smps v es off k) off = 0 := by
  have hl := smps_len v es off k
  rw [decayE_cases, if_neg (by omega), if_neg (by omega), if_neg, if_pos]
  · unfold wIn; simp; omega
  · intro ha
    obtain ⟨x, hx, ho⟩ := List.any_eq_true.1 ha
    obtain ⟨t, _, rfl⟩ := List.mem_map.1 hx
    have := smp_bd (es := es) hv h h0 h1 t
    unfold odd1 at ho
    simp [wIn] at ho
    omega

/-- The period of such a decay contains that of the wave. -/
theorem smps_period {l : List (Int × Int)} {n : Nat} (h : PerL n none l) (hn : 0 < n) (hn2 : n ≤ 10) (hl : 2 ≤ l.length) (hl2 : l.length ≤ 60) {p q r s : Int}
    (hp : (fracF ((l[l.length - 1]?.getD (0, 0)).1 - (l[0]?.getD (0, 0)).2) ((l.length - 1 : Nat) : Int), fracF ((l[l.length - 1]?.getD (0, 0)).2 - (l[0]?.getD (0, 0)).1) ((l.length - 1 : Nat) : Int)) = ((p, q), (r, s))) :
    isLow p q = true ∧ isLow r s = true ∧ isSmallF p q = true ∧ isSmallF r s = true ∧ cmpQ (p * 1) ((n : Int) * q) ≤ 0 ∧ cmpQ ((n : Int) * s) (r * 1) ≤ 0 ∧ -1000 ≤ p ∧ p ≤ 1000 ∧ -1000 ≤ q ∧ q ≤ 1000 ∧ -1000 ≤ r ∧ r ≤ 1000 ∧ -1000 ≤ s ∧ s ≤ 1000 := by
  obtain ⟨m, hm⟩ : ∃ m : Nat, l.length = m + 1 := ⟨l.length - 1, by omega⟩
  rw [hm, Nat.add_sub_cancel] at hp
  obtain ⟨e1, e2⟩ := Prod.mk.inj hp
  have a0 := h.at_ 0 (by omega)
  have a1 := h.at_ m (by omega)
  have hmn : 0 < (m : Int) := by omega
  have hb1 : 0 ≤ (m : Int) * n := Int.mul_nonneg (by omega) (by omega)
  have hb2 : (m : Int) * n ≤ 60 * 10 := Int.mul_le_mul (by omega) (by omega) (by omega) (by omega)
  have x1 : (l[m]?.getD (0, 0)).1 - (l[0]?.getD (0, 0)).2 = (m : Int) * n - 1 := by omega
  have x2 : (l[m]?.getD (0, 0)).2 - (l[0]?.getD (0, 0)).1 = (m : Int) * n + 1 := by omega
  rw [x1] at e1
  rw [x2] at e2
  have l1 := fracF_low ((m : Int) * n - 1) m hmn
  have l2 := fracF_low ((m : Int) * n + 1) m hmn
  have d1 := fracF_bd ((m : Int) * n - 1) m hmn 700 (by omega) (by omega) (by omega)
  have d2 := fracF_bd ((m : Int) * n + 1) m hmn 700 (by omega) (by omega) (by omega)
  obtain ⟨g1, hg1, k1, k2⟩ := fracF_parts ((m : Int) * n - 1) m hmn
  obtain ⟨g2, hg2, k3, k4⟩ := fracF_parts ((m : Int) * n + 1) m hmn
  rw [e1] at l1 d1 k1 k2
  rw [e2] at l2 d2 k3 k4
  simp only at l1 l2 d1 d2 k1 k2 k3 k4
  have c1 : p ≤ (n : Int) * q := by
    rcases Int.lt_or_le ((n : Int) * q) p with h' | h'
    · exfalso
      have := Int.mul_lt_mul_of_pos_left h' hg1
      have e : g1 * ((n : Int) * q) = (m : Int) * n := by rw [k2, Int.mul_comm (n : Int) q, ← Int.mul_assoc]
      omega
    · exact h'
  have c2 : (n : Int) * s ≤ r := by
    rcases Int.lt_or_le r ((n : Int) * s) with h' | h'
    · exfalso
      have := Int.mul_lt_mul_of_pos_left h' hg2
      have e : g2 * ((n : Int) * s) = (m : Int) * n := by rw [k4, Int.mul_comm (n : Int) s, ← Int.mul_assoc]
      omega
    · exact h'
  refine ⟨l1, l2, ?_, ?_, ?_, ?_, by omega, by omega, by omega, by omega, by omega, by omega, by omega, by omega⟩
  · unfold isSmallF wIn; simp; omega
  · unfold isSmallF wIn; simp; omega
  · unfold cmpQ; split <;> (try split) <;> omega
  · unfold cmpQ; split <;> (try split) <;> omega
end Go.Proofs.YteigmjlfpmdmoaaGreatDoor
