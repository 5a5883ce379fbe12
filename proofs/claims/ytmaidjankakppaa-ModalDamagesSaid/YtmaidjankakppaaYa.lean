/- Small functions of the helpers' package: modulo, floors, comparisons of fractions of any size. -/
import Derived.Test.YtmaidjankakppaaBa
namespace Go.Proofs.Ytmaidjankakppaa
open Go.RowKit
open Calmly (Kept)

theorem tdiv_floor (n d : Int) (h : 0 < d) : n / d = if n.tmod d < 0 then n.tdiv d - 1 else n.tdiv d := by
  have h1 := Int.tmod_add_mul_tdiv n d
  have h2 := Int.emod_add_mul_ediv n d
  have h3 := Int.emod_nonneg n (by omega : d ≠ 0)
  have h4 := Int.emod_lt_of_pos n h
  have h5 : n.tmod d < d := Int.tmod_lt_of_pos n h
  have h6 : -d < n.tmod d := by
    have := Int.lt_tmod_of_pos n h
    omega
  by_cases hn : n.tmod d < 0
  · rw [if_pos hn]
    have h7 : d * (n / d) = d * (n.tdiv d - 1) + (d + n.tmod d - n % d) := by rw [Int.mul_sub]; omega
    have h8 : d * (n / d - (n.tdiv d - 1)) = d + n.tmod d - n % d := by rw [Int.mul_sub]; omega
    have h9 : n / d - (n.tdiv d - 1) < 1 := by
      rcases Int.lt_or_le (n / d - (n.tdiv d - 1)) 1 with h | h'
      · exact h
      · have := Int.mul_le_mul_of_nonneg_left h' (by omega : 0 ≤ d)
        omega
    have h10 : -1 < n / d - (n.tdiv d - 1) := by
      rcases Int.lt_or_le (-1) (n / d - (n.tdiv d - 1)) with h | h'
      · exact h
      · have := Int.mul_le_mul_of_nonneg_left h' (by omega : 0 ≤ d)
        omega
    omega
  · rw [if_neg hn]
    have h8 : d * (n / d - n.tdiv d) = n.tmod d - n % d := by rw [Int.mul_sub]; omega
    have h9 : n / d - n.tdiv d < 1 := by
      rcases Int.lt_or_le (n / d - n.tdiv d) 1 with h | h'
      · exact h
      · have := Int.mul_le_mul_of_nonneg_left h' (by omega : 0 ≤ d)
        omega
    have h10 : -1 < n / d - n.tdiv d := by
      rcases Int.lt_or_le (-1) (n / d - n.tdiv d) with h | h'
      · exact h
      · have := Int.mul_le_mul_of_nonneg_left h' (by omega : 0 ≤ d)
        omega
    omega
theorem tmod_emod (n d : Int) (h : 0 < d) : n % d = if n.tmod d < 0 then n.tmod d + d else n.tmod d := by
  have h1 := Int.tmod_add_mul_tdiv n d
  have h2 := Int.emod_add_mul_ediv n d
  have h3 := tdiv_floor n d h
  split at h3
  · rename_i h4
    rw [if_pos h4]
    rw [h3, Int.mul_sub] at h2
    omega
  · rename_i h4
    rw [if_neg h4]
    rw [h3] at h2
    omega
theorem tdiv_bd (n d : Int) (h : 0 < d) (h1 : -9223372036854775808 ≤ n) (h2 : n ≤ 9223372036854775807) : -9223372036854775808 ≤ n.tdiv d ∧ n.tdiv d ≤ 9223372036854775807 := by
  rcases Int.le_total 0 n with h0 | h0
  · have h3 : 0 ≤ n.tdiv d := Int.tdiv_nonneg h0 (by omega)
    have h4 : n.tdiv d ≤ n := by
      rw [Int.tdiv_eq_ediv_of_nonneg h0]
      exact Int.ediv_le_self d h0
    omega
  · have h3 : 0 ≤ (-n).tdiv d := Int.tdiv_nonneg (by omega) (by omega)
    have h4 : (-n).tdiv d ≤ -n := by
      rw [Int.tdiv_eq_ediv_of_nonneg (by omega)]
      exact Int.ediv_le_self d (by omega)
    rw [Int.neg_tdiv] at h3 h4
    omega

set_option maxRecDepth 100000 in
set_option maxHeartbeats 400000 in
theorem mod_any (n d : Int) (w : World) (h : 0 < d) (h2 : d ≤ 9223372036854775807) (hn1 : -9223372036854775808 ≤ n) (hn2 : n ≤ 9223372036854775807) :
    Calls Try.prog 35 #[.int .i64 n, .int .i64 d] w fun e w' => e = .returned (.int .i64 (n % d)) ∧ w = w' := by
  have h3 := tmod_emod n d h
  have h4 : n.tmod d < d := Int.tmod_lt_of_pos n h
  have h5 : -d < n.tmod d := by
    have := Int.lt_tmod_of_pos n h
    omega
  have hd : (d == 0) = false := by simp; omega
  by_cases hm : n.tmod d < 0
  · rw [if_pos hm] at h3
    rw [h3]
    clear h3
    go_enter Try.func35, Try.ntmps35
    go_wp2_with fail
    go_ret
    exact ⟨rfl, rfl⟩
  · rw [if_neg hm] at h3
    rw [h3]
    have hm' : 0 ≤ n.tmod d := by omega
    clear h3 hm
    go_enter Try.func35, Try.ntmps35
    go_wp2_with fail
    go_ret
    exact ⟨rfl, rfl⟩

set_option maxRecDepth 100000 in
set_option maxHeartbeats 400000 in
theorem floor_any (n d : Int) (w : World) (h : 0 < d) (h2 : d ≤ 9223372036854775807) (hn1 : -9223372036854775807 ≤ n) (hn2 : n ≤ 9223372036854775807) :
    Calls Try.prog 112 #[.int .i64 n, .int .i64 d] w fun e w' => e = .returned (.int .i64 (n / d)) ∧ w = w' := by
  have h3 := tdiv_floor n d h
  have h4 : n.tmod d < d := Int.tmod_lt_of_pos n h
  have h5 : -d < n.tmod d := by
    have := Int.lt_tmod_of_pos n h
    omega
  have h6 := Int.natAbs_tdiv_le_natAbs n d
  have hd : (d == 0) = false := by simp; omega
  have h7 : -9223372036854775807 ≤ n.tdiv d := by omega
  have h8 : n.tdiv d ≤ 9223372036854775807 := by omega
  by_cases hm : n.tmod d < 0
  · rw [if_pos hm] at h3
    rw [h3]
    clear h3 h6
    go_enter Try.func112, Try.ntmps112
    go_wp2_with fail
    go_ret
    exact ⟨rfl, rfl⟩
  · rw [if_neg hm] at h3
    rw [h3]
    have hm' : 0 ≤ n.tmod d := by omega
    clear h3 hm h6
    go_enter Try.func112, Try.ntmps112
    go_wp2_with fail
    go_ret
    exact ⟨rfl, rfl⟩

/-- How two numbers compare: -1, 0 or 1. -/
def cmpQ (x y : Int) : Int := if x < y then -1 else if y < x then 1 else 0
theorem cmpQ_shift (x y z : Int) : cmpQ (x + z) (y + z) = cmpQ x y := by
  unfold cmpQ
  have e1 : (x + z < y + z) = (x < y) := by simp
  have e2 : (y + z < x + z) = (y < x) := by simp
  simp only [e1, e2]
/-- A step of the comparison of fractions. -/
theorem cmp_lt {n d m k : Int} (hd : 0 < d) (hk : 0 < k) (h : n / d < m / k) : cmpQ (n * k) (m * d) = -1 := by
  have h1 : n < d * (n / d) + d := by
    have := Int.emod_add_mul_ediv n d
    have := Int.emod_lt_of_pos n hd
    omega
  have h2 : k * (m / k) ≤ m := by
    have := Int.emod_add_mul_ediv m k
    have := Int.emod_nonneg m (by omega : k ≠ 0)
    omega
  have h3 : n * k < (d * (n / d) + d) * k := Int.mul_lt_mul_of_pos_right h1 hk
  have h4 : k * (m / k) * d ≤ m * d := Int.mul_le_mul_of_nonneg_right h2 (by omega)
  have h5 : (d * (n / d) + d) * k = (n / d + 1) * (d * k) := by
    rw [show d * (n / d) + d = d * (n / d + 1) by rw [Int.mul_add, Int.mul_one]]
    rw [Int.mul_comm d (n / d + 1), Int.mul_assoc]
  have h6 : k * (m / k) * d = (m / k) * (d * k) := by
    rw [Int.mul_comm k (m / k), Int.mul_assoc, Int.mul_comm k d]
  have h7 : (n / d + 1) * (d * k) ≤ (m / k) * (d * k) := Int.mul_le_mul_of_nonneg_right (by omega) (Int.mul_nonneg (by omega) (by omega))
  unfold cmpQ
  rw [if_pos (by omega)]
theorem cmp_swap (x y : Int) : cmpQ y x = - cmpQ x y := by
  unfold cmpQ
  split <;> split <;> first | omega | (split <;> omega) | rfl
theorem cmp_gt {n d m k : Int} (hd : 0 < d) (hk : 0 < k) (h : m / k < n / d) : cmpQ (n * k) (m * d) = 1 := by
  rw [cmp_swap, cmp_lt hk hd h]
  rfl
theorem cmp_eq {n d m k : Int} (h : n / d = m / k) : cmpQ (n * k) (m * d) = cmpQ ((n % d) * k) ((m % k) * d) := by
  have h1 := Int.emod_add_mul_ediv n d
  have h2 := Int.emod_add_mul_ediv m k
  have e1 : n * k = (n % d) * k + d * (n / d) * k := by rw [← Int.add_mul, h1]
  have e2 : m * d = (m % k) * d + d * (n / d) * k := by
    rw [h, show d * (m / k) * k = k * (m / k) * d by rw [Int.mul_comm d, Int.mul_assoc, Int.mul_comm d k, ← Int.mul_assoc, Int.mul_comm (m / k) k], ← Int.add_mul, h2]
  rw [e1, e2, cmpQ_shift]

set_option maxRecDepth 100000 in
set_option maxHeartbeats 1000000 in
theorem compare_any (n d m k : Int) (w : World) (hd : 0 < d) (hd2 : d ≤ 4611686018427387904) (hk : 0 < k) (hk2 : k ≤ 4611686018427387904) (hn1 : -4611686018427387904 ≤ n) (hn2 : n ≤ 4611686018427387904) (hm1 : -4611686018427387904 ≤ m) (hm2 : m ≤ 4611686018427387904) :
    Calls Try.prog 52 #[.int .i64 n, .int .i64 d, .int .i64 m, .int .i64 k] w fun e w' => e = .returned (.int .i64 (cmpQ (n * k) (m * d))) ∧ w = w' := by
  obtain ⟨R, hR⟩ : ∃ R, cmpQ (n * k) (m * d) = R := ⟨_, rfl⟩
  rw [hR]
  have HR := Lib.hid hR
  clear hR
  go_enter Try.func52, Try.ntmps52
  go_wp2_with fail
  go_loop [0, 1, 2, 3] (fun x0 x1 x2 x3 => ∃ n d m k : Int, x0 = .int .i64 n ∧ x1 = .int .i64 d ∧ x2 = .int .i64 m ∧ x3 = .int .i64 k ∧ 0 < d ∧ d ≤ 4611686018427387904 ∧ 0 < k ∧ k ≤ 4611686018427387904 ∧ -4611686018427387904 ≤ n ∧ n ≤ 4611686018427387904 ∧ -4611686018427387904 ≤ m ∧ m ≤ 4611686018427387904 ∧ cmpQ (n * k) (m * d) = R) (fun _ x1 _ x3 => (intOf x1 + intOf x3).toNat)
  case atStart => exact ⟨n, d, m, k, rfl, rfl, rfl, rfl, hd, hd2, hk, hk2, hn1, hn2, hm1, hm2, HR.out⟩
  case round =>
    clear HR hd hd2 hk hk2 hn1 hn2 hm1 hm2
    obtain ⟨n, d, m, k, rfl, rfl, rfl, rfl, hd, hd2, hk, hk2, hn1, hn2, hm1, hm2, hR⟩ := hrel
    have HR := Lib.hid hR
    clear hR
    have a1 := Int.emod_add_mul_ediv n d
    have a2 := Int.emod_lt_of_pos n hd
    have a3 := Int.emod_nonneg n (by omega : d ≠ 0)
    have b1 := Int.emod_add_mul_ediv m k
    have b2 := Int.emod_lt_of_pos m hk
    have b3 := Int.emod_nonneg m (by omega : k ≠ 0)
    rw [Int.mul_comm] at a1 b1
    go_wp2_with fail
    refine (floor_any n d _ hd (by omega) (by omega) (by omega)).mono ?_
    rintro e w1 ⟨rfl, rfl⟩
    go_wp2_with fail
    refine (floor_any m k _ hk (by omega) (by omega) (by omega)).mono ?_
    rintro e w1 ⟨rfl, rfl⟩
    rcases Int.lt_trichotomy (n / d) (m / k) with h | h | h
    · have hc := cmp_lt hd hk h
      obtain ⟨p, hp⟩ : ∃ p, n / d = p := ⟨_, rfl⟩
      obtain ⟨q, hq⟩ : ∃ q, m / k = q := ⟨_, rfl⟩
      rw [hp, hq] at h
      rw [hp, hq]
      have HC := Lib.hid hc
      clear hp hq hc a1 a2 a3 b1 b2 b3
      go_wp2_with fail
      go_ret
      exact ⟨ret_int (by rw [← HR.out, HC.out]), rfl⟩
    · have hc := cmp_eq h
      rw [← h] at b1 ⊢
      obtain ⟨p, hp⟩ : ∃ p, n / d = p := ⟨_, rfl⟩
      rw [hp] at a1 b1 ⊢
      obtain ⟨u, hu⟩ : ∃ u, n % d = u := ⟨_, rfl⟩
      obtain ⟨v, hv⟩ : ∃ v, m % k = v := ⟨_, rfl⟩
      rw [hu] at a1 a2 a3 hc
      rw [hv] at b1 b2 b3 hc
      have HC := Lib.hid (hc.symm.trans HR.out)
      clear h hp hu hv hc HR
      have f1 : -9223372036854775808 ≤ p * d := by omega
      have f2 : p * d ≤ 9223372036854775807 := by omega
      have f3 : -9223372036854775808 ≤ p * k := by omega
      have f4 : p * k ≤ 9223372036854775807 := by omega
      have e1 : n - p * d = u := by omega
      have e2 : m - p * k = v := by omega
      have f5 : -9223372036854775808 ≤ n - p * d := by omega
      have f6 : n - p * d ≤ 9223372036854775807 := by omega
      have f7 : -9223372036854775808 ≤ m - p * k := by omega
      have f8 : m - p * k ≤ 9223372036854775807 := by omega
      have G1 := Lib.hid e1
      have G2 := Lib.hid e2
      by_cases hu : u = 0
      · have t1 : (n - p * d == 0) = true := by simp; omega
        have T1 := Lib.hid t1
        by_cases hv : v = 0
        · have t2 : (m - p * k == 0) = true := by simp; omega
          subst hu
          subst hv
          clear e1 e2 a1 b1 a2 a3 b2 b3 T1
          go_wp2_with fail
          go_ret
          exact ⟨ret_int (by rw [← HC.out]; simp [cmpQ]), rfl⟩
        · have t2 : (m - p * k == 0) = false := by simp; omega
          have hvv : 0 < v * d := Int.mul_pos (by omega) hd
          subst hu
          have HV := Lib.hid hvv
          clear e1 e2 a1 b1 a2 a3 b2 b3 hv hvv
          go_wp2_with fail
          go_ret
          exact ⟨ret_int (by rw [← HC.out]; unfold cmpQ; rw [Int.zero_mul, if_pos HV.out]), rfl⟩
      · have t1 : (n - p * d == 0) = false := by simp; omega
        by_cases hv : v = 0
        · have t2 : (m - p * k == 0) = true := by simp; omega
          have hvv : 0 < u * k := Int.mul_pos (by omega) hk
          subst hv
          have HV := Lib.hid hvv
          clear e1 e2 a1 b1 a2 a3 b2 b3 hu hvv
          go_wp2_with fail
          go_ret
          exact ⟨ret_int (by rw [← HC.out]; unfold cmpQ; rw [Int.zero_mul, if_neg (by have := HV.out; omega), if_pos HV.out]), rfl⟩
        · have t2 : (m - p * k == 0) = false := by simp; omega
          have A := Lib.hid (And.intro a2 (And.intro a3 (And.intro b2 b3)))
          have U := Lib.hid (And.intro hu hv)
          clear e1 e2 a1 b1 a2 a3 b2 b3 hu hv
          go_wp2_with fail
          go_round
          case rel =>
            obtain ⟨a2, a3, b2, b3⟩ := A.out
            obtain ⟨hu, hv⟩ := U.out
            have e1 := G1.out
            have e2 := G2.out
            refine ⟨k, m - p * k, d, n - p * d, rfl, rfl, rfl, rfl, by omega, by omega, by omega, by omega, by omega, by omega, by omega, by omega, ?_⟩
            rw [e1, e2, Int.mul_comm k u, Int.mul_comm d v]
            exact HC.out
          case measure =>
            obtain ⟨a2, a3, b2, b3⟩ := A.out
            have e1 := G1.out
            have e2 := G2.out
            simp only [intOf]
            simp
            omega
    · have hc := cmp_gt hd hk h
      obtain ⟨p, hp⟩ : ∃ p, n / d = p := ⟨_, rfl⟩
      obtain ⟨q, hq⟩ : ∃ q, m / k = q := ⟨_, rfl⟩
      rw [hp, hq] at h
      rw [hp, hq]
      have h' : q ≤ p := by omega
      have HC := Lib.hid hc
      clear hp hq hc a1 a2 a3 b1 b2 b3
      go_wp2_with fail
      go_ret
      exact ⟨ret_int (by rw [← HR.out, HC.out]), rfl⟩

/-- A fraction in lowest terms, with a denominator above 0; its parts are small. -/
def isLow (x y : Int) : Bool := decide (0 < y) && (Int.gcd x y : Int) == 1
def isSmallF (x y : Int) : Bool := wIn x (-1000000000) 1000000000 && wIn y 1 1000000000

set_option maxRecDepth 100000 in
set_option maxHeartbeats 1000000 in
theorem isLowest_any (x y : Int) (w : World) (hx1 : -9223372036854775807 ≤ x) (hx2 : x ≤ 9223372036854775807) (hy2 : y ≤ 9223372036854775807) :
    Calls Try.prog 58 #[.agg #[.int .i64 x, .int .i64 y]] w fun e w' => e = .returned (.bool (isLow x y)) ∧ Below w.heap.size w w' := by
  have hb : ∀ o, Below w.heap.size w (w.alloc o) := fun o => (Below.refl _ _).alloc (Nat.le_refl _) _
  by_cases h : 0 < y
  · go_enter Try.func58, Try.ntmps58
    go_wp2_with fail
    refine (gcd_any x y _ (by omega) (by omega) (by omega) (by omega)).mono ?_
    rintro e w1 ⟨rfl, k, rfl⟩
    go_wp2_with fail
    go_ret
    refine ⟨ret_bool ?_, below_drewN (hb _) k⟩
    unfold isLow
    rw [decide_eq_true h]
    rfl
  · have h' : y ≤ 0 := by omega
    go_enter Try.func58, Try.ntmps58
    go_wp2_with fail
    go_ret
    refine ⟨ret_bool ?_, hb _⟩
    unfold isLow
    rw [decide_eq_false (by omega)]
    rfl

set_option maxRecDepth 100000 in
set_option maxHeartbeats 1000000 in
theorem isSmall_any (x y : Int) (w : World) :
    Calls Try.prog 59 #[.agg #[.int .i64 x, .int .i64 y]] w fun e w' => e = .returned (.bool (isSmallF x y)) ∧ Below w.heap.size w w' := by
  have hb : ∀ o, Below w.heap.size w (w.alloc o) := fun o => (Below.refl _ _).alloc (Nat.le_refl _) _
  unfold isSmallF
  cases h : wIn x (-1000000000) 1000000000
  · go_enter Try.func59, Try.ntmps59
    go_wp2_with (first | (go_at_call 44; refine (within_any _ _ _ _).mono ?_; rintro e w' ⟨rfl, rfl⟩))
    go_ret
    exact ⟨rfl, hb _⟩
  · cases h2 : wIn y 1 1000000000
    · go_enter Try.func59, Try.ntmps59
      go_wp2_with (first | (go_at_call 44; refine (within_any _ _ _ _).mono ?_; rintro e w' ⟨rfl, rfl⟩))
      go_ret
      exact ⟨rfl, hb _⟩
    · go_enter Try.func59, Try.ntmps59
      go_wp2_with (first | (go_at_call 44; refine (within_any _ _ _ _).mono ?_; rintro e w' ⟨rfl, rfl⟩))
      go_ret
      exact ⟨rfl, hb _⟩
end Go.Proofs.Ytmaidjankakppaa
