/- The plain law of signs: the polynomial at a square is the last determinant; its coefficients are small. -/
import Derived.Test.YtmaidjankakppaaRh
namespace Go.Proofs.Ytmaidjankakppaa
open Go.RowKit

/-- The sum of a row's first numbers times the powers of a number. -/
def sumP (l : List Int) (q : Rat) : Nat → Rat
  | 0 => 0
  | p + 1 => sumP l q p + ((l[p]?.getD 0 : Int) : Rat) * q ^ p
theorem sumP_zeros (q : Rat) (m n : Nat) : sumP (List.replicate m 0) q n = 0 := by
  induction n with
  | zero => rfl
  | succ n ih =>
    rw [sumP, ih, List.getElem?_replicate]
    have : (((if n < m then some (0 : Int) else none).getD 0 : Int) : Rat) = 0 := by split <;> rfl
    rw [this]
    grind
theorem sumP_set (l : List Int) (q : Rat) (p : Nat) (d : Int) (hp : p < l.length) (n : Nat) : sumP (l.set p (l[p]?.getD 0 + d)) q n = sumP l q n + if p < n then (d : Rat) * q ^ p else 0 := by
  induction n with
  | zero =>
    rw [if_neg (by omega)]
    simp only [sumP]
    grind
  | succ n ih =>
    rw [sumP, sumP, ih, List.getElem?_set]
    by_cases h : p = n
    · subst h
      rw [if_pos rfl, if_pos hp, if_neg (by omega), if_pos (by omega), Option.getD_some, Rat.intCast_add]
      grind
    · rw [if_neg h]
      by_cases h2 : p < n
      · rw [if_pos h2, if_pos (by omega)]
        grind
      · rw [if_neg h2, if_neg (by omega)]
        grind
theorem sumP_step1 (own m c : Int) (p : Nat) (y : List Int) (q : Rat) (n : Nat) (hp : p + 1 < y.length) (hn : p + 1 < n) : sumP (step1 own m c p y) q n = sumP y q n + ((own : Rat) - q * (m : Rat)) * ((c : Rat) * q ^ p) := by
  unfold step1
  rw [show ∀ a b : Int, a - b = a + -b from fun a b => by omega, sumP_set _ _ _ _ (by rw [List.length_set]; exact hp), sumP_set _ _ _ _ (by omega), if_pos hn, if_pos (by omega), Rat.pow_succ, Rat.intCast_mul, Rat.intCast_neg, Rat.intCast_mul]
  grind
theorem sumP_fold1 (own m : Int) (last : List Int) (q : Rat) (p : Nat) (y : List Int) (n : Nat) (hp : p < y.length) (hn : p < n) : sumP (fold1 own m last p y) q n = sumP y q n + ((own : Rat) - q * (m : Rat)) * sumP last q p := by
  induction p with
  | zero => simp only [fold1, sumP]; grind
  | succ p ih =>
    rw [fold1, sumP_step1 _ _ _ _ _ _ _ (by rw [fold1_len]; exact hp) hn, ih (by omega) (by omega), sumP]
    grind
theorem sumP_fold2 (k : Int) (before : List Int) (q : Rat) (p : Nat) (y : List Int) (n : Nat) (hp : p ≤ y.length) (hn : p ≤ n) : sumP (fold2 k before p y) q n = sumP y q n - ((k * k : Int) : Rat) * sumP before q p := by
  induction p with
  | zero => simp only [fold2, sumP]; grind
  | succ p ih =>
    rw [fold2]
    unfold step2
    rw [show ∀ a b : Int, a - b = a + -b from fun a b => by omega, sumP_set _ _ _ _ (by rw [fold2_len]; omega), if_pos (by omega), ih (by omega) (by omega), sumP, Rat.intCast_neg, Rat.intCast_mul]
    grind
theorem sumP_next (own m k : Int) (i : Nat) (before now : List Int) (q : Rat) (hb : before.length ≤ now.length + 1) (h0 : i = 0 → sumP before q before.length = 0) :
    sumP (nextRow own m k i before now) q (now.length + 1) = ((own : Rat) - q * (m : Rat)) * sumP now q now.length - ((k * k : Int) : Rat) * sumP before q before.length := by
  unfold nextRow
  split
  · rw [sumP_fold2 _ _ _ _ _ _ (by rw [fold1_len]; simp; omega) (by omega), sumP_fold1 _ _ _ _ _ _ _ (by simp) (by omega), sumP_zeros]
    grind
  · rw [sumP_fold1 _ _ _ _ _ _ _ (by simp) (by omega), sumP_zeros, h0 (by omega)]
    grind
theorem sumP_row (ms ks : List Int) (q : Rat) (i : Nat) : sumP (polyRow ms ks i).2 q (i + 1) = (dQ ms ks q i).2 ∧ sumP (polyRow ms ks i).1 q (polyRow ms ks i).1.length = (dQ ms ks q i).1 := by
  induction i with
  | zero =>
    constructor
    · show sumP [1] q 1 = 1
      simp [sumP]
      grind
    · show sumP [0] q 1 = 0
      simp [sumP]
      grind
  | succ i ih =>
    obtain ⟨h1, h2⟩ := ih
    obtain ⟨L1, L2⟩ := polyRow_len ms ks i
    have e := sumP_next (ks[i]?.getD 0 + ks[i + 1]?.getD 0) (ms[i]?.getD 0) (ks[i]?.getD 0) i (polyRow ms ks i).1 (polyRow ms ks i).2 q (by omega) (fun h => by
      subst h
      rw [h2]
      rfl)
    rw [L1, h1, h2] at e
    refine ⟨e, ?_⟩
    show sumP (polyRow ms ks i).2 q (polyRow ms ks i).2.length = (dQ ms ks q i).2
    rw [L1, h1]
theorem sumP_poly (ms ks : List Int) (q : Rat) : sumP (polyF ms ks) q (ms.length + 1) = (dQ ms ks q ms.length).2 := (sumP_row ms ks q ms.length).1

/-- The coefficients one by one. -/
theorem fold1_get (own m : Int) (last : List Int) (p : Nat) (y : List Int) (hp : p < y.length) (j : Nat) : (fold1 own m last p y)[j]?.getD 0 = y[j]?.getD 0 + (if j < p then own * last[j]?.getD 0 else 0) - (if 0 < j ∧ j ≤ p then m * last[j - 1]?.getD 0 else 0) := by
  induction p with
  | zero =>
    rw [fold1, if_neg (by omega), if_neg (by omega)]
    omega
  | succ p ih =>
    have ih := ih (by omega)
    rw [fold1]
    unfold step1
    rw [List.getElem?_set, List.getElem?_set, List.getElem?_set]
    simp only [List.length_set, fold1_len]
    generalize fold1 own m last p y = z at *
    by_cases h1 : p + 1 = j
    · subst h1
      rw [if_pos (show p + 1 = p + 1 from rfl), if_pos hp, Option.getD_some, if_neg (show ¬ p = p + 1 by omega), if_neg (show ¬ p + 1 < p + 1 by omega), if_pos (show 0 < p + 1 ∧ p + 1 ≤ p + 1 by omega), Nat.add_sub_cancel]
      rw [if_neg (by omega), if_neg (by omega)] at ih
      omega
    · rw [if_neg h1]
      by_cases h2 : p = j
      · subst h2
        rw [if_pos (show p = p from rfl), if_pos (by omega), Option.getD_some, ih, if_neg (show ¬ p < p by omega), if_pos (show p < p + 1 by omega)]
        by_cases h4 : 0 < p
        · rw [if_pos (by omega), if_pos (by omega)]; omega
        · rw [if_neg (by omega), if_neg (by omega)]; omega
      · rw [if_neg h2, ih]
        by_cases h3 : j < p
        · rw [if_pos h3, if_pos (show j < p + 1 by omega)]
          by_cases h4 : 0 < j
          · rw [if_pos (show 0 < j ∧ j ≤ p by omega), if_pos (show 0 < j ∧ j ≤ p + 1 by omega)]
          · rw [if_neg (show ¬ (0 < j ∧ j ≤ p) by omega), if_neg (show ¬ (0 < j ∧ j ≤ p + 1) by omega)]
        · rw [if_neg h3, if_neg (show ¬ j < p + 1 by omega), if_neg (show ¬ (0 < j ∧ j ≤ p) by omega), if_neg (show ¬ (0 < j ∧ j ≤ p + 1) by omega)]
theorem fold2_get (k : Int) (before : List Int) (p : Nat) (y : List Int) (hp : p ≤ y.length) (j : Nat) : (fold2 k before p y)[j]?.getD 0 = y[j]?.getD 0 - (if j < p then k * k * before[j]?.getD 0 else 0) := by
  induction p with
  | zero => rw [fold2, if_neg (by omega)]; omega
  | succ p ih =>
    have ih := ih (by omega)
    rw [fold2]
    unfold step2
    rw [List.getElem?_set]
    simp only [fold2_len]
    by_cases h2 : p = j
    · subst h2
      rw [if_pos rfl, if_pos (by omega), Option.getD_some, ih, if_neg (by omega), if_pos (by omega)]
      omega
    · rw [if_neg h2, ih]
      by_cases h3 : j < p
      · rw [if_pos h3, if_pos (by omega)]
      · rw [if_neg h3, if_neg (by omega)]
theorem mulB {a x A C : Int} (h1 : 0 ≤ a) (h2 : a ≤ A) (h3 : -C ≤ x) (h4 : x ≤ C) (hC : 0 ≤ C) : -(A * C) ≤ a * x ∧ a * x ≤ A * C := by
  have e1 : a * x ≤ a * C := Int.mul_le_mul_of_nonneg_left h4 h1
  have e2 : a * -C ≤ a * x := Int.mul_le_mul_of_nonneg_left h3 h1
  have e3 : a * C ≤ A * C := Int.mul_le_mul_of_nonneg_right h2 hC
  rw [Int.mul_neg] at e2
  omega
theorem nextRow_fine {own m k : Int} {i : Nat} {before now : List Int} {C D : Int} (hb : before.length ≤ now.length + 1) (h1 : Bd C before) (h2 : Bd D now) (hC : 0 ≤ C) (hD : 0 ≤ D) (ho1 : 0 ≤ own) (ho2 : own ≤ 40) (hm1 : 0 ≤ m) (hm2 : m ≤ 10) (hk1 : 0 ≤ k) (hk2 : k ≤ 20) :
    Bd (50 * D + 400 * C) (nextRow own m k i before now) := by
  intro j
  have hk : k * k ≤ 400 := Int.le_trans (Int.mul_le_mul_of_nonneg_left hk2 hk1) (by omega)
  have e1 := mulB ho1 ho2 (h2 j).1 (h2 j).2 hD
  have e2 := mulB hm1 hm2 (h2 (j - 1)).1 (h2 (j - 1)).2 hD
  have e3 := mulB (Int.mul_nonneg hk1 hk1) hk (h1 j).1 (h1 j).2 hC
  have e4 : ((List.replicate (now.length + 1) (0 : Int))[j]?).getD 0 = 0 := by
    rw [List.getElem?_replicate]
    split <;> rfl
  have f := fold1_get own m now now.length (List.replicate (now.length + 1) 0) (by simp) j
  rw [e4] at f
  unfold nextRow
  split
  · rw [fold2_get _ _ _ _ (by rw [fold1_len]; simp; omega), f]
    split <;> split <;> split <;> omega
  · rw [f]
    split <;> split <;> omega
/-- How great a coefficient can be. -/
def cQ : Nat → Int × Int
  | 0 => (0, 1)
  | i + 1 => ((cQ i).2, 50 * (cQ i).2 + 400 * (cQ i).1)
theorem cQ_pos (i : Nat) : 0 ≤ (cQ i).1 ∧ 0 ≤ (cQ i).2 := by
  induction i with
  | zero => decide
  | succ i ih => simp only [cQ]; omega
theorem polyRow_fine {ms ks : List Int} (hm : ∀ i, i < ms.length → 1 ≤ ms[i]?.getD 0 ∧ ms[i]?.getD 0 ≤ 10) (hk : ∀ i : Nat, 0 ≤ ks[i]?.getD 0 ∧ ks[i]?.getD 0 ≤ 20) (i : Nat) (hi : i ≤ ms.length) : Bd (cQ i).1 (polyRow ms ks i).1 ∧ Bd (cQ i).2 (polyRow ms ks i).2 := by
  induction i with
  | zero => exact ⟨fun j => by cases j <;> simp [polyRow, cQ], fun j => by cases j <;> simp [polyRow, cQ]⟩
  | succ i ih =>
    obtain ⟨h1, h2⟩ := ih (by omega)
    obtain ⟨L1, L2⟩ := polyRow_len ms ks i
    have a1 := hk i
    have a2 := hk (i + 1)
    have a3 := hm i (by omega)
    obtain ⟨c1, c2⟩ := cQ_pos i
    exact ⟨h2, nextRow_fine (by omega) h1 h2 c1 c2 (by omega) (by omega) (by omega) (by omega) a1.1 a1.2⟩
theorem poly_fine {ms ks : List Int} (hl : ms.length ≤ 4) (hm : ∀ i, i < ms.length → 1 ≤ ms[i]?.getD 0 ∧ ms[i]?.getD 0 ≤ 10) (hk : ∀ i : Nat, 0 ≤ ks[i]?.getD 0 ∧ ks[i]?.getD 0 ≤ 20) : Bd 10000000 (polyF ms ks) := by
  intro j
  have h := (polyRow_fine hm hk ms.length (Nat.le_refl _)).2 j
  have : (cQ ms.length).2 ≤ 10000000 := by
    rcases (by omega : ms.length = 0 ∨ ms.length = 1 ∨ ms.length = 2 ∨ ms.length = 3 ∨ ms.length = 4) with h | h | h | h | h <;> rw [h] <;> decide
  unfold polyF
  omega
/-- Numbers in lowest terms are equal if they are the same. -/
theorem low_eq {x y x' y' : Int} (h : isLow x y = true) (h' : isLow x' y' = true) (he : x * y' = x' * y) : x = x' ∧ y = y' := by
  unfold isLow at h h'
  simp only [Bool.and_eq_true, decide_eq_true_eq, beq_iff_eq] at h h'
  obtain ⟨h1, h2⟩ := h
  obtain ⟨h3, h4⟩ := h'
  have g1 : Int.gcd x y = 1 := by omega
  have g2 : Int.gcd x' y' = 1 := by omega
  have cop : ∀ {a b c : Int}, Int.gcd a b = 1 → b ∣ a * c → b ∣ c := fun {a b c} hg hd => by
    rw [← Int.natAbs_dvd_natAbs, Int.natAbs_mul] at hd
    rw [← Int.natAbs_dvd_natAbs]
    exact Nat.Coprime.dvd_of_dvd_mul_left (Nat.Coprime.symm hg) hd
  have d1 : y ∣ y' := cop g1 (by rw [he]; exact Int.dvd_mul_left _ _)
  have d2 : y' ∣ y := cop g2 (by rw [← he]; exact Int.dvd_mul_left _ _)
  have e : y = y' := Int.le_antisymm (Int.le_of_dvd h3 d1) (Int.le_of_dvd h1 d2)
  subst e
  exact ⟨Int.eq_of_mul_eq_mul_right (by omega) he, rfl⟩
end Go.Proofs.Ytmaidjankakppaa
