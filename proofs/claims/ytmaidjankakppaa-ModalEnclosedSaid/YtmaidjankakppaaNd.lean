/- The plain law of enclosures without references: ends, counts at the ends, and the sums. -/
import Derived.Test.YtmaidjankakppaaNc
import Derived.Test.YtmaidjankakppaaLw
namespace Go.Proofs.Ytmaidjankakppaa
open Go.RowKit

theorem below_same {ms ks : List Int} (h : Fr ms ks) {num den num' den' : Int} (hd : 0 < den) (hd' : 0 < den') (he : num * den' = num' * den) : belowF ms ks num den = belowF ms ks num' den' :=
  Int.le_antisymm (below_mono h hd hd' (Int.le_of_eq he)) (below_mono h hd' hd (Int.le_of_eq he.symm))
theorem mode_same {ms ks : List Int} (h : Fr ms ks) {num den num' den' : Int} (hd : 0 < den) (hd' : 0 < den') (he : num * den' = num' * den) : modeF ms ks num den = modeF ms ks num' den' := by
  rw [← modeQ_F h num den hd, ← modeQ_F h num' den' hd', (Rat.divInt_eq_divInt_iff (by omega) (by omega)).2 he]
theorem frac_cross {x y : Int} (hy : 0 < y) : 0 < (fracF x y).2 ∧ (fracF x y).2 ≤ y ∧ (fracF x y).1.natAbs ≤ x.natAbs ∧ (fracF x y).1 * y = x * (fracF x y).2 := by
  have hg : (0 : Int) < (Int.gcd x y : Int) := by have := Int.gcd_pos_of_ne_zero_right x (show y ≠ 0 by omega); omega
  obtain ⟨x', hx'⟩ := Int.gcd_dvd_left (a := x) (b := y)
  obtain ⟨y', hy'⟩ := Int.gcd_dvd_right (a := x) (b := y)
  have e1 : x.tdiv (Int.gcd x y) = x' := by conv => { lhs; lhs; rw [hx'] }; exact Int.mul_tdiv_cancel_left _ (by omega)
  have e2 : y.tdiv (Int.gcd x y) = y' := by conv => { lhs; lhs; rw [hy'] }; exact Int.mul_tdiv_cancel_left _ (by omega)
  have e3 : (fracF x y).1 = x' := e1
  have e4 : (fracF x y).2 = y' := e2
  rw [e3, e4]
  generalize (Int.gcd x y : Int) = g at *
  have hyp : 0 < y' := by
    rcases Int.lt_or_le 0 y' with k | k
    · exact k
    · have := Int.mul_nonneg (show 0 ≤ g by omega) (show 0 ≤ -y' by omega)
      rw [Int.mul_neg] at this
      omega
  refine ⟨hyp, ?_, ?_, ?_⟩
  · have := Int.mul_le_mul_of_nonneg_right (show 1 ≤ g by omega) (show 0 ≤ y' by omega)
    omega
  · rw [hx', Int.natAbs_mul]
    exact Nat.le_mul_of_pos_left _ (by omega)
  · rw [hx', hy']
    generalize x' = a
    generalize y' = b
    grind
/-- What is known of an enclosure. -/
theorem enc_facts {ms ks : List Int} (h : Fr ms ks) {mode : Nat} {den : Int} (hd : 0 < den) (hd2 : den ≤ 50) (hm : mode < ms.length) {lo hi : Int} (he : encF ms ks mode den = (lo, hi)) :
    (0 ≤ lo ∧ lo ≤ 80 * den) ∧ (lo ≤ hi ∧ hi ≤ lo + 1) ∧ belowF ms ks lo den ≤ mode ∧ (lo < hi → mode < belowF ms ks hi den) ∧ (lo = hi → modeF ms ks hi den = true ∧ belowF ms ks hi den = mode) ∧ ∀ K, 0 < K → mode < belowF ms ks (hi * K + 1) (den * K) := by
  obtain ⟨a1, a2, a3, a4⟩ := encLo_ok h (mode := mode) hd hd2 (by omega) (by omega)
  unfold encF at he
  split at he
  · rename_i hc
    obtain ⟨rfl, rfl⟩ := Prod.mk.inj he
    refine ⟨⟨a1, a2⟩, ⟨by omega, by omega⟩, a3, fun h1 => by omega, fun _ => hc, fun K hK => ?_⟩
    have hdK := Int.mul_pos hd hK
    have := below_mode h (num := encLo ms ks mode den) (den := den) (num' := encLo ms ks mode den * K + 1) (den' := den * K) hd hdK (by
      have e1 : encLo ms ks mode den * (den * K) = encLo ms ks mode den * K * den := by grind
      rw [e1]
      exact Int.mul_lt_mul_of_pos_right (by omega) hd) hc.1
    omega
  · obtain ⟨rfl, rfl⟩ := Prod.mk.inj he
    have hup := a4 (encLo ms ks mode den + 1) (by omega)
    refine ⟨⟨a1, a2⟩, ⟨by omega, by omega⟩, a3, fun _ => hup, fun h1 => by omega, fun K hK => ?_⟩
    have hdK := Int.mul_pos hd hK
    have := below_mono h (num := encLo ms ks mode den + 1) (den := den) (num' := (encLo ms ks mode den + 1) * K + 1) (den' := den * K) hd hdK (by
      have e1 : (encLo ms ks mode den + 1) * (den * K) = (encLo ms ks mode den + 1) * K * den := by grind
      rw [e1]
      exact Int.mul_le_mul_of_nonneg_right (by omega) (by omega))
    omega
/-- Enclosures ascend. -/
theorem enc_asc {ms ks : List Int} (h : Fr ms ks) {mode : Nat} {den : Int} (hd : 0 < den) (hd2 : den ≤ 50) (hm : mode + 1 < ms.length) : (encF ms ks mode den).1 ≤ (encF ms ks ((mode + 1 : Nat) : Int) den).1 ∧ (encF ms ks mode den).2 ≤ (encF ms ks ((mode + 1 : Nat) : Int) den).2 := by
  obtain ⟨a1, a2, a3, a4⟩ := encLo_ok h (mode := mode) hd hd2 (by omega) (by omega)
  obtain ⟨b1, b2, b3, b4⟩ := encLo_ok h (mode := ((mode + 1 : Nat) : Int)) hd hd2 (by omega) (by omega)
  have hlo : encLo ms ks mode den ≤ encLo ms ks ((mode + 1 : Nat) : Int) den := by
    rcases Int.lt_or_le (encLo ms ks ((mode + 1 : Nat) : Int) den) (encLo ms ks mode den) with h1 | h1
    · have := b4 _ h1
      omega
    · exact h1
  unfold encF
  split
  · split <;> dsimp only <;> omega
  · split
    · rename_i h1 h2
      dsimp only
      rcases Int.lt_or_eq_of_le hlo with h3 | h3
      · omega
      · exfalso
        rw [← h3] at h2
        omega
    · dsimp only
      omega
/-- The sums of the ends. -/
theorem enc_sums {ms ks : List Int} (h : Fr ms ks) {den : Int} (hd : 0 < den) (hd2 : den ≤ 50) :
    sumI (fun i => (encF ms ks i den).1) ms.length * ((sumQ ms ks ms.length).den : Int) ≤ (sumQ ms ks ms.length).num * den ∧ (sumQ ms ks ms.length).num * den ≤ sumI (fun i => (encF ms ks i den).2) ms.length * ((sumQ ms ks ms.length).den : Int) := by
  refine ⟨trace_lo h hd _ (fun i hi => ?_), trace_hi h hd _ (fun i hi => ?_)⟩
  · obtain ⟨⟨h1, h2⟩, _, h3, _⟩ := enc_facts h hd hd2 hi (lo := (encF ms ks i den).1) (hi := (encF ms ks i den).2) rfl
    exact ⟨h1, by omega, h3⟩
  · obtain ⟨⟨h1, h2⟩, ⟨h4, h5⟩, _, _, _, h3⟩ := enc_facts h hd hd2 hi (lo := (encF ms ks i den).1) (hi := (encF ms ks i den).2) rfl
    exact ⟨by omega, by omega, h3⟩
theorem sumI_bd (x : Nat → Int) (C : Int) (n : Nat) (h : ∀ i, i < n → 0 ≤ x i ∧ x i ≤ C) : 0 ≤ sumI x n ∧ sumI x n ≤ n * C := by
  induction n with
  | zero => simp [sumI]
  | succ n ih =>
    have h1 := ih (fun i hi => h i (by omega))
    have h2 := h n (by omega)
    simp only [sumI]
    have e : ((n + 1 : Nat) : Int) * C = n * C + C := by push_cast; rw [Int.add_mul]; omega
    omega
theorem sum_low (q : Rat) : isLow q.num (q.den : Int) = true := by
  unfold isLow
  have h1 : 0 < (q.den : Int) := by have := q.den_nz; omega
  have h2 : Int.gcd q.num (q.den : Int) = 1 := q.reduced
  simp only [Bool.and_eq_true, decide_eq_true_eq, beq_iff_eq]
  exact ⟨h1, by rw [h2]; rfl⟩
end Go.Proofs.Ytmaidjankakppaa
