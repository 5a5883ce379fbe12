/- The plain law of counts: the count of signs ascends with the square and the masses, and descends with the springs. The plain law of enclosures: what a search finds, and that enclosures ascend with springs, and descend with masses. -/
import Derived.Test.YteigmjlfpmdmoaaGreatDoorK17
namespace Go.Proofs.YteigmjlfpmdmoaaGreatDoor
open Go.RowKit

/-- A step of the count: the count so far, and the two last determinants with the sign of the count. -/
def stp (x e : Int) (s : Int × Int × Int) : Int × Int × Int := if 0 ≤ x * s.2.2 - e * s.2.1 then (s.1, s.2.2, x * s.2.2 - e * s.2.1) else (s.1 + 1, -s.2.2, -(x * s.2.2 - e * s.2.1))
def xco (ms ks : List Int) (num den : Int) (i : Nat) : Int := den * (ks[i]?.getD 0 + ks[i + 1]?.getD 0) - num * ms[i]?.getD 0
def phs (ms ks : List Int) (num den : Int) : Nat → Int × Int × Int
  | 0 => (0, 0, 1)
  | i + 1 => stp (xco ms ks num den i) (den * den * (ks[i]?.getD 0 * ks[i]?.getD 0)) (phs ms ks num den i)

def Good (s : Int × Int × Int) : Prop := 0 ≤ s.2.2 ∧ (s.2.2 = 0 → 0 < s.2.1)
theorem Good.stp {x e : Int} {s : Int × Int × Int} (h : Good s) (he : 0 < e) : Good (stp x e s) := by
  obtain ⟨c, p, q⟩ := s
  obtain ⟨h1, h2⟩ := h
  dsimp only at h1 h2
  unfold Go.Proofs.YteigmjlfpmdmoaaGreatDoor.stp
  dsimp only
  split
  · rename_i h3
    refine ⟨h3, fun h4 => ?_⟩
    dsimp only at h4 ⊢
    rcases Int.lt_or_eq_of_le h1 with h5 | h5
    · exact h5
    · have h6 := h2 h5.symm
      have := Int.mul_pos he h6
      rw [← h5] at h4
      omega
  · rename_i h3
    exact ⟨by dsimp only; omega, fun h4 => by dsimp only at h4; omega⟩
theorem good0 : Good (0, 0, 1) := ⟨by decide, by decide⟩
theorem phs_good {ms ks : List Int} {num den : Int} (hd : 0 < den) (n : Nat) (hk : ∀ i, i < n → 0 < ks[i]?.getD 0) : Good (phs ms ks num den n) := by
  induction n with
  | zero => exact good0
  | succ n ih =>
    refine (ih (fun i hi => hk i (by omega))).stp ?_
    have := hk n (by omega)
    exact Int.mul_pos (Int.mul_pos hd hd) (Int.mul_pos this this)

/-- The count and the determinants of the program are those of the steps. -/
theorem phs_det (ms ks : List Int) (num den : Int) (hd : 0 < den) (n : Nat) (hk : ∀ i, i < n → 0 < ks[i]?.getD 0) :
    ∃ σ : Int, (σ = 1 ∨ σ = -1) ∧ (detRow ms ks num den n) = (σ * (phs ms ks num den n).2.1, σ * (phs ms ks num den n).2.2) ∧ bAll (dets ms ks num den n) = ((phs ms ks num den n).1, σ, σ * (phs ms ks num den n).2.2) := by
  induction n with
  | zero => exact ⟨1, .inl rfl, rfl, rfl⟩
  | succ n ih =>
    obtain ⟨σ, hσ, h1, h2⟩ := ih (fun i hi => hk i (by omega))
    have hg := phs_good (ms := ms) (num := num) hd n (fun i hi => hk i (by omega))
    rw [dets_succ, bAll_snoc, h2]
    have hn : (detRow ms ks num den (n + 1)) = (σ * (phs ms ks num den n).2.2, σ * (xco ms ks num den n * (phs ms ks num den n).2.2 - den * den * (ks[n]?.getD 0 * ks[n]?.getD 0) * (phs ms ks num den n).2.1)) := by
      show ((detRow ms ks num den n).2, detNext _ _ _ _ _ _ _ _) = _
      rw [h1]
      congr 1
      unfold detNext xco
      split
      · rename_i h0
        subst h0
        dsimp only [phs]
        generalize ks[0]?.getD 0 = a
        generalize ks[0 + 1]?.getD 0 = b
        generalize ms[0]?.getD 0 = c
        grind
      · generalize (phs ms ks num den n) = s
        generalize ks[n]?.getD 0 = a
        generalize ks[n + 1]?.getD 0 = b
        generalize ms[n]?.getD 0 = c
        grind
    rw [hn]
    show ∃ σ' : Int, (σ' = 1 ∨ σ' = -1) ∧ _ = (σ' * (stp _ _ _).2.1, σ' * (stp _ _ _).2.2) ∧ _ = ((stp _ _ _).1, σ', σ' * (stp _ _ _).2.2)
    generalize phs ms ks num den n = s at *
    generalize xco ms ks num den n = x at *
    generalize den * den * (ks[n]?.getD 0 * ks[n]?.getD 0) = e at *
    obtain ⟨c, p, q⟩ := s
    dsimp only at *
    unfold stp bStep
    dsimp only
    generalize x * q - e * p = t
    by_cases ht : 0 ≤ t
    · rw [if_pos ht]
      refine ⟨σ, hσ, rfl, ?_⟩
      rw [if_neg]
      rintro ⟨h3, h4⟩
      rcases Int.lt_or_eq_of_le ht with h5 | h5
      · have h6 := Int.sign_eq_one_of_pos h5
        rw [Int.sign_mul, h6, Int.mul_one] at h4
        rcases hσ with rfl | rfl <;> exact h4 (by decide)
      · rw [← h5, Int.mul_zero] at h3
        exact h3 (by decide)
    · rw [if_neg ht]
      have h6 := Int.sign_eq_neg_one_of_neg (by omega : t < 0)
      refine ⟨-σ, by omega, by rw [Int.neg_mul_neg, Int.neg_mul_neg], ?_⟩
      have h7 : (σ * t).sign = -σ := by
        rw [Int.sign_mul, h6]
        rcases hσ with rfl | rfl <;> decide
      rw [if_pos, h7]
      · rw [Int.neg_mul_neg]
      · rw [h7]
        omega
theorem below_phs {ms ks : List Int} (num den : Int) (hd : 0 < den) (hk : ∀ i, i < ms.length → 0 < ks[i]?.getD 0) : belowF ms ks num den = (phs ms ks num den ms.length).1 := by
  obtain ⟨σ, _, _, h⟩ := phs_det ms ks num den hd ms.length hk
  unfold belowF
  rw [h]
theorem mode_phs {ms ks : List Int} (num den : Int) (hd : 0 < den) (hk : ∀ i, i < ms.length → 0 < ks[i]?.getD 0) : modeF ms ks num den = true ↔ (phs ms ks num den ms.length).2.2 = 0 := by
  obtain ⟨σ, hσ, _, h⟩ := phs_det ms ks num den hd ms.length hk
  unfold modeF
  rw [h]
  rcases hσ with rfl | rfl <;> simp

/-- States in order, each with a denominator. -/
def Le (D D' : Int) (s s' : Int × Int × Int) : Prop := s.1 < s'.1 ∨ (s.1 = s'.1 ∧ D * s.2.1 * s'.2.2 ≤ D' * s'.2.1 * s.2.2)
def Lt (D D' : Int) (s s' : Int × Int × Int) : Prop := s.1 < s'.1 ∨ (s.1 = s'.1 ∧ D * s.2.1 * s'.2.2 < D' * s'.2.1 * s.2.2)
theorem Lt.le {D D' : Int} {s s' : Int × Int × Int} (h : Lt D D' s s') : Le D D' s s' := h.imp id (fun h => ⟨h.1, Int.le_of_lt h.2⟩)

/-- The states after a step, of which the later one is given by an inequality. -/
theorem stp_le {D D' x e x' e' : Int} {s s' : Int × Int × Int} (hD : 0 < D) (hD' : 0 < D') (he : 0 < e) (he' : 0 < e') (h : Good s) (h' : Good s') (hc : s.1 = s'.1)
    (hI : (x' * s'.2.2 - e' * s'.2.1) * s.2.2 * D ≤ (x * s.2.2 - e * s.2.1) * s'.2.2 * D') : Le D D' (stp x e s) (stp x' e' s') := by
  have hg := h.stp (x := x) he
  have hg' := h'.stp (x := x') he'
  obtain ⟨c, p, q⟩ := s
  obtain ⟨c', p', q'⟩ := s'
  obtain ⟨h1, h2⟩ := h
  obtain ⟨h1', h2'⟩ := h'
  dsimp only at *
  subst hc
  unfold stp at hg hg' ⊢
  dsimp only at hg hg' ⊢
  have hz : q' = 0 → x' * q' - e' * p' < 0 := fun h0 => by
    have := Int.mul_pos he' (h2' h0)
    rw [h0]
    omega
  generalize x * q - e * p = t at *
  generalize x' * q' - e' * p' = t' at *
  by_cases ht : 0 ≤ t
  · rw [if_pos ht]
    by_cases ht' : 0 ≤ t'
    · rw [if_pos ht']
      refine .inr ⟨rfl, ?_⟩
      dsimp only
      have e1 : D * q * t' = t' * q * D := by grind
      have e2 : D' * q' * t = t * q' * D' := by grind
      omega
    · rw [if_neg ht']
      exact .inl (by dsimp only; omega)
  · rw [if_neg ht]
    by_cases ht' : 0 ≤ t'
    · exfalso
      rcases Int.lt_or_eq_of_le h1' with h5 | h5
      · have h6 : 0 ≤ t' * q * D := Int.mul_nonneg (Int.mul_nonneg ht' h1) (by omega)
        have h7 : 0 < (-t) * q' * D' := Int.mul_pos (Int.mul_pos (by omega) h5) hD'
        have h8 : (-t) * q' * D' = -(t * q' * D') := by grind
        omega
      · have := hz h5.symm
        omega
    · rw [if_neg ht']
      refine .inr ⟨rfl, ?_⟩
      dsimp only
      have e1 : D * -q * -t' = t' * q * D := by grind
      have e2 : D' * -q' * -t = t * q' * D' := by grind
      omega
theorem stp_lt {D D' x e x' e' : Int} {s s' : Int × Int × Int} (hD : 0 < D) (hD' : 0 < D') (he : 0 < e) (he' : 0 < e') (h : Good s) (h' : Good s') (hc : s.1 = s'.1)
    (hI : (x' * s'.2.2 - e' * s'.2.1) * s.2.2 * D < (x * s.2.2 - e * s.2.1) * s'.2.2 * D') : Lt D D' (stp x e s) (stp x' e' s') := by
  rcases stp_le hD hD' he he' h h' hc (Int.le_of_lt hI) with h0 | ⟨h0, h3⟩
  · exact .inl h0
  refine .inr ⟨h0, ?_⟩
  obtain ⟨c, p, q⟩ := s
  obtain ⟨c', p', q'⟩ := s'
  dsimp only at *
  subst hc
  unfold stp at h0 ⊢
  dsimp only at h0 ⊢
  generalize x * q - e * p = t at *
  generalize x' * q' - e' * p' = t' at *
  by_cases ht : 0 ≤ t
  · rw [if_pos ht] at h0 ⊢
    by_cases ht' : 0 ≤ t'
    · rw [if_pos ht'] at h0 ⊢
      dsimp only
      have e1 : D * q * t' = t' * q * D := by grind
      have e2 : D' * q' * t = t * q' * D' := by grind
      omega
    · rw [if_neg ht'] at h0
      dsimp only at h0
      omega
  · rw [if_neg ht] at h0 ⊢
    by_cases ht' : 0 ≤ t'
    · rw [if_pos ht'] at h0
      dsimp only at h0
      omega
    · rw [if_neg ht'] at h0 ⊢
      dsimp only
      have e1 : D * -q * -t' = t' * q * D := by grind
      have e2 : D' * -q' * -t = t * q' * D' := by grind
      omega
/-- A count that is behind stays behind. -/
theorem stp_behind {D D' x e x' e' : Int} {s s' : Int × Int × Int} (hD : 0 < D) (hD' : 0 < D') (he : 0 < e) (he' : 0 < e') (h : Good s) (h' : Good s') (hc : s.1 < s'.1) : Lt D D' (stp x e s) (stp x' e' s') := by
  have hg := h.stp (x := x) he
  have hg' := h'.stp (x := x') he'
  obtain ⟨c, p, q⟩ := s
  obtain ⟨c', p', q'⟩ := s'
  obtain ⟨h1, h2⟩ := h
  obtain ⟨h1', h2'⟩ := h'
  dsimp only at *
  unfold stp at hg hg' ⊢
  dsimp only at hg hg' ⊢
  have hz : q' = 0 → x' * q' - e' * p' < 0 := fun h0 => by
    have := Int.mul_pos he' (h2' h0)
    rw [h0]
    omega
  generalize x * q - e * p = t at *
  generalize x' * q' - e' * p' = t' at *
  by_cases ht : 0 ≤ t
  · rw [if_pos ht]
    by_cases ht' : 0 ≤ t'
    · rw [if_pos ht']
      exact .inl hc
    · rw [if_neg ht']
      exact .inl (by dsimp only; omega)
  · rw [if_neg ht]
    by_cases ht' : 0 ≤ t'
    · rw [if_pos ht']
      rcases Int.lt_or_eq_of_le (show c + 1 ≤ c' by omega) with h3 | h3
      · exact .inl h3
      · refine .inr ⟨h3, ?_⟩
        dsimp only
        have h5 : 0 < q' := by
          rcases Int.lt_or_eq_of_le h1' with h5 | h5
          · exact h5
          · have := hz h5.symm
            omega
        have h6 : 0 ≤ D * q * t' := Int.mul_nonneg (Int.mul_nonneg (by omega) h1) ht'
        have h7 : 0 < D' * q' * -t := Int.mul_pos (Int.mul_pos hD' h5) (by omega)
        have e1 : D * -q * t' = -(D * q * t') := by grind
        omega
    · rw [if_neg ht']
      exact .inl (by dsimp only; omega)

/-- A step keeps the order. -/
theorem step_mono {D D' x x' κ : Int} {s s' : Int × Int × Int} (hD : 0 < D) (hD' : 0 < D') (hκ : 0 < κ) (h : Good s) (h' : Good s') (hx : x' * D ≤ x * D') (hl : Le D D' s s') : Le D D' (stp x (D * D * κ) s) (stp x' (D' * D' * κ) s') := by
  have he : 0 < D * D * κ := Int.mul_pos (Int.mul_pos hD hD) hκ
  have he' : 0 < D' * D' * κ := Int.mul_pos (Int.mul_pos hD' hD') hκ
  rcases hl with hl | ⟨hc, hl⟩
  · exact (stp_behind hD hD' he he' h h' hl).le
  · refine stp_le hD hD' he he' h h' hc ?_
    obtain ⟨c, p, q⟩ := s
    obtain ⟨c', p', q'⟩ := s'
    obtain ⟨h1, h2⟩ := h
    obtain ⟨h1', h2'⟩ := h'
    dsimp only at *
    have a1 : 0 ≤ q * q' * (x * D' - x' * D) := Int.mul_nonneg (Int.mul_nonneg h1 h1') (by omega)
    have a2 : 0 ≤ D * D' * κ * (D' * p' * q - D * p * q') := Int.mul_nonneg (Int.mul_nonneg (Int.mul_nonneg (by omega) (by omega)) (by omega)) (by omega)
    have a3 : (x * q - D * D * κ * p) * q' * D' - (x' * q' - D' * D' * κ * p') * q * D = q * q' * (x * D' - x' * D) + D * D' * κ * (D' * p' * q - D * p * q') := by grind
    omega
theorem step_mono_lt {D D' x x' κ : Int} {s s' : Int × Int × Int} (hD : 0 < D) (hD' : 0 < D') (hκ : 0 < κ) (h : Good s) (h' : Good s') (hx : x' * D ≤ x * D') (hl : Lt D D' s s') : Lt D D' (stp x (D * D * κ) s) (stp x' (D' * D' * κ) s') := by
  have he : 0 < D * D * κ := Int.mul_pos (Int.mul_pos hD hD) hκ
  have he' : 0 < D' * D' * κ := Int.mul_pos (Int.mul_pos hD' hD') hκ
  rcases hl with hl | ⟨hc, hl⟩
  · exact stp_behind hD hD' he he' h h' hl
  · refine stp_lt hD hD' he he' h h' hc ?_
    obtain ⟨c, p, q⟩ := s
    obtain ⟨c', p', q'⟩ := s'
    obtain ⟨h1, h2⟩ := h
    obtain ⟨h1', h2'⟩ := h'
    dsimp only at *
    have a1 : 0 ≤ q * q' * (x * D' - x' * D) := Int.mul_nonneg (Int.mul_nonneg h1 h1') (by omega)
    have a2 : 0 < D * D' * κ * (D' * p' * q - D * p * q') := Int.mul_pos (Int.mul_pos (Int.mul_pos hD hD') hκ) (by omega)
    have a3 : (x * q - D * D * κ * p) * q' * D' - (x' * q' - D' * D' * κ * p') * q * D = q * q' * (x * D' - x' * D) + D * D' * κ * (D' * p' * q - D * p * q') := by grind
    omega

/-- THE COUNT ASCENDS with the square and the masses. -/
theorem phs_mono {ms ms' ks : List Int} {num den num' den' : Int} (hd : 0 < den) (hd' : 0 < den') (n : Nat) (hk : ∀ i, i < n → 0 < ks[i]?.getD 0)
    (h : ∀ i, i < n → num * ms[i]?.getD 0 * den' ≤ num' * ms'[i]?.getD 0 * den) : Le den den' (phs ms ks num den n) (phs ms' ks num' den' n) := by
  induction n with
  | zero => exact .inr ⟨rfl, by show den * 0 * 1 ≤ den' * 0 * 1; omega⟩
  | succ n ih =>
    have hp := hk n (by omega)
    refine step_mono hd hd' (Int.mul_pos hp hp) (phs_good hd n (fun i hi => hk i (by omega))) (phs_good hd' n (fun i hi => hk i (by omega))) ?_ (ih (fun i hi => hk i (by omega)) (fun i hi => h i (by omega)))
    have := h n (by omega)
    unfold xco
    generalize ks[n]?.getD 0 + ks[n + 1]?.getD 0 = a
    have e1 : (den' * a - num' * ms'[n]?.getD 0) * den = den * den' * a - num' * ms'[n]?.getD 0 * den := by grind
    have e2 : (den * a - num * ms[n]?.getD 0) * den' = den * den' * a - num * ms[n]?.getD 0 * den' := by grind
    omega
theorem phs_lt {ms ks : List Int} {num den num' den' : Int} (hd : 0 < den) (hd' : 0 < den') (n : Nat) (hk : ∀ i, i < n + 1 → 0 < ks[i]?.getD 0) (hm : ∀ i, i < n + 1 → 0 < ms[i]?.getD 0)
    (h : num * den' < num' * den) : Lt den den' (phs ms ks num den (n + 1)) (phs ms ks num' den' (n + 1)) := by
  have hx : ∀ i, i < n + 1 → xco ms ks num' den' i * den < xco ms ks num den i * den' := by
    intro i hi
    have h1 := hm i hi
    unfold xco
    generalize ks[i]?.getD 0 + ks[i + 1]?.getD 0 = a
    generalize ms[i]?.getD 0 = m at *
    have e1 : (den' * a - num' * m) * den = den * den' * a - num' * den * m := by grind
    have e2 : (den * a - num * m) * den' = den * den' * a - num * den' * m := by grind
    have := Int.mul_lt_mul_of_pos_right h h1
    omega
  induction n with
  | zero =>
    have hp := hk 0 (by omega)
    have e1 := Int.mul_pos (Int.mul_pos hd hd) (Int.mul_pos hp hp)
    have e2 := Int.mul_pos (Int.mul_pos hd' hd') (Int.mul_pos hp hp)
    refine stp_lt hd hd' e1 e2 good0 good0 rfl ?_
    have := hx 0 (by omega)
    show (xco ms ks num' den' 0 * 1 - _ * 0) * 1 * den < (xco ms ks num den 0 * 1 - _ * 0) * 1 * den'
    rwa [Int.mul_zero, Int.mul_zero, Int.sub_zero, Int.sub_zero, Int.mul_one, Int.mul_one, Int.mul_one, Int.mul_one]
  | succ n ih =>
    have hp := hk (n + 1) (by omega)
    exact step_mono_lt hd hd' (Int.mul_pos hp hp) (phs_good hd _ (fun i hi => hk i (by omega))) (phs_good hd' _ (fun i hi => hk i (by omega))) (Int.le_of_lt (hx (n + 1) (by omega))) (ih (fun i hi => hk i (by omega)) (fun i hi => hm i (by omega)) (fun i hi => hx i (by omega)))

/-- THE COUNT DESCENDS with the springs: two steps with a spring between. -/
theorem stp_spring {D y k δ : Int} {c p q : Int} (hD : 0 < D) (hk : 0 < k) (hδ : 0 ≤ δ) (h : Good (c, p, q)) (h' : Good (c, p, q + D * δ * p)) :
    Le D D (stp (y + D * δ) (D * D * ((k + δ) * (k + δ))) (c, p, q + D * δ * p)) (stp y (D * D * (k * k)) (c, p, q)) := by
  have e1 := Int.mul_pos (Int.mul_pos hD hD) (Int.mul_pos hk hk)
  have e2 := Int.mul_pos (Int.mul_pos hD hD) (Int.mul_pos (by omega : 0 < k + δ) (by omega : 0 < k + δ))
  refine stp_le hD hD e2 e1 h' h rfl ?_
  dsimp only
  have a1 : 0 ≤ D * δ * ((q - D * k * p) * (q - D * k * p)) := by
    refine Int.mul_nonneg (Int.mul_nonneg (by omega) hδ) ?_
    rcases Int.le_total 0 (q - D * k * p) with h0 | h0
    · exact Int.mul_nonneg h0 h0
    · have := Int.mul_nonneg (by omega : 0 ≤ -(q - D * k * p)) (by omega : 0 ≤ -(q - D * k * p))
      rwa [Int.neg_mul_neg] at this
  have a2 : ((y + D * δ) * (q + D * δ * p) - D * D * ((k + δ) * (k + δ)) * p) * q - (y * q - D * D * (k * k) * p) * (q + D * δ * p) = D * δ * ((q - D * k * p) * (q - D * k * p)) := by grind
  have a3 : (y * q - D * D * (k * k) * p) * (q + D * δ * p) ≤ ((y + D * δ) * (q + D * δ * p) - D * D * ((k + δ) * (k + δ)) * p) * q := by omega
  exact Int.mul_le_mul_of_nonneg_right a3 (by omega)
theorem stp_two {D x y e k δ : Int} {s : Int × Int × Int} (hD : 0 < D) (hk : 0 < k) (he : 0 < e) (hδ : 0 ≤ δ) (h : Good s) :
    Le D D (stp (y + D * δ) (D * D * ((k + δ) * (k + δ))) (stp (x + D * δ) e s)) (stp y (D * D * (k * k)) (stp x e s)) := by
  have g1 := h.stp (x := x) he
  have g2 := h.stp (x := x + D * δ) he
  have e1 := Int.mul_pos (Int.mul_pos hD hD) (Int.mul_pos hk hk)
  have e2 := Int.mul_pos (Int.mul_pos hD hD) (Int.mul_pos (by omega : 0 < k + δ) (by omega : 0 < k + δ))
  obtain ⟨c, p, q⟩ := s
  obtain ⟨h1, h2⟩ := h
  dsimp only at h1 h2
  have hq : 0 ≤ D * δ * q := Int.mul_nonneg (Int.mul_nonneg (by omega) hδ) h1
  have ht : (x + D * δ) * q - e * p = x * q - e * p + D * δ * q := by grind
  by_cases h3 : 0 ≤ x * q - e * p
  · have f1 : stp x e (c, p, q) = (c, q, x * q - e * p) := by unfold stp; dsimp only; rw [if_pos h3]
    have f2 : stp (x + D * δ) e (c, p, q) = (c, q, x * q - e * p + D * δ * q) := by unfold stp; dsimp only; rw [if_pos (by omega), ht]
    rw [f1] at g1 ⊢
    rw [f2] at g2 ⊢
    exact stp_spring hD hk hδ g1 g2
  · have f1 : stp x e (c, p, q) = (c + 1, -q, -(x * q - e * p)) := by unfold stp; dsimp only; rw [if_neg h3]
    by_cases h4 : 0 ≤ x * q - e * p + D * δ * q
    · have f2 : stp (x + D * δ) e (c, p, q) = (c, q, x * q - e * p + D * δ * q) := by unfold stp; dsimp only; rw [if_pos (by omega), ht]
      rw [f1] at g1 ⊢
      rw [f2] at g2 ⊢
      exact (stp_behind hD hD e2 e1 g2 g1 (by dsimp only; omega)).le
    · have f2 : stp (x + D * δ) e (c, p, q) = (c + 1, -q, -(x * q - e * p) + D * δ * -q) := by
        unfold stp
        dsimp only
        rw [if_neg (by omega), ht]
        congr 2
        grind
      rw [f1] at g1 ⊢
      rw [f2] at g2 ⊢
      exact stp_spring hD hk hδ g1 g2

/-- The frame with a spring that is greater. -/
theorem phs_spring {ms ks : List Int} {num den δ : Int} (hd : 0 < den) (hδ : 0 ≤ δ) (j : Nat) (hj : j < ks.length) (n : Nat) (hk : ∀ i, i < ks.length → 0 < ks[i]?.getD 0) (hn : n ≤ ks.length) :
    (n < j → phs ms (ks.set j (ks[j]?.getD 0 + δ)) num den n = phs ms ks num den n) ∧
    (n = j → ∀ x, n = x + 1 → ∃ e, 0 < e ∧ phs ms (ks.set j (ks[j]?.getD 0 + δ)) num den n = stp (xco ms ks num den x + den * δ) e (phs ms ks num den x) ∧ phs ms ks num den n = stp (xco ms ks num den x) e (phs ms ks num den x)) ∧
    (j < n → Le den den (phs ms (ks.set j (ks[j]?.getD 0 + δ)) num den n) (phs ms ks num den n)) := by
  have hks : ∀ i, i ≠ j → (ks.set j (ks[j]?.getD 0 + δ))[i]?.getD 0 = ks[i]?.getD 0 := fun i hi => by
    rw [List.getElem?_set_ne (Ne.symm hi)]
  have hkj : (ks.set j (ks[j]?.getD 0 + δ))[j]?.getD 0 = ks[j]?.getD 0 + δ := by
    rw [List.getElem?_set_self hj]
    rfl
  have hk' : ∀ i, i < ks.length → 0 < (ks.set j (ks[j]?.getD 0 + δ))[i]?.getD 0 := fun i hi => by
    have h1 := hk i hi
    by_cases h2 : i = j
    · subst h2
      rw [hkj]
      omega
    · rw [hks i h2]
      exact h1
  have hg : ∀ m, m ≤ ks.length → Good (phs ms ks num den m) := fun m hm => phs_good hd m (fun i hi => hk i (by omega))
  have hg' : ∀ m, m ≤ ks.length → Good (phs ms (ks.set j (ks[j]?.getD 0 + δ)) num den m) := fun m hm => phs_good hd m (fun i hi => hk' i (by omega))
  generalize (ks.set j (ks[j]?.getD 0 + δ)) = ks' at *
  induction n with
  | zero => exact ⟨fun _ => rfl, fun _ x hx => by omega, fun h => by omega⟩
  | succ n ih =>
    obtain ⟨i1, i2, i3⟩ := ih (by omega)
    refine ⟨fun h => ?_, fun h x hx => ?_, fun h => ?_⟩
    · show stp _ _ (phs ms ks' num den n) = stp _ _ _
      rw [i1 (by omega)]
      unfold xco
      rw [hks n (by omega), hks (n + 1) (by omega)]
    · obtain rfl : n = x := by omega
      refine ⟨_, Int.mul_pos (Int.mul_pos hd hd) (Int.mul_pos (hk n (by omega)) (hk n (by omega))), ?_, rfl⟩
      show stp _ _ (phs ms ks' num den n) = stp _ _ _
      rw [i1 (by omega), hks n (by omega)]
      congr 1
      unfold xco
      rw [hks n (by omega), h, hkj]
      generalize ks[n]?.getD 0 = a
      generalize ks[j]?.getD 0 = b
      generalize ms[n]?.getD 0 = c
      grind
    · rcases Nat.lt_or_eq_of_le (show j ≤ n by omega) with h1 | h1
      · have hp := hk n (by omega)
        have hx : xco ms ks' num den n = xco ms ks num den n := by
          unfold xco
          rw [hks n (by omega), hks (n + 1) (by omega)]
        show Le den den (stp _ (den * den * (ks'[n]?.getD 0 * ks'[n]?.getD 0)) _) (stp _ _ _)
        rw [hks n (by omega), hx]
        exact step_mono hd hd (Int.mul_pos hp hp) (hg' n (by omega)) (hg n (by omega)) (Int.le_refl _) (i3 h1)
      · have hp := hk n (by omega)
        have hx : xco ms ks' num den n = xco ms ks num den n + den * δ := by
          unfold xco
          rw [← h1, hkj, hks (j + 1) (by omega)]
          generalize ks[j]?.getD 0 = a
          generalize ks[j + 1]?.getD 0 = b
          generalize ms[j]?.getD 0 = c
          grind
        show Le den den (stp _ (den * den * (ks'[n]?.getD 0 * ks'[n]?.getD 0)) _) (stp _ (den * den * (ks[n]?.getD 0 * ks[n]?.getD 0)) _)
        rw [hx]
        rcases Nat.eq_zero_or_pos n with h0 | h0
        · subst h0
          have hp' := hk' 0 (by omega)
          refine stp_le hd hd (Int.mul_pos (Int.mul_pos hd hd) (Int.mul_pos hp' hp')) (Int.mul_pos (Int.mul_pos hd hd) (Int.mul_pos hp hp)) good0 good0 rfl ?_
          show (xco ms ks num den 0 * 1 - _ * 0) * 1 * den ≤ ((xco ms ks num den 0 + den * δ) * 1 - _ * 0) * 1 * den
          rw [Int.mul_zero, Int.mul_zero, Int.sub_zero, Int.sub_zero, Int.mul_one, Int.mul_one, Int.mul_one, Int.mul_one]
          have := Int.mul_nonneg (by omega : 0 ≤ den) hδ
          exact Int.mul_le_mul_of_nonneg_right (by omega) (by omega)
        · obtain ⟨x, rfl⟩ : ∃ x, n = x + 1 := ⟨n - 1, by omega⟩
          obtain ⟨e, he, j1, j2⟩ := i2 h1.symm x rfl
          rw [j1, j2, ← h1, hkj]
          rw [← h1] at hp
          exact stp_two hd hp he hδ (hg x (by omega))

/-- The ends of the order: counts, and what belongs to a mode. -/
theorem Le.count {D D' : Int} {s s' : Int × Int × Int} (h : Le D D' s s') : s.1 ≤ s'.1 := by
  rcases h with h | h <;> omega
theorem Le.mode {D D' : Int} {s s' : Int × Int × Int} (h : Le D D' s s') (hD : 0 < D) (hg : Good s) (hc : s.1 = s'.1) (hm : s.2.2 = 0) (hg' : Good s') : s'.2.2 = 0 := by
  rcases h with h | ⟨_, h⟩
  · omega
  · rw [hm, Int.mul_zero] at h
    have h1 := hg.2 hm
    rcases Int.lt_or_eq_of_le hg'.1 with h2 | h2
    · have := Int.mul_pos (Int.mul_pos hD h1) h2
      omega
    · exact h2.symm
theorem Lt.mode {D D' : Int} {s s' : Int × Int × Int} (h : Lt D D' s s') (hD : 0 < D) (hg : Good s) (hm : s.2.2 = 0) (hg' : Good s') : s.1 < s'.1 := by
  rcases h with h | ⟨_, h⟩
  · exact h
  · rw [hm, Int.mul_zero] at h
    have := Int.mul_nonneg (Int.mul_nonneg (by omega : 0 ≤ D) (by have := hg.2 hm; omega : 0 ≤ s.2.1)) hg'.1
    omega

/-- No square that is not above 0 has a count. -/
theorem phs_none {ms ks : List Int} {num den : Int} (hd : 0 < den) (hnum : num ≤ 0) (n : Nat) (hk : ∀ i, i < n → 0 < ks[i]?.getD 0) (hk0 : ∀ i : Nat, 0 ≤ ks[i]?.getD 0) (hm : ∀ i, i < n → 0 ≤ ms[i]?.getD 0) :
    (phs ms ks num den n).1 = 0 ∧ 0 ≤ (phs ms ks num den n).2.1 ∧ den * ks[n]?.getD 0 * (phs ms ks num den n).2.1 < (phs ms ks num den n).2.2 ∧ 0 < (phs ms ks num den n).2.2 := by
  induction n with
  | zero => exact ⟨rfl, by show (0 : Int) ≤ 0; decide, by show den * _ * 0 < 1; omega, by show (0 : Int) < 1; decide⟩
  | succ n ih =>
    obtain ⟨i1, i2, i3, i4⟩ := ih (fun i hi => hk i (by omega)) (fun i hi => hm i (by omega))
    have hp := hk n (by omega)
    have hp1 := hk0 (n + 1)
    have hmn := hm n (by omega)
    show (stp _ _ _).1 = 0 ∧ 0 ≤ (stp _ _ _).2.1 ∧ _ * (stp _ _ _).2.1 < (stp _ _ _).2.2 ∧ 0 < (stp _ _ _).2.2
    unfold xco
    generalize phs ms ks num den n = s at *
    generalize ks[n]?.getD 0 = k at *
    generalize ks[n + 1]?.getD 0 = k1 at *
    generalize ms[n]?.getD 0 = m at *
    obtain ⟨c, p, q⟩ := s
    dsimp only at *
    have a1 : 0 ≤ (-num) * m * q := Int.mul_nonneg (Int.mul_nonneg (by omega) hmn) (by omega)
    have a2 : den * k * (den * k * p) < den * k * q := Int.mul_lt_mul_of_pos_left i3 (Int.mul_pos hd hp)
    have a3 : (den * (k + k1) - num * m) * q - den * den * (k * k) * p = den * k1 * q + (den * k * q - den * k * (den * k * p)) + (-num) * m * q := by grind
    have a4 : 0 ≤ den * k1 * q := Int.mul_nonneg (Int.mul_nonneg (by omega) hp1) (by omega)
    have ht : den * k1 * q < (den * (k + k1) - num * m) * q - den * den * (k * k) * p := by omega
    unfold stp
    dsimp only
    rw [if_pos (by omega)]
    exact ⟨i1, by dsimp only; omega, ht, by dsimp only; omega⟩
/-- All are below a square that is greater than 4 times the greatest spring divided by the smallest mass. -/
theorem phs_all {ms ks : List Int} {num den K M : Int} (hd : 0 < den) (hK : 0 < K) (h : 4 * K * den < num * M) (hnum : 0 ≤ num) (n : Nat) (hk : ∀ i : Nat, 0 ≤ ks[i]?.getD 0 ∧ ks[i]?.getD 0 ≤ K) (hm : ∀ i, i < n → M ≤ ms[i]?.getD 0) :
    (phs ms ks num den n).1 = n ∧ (phs ms ks num den n).2.1 ≤ 0 ∧ 0 < (phs ms ks num den n).2.2 ∧ -(phs ms ks num den n).2.2 ≤ den * K * (phs ms ks num den n).2.1 := by
  induction n with
  | zero => exact ⟨rfl, by show (0 : Int) ≤ 0; decide, by show (0 : Int) < 1; decide, by show -1 ≤ den * K * 0; omega⟩
  | succ n ih =>
    obtain ⟨i1, i2, i3, i4⟩ := ih (fun i hi => hm i (by omega))
    have hmn := hm n (by omega)
    obtain ⟨hp, hp'⟩ := hk n
    obtain ⟨hp1, hp1'⟩ := hk (n + 1)
    show (stp _ _ _).1 = _ ∧ (stp _ _ _).2.1 ≤ 0 ∧ 0 < (stp _ _ _).2.2 ∧ -(stp _ _ _).2.2 ≤ _ * (stp _ _ _).2.1
    unfold xco
    generalize phs ms ks num den n = s at *
    generalize ks[n]?.getD 0 = k at *
    generalize ks[n + 1]?.getD 0 = k1 at *
    generalize ms[n]?.getD 0 = m at *
    obtain ⟨c, p, q⟩ := s
    dsimp only at *
    have b1 : num * M ≤ num * m := Int.mul_le_mul_of_nonneg_left hmn hnum
    have b2 : den * (k + k1) ≤ den * (2 * K) := Int.mul_le_mul_of_nonneg_left (by omega) (by omega)
    have b3 : den * (2 * K) = 2 * (den * K) := by grind
    have b4 : 4 * K * den = 4 * (den * K) := by grind
    have b0 : 0 < den * K := Int.mul_pos hd hK
    have b5 : (den * (k + k1) - num * m) * q ≤ -(2 * (den * K)) * q := Int.mul_le_mul_of_nonneg_right (by omega) (by omega)
    have b6 : k * k ≤ K * K := Int.le_trans (Int.mul_le_mul_of_nonneg_left hp' hp) (Int.mul_le_mul_of_nonneg_right hp' (by omega))
    have b7 : den * den * (k * k) * -p ≤ den * den * (K * K) * -p := Int.mul_le_mul_of_nonneg_right (Int.mul_le_mul_of_nonneg_left b6 (Int.mul_nonneg (by omega) (by omega))) (by omega)
    have b8 : den * K * (den * K * -p) ≤ den * K * q := Int.mul_le_mul_of_nonneg_left (by rw [Int.mul_neg]; omega) (by omega)
    have b9 : den * den * (K * K) * -p = den * K * (den * K * -p) := by grind
    have c1 : den * den * (k * k) * -p = -(den * den * (k * k) * p) := by grind
    have c2 : -(2 * (den * K)) * q = -(2 * (den * K * q)) := by grind
    have c3 : 0 < den * K * q := Int.mul_pos b0 i3
    have ht : (den * (k + k1) - num * m) * q - den * den * (k * k) * p ≤ -(den * K * q) := by omega
    have c4 : den * K * -q = -(den * K * q) := by grind
    unfold stp
    dsimp only
    rw [if_neg (by omega)]
    exact ⟨by dsimp only; omega, by dsimp only; omega, by dsimp only; omega, by dsimp only; omega⟩
end Go.Proofs.YteigmjlfpmdmoaaGreatDoor

namespace Go.Proofs.YteigmjlfpmdmoaaGreatDoor
open Go.RowKit

structure Fr (ms ks : List Int) : Prop where
  len : ks.length = ms.length
  pos : 0 < ms.length
  few : ms.length ≤ 4
  m : ∀ i, i < ms.length → 1 ≤ ms[i]?.getD 0 ∧ ms[i]?.getD 0 ≤ 10
  k : ∀ i, i < ms.length → 1 ≤ ks[i]?.getD 0 ∧ ks[i]?.getD 0 ≤ 20
theorem fr_of {ms ks : List Int} (h : (checkF ms ks).2 = 0) : Fr ms ks := by
  obtain ⟨q1, q2, q3, q4, q5⟩ := checkF_ok h
  exact ⟨q1, q2, q3, q4, q5⟩
theorem Fr.kp {ms ks : List Int} (h : Fr ms ks) : ∀ i, i < ms.length → 0 < ks[i]?.getD 0 := fun i hi => by have := h.k i hi; omega
theorem Fr.k0 {ms ks : List Int} (h : Fr ms ks) : ∀ i : Nat, 0 ≤ ks[i]?.getD 0 ∧ ks[i]?.getD 0 ≤ 20 := fun i => by
  by_cases hi : i < ms.length
  · have := h.k i hi
    omega
  · rw [List.getElem?_eq_none (by have := h.len; omega)]
    decide
theorem Fr.good {ms ks : List Int} (h : Fr ms ks) {num den : Int} (hd : 0 < den) : Good (phs ms ks num den ms.length) := phs_good hd _ h.kp
theorem below_bd (ms ks : List Int) (num den : Int) : 0 ≤ belowF ms ks num den ∧ belowF ms ks num den ≤ ms.length := by
  have := bAll_bd (dets ms ks num den ms.length)
  rw [dets_len] at this
  exact this
theorem below_mono {ms ks : List Int} (h : Fr ms ks) {num den num' den' : Int} (hd : 0 < den) (hd' : 0 < den') (hn : num * den' ≤ num' * den) : belowF ms ks num den ≤ belowF ms ks num' den' := by
  rw [below_phs num den hd h.kp, below_phs num' den' hd' h.kp]
  refine (phs_mono hd hd' ms.length h.kp (fun i hi => ?_)).count
  have := h.m i hi
  have e1 := Int.mul_le_mul_of_nonneg_right hn (by omega : 0 ≤ ms[i]?.getD 0)
  have e2 : num * ms[i]?.getD 0 * den' = num * den' * ms[i]?.getD 0 := by grind
  have e3 : num' * ms[i]?.getD 0 * den = num' * den * ms[i]?.getD 0 := by grind
  omega
/-- A square of a mode: above it there are more. -/
theorem below_mode {ms ks : List Int} (h : Fr ms ks) {num den num' den' : Int} (hd : 0 < den) (hd' : 0 < den') (hn : num * den' < num' * den) (hm : modeF ms ks num den = true) : belowF ms ks num den < belowF ms ks num' den' := by
  rw [below_phs num den hd h.kp, below_phs num' den' hd' h.kp]
  rw [mode_phs num den hd h.kp] at hm
  obtain ⟨n, hl⟩ : ∃ n, ms.length = n + 1 := ⟨ms.length - 1, by have := h.pos; omega⟩
  have h1 := h.good (num := num) hd
  have h2 := h.good (num := num') hd'
  have h3 := phs_lt (ms := ms) (ks := ks) hd hd' n (fun i hi => h.kp i (by omega)) (fun i hi => by have := h.m i (by omega); omega) hn
  rw [← hl] at h3
  exact h3.mode hd h1 hm h2
/-- None is below 0. -/
theorem below_zero {ms ks : List Int} (h : Fr ms ks) {num den : Int} (hd : 0 < den) (hn : num ≤ 0) : belowF ms ks num den = 0 ∧ modeF ms ks num den = false := by
  obtain ⟨h1, _, _, h4⟩ := phs_none (ms := ms) (ks := ks) hd hn ms.length h.kp (fun i => (h.k0 i).1) (fun i hi => by have := h.m i hi; omega)
  rw [below_phs num den hd h.kp, h1]
  refine ⟨rfl, ?_⟩
  cases hm : modeF ms ks num den
  · rfl
  · rw [mode_phs num den hd h.kp] at hm
    omega
/-- All are below what is greater than 4 times the greatest spring divided by the smallest mass. -/
theorem below_all {ms ks : List Int} (h : Fr ms ks) {num den K M : Int} (hd : 0 < den) (hK : 0 < K) (hM : 0 < M) (hk : ∀ i, i < ms.length → ks[i]?.getD 0 ≤ K) (hm : ∀ i, i < ms.length → M ≤ ms[i]?.getD 0) (hn : 4 * K * den < num * M) : belowF ms ks num den = ms.length := by
  rw [below_phs num den hd h.kp]
  have hn0 : 0 ≤ num := by
    rcases Int.lt_or_le num 0 with h1 | h1
    · have := Int.mul_pos (by omega : 0 < -num) hM
      have e := Int.mul_pos (by omega : 0 < 4 * K) hd
      rw [Int.neg_mul] at this
      omega
    · exact h1
  refine (phs_all hd hK hn hn0 ms.length (fun i => ⟨(h.k0 i).1, ?_⟩) hm).1
  by_cases hi : i < ms.length
  · exact hk i hi
  · rw [List.getElem?_eq_none (by have := h.len; omega)]
    exact Int.le_of_lt hK
theorem mode_below {ms ks : List Int} (h : Fr ms ks) {num den : Int} (hd : 0 < den) (hm : modeF ms ks num den = true) : belowF ms ks num den < ms.length := by
  have h1 := below_mode h hd hd (num' := num + 1) (by exact Int.mul_lt_mul_of_pos_right (by omega) hd) hm
  have := (below_bd ms ks (num + 1) den).2
  omega

/-- What the search finds: the greatest number that is not above. -/
theorem encLoop_ok {ms ks : List Int} (h : Fr ms ks) {mode den : Int} (hd : 0 < den) (f : Nat) (lo hi : Int) (hf : hi - lo ≤ f) (hlh : lo ≤ hi) (h1 : belowF ms ks lo den ≤ mode) :
    lo ≤ encLoop ms ks mode den f lo hi ∧ encLoop ms ks mode den f lo hi ≤ hi ∧ belowF ms ks (encLoop ms ks mode den f lo hi) den ≤ mode ∧ ∀ k, encLoop ms ks mode den f lo hi < k → k ≤ hi → mode < belowF ms ks k den := by
  induction f generalizing lo hi with
  | zero =>
    obtain rfl : lo = hi := by omega
    exact ⟨Int.le_refl _, Int.le_refl _, h1, fun k h2 h3 => by simp only [encLoop] at h2; omega⟩
  | succ f ih =>
    unfold encLoop
    split
    · split
      · rename_i h2 h3
        obtain ⟨j1, j2, j3, j4⟩ := ih lo ((lo + hi + 1) / 2 - 1) (by omega) (by omega) h1
        refine ⟨j1, by omega, j3, fun k h4 h5 => ?_⟩
        rcases Int.lt_or_le k ((lo + hi + 1) / 2) with h6 | h6
        · exact j4 k h4 (by omega)
        · have := below_mono h hd hd (Int.mul_le_mul_of_nonneg_right h6 (by omega : 0 ≤ den))
          omega
      · rename_i h2 h3
        obtain ⟨j1, j2, j3, j4⟩ := ih ((lo + hi + 1) / 2) hi (by omega) (by omega) (by omega)
        exact ⟨by omega, j2, j3, j4⟩
    · rename_i h2
      exact ⟨Int.le_refl _, hlh, h1, fun k h3 h4 => by omega⟩
theorem encLo_ok {ms ks : List Int} (h : Fr ms ks) {mode den : Int} (hd : 0 < den) (hd2 : den ≤ 50) (hm : 0 ≤ mode) (hm2 : mode < ms.length) :
    0 ≤ encLo ms ks mode den ∧ encLo ms ks mode den ≤ 80 * den ∧ belowF ms ks (encLo ms ks mode den) den ≤ mode ∧ ∀ k, encLo ms ks mode den < k → mode < belowF ms ks k den := by
  have hz := below_zero h hd (Int.le_refl 0)
  obtain ⟨j1, j2, j3, j4⟩ := encLoop_ok h (mode := mode) hd 4000 0 (80 * den) (by omega) (by omega) (by omega)
  refine ⟨j1, j2, j3, fun k h1 => ?_⟩
  rcases Int.lt_or_le (80 * den) k with h2 | h2
  · have := below_all h (num := k) (K := 20) (M := 1) hd (by decide) (by decide) (fun i hi => (h.k i hi).2) (fun i hi => (h.m i hi).1) (by omega)
    omega
  · exact j4 k h1 h2
/-- Of two frames of which one has no greater counts the enclosures are no lower. -/
theorem enc_le {ms ks ms' ks' : List Int} (h : Fr ms ks) (h' : Fr ms' ks') (hl : ms'.length = ms.length) {mode den : Int} (hd : 0 < den) (hd2 : den ≤ 50) (hm : 0 ≤ mode) (hm2 : mode < ms.length)
    (hle : ∀ num : Int, 0 ≤ num → Le den den (phs ms' ks' num den ms.length) (phs ms ks num den ms.length)) :
    (encF ms ks mode den).1 ≤ (encF ms' ks' mode den).1 ∧ (encF ms ks mode den).2 ≤ (encF ms' ks' mode den).2 := by
  obtain ⟨a1, a2, a3, a4⟩ := encLo_ok h hd hd2 hm hm2
  obtain ⟨b1, b2, b3, b4⟩ := encLo_ok h' hd hd2 hm (by omega)
  have hcnt : ∀ num, 0 ≤ num → belowF ms' ks' num den ≤ belowF ms ks num den := fun num hn => by
    rw [below_phs num den hd h.kp, below_phs num den hd h'.kp, hl]
    exact (hle num hn).count
  have hlo : encLo ms ks mode den ≤ encLo ms' ks' mode den := by
    rcases Int.lt_or_le (encLo ms' ks' mode den) (encLo ms ks mode den) with h1 | h1
    · have h2 := b4 _ h1
      have h3 := hcnt _ a1
      omega
    · exact h1
  unfold encF
  split
  · split <;> dsimp only <;> omega
  · rename_i hne
    split
    · rename_i he
      rcases Int.lt_or_eq_of_le hlo with h1 | h1
      · dsimp only
        omega
      · exfalso
        apply hne
        rw [← h1] at he
        have h3 := hcnt _ a1
        have h4 : belowF ms ks (encLo ms ks mode den) den = mode := by omega
        refine ⟨?_, h4⟩
        rw [mode_phs _ den hd h.kp]
        have he1 := he.1
        rw [mode_phs _ den hd h'.kp, hl] at he1
        refine (hle _ a1).mode hd ?_ ?_ he1 (h.good hd)
        · rw [← hl]
          exact h'.good hd
        · rw [← hl, ← below_phs _ den hd h'.kp, he.2, hl, ← below_phs _ den hd h.kp, h4]
    · dsimp only
      omega
/-- A greater spring. -/
theorem spring_le {ms ks : List Int} (h : Fr ms ks) (j : Nat) (hj : j < ms.length) {δ num den : Int} (hδ : 0 ≤ δ) (hd : 0 < den) : Le den den (phs ms (ks.set j (ks[j]?.getD 0 + δ)) num den ms.length) (phs ms ks num den ms.length) :=
  (phs_spring hd hδ j (by have := h.len; omega) ms.length (fun i hi => h.kp i (by have := h.len; omega)) (by have := h.len; omega)).2.2 hj
/-- A greater mass. -/
theorem mass_le {ms ms' ks : List Int} (h : Fr ms ks) (hm : ∀ i, i < ms.length → ms[i]?.getD 0 ≤ ms'[i]?.getD 0) {num den : Int} (hn : 0 ≤ num) (hd : 0 < den) : Le den den (phs ms ks num den ms.length) (phs ms' ks num den ms.length) := by
  refine phs_mono hd hd ms.length h.kp (fun i hi => ?_)
  exact Int.mul_le_mul_of_nonneg_right (Int.mul_le_mul_of_nonneg_left (hm i hi) hn) (by omega)
end Go.Proofs.YteigmjlfpmdmoaaGreatDoor
