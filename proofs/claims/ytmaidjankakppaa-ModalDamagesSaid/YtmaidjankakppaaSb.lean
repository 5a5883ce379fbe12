/- The plain law of enclosures: what a search finds, and that enclosures ascend with springs, and descend with masses. -/
import Derived.Test.YtmaidjankakppaaSa
namespace Go.Proofs.Ytmaidjankakppaa
open Go.RowKit

structure Fr (ms ks : List Int) : Prop where
  len : ks.length = ms.length
  pos : 0 < ms.length
  few : ms.length ≤ 4
  m : ∀ i, i < ms.length → 1 ≤ ms[i]?.getD 0 ∧ ms[i]?.getD 0 ≤ 10
  k : ∀ i, i < ms.length → 1 ≤ ks[i]?.getD 0 ∧ ks[i]?.getD 0 ≤ 20
theorem fr_of {ms ks : List Int} (h : (checkF ms ks).2 = 0) : Fr ms ks := by
  obtain ⟨q1, q2, q3, q4, q5⟩ := checkF_ok h
  exact ⟨q1, q2, q3, q4, q5⟩
theorem Fr.kp {ms ks : List Int} (h : Fr ms ks) : ∀ i, i < ms.length → 0 < ks[i]?.getD 0 := fun i hi => by have := h.k i hi; omega
theorem Fr.k0 {ms ks : List Int} (h : Fr ms ks) : ∀ i : Nat, 0 ≤ ks[i]?.getD 0 ∧ ks[i]?.getD 0 ≤ 20 := fun i => by
  by_cases hi : i < ms.length
  · have := h.k i hi
    omega
  · rw [List.getElem?_eq_none (by have := h.len; omega)]
    decide
theorem Fr.good {ms ks : List Int} (h : Fr ms ks) {num den : Int} (hd : 0 < den) : Good (phs ms ks num den ms.length) := phs_good hd _ h.kp
theorem below_bd (ms ks : List Int) (num den : Int) : 0 ≤ belowF ms ks num den ∧ belowF ms ks num den ≤ ms.length := by
  have := bAll_bd (dets ms ks num den ms.length)
  rw [dets_len] at this
  exact this
theorem below_mono {ms ks : List Int} (h : Fr ms ks) {num den num' den' : Int} (hd : 0 < den) (hd' : 0 < den') (hn : num * den' ≤ num' * den) : belowF ms ks num den ≤ belowF ms ks num' den' := by
  rw [below_phs num den hd h.kp, below_phs num' den' hd' h.kp]
  refine (phs_mono hd hd' ms.length h.kp (fun i hi => ?_)).count
  have := h.m i hi
  have e1 := Int.mul_le_mul_of_nonneg_right hn (by omega : 0 ≤ ms[i]?.getD 0)
  have e2 : num * ms[i]?.getD 0 * den' = num * den' * ms[i]?.getD 0 := by grind
  have e3 : num' * ms[i]?.getD 0 * den = num' * den * ms[i]?.getD 0 := by grind
  omega
/-- A square of a mode: above it there are more. -/
theorem below_mode {ms ks : List Int} (h : Fr ms ks) {num den num' den' : Int} (hd : 0 < den) (hd' : 0 < den') (hn : num * den' < num' * den) (hm : modeF ms ks num den = true) : belowF ms ks num den < belowF ms ks num' den' := by
  rw [below_phs num den hd h.kp, below_phs num' den' hd' h.kp]
  rw [mode_phs num den hd h.kp] at hm
  obtain ⟨n, hl⟩ : ∃ n, ms.length = n + 1 := ⟨ms.length - 1, by have := h.pos; omega⟩
  have h1 := h.good (num := num) hd
  have h2 := h.good (num := num') hd'
  have h3 := phs_lt (ms := ms) (ks := ks) hd hd' n (fun i hi => h.kp i (by omega)) (fun i hi => by have := h.m i (by omega); omega) hn
  rw [← hl] at h3
  exact h3.mode hd h1 hm h2
/-- None is below 0. -/
theorem below_zero {ms ks : List Int} (h : Fr ms ks) {num den : Int} (hd : 0 < den) (hn : num ≤ 0) : belowF ms ks num den = 0 ∧ modeF ms ks num den = false := by
  obtain ⟨h1, _, _, h4⟩ := phs_none (ms := ms) (ks := ks) hd hn ms.length h.kp (fun i => (h.k0 i).1) (fun i hi => by have := h.m i hi; omega)
  rw [below_phs num den hd h.kp, h1]
  refine ⟨rfl, ?_⟩
  cases hm : modeF ms ks num den
  · rfl
  · rw [mode_phs num den hd h.kp] at hm
    omega
/-- All are below what is greater than 4 times the greatest spring divided by the smallest mass. -/
theorem below_all {ms ks : List Int} (h : Fr ms ks) {num den K M : Int} (hd : 0 < den) (hK : 0 < K) (hM : 0 < M) (hk : ∀ i, i < ms.length → ks[i]?.getD 0 ≤ K) (hm : ∀ i, i < ms.length → M ≤ ms[i]?.getD 0) (hn : 4 * K * den < num * M) : belowF ms ks num den = ms.length := by
  rw [below_phs num den hd h.kp]
  have hn0 : 0 ≤ num := by
    rcases Int.lt_or_le num 0 with h1 | h1
    · have := Int.mul_pos (by omega : 0 < -num) hM
      have e := Int.mul_pos (by omega : 0 < 4 * K) hd
      rw [Int.neg_mul] at this
      omega
    · exact h1
  refine (phs_all hd hK hn hn0 ms.length (fun i => ⟨(h.k0 i).1, ?_⟩) hm).1
  by_cases hi : i < ms.length
  · exact hk i hi
  · rw [List.getElem?_eq_none (by have := h.len; omega)]
    exact Int.le_of_lt hK
theorem mode_below {ms ks : List Int} (h : Fr ms ks) {num den : Int} (hd : 0 < den) (hm : modeF ms ks num den = true) : belowF ms ks num den < ms.length := by
  have h1 := below_mode h hd hd (num' := num + 1) (by exact Int.mul_lt_mul_of_pos_right (by omega) hd) hm
  have := (below_bd ms ks (num + 1) den).2
  omega

/-- What the search finds: the greatest number that is not above. -/
theorem encLoop_ok {ms ks : List Int} (h : Fr ms ks) {mode den : Int} (hd : 0 < den) (f : Nat) (lo hi : Int) (hf : hi - lo ≤ f) (hlh : lo ≤ hi) (h1 : belowF ms ks lo den ≤ mode) :
    lo ≤ encLoop ms ks mode den f lo hi ∧ encLoop ms ks mode den f lo hi ≤ hi ∧ belowF ms ks (encLoop ms ks mode den f lo hi) den ≤ mode ∧ ∀ k, encLoop ms ks mode den f lo hi < k → k ≤ hi → mode < belowF ms ks k den := by
  induction f generalizing lo hi with
  | zero =>
    obtain rfl : lo = hi := by omega
    exact ⟨Int.le_refl _, Int.le_refl _, h1, fun k h2 h3 => by simp only [encLoop] at h2; omega⟩
  | succ f ih =>
    unfold encLoop
    split
    · split
      · rename_i h2 h3
        obtain ⟨j1, j2, j3, j4⟩ := ih lo ((lo + hi + 1) / 2 - 1) (by omega) (by omega) h1
        refine ⟨j1, by omega, j3, fun k h4 h5 => ?_⟩
        rcases Int.lt_or_le k ((lo + hi + 1) / 2) with h6 | h6
        · exact j4 k h4 (by omega)
        · have := below_mono h hd hd (Int.mul_le_mul_of_nonneg_right h6 (by omega : 0 ≤ den))
          omega
      · rename_i h2 h3
        obtain ⟨j1, j2, j3, j4⟩ := ih ((lo + hi + 1) / 2) hi (by omega) (by omega) (by omega)
        exact ⟨by omega, j2, j3, j4⟩
    · rename_i h2
      exact ⟨Int.le_refl _, hlh, h1, fun k h3 h4 => by omega⟩
theorem encLo_ok {ms ks : List Int} (h : Fr ms ks) {mode den : Int} (hd : 0 < den) (hd2 : den ≤ 50) (hm : 0 ≤ mode) (hm2 : mode < ms.length) :
    0 ≤ encLo ms ks mode den ∧ encLo ms ks mode den ≤ 80 * den ∧ belowF ms ks (encLo ms ks mode den) den ≤ mode ∧ ∀ k, encLo ms ks mode den < k → mode < belowF ms ks k den := by
  have hz := below_zero h hd (Int.le_refl 0)
  obtain ⟨j1, j2, j3, j4⟩ := encLoop_ok h (mode := mode) hd 4000 0 (80 * den) (by omega) (by omega) (by omega)
  refine ⟨j1, j2, j3, fun k h1 => ?_⟩
  rcases Int.lt_or_le (80 * den) k with h2 | h2
  · have := below_all h (num := k) (K := 20) (M := 1) hd (by decide) (by decide) (fun i hi => (h.k i hi).2) (fun i hi => (h.m i hi).1) (by omega)
    omega
  · exact j4 k h1 h2
/-- Of two frames of which one has no greater counts the enclosures are no lower. -/
theorem enc_le {ms ks ms' ks' : List Int} (h : Fr ms ks) (h' : Fr ms' ks') (hl : ms'.length = ms.length) {mode den : Int} (hd : 0 < den) (hd2 : den ≤ 50) (hm : 0 ≤ mode) (hm2 : mode < ms.length)
    (hle : ∀ num : Int, 0 ≤ num → Le den den (phs ms' ks' num den ms.length) (phs ms ks num den ms.length)) :
    (encF ms ks mode den).1 ≤ (encF ms' ks' mode den).1 ∧ (encF ms ks mode den).2 ≤ (encF ms' ks' mode den).2 := by
  obtain ⟨a1, a2, a3, a4⟩ := encLo_ok h hd hd2 hm hm2
  obtain ⟨b1, b2, b3, b4⟩ := encLo_ok h' hd hd2 hm (by omega)
  have hcnt : ∀ num, 0 ≤ num → belowF ms' ks' num den ≤ belowF ms ks num den := fun num hn => by
    rw [below_phs num den hd h.kp, below_phs num den hd h'.kp, hl]
    exact (hle num hn).count
  have hlo : encLo ms ks mode den ≤ encLo ms' ks' mode den := by
    rcases Int.lt_or_le (encLo ms' ks' mode den) (encLo ms ks mode den) with h1 | h1
    · have h2 := b4 _ h1
      have h3 := hcnt _ a1
      omega
    · exact h1
  unfold encF
  split
  · split <;> dsimp only <;> omega
  · rename_i hne
    split
    · rename_i he
      rcases Int.lt_or_eq_of_le hlo with h1 | h1
      · dsimp only
        omega
      · exfalso
        apply hne
        rw [← h1] at he
        have h3 := hcnt _ a1
        have h4 : belowF ms ks (encLo ms ks mode den) den = mode := by omega
        refine ⟨?_, h4⟩
        rw [mode_phs _ den hd h.kp]
        have he1 := he.1
        rw [mode_phs _ den hd h'.kp, hl] at he1
        refine (hle _ a1).mode hd ?_ ?_ he1 (h.good hd)
        · rw [← hl]
          exact h'.good hd
        · rw [← hl, ← below_phs _ den hd h'.kp, he.2, hl, ← below_phs _ den hd h.kp, h4]
    · dsimp only
      omega
/-- A greater spring. -/
theorem spring_le {ms ks : List Int} (h : Fr ms ks) (j : Nat) (hj : j < ms.length) {δ num den : Int} (hδ : 0 ≤ δ) (hd : 0 < den) : Le den den (phs ms (ks.set j (ks[j]?.getD 0 + δ)) num den ms.length) (phs ms ks num den ms.length) :=
  (phs_spring hd hδ j (by have := h.len; omega) ms.length (fun i hi => h.kp i (by have := h.len; omega)) (by have := h.len; omega)).2.2 hj
/-- A greater mass. -/
theorem mass_le {ms ms' ks : List Int} (h : Fr ms ks) (hm : ∀ i, i < ms.length → ms[i]?.getD 0 ≤ ms'[i]?.getD 0) {num den : Int} (hn : 0 ≤ num) (hd : 0 < den) : Le den den (phs ms ks num den ms.length) (phs ms' ks num den ms.length) := by
  refine phs_mono hd hd ms.length h.kp (fun i hi => ?_)
  exact Int.mul_le_mul_of_nonneg_right (Int.mul_le_mul_of_nonneg_left (hm i hi) hn) (by omega)
end Go.Proofs.Ytmaidjankakppaa
