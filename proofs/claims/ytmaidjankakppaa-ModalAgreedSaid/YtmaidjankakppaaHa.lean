/- Ranges that have nothing in common: two of them have nothing in common. -/
import Derived.Test.YtmaidjankakppaaGb
import Derived.Test.YtmaidjankakppaaGd
namespace Go.Proofs.Ytmaidjankakppaa

theorem agrTo_lo (l : List (Int × Int)) (k : Nat) : (∀ j, j < k → (l[j]?.getD (0, 0)).1 ≤ (agrTo l k).1 ∧ (agrTo l k).2 ≤ (l[j]?.getD (0, 0)).2) ∧ (∃ j, (j = 0 ∨ j < k) ∧ (agrTo l k).1 = (l[j]?.getD (0, 0)).1) ∧ (∃ j, (j = 0 ∨ j < k) ∧ (agrTo l k).2 = (l[j]?.getD (0, 0)).2) := by
  induction k with
  | zero => exact ⟨fun j h => by omega, ⟨0, .inl rfl, rfl⟩, ⟨0, .inl rfl, rfl⟩⟩
  | succ k ih =>
    obtain ⟨h1, ⟨j1, hj1, e1⟩, j2, hj2, e2⟩ := ih
    simp only [agrTo, both]
    refine ⟨fun j hj => ?_, ?_, ?_⟩
    · by_cases hjk : j = k
      · subst hjk
        constructor
        · split <;> omega
        · split <;> omega
      · have := h1 j (by omega)
        constructor
        · split <;> omega
        · split <;> omega
    · split
      · exact ⟨k, .inr (by omega), rfl⟩
      · exact ⟨j1, by omega, e1⟩
    · split
      · exact ⟨k, .inr (by omega), rfl⟩
      · exact ⟨j2, by omega, e2⟩
theorem ctIn_none (a : Int × Int) (l : List (Int × Int)) (i : Nat) : ctIn a i l = none ↔ ∀ j, j < l.length → agreeF a (l[j]?.getD (0, 0)) = true := by
  induction l generalizing i with
  | nil => simp [ctIn]
  | cons r l ih =>
    unfold ctIn
    cases h : agreeF a r
    · simp only [Bool.false_eq_true, if_false]
      constructor
      · intro h2; cases h2
      · intro h2
        have := h2 0 (by simp)
        simp [h] at this
    · simp only [if_true]
      rw [ih]
      constructor
      · intro h2 j hj
        cases j with
        | zero => simpa using h
        | succ j => simpa using h2 j (by simpa using hj)
      · intro h2 j hj
        simpa using h2 (j + 1) (by simpa using hj)
theorem ctF_none (l : List (Int × Int)) (i : Nat) : ctF i l = none ↔ ∀ j k, j < k → k < l.length → agreeF (l[j]?.getD (0, 0)) (l[k]?.getD (0, 0)) = true := by
  induction l generalizing i with
  | nil => simp [ctF]
  | cons a l ih =>
    unfold ctF
    cases h : ctIn a (i + 1) l with
    | some k =>
      simp only [reduceCtorEq, false_iff]
      intro h2
      have : ctIn a (i + 1) l = none := (ctIn_none a l (i + 1)).2 fun j hj => by simpa using h2 0 (j + 1) (by omega) (by simpa using hj)
      rw [this] at h
      cases h
    | none =>
      have h1 := (ctIn_none a l (i + 1)).1 h
      simp only
      rw [ih]
      constructor
      · intro h2 j k hjk hk
        cases k with
        | zero => omega
        | succ k =>
          cases j with
          | zero => simpa using h1 k (by simpa using hk)
          | succ j => simpa using h2 j k (by omega) (by simpa using hk)
      · intro h2 j k hjk hk
        simpa using h2 (j + 1) (k + 1) (by omega) (by simpa using hk)
theorem agree_sym {a b : Int × Int} (h : agreeF a b = true) : a.1 ≤ b.2 ∧ b.1 ≤ a.2 := by
  unfold agreeF at h
  simpa using h
/-- Ranges have a number in common exactly if each two have one. -/
theorem agr_iff {l : List (Int × Int)} (h : rgE l = 0) : (agrF l).1 ≤ (agrF l).2 ↔ ctF 0 l = none := by
  obtain ⟨v1, v2, v3⟩ := rgE_ok h
  obtain ⟨h1, ⟨j1, hj1, e1⟩, j2, hj2, e2⟩ := agrTo_lo l l.length
  rw [ctF_none]
  unfold agrF
  constructor
  · intro hle j k hjk hk
    have a1 := h1 j (by omega)
    have a2 := h1 k hk
    unfold agreeF
    simp only [Bool.and_eq_true, decide_eq_true_eq]
    omega
  · intro hp
    rw [e1, e2]
    have b1 : j1 < l.length := by omega
    have b2 : j2 < l.length := by omega
    rcases Nat.lt_trichotomy j1 j2 with hlt | heq | hgt
    · exact (agree_sym (hp j1 j2 hlt b2)).1
    · subst heq
      exact (v3 j1).1
    · exact (agree_sym (hp j2 j1 hgt b1)).2
end Go.Proofs.Ytmaidjankakppaa
