/- The plain law of damages: the reference's errors and explanation are the program's. -/
import Derived.Test.YtmaidjankakppaaEc
namespace Go.Proofs.Ytmaidjankakppaa
open Go.RowKit

/-- The error of ranges of squares after a run. -/
def afR : List (Int × Int) → Int
  | [] => 0
  | r :: l => if (wIn r.1 0 1000000000 && wIn r.2 0 1000000000) = true then (if r.1 ≤ r.2 then afR l else 9) else 2
theorem afterF_eq (l : List (Int × Int)) (e : Int) : afterF e l = if e = 0 then afR l else e := by
  induction l generalizing e with
  | nil =>
    unfold afterF afR
    split <;> omega
  | cons r l ih =>
    rw [afterF, ih, afR, firstE_three]
    by_cases he : e = 0
    · subst he
      rw [if_pos rfl, if_pos rfl]
      cases wIn r.1 0 1000000000 && wIn r.2 0 1000000000
      · simp [unlessE]
      · by_cases h : r.1 ≤ r.2
        · simp [unlessE, h]
        · simp [unlessE, h]
    · rw [if_neg he, if_neg he, if_neg he]
def rafterE (ms : List Int) (den : Int) (sq : List (Int × Int)) : Int := if wIn den 1 50 = true then (if sq.length = ms.length then afR sq else 10) else 2
theorem afterE_ref (ms ks : List Int) (den : Int) (sq : List (Int × Int)) : afterE ms ks den sq = if (checkF ms ks).2 = 0 then rafterE ms den sq else (checkF ms ks).2 := by
  unfold afterE rafterE
  rw [afterF_eq, firstE_three]
  by_cases he : (checkF ms ks).2 = 0
  · rw [if_pos he, if_pos he]
    cases wIn den 1 50
    · simp [unlessE]
    · by_cases h : sq.length = ms.length
      · have h' : ((sq.length : Int) == (ms.length : Int)) = true := by rw [h]; simp
        simp [unlessE, h]
      · have h' : ((sq.length : Int) == (ms.length : Int)) = false := by
          rw [beq_eq_false_iff_ne]
          omega
        rw [h']
        simp [unlessE, h]
  · rw [if_neg he, if_neg he, if_neg he]
/-- The ranges of squares that are right. -/
theorem afR_drop (sq : List (Int × Int)) (k : Nat) (h : k < sq.length) : afR (sq.drop k) = if (wIn (sq[k]?.getD (0, 0)).1 0 1000000000 && wIn (sq[k]?.getD (0, 0)).2 0 1000000000) = true then (if (sq[k]?.getD (0, 0)).1 ≤ (sq[k]?.getD (0, 0)).2 then afR (sq.drop (k + 1)) else 9) else 2 := by
  rw [List.drop_eq_getElem_cons h]
  simp [afR, h]
theorem afR_ok {l : List (Int × Int)} (h : afR l = 0) : ∀ i, i < l.length → (l[i]?.getD (0, 0)).1 ≤ (l[i]?.getD (0, 0)).2 := by
  induction l with
  | nil => intro i hi; simp at hi
  | cons r l ih =>
    rw [afR] at h
    split at h
    · split at h
      · rename_i h1 h2
        intro i hi
        cases i with
        | zero => exact h2
        | succ i => exact ih h i (by simpa using hi)
      · cases h
    · cases h
/-- The first mode that fails, or -1. -/
def failF (ms ks : List Int) (den : Int) (sq : List (Int × Int)) : Int := if (oddF ms ks den 0 sq).2 = true then (oddF ms ks den 0 sq).1 else -1
/-- What the reference finds for a storey. -/
def rIn (ms ks : List Int) (den : Int) (sq : List (Int × Int)) (i : Nat) (k : Int) : Nat → Int → (Int × Int) × Bool → (Int × Int) × Bool
  | 0, _, st => st
  | f + 1, left, st => if 1 ≤ left then (if (oddF ms (ks.set i left) den 0 sq).2 = true then rIn ms ks den sq i k f (left - 1) st else if st.2 = true ∧ left * (ks[st.1.1.toNat]?.getD 0) ≤ st.1.2 * k then st else (((i : Int), left), true)) else st
def rTo (ms ks : List Int) (den : Int) (sq : List (Int × Int)) : Nat → (Int × Int) × Bool
  | 0 => ((0, 0), false)
  | i + 1 => rIn ms ks den sq i (ks[i]?.getD 0) 20 (ks[i]?.getD 0) (rTo ms ks den sq i)
theorem rIn_st (ms ks : List Int) (den : Int) (sq : List (Int × Int)) (i : Nat) (k : Int) (f : Nat) (left : Int) (st : (Int × Int) × Bool) (h1 : st.2 = true) (h2 : left * (ks[st.1.1.toNat]?.getD 0) ≤ st.1.2 * k) (h0 : 0 ≤ ks[st.1.1.toNat]?.getD 0) : rIn ms ks den sq i k f left st = st := by
  induction f generalizing left with
  | zero => rfl
  | succ f ih =>
    rw [rIn]
    split
    · split
      · refine ih (left - 1) ?_
        have := Int.sub_mul left 1 (ks[st.1.1.toNat]?.getD 0)
        omega
      · rw [if_pos ⟨h1, h2⟩]
    · rfl
theorem rIn_ex (ms ks : List Int) (den : Int) (sq : List (Int × Int)) (i : Nat) (k : Int) (f : Nat) (left : Int) (st : (Int × Int) × Bool) (h0 : ∀ j : Nat, 0 ≤ ks[j]?.getD 0) : rIn ms ks den sq i k f left st = exIn ms ks den sq i k f left st := by
  induction f generalizing left with
  | zero => rfl
  | succ f ih =>
    rw [exIn]
    by_cases h1 : 1 ≤ left
    · rw [if_pos h1]
      by_cases h2 : st.2 = true ∧ left * (ks[st.1.1.toNat]?.getD 0) ≤ st.1.2 * k
      · rw [if_pos h2]
        exact rIn_st _ _ _ _ _ _ _ _ _ h2.1 h2.2 (h0 _)
      · rw [if_neg h2, rIn, if_pos h1, if_neg h2]
        cases (oddF ms (ks.set i left) den 0 sq).2
        · simp
        · simpa using ih (left - 1)
    · rw [if_neg h1, rIn, if_neg h1]
theorem rTo_ex (ms ks : List Int) (den : Int) (sq : List (Int × Int)) (h0 : ∀ j : Nat, 0 ≤ ks[j]?.getD 0) (n : Nat) : rTo ms ks den sq n = exTo ms ks den sq n := by
  induction n with
  | zero => rfl
  | succ n ih => rw [rTo, exTo, ih, rIn_ex _ _ _ _ _ _ _ _ _ h0]
end Go.Proofs.Ytmaidjankakppaa
