/- The plain law of explanations: what a run that weakened one spring left is explained, by no less; what nothing weakened is explained by the frame as it is. -/
import Derived.Test.YtmaidjankakppaaEc
import Derived.Test.YtmaidjankakppaaGd
import Derived.Test.YtmaidjankakppaaSb
namespace Go.Proofs.Ytmaidjankakppaa
open Go.RowKit

/-- An explanation that holds. -/
structure Holds (ms ks : List Int) (den : Int) (sq : List (Int × Int)) (b : Int × Int) : Prop where
  st0 : 0 ≤ b.1
  st1 : b.1 < ms.length
  lo : 1 ≤ b.2
  hi : b.2 ≤ ks[b.1.toNat]?.getD 0
  ok : (oddF ms (ks.set b.1.toNat b.2) den 0 sq).2 = false
def ExG (ms ks : List Int) (den : Int) (sq : List (Int × Int)) (st : (Int × Int) × Bool) : Prop := st.2 = true → Holds ms ks den sq st.1
/-- Found, and no less is left than the l-th of the k-th part. -/
def Bett (ks : List Int) (l k : Int) (st : (Int × Int) × Bool) : Prop := st.2 = true ∧ l * ks[st.1.1.toNat]?.getD 0 ≤ st.1.2 * k

theorem exIn_good {ms ks : List Int} {den : Int} {sq : List (Int × Int)} {i : Nat} (hi : i < ms.length) (f : Nat) (left : Int) (st : (Int × Int) × Bool) (hl : left ≤ ks[i]?.getD 0) (h : ExG ms ks den sq st) : ExG ms ks den sq (exIn ms ks den sq i (ks[i]?.getD 0) f left st) := by
  induction f generalizing left with
  | zero => exact h
  | succ f ih =>
    unfold exIn
    split
    · rename_i h1
      split
      · exact h
      · split
        · rename_i h3
          intro _
          exact ⟨by simp, by simpa using hi, h1, by simpa using hl, by simpa using h3⟩
        · exact ih (left - 1) (by omega)
    · exact h
theorem exIn_bett {ms ks : List Int} {den : Int} {sq : List (Int × Int)} {i : Nat} {l k : Int} (hk : 0 < k) (hi0 : 0 < ks[i]?.getD 0) (f : Nat) (left : Int) (st : (Int × Int) × Bool) (hg : ExG ms ks den sq st) (hks : ∀ j, j < ms.length → 0 < ks[j]?.getD 0) (h : Bett ks l k st) : Bett ks l k (exIn ms ks den sq i (ks[i]?.getD 0) f left st) := by
  induction f generalizing left with
  | zero => exact h
  | succ f ih =>
    unfold exIn
    split
    · split
      · exact h
      · rename_i h2
        split
        · refine ⟨rfl, ?_⟩
          obtain ⟨h3, h4⟩ := h
          have h5 := hg h3
          have h6 := hks st.1.1.toNat (by have := h5.st0; have := h5.st1; omega)
          have h7 : st.1.2 * ks[i]?.getD 0 < left * ks[st.1.1.toNat]?.getD 0 := by
            rcases Int.lt_or_le (st.1.2 * ks[i]?.getD 0) (left * ks[st.1.1.toNat]?.getD 0) with h | h
            · exact h
            · exact absurd ⟨h3, h⟩ h2
          show l * ks[((i : Nat) : Int).toNat]?.getD 0 ≤ left * k
          rw [Int.toNat_natCast]
          generalize ks[i]?.getD 0 = a at *
          generalize ks[st.1.1.toNat]?.getD 0 = b at *
          generalize st.1.2 = c at *
          rcases Int.lt_or_le (left * k) (l * a) with h8 | h8
          · exfalso
            have e1 := Int.mul_lt_mul_of_pos_right h8 h6
            have e2 := Int.mul_le_mul_of_nonneg_right h4 (by omega : 0 ≤ a)
            have e3 := Int.mul_lt_mul_of_pos_right h7 hk
            have e4 : left * k * b = left * b * k := by grind
            have e5 : l * a * b = l * b * a := by grind
            have e6 : c * k * a = c * a * k := by grind
            omega
          · exact h8
        · exact ih (left - 1)
    · exact h
theorem exIn_found {ms ks : List Int} {den : Int} {sq : List (Int × Int)} {i : Nat} {l : Int} (hl1 : 1 ≤ l) (hok : (oddF ms (ks.set i l) den 0 sq).2 = false) (hks : ∀ j, j < ms.length → 0 < ks[j]?.getD 0) (hi0 : 0 < ks[i]?.getD 0) (f : Nat) (left : Int) (hf : left - l < f) (hll : l ≤ left) (st : (Int × Int) × Bool) (hg : ExG ms ks den sq st) :
    Bett ks l (ks[i]?.getD 0) (exIn ms ks den sq i (ks[i]?.getD 0) f left st) := by
  induction f generalizing left with
  | zero => omega
  | succ f ih =>
    unfold exIn
    rw [if_pos (by omega)]
    split
    · rename_i h2
      refine ⟨h2.1, ?_⟩
      have h5 := hg h2.1
      have h6 := hks st.1.1.toNat (by have := h5.st0; have := h5.st1; omega)
      have := Int.mul_le_mul_of_nonneg_right hll (by omega : 0 ≤ ks[st.1.1.toNat]?.getD 0)
      have := h2.2
      omega
    · split
      · refine ⟨rfl, ?_⟩
        show l * ks[((i : Nat) : Int).toNat]?.getD 0 ≤ left * _
        rw [Int.toNat_natCast]
        exact Int.mul_le_mul_of_nonneg_right hll (by omega)
      · rename_i h3
        refine ih (left - 1) (by omega) ?_
        rcases Int.lt_or_eq_of_le hll with h | h
        · omega
        · rw [← h] at h3
          exact absurd hok h3
/-- WHAT WAS WEAKENED IS EXPLAINED: by an accepted spring, of which no less is left. -/
theorem ex_found {ms ks : List Int} {den : Int} {sq : List (Int × Int)} (fr : Fr ms ks) {st : Nat} {l : Int} (hs : st < ms.length) (hl1 : 1 ≤ l) (hl2 : l ≤ ks[st]?.getD 0) (hok : (oddF ms (ks.set st l) den 0 sq).2 = false) :
    (exF ms ks den sq).2 = true ∧ Holds ms ks den sq (exF ms ks den sq).1 ∧ l * ks[(exF ms ks den sq).1.1.toNat]?.getD 0 ≤ (exF ms ks den sq).1.2 * ks[st]?.getD 0 := by
  have hks := fr.kp
  have key : ∀ n, n ≤ ms.length → ExG ms ks den sq (exTo ms ks den sq n) ∧ (st < n → Bett ks l (ks[st]?.getD 0) (exTo ms ks den sq n)) := by
    intro n
    induction n with
    | zero => exact fun _ => ⟨(fun h => nomatch h), fun h => by omega⟩
    | succ n ih =>
      intro hn
      obtain ⟨i1, i2⟩ := ih (by omega)
      refine ⟨exIn_good (by omega) 20 _ _ (Int.le_refl _) i1, fun h => ?_⟩
      rcases Nat.lt_or_eq_of_le (show st ≤ n by omega) with h1 | h1
      · exact exIn_bett (hks st hs) (hks n (by omega)) 20 _ _ i1 hks (i2 h1)
      · subst h1
        exact exIn_found hl1 hok hks (hks st hs) 20 _ (by have := fr.k st hs; omega) hl2 _ i1
  obtain ⟨k1, k2⟩ := key ms.length (Nat.le_refl _)
  obtain ⟨b1, b2⟩ := k2 hs
  exact ⟨b1, k1 b1, b2⟩
/-- What nothing weakened is explained by the frame as it is. -/
theorem ex_own {ms ks : List Int} {den : Int} {sq : List (Int × Int)} (fr : Fr ms ks) (hok : (oddF ms ks den 0 sq).2 = false) : exF ms ks den sq = ((0, ks[0]?.getD 0), true) := by
  have h0 := fr.pos
  have hset : ks.set 0 (ks[0]?.getD 0) = ks := by
    have hl : 0 < ks.length := by have := fr.len; omega
    rw [List.getElem?_eq_getElem hl]
    simp
  have key : ∀ n, n < ms.length → exTo ms ks den sq (n + 1) = ((0, ks[0]?.getD 0), true) := by
    intro n
    induction n with
    | zero =>
      intro _
      show exIn ms ks den sq 0 (ks[0]?.getD 0) 20 (ks[0]?.getD 0) ((0, 0), false) = _
      have := fr.k 0 h0
      unfold exIn
      rw [if_pos this.1, if_neg (by simp), hset, if_pos hok]
      rfl
    | succ n ih =>
      intro hn
      show exIn ms ks den sq (n + 1) (ks[n + 1]?.getD 0) 20 (ks[n + 1]?.getD 0) (exTo ms ks den sq (n + 1)) = _
      rw [ih (by omega)]
      have := fr.k (n + 1) hn
      unfold exIn
      rw [if_pos this.1, if_pos]
      refine ⟨rfl, ?_⟩
      show ks[n + 1]?.getD 0 * ks[(0 : Int).toNat]?.getD 0 ≤ ks[0]?.getD 0 * ks[n + 1]?.getD 0
      rw [show (0 : Int).toNat = 0 from rfl, Int.mul_comm]
      exact Int.le_refl _
  obtain ⟨n, hn⟩ : ∃ n, ms.length = n + 1 := ⟨ms.length - 1, by omega⟩
  unfold exF
  rw [hn]
  exact key n (by omega)

/-- Enclosures that were widened. -/
def wide1 (ms ks : List Int) (den wd : Int) (i : Nat) : Int × Int := (max 0 ((encF ms ks i den).1 - wd), (encF ms ks i den).2 + wd)
def wideL (ms ks : List Int) (den wd : Int) (k : Nat) : List (Int × Int) := (List.range k).map (wide1 ms ks den wd)
def encL (ms ks : List Int) (den : Int) (k : Nat) : List (Int × Int) := (List.range k).map (fun i => encF ms ks (i : Nat) den)
theorem wideL_succ (ms ks : List Int) (den wd : Int) (k : Nat) : wideL ms ks den wd (k + 1) = wideL ms ks den wd k ++ [wide1 ms ks den wd k] := by simp [wideL, List.range_succ]
theorem encL_succ (ms ks : List Int) (den : Int) (k : Nat) : encL ms ks den (k + 1) = encL ms ks den k ++ [encF ms ks (k : Nat) den] := by simp [encL, List.range_succ]
theorem wideL_len (ms ks : List Int) (den wd : Int) (k : Nat) : (wideL ms ks den wd k).length = k := by simp [wideL]
theorem encL_len (ms ks : List Int) (den : Int) (k : Nat) : (encL ms ks den k).length = k := by simp [encL]
theorem wideL_at (ms ks : List Int) (den wd : Int) (k j : Nat) (h : j < k) : (wideL ms ks den wd k)[j]?.getD (0, 0) = wide1 ms ks den wd j := by simp [wideL, h]
theorem encL_at (ms ks : List Int) (den : Int) (k j : Nat) (h : j < k) : (encL ms ks den k)[j]?.getD (0, 0) = encF ms ks (j : Nat) den := by simp [encL, h]
theorem enc_bd {ms ks : List Int} (fr : Fr ms ks) {den : Int} (hd : 0 < den) (hd2 : den ≤ 50) {i : Nat} (hi : i < ms.length) : 0 ≤ (encF ms ks i den).1 ∧ (encF ms ks i den).1 ≤ 80 * den ∧ (encF ms ks i den).1 ≤ (encF ms ks i den).2 ∧ (encF ms ks i den).2 ≤ (encF ms ks i den).1 + 1 := by
  obtain ⟨a1, a2, _⟩ := encLo_ok fr (mode := i) hd hd2 (by omega) (by omega)
  unfold encF
  split <;> dsimp only <;> omega
theorem wide_agree {ms ks : List Int} (fr : Fr ms ks) {den wd : Int} (hd : 0 < den) (hd2 : den ≤ 50) (hw : 0 ≤ wd) {i : Nat} (hi : i < ms.length) : agreeF (encF ms ks i den) (wide1 ms ks den wd i) = true := by
  obtain ⟨a1, a2, a3, _⟩ := enc_bd fr hd hd2 hi
  unfold agreeF wide1
  simp only [Bool.and_eq_true, decide_eq_true_eq]
  omega
theorem odd_none {ms ks : List Int} (fr : Fr ms ks) {den wd : Int} (hd : 0 < den) (hd2 : den ≤ 50) (hw : 0 ≤ wd) (k : Nat) (hk : k ≤ ms.length) : oddF ms ks den k ((wideL ms ks den wd ms.length).drop k) = (0, false) := by
  induction hd : ms.length - k generalizing k with
  | zero =>
    rw [List.drop_eq_nil_of_le (by rw [wideL_len]; omega)]
    rfl
  | succ t ih =>
    rw [oddF_drop _ _ _ _ _ (by rw [wideL_len]; omega), wideL_at _ _ _ _ _ _ (by omega), if_pos (wide_agree fr (by assumption) hd2 hw (by omega))]
    exact ih (k + 1) (by omega) (by omega)
theorem wide_right {ms ks : List Int} (fr : Fr ms ks) {den wd : Int} (hd : 0 < den) (hd2 : den ≤ 50) (hw : 0 ≤ wd) (hw2 : wd ≤ 5) {i : Nat} (hi : i < ms.length) : 0 ≤ (wide1 ms ks den wd i).1 ∧ (wide1 ms ks den wd i).1 ≤ (wide1 ms ks den wd i).2 ∧ (wide1 ms ks den wd i).2 ≤ 10000 := by
  obtain ⟨a1, a2, a3, _⟩ := enc_bd fr hd hd2 hi
  unfold wide1
  dsimp only
  omega
theorem after_right {l : List (Int × Int)} (h : ∀ j, j < l.length → 0 ≤ (l[j]?.getD (0, 0)).1 ∧ (l[j]?.getD (0, 0)).1 ≤ (l[j]?.getD (0, 0)).2 ∧ (l[j]?.getD (0, 0)).2 ≤ 10000) (k : Nat) (hk : k ≤ l.length) : afterF 0 (l.drop k) = 0 := by
  induction hd : l.length - k generalizing k with
  | zero => rw [List.drop_eq_nil_of_le (by omega)]; rfl
  | succ t ih =>
    rw [afterF_drop _ _ _ (by omega)]
    have h1 := h k (by omega)
    have e1 : (wIn (l[k]?.getD (0, 0)).1 0 1000000000 && wIn (l[k]?.getD (0, 0)).2 0 1000000000) = true := by simp [wIn]; omega
    rw [e1, decide_eq_true h1.2.1]
    exact ih (k + 1) (by omega) (by omega)
theorem rg_right {l : List (Int × Int)} (h0 : 0 < l.length) (h12 : l.length ≤ 12) (h : ∀ j, j < l.length → 0 ≤ (l[j]?.getD (0, 0)).1 ∧ (l[j]?.getD (0, 0)).1 ≤ (l[j]?.getD (0, 0)).2 ∧ (l[j]?.getD (0, 0)).2 ≤ 10000) : rgE l = 0 := by
  have key : ∀ k, k ≤ l.length → rgR (l.drop k) = 0 := by
    intro k hk
    induction hd : l.length - k generalizing k with
    | zero => rw [List.drop_eq_nil_of_le (by omega)]; rfl
    | succ t ih =>
      rw [rgR_drop _ _ (by omega)]
      have h1 := h k (by omega)
      have e1 : bigR (l[k]?.getD (0, 0)) = true := by simp [bigR, wIn]; omega
      rw [e1, if_neg (by simp), if_neg (by omega)]
      exact ih (k + 1) (by omega) (by omega)
  unfold rgE
  rw [if_neg (by omega), if_neg (by omega)]
  have := key 0 (by omega)
  rwa [List.drop_zero] at this
theorem dm_none {l m : List (Int × Int)} (k : Nat) (h : ∀ j, j < k → agreeF (l[j]?.getD (0, 0)) (m[j]?.getD (0, 0)) = true) : dmTo l m k = [] := by
  induction k with
  | zero => rfl
  | succ k ih =>
    unfold dmTo
    rw [if_pos (h k (by omega))]
    exact ih (fun j hj => h j (by omega))
end Go.Proofs.Ytmaidjankakppaa
