/- Contracts of chapter 6: the explanation and the check of a damage, with all errors. -/
import Derived.Test.YtmaidjankakppaaUc
import Derived.Test.YtmaidjankakppaaUd
namespace Go.Proofs.Ytmaidjankakppaa
open Go.RowKit

theorem oddF_zero (ms ks : List Int) (den : Int) (i : Nat) (sq : List (Int × Int)) (h : (oddF ms ks den i sq).2 = false) : (oddF ms ks den i sq).1 = 0 := by
  induction sq generalizing i with
  | nil => rfl
  | cons r l ih =>
    rw [oddF] at h ⊢
    split
    · rename_i hc
      rw [if_pos hc] at h
      exact ih (i + 1) h
    · rename_i hc
      rw [if_neg hc] at h
      cases h
/-- A frame and squares that are right. -/
theorem after_ok {ms ks : List Int} {den : Int} {sq : List (Int × Int)} (h : afterE ms ks den sq = 0) : (checkF ms ks).2 = 0 ∧ 1 ≤ den ∧ den ≤ 50 ∧ sq.length = ms.length ∧ afR sq = 0 := by
  rw [afterE_ref] at h
  split at h
  · rename_i hc
    unfold rafterE at h
    split at h
    · rename_i hw
      split at h
      · rename_i hl
        obtain ⟨h1, h2⟩ := wIn_iff.1 hw
        exact ⟨hc, h1, h2, hl, h⟩
      · cases h
    · cases h
  · rename_i hc
    exact absurd h hc
theorem exBy (ms ks : List Int) (sq : List (Int × Int)) (den : Int) (n m sn : Nat) (hn : n = ms.length) (hm : m = ks.length) (hs : sn = sq.length) (hn6 : n ≤ 6) (hs6 : sn ≤ 6) (E : Int) (hE : afterE ms ks den sq = E) :
    ∃ Y1 Y2 EE, (∀ (a b sa : Option Addr) (c d sc : Nat) (w : World), SI w a n c ms → SI w b m d ks → SR w sa sn sc sq →
      Calls Try.prog 25 #[.agg #[.slice a n c, .slice b m d], .agg #[.int .i64 den, .slice sa sn sc]] w fun e w' => e = .returned (.tuple #[.agg #[.int .i64 Y1, .int .i64 Y2], .int .i64 EE]) ∧ Below w.heap.size w w') ∧
      (E ≠ 0 → Y1 = 0 ∧ Y2 = 0 ∧ EE = E) ∧ (E = 0 → ∃ r3, exF ms ks den sq = ((Y1, Y2), r3) ∧ EE = unlessE r3 12) := by
  by_cases hz : E = 0
  · subst hz
    obtain ⟨a1, a2, a3, a4, a5⟩ := after_ok hE
    obtain rfl : n = m := by have := (fr_of a1).len; omega
    obtain ⟨⟨⟨Y1, Y2⟩, r3⟩, hx⟩ : ∃ v, exF ms ks den sq = v := ⟨_, rfl⟩
    exact ⟨Y1, Y2, _, fun a b sa c d sc w h1 h2 h3 => ExplainedBy_ok a b sa n c d sn sc ms ks sq den w h1 h2 h3 hE a1 a2 a3 (by omega) Y1 Y2 r3 hx, fun h => absurd rfl h, fun _ => ⟨r3, hx, rfl⟩⟩
  · exact ⟨0, 0, E, fun a b sa c d sc w h1 h2 h3 => ExplainedBy_err a b sa n c m d sn sc ms ks sq den w h1 h2 h3 E hE hz (by omega) (by omega), fun _ => ⟨rfl, rfl, rfl⟩, fun h => absurd h hz⟩
theorem ckD (ms ks : List Int) (sq : List (Int × Int)) (den st left : Int) (n m sn : Nat) (hn : n = ms.length) (hm : m = ks.length) (hs : sn = sq.length) (hn6 : n ≤ 6) (hs6 : sn ≤ 6) (E : Int) (hE : afterE ms ks den sq = E) :
    ∃ I G, (∀ (a b sa : Option Addr) (c d sc : Nat) (w : World), SI w a n c ms → SI w b m d ks → SR w sa sn sc sq →
      Calls Try.prog 27 #[.agg #[.slice a n c, .slice b m d], .agg #[.int .i64 den, .slice sa sn sc], .agg #[.int .i64 st, .int .i64 left]] w fun e w' => e = .returned (.tuple #[.int .i64 I, .int .i64 G]) ∧ Below w.heap.size w w') ∧
      (E ≠ 0 → I = 0 ∧ G = E) ∧ (E = 0 → damageE ks st left ≠ 0 → I = 0 ∧ G = damageE ks st left) ∧ (E = 0 → damageE ks st left = 0 → ∃ o2, oddF ms (ks.set st.toNat left) den 0 sq = (I, o2) ∧ G = unlessE (!o2) 19) := by
  by_cases hz : E = 0
  · subst hz
    obtain ⟨a1, a2, a3, a4, a5⟩ := after_ok hE
    obtain rfl : n = m := by have := (fr_of a1).len; omega
    cases hw : wIn st 0 ((n : Int) - 1)
    · have hd : damageE ks st left = 6 := by unfold damageE; rw [show ((ks.length : Int) - 1) = (n : Int) - 1 by omega, hw]; rfl
      refine ⟨0, 6, fun a b sa c d sc w h1 h2 h3 => CheckDamage_err1 a b sa n n c d sn sc ms ks sq den st left w h1 h2 h3 (by omega) (by omega) 0 6 hE (by rw [hw]; rfl) (by decide), fun h => absurd rfl h, fun _ _ => ⟨rfl, hd.symm⟩, fun _ h => ?_⟩
      rw [hd] at h
      cases h
    · obtain ⟨w1, w2⟩ := wIn_iff.1 hw
      obtain ⟨s, rfl⟩ : ∃ s : Nat, st = s := ⟨st.toNat, by omega⟩
      rw [Int.toNat_natCast]
      cases hl : wIn left 1 (ks[s]?.getD 0)
      · have hd : damageE ks s left = 2 := by
          unfold damageE
          rw [show ((ks.length : Int) - 1) = (n : Int) - 1 by omega, if_pos hw, Int.toNat_natCast, if_neg (by rw [hl]; simp)]
        refine ⟨0, 2, fun a b sa c d sc w h1 h2 h3 => CheckDamage_err2 a b sa n c d sn sc ms ks sq den s left w h1 h2 h3 hE a1 (by omega) (by omega) hl, fun h => absurd rfl h, fun _ _ => ⟨rfl, hd.symm⟩, fun _ h => ?_⟩
        rw [hd] at h
        cases h
      · have hd : damageE ks s left = 0 := by
          unfold damageE
          rw [show ((ks.length : Int) - 1) = (n : Int) - 1 by omega, if_pos hw, Int.toNat_natCast, if_pos hl]
        obtain ⟨p1, p2⟩ := wIn_iff.1 hl
        obtain ⟨⟨o1, o2⟩, ho⟩ : ∃ v, oddF ms (ks.set s left) den 0 sq = v := ⟨_, rfl⟩
        exact ⟨o1, _, fun a b sa c d sc w h1 h2 h3 => CheckDamage_ok a b sa n c d sn sc ms ks sq den s left w h1 h2 h3 hE a1 a2 a3 (by omega) (by omega) p1 p2 o1 o2 ho, fun h => absurd rfl h, fun _ h => absurd hd h, fun _ _ => ⟨o2, ho, rfl⟩⟩
  · have hG : firstE [E, unlessE (wIn st 0 ((n : Int) - 1)) 6] = E := by rw [firstE_two, if_neg hz]
    exact ⟨0, E, fun a b sa c d sc w h1 h2 h3 => CheckDamage_err1 a b sa n m c d sn sc ms ks sq den st left w h1 h2 h3 (by omega) (by omega) E E hE hG hz, fun _ => ⟨rfl, rfl⟩, fun h => absurd h hz, fun h => absurd h hz⟩
end Go.Proofs.Ytmaidjankakppaa
