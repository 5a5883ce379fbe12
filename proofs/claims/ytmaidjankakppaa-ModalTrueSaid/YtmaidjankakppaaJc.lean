/- Contracts of chapter 6: the crossings and the swings of a decay. -/
import Derived.Test.YtmaidjankakppaaJb
namespace Go.Proofs.Ytmaidjankakppaa
open Go.RowKit
open Calmly (Kept)

/-- Ranges that ascend. -/
def Asc : Int → List (Int × Int) → Prop
  | _, [] => True
  | m, p :: l => m ≤ p.1 ∧ p.1 < p.2 ∧ Asc (p.2 + 1) l
theorem crossF_asc (off : Int) (l : List Int) (i b m : Int) (h1 : 0 ≤ b → m ≤ b) (h2 : m ≤ i) (h3 : b < i) (h4 : 0 ≤ i) : Asc m (crossF off i b l) := by
  induction l generalizing i b m with
  | nil => simp [crossF, Asc]
  | cons x l ih =>
    unfold crossF
    split
    · exact ih (i + 1) i m (fun _ => h2) (by omega) (by omega) (by omega)
    · split
      · rename_i h5
        exact ⟨h1 h5.2, h3, ih (i + 1) (-1) (i + 1) (fun h => absurd h (by omega)) (by omega) (by omega) (by omega)⟩
      · exact ih (i + 1) b m h1 (by omega) (by omega) (by omega)
theorem Asc.at_ {m : Int} {l : List (Int × Int)} (h : Asc m l) (j : Nat) (hj : j < l.length) : m ≤ (l[j]?.getD (0, 0)).1 ∧ (l[j]?.getD (0, 0)).1 < (l[j]?.getD (0, 0)).2 ∧ (j + 1 < l.length → (l[j]?.getD (0, 0)).2 < (l[j + 1]?.getD (0, 0)).1) := by
  induction l generalizing m j with
  | nil => simp at hj
  | cons p l ih =>
    obtain ⟨h1, h2, h3⟩ := h
    cases j with
    | zero =>
      refine ⟨by simpa using h1, by simpa using h2, fun h => ?_⟩
      have := (ih h3 0 (by simp at h; omega)).1
      simp at this ⊢
      omega
    | succ j =>
      obtain ⟨k1, k2, k3⟩ := ih h3 j (by simpa using hj)
      simp only [List.getElem?_cons_succ]
      exact ⟨by omega, k2, fun h => k3 (by simpa using h)⟩
/-- The sample at the end of a crossing is surely above. -/
theorem crossF_end (off : Int) (ys l : List Int) (i b : Int) (hi : i = ys.length) (hb : b < i) : ∀ p ∈ crossF off i b l, off < (ys ++ l)[p.2.toNat]?.getD 0 ∧ 0 ≤ p.2 ∧ p.2 < i + l.length := by
  induction l generalizing i b ys with
  | nil => simp [crossF]
  | cons x l ih =>
    intro p hp
    have hih := fun b' hb' => ih (ys ++ [x]) (i + 1) b' (by simp; omega) hb' p
    simp only [List.append_assoc, List.singleton_append] at hih
    have hl : ((x :: l).length : Int) = l.length + 1 := by simp
    rw [hl]
    unfold crossF at hp
    split at hp
    · have := hih i (by omega) hp
      omega
    · split at hp
      · rename_i h5
        rcases List.mem_cons.1 hp with rfl | hp
        · refine ⟨?_, by show 0 ≤ i; omega, by show i < _; omega⟩
          show off < (ys ++ x :: l)[i.toNat]?.getD 0
          subst hi
          simp [h5.1]
        · have := hih (-1) (by omega) hp
          omega
      · have := hih b (by omega) hp
        omega
theorem crossF_ok (off : Int) (xs : List Int) (j : Nat) (hj : j < (crossF off 0 (-1) xs).length) :
    0 ≤ ((crossF off 0 (-1) xs)[j]?.getD (0, 0)).1 ∧ ((crossF off 0 (-1) xs)[j]?.getD (0, 0)).1 < ((crossF off 0 (-1) xs)[j]?.getD (0, 0)).2 ∧ ((crossF off 0 (-1) xs)[j]?.getD (0, 0)).2 < xs.length ∧ off < xs[((crossF off 0 (-1) xs)[j]?.getD (0, 0)).2.toNat]?.getD 0 ∧
      (j + 1 < (crossF off 0 (-1) xs).length → ((crossF off 0 (-1) xs)[j]?.getD (0, 0)).2 < ((crossF off 0 (-1) xs)[j + 1]?.getD (0, 0)).1) := by
  obtain ⟨h1, h2, h3⟩ := (crossF_asc off xs 0 (-1) 0 (fun h => absurd h (by omega)) (by omega) (by omega) (by omega)).at_ j hj
  have h4 := crossF_end off [] xs 0 (-1) rfl (by omega) ((crossF off 0 (-1) xs)[j]) (List.getElem_mem hj)
  rw [List.getElem?_eq_getElem hj] at h1 h2 h3 ⊢
  simp only [Option.getD_some, List.nil_append] at h1 h2 h3 h4 ⊢
  exact ⟨by omega, by omega, by omega, h4.1, h3⟩

/-- The crossings and the swings of a decay, none if it is wrong. -/
def crF (xs : List Int) (off : Int) : List (Int × Int) := if decayE xs off = 0 then crossF off 0 (-1) xs else []
def sgF (xs : List Int) (off : Int) : List (Int × Int) := swF off xs (crF xs off)
theorem crF_len (xs : List Int) (off : Int) : (crF xs off).length ≤ 60 := by
  unfold crF
  split
  · rename_i h
    have := crossF_len off 0 (-1) xs
    have := (decayE_ok h).2.1
    omega
  · simp
theorem sgF_len (xs : List Int) (off : Int) : (sgF xs off).length = (crF xs off).length - 1 := by simp [sgF, swF]

set_option maxRecDepth 100000 in
set_option maxHeartbeats 4000000 in
theorem CrossingsIn_any (a : Option Addr) (n c : Nat) (xs : List Int) (off E : Int) (w : World) (h1 : SI w a n c xs) (hE : decayE xs off = E) :
    Calls Try.prog 54 #[.agg #[.slice a n c, .int .i64 off]] w fun e w' => ∃ a' L c', e = .returned (.tuple #[.slice a' L c', .int .i64 E]) ∧ SR w' a' L c' (crF xs off) ∧ Below w.heap.size w w' := by
  have hb : Below w.heap.size w (w.alloc (.cells #[.slice a n c, .int .i64 off] 87)) := (Below.refl _ _).alloc (Nat.le_refl _) _
  have HE := Lib.hid hE
  clear hE
  go_enter Try.func54, Try.ntmps54
  go_wp2_with fail
  refine (openD_any a n c xs off _ (h1.keep hb)).mono ?_
  rintro e w1 ⟨a', L, c', a0, n0, c0, o0, rfl, hyes, hno, hL, hb1⟩
  have hr : SR w1 a' L c' (crF xs off) := by
    unfold crF
    by_cases h : decayE xs off = 0
    · rw [if_pos h]
      exact (hyes h).2.2.2.2.sr
    · rw [if_neg h]
      obtain ⟨rfl, rfl, rfl⟩ := hno h
      exact SR.nil _
  clear hyes hno
  have hbw : Below w.heap.size w w1 := hb.trans (hb1.mono (by simp))
  have hal : ∀ o, Below w1.heap.size w1 (w1.alloc o) := fun o => (Below.refl _ _).alloc (Nat.le_refl _) _
  rw [HE.out]
  go_wp2_with fail
  refine bodyPost_ret (v := .tuple #[.slice a' L c', .int .i64 E]) (by simp [results, Try.results54, go_sem]) rfl ⟨_, _, _, rfl, hr.keep (hal _), hbw.trans ((hal _).mono hbw.size)⟩

/-- A decay opened, and what its swings will be. -/
theorem openD_swings (a : Option Addr) (n c : Nat) (xs : List Int) (off : Int) (w : World) (h1 : SI w a n c xs) :
    Calls Try.prog 113 #[.agg #[.slice a n c, .int .i64 off]] w fun e w' => ∃ a' L c' a0 n0 c0 o0, e = .returned (.tuple #[.agg #[.slice a0 n0 c0, .int .i64 o0, .slice a' L c'], .int .i64 (decayE xs off)]) ∧ Below w.heap.size w w' ∧
      ∀ v, Below w'.heap.size w' v → Calls Try.prog 114 #[.agg #[.slice a0 n0 c0, .int .i64 o0, .slice a' L c']] v fun e v' => ∃ a2 L2 c2, e = .returned (.slice a2 L2 c2) ∧ OwR v' v.heap.size a2 L2 c2 (sgF xs off) ∧ Below v.heap.size v v' := by
  by_cases hE : decayE xs off = 0
  · refine (openDecay_ok a n c xs off w h1 hE).mono ?_
    rintro e w' ⟨a', L, c', rfl, ho, hb⟩
    have hl := ho.len
    have h2 := crossF_len off 0 (-1) xs
    obtain ⟨v1, v2, v3, v4, v5⟩ := decayE_ok hE
    have hn := h1.len
    refine ⟨a', L, c', a, n, c, off, by rw [hE], hb, fun v hv => ?_⟩
    have hs : sgF xs off = swF off xs (crossF off 0 (-1) xs) := by unfold sgF crF; rw [if_pos hE]
    rw [hs]
    refine swings_any a a' n c L c' xs off _ v ((h1.keep hb).keep hv) (ho.sr.keep hv) (by omega) (by omega) v3 v4 v5 (fun j hj => ?_)
    obtain ⟨k1, k2, k3, k4, k5⟩ := crossF_ok off xs j (by omega)
    obtain ⟨k6, k7, k8, k9, _⟩ := crossF_ok off xs (j + 1) (by omega)
    have := k5 (by omega)
    exact ⟨by omega, by omega, by omega⟩
  · refine (openDecay_err a n c xs off _ w h1 rfl hE).mono ?_
    rintro e w' ⟨rfl, hb⟩
    refine ⟨none, 0, 0, none, 0, 0, 0, rfl, hb, fun v hv => ?_⟩
    have hs : sgF xs off = swF 0 [] [] := by unfold sgF crF; rw [if_neg hE]; rfl
    rw [hs]
    exact swings_any none none 0 0 0 0 [] 0 [] v (Sl.nil _ 1) (SR.nil _) (by omega) (by omega) (fun j => by simp) (by omega) (by omega) (fun j hj => by omega)

set_option maxRecDepth 100000 in
set_option maxHeartbeats 4000000 in
theorem SwingsIn_any (a : Option Addr) (n c : Nat) (xs : List Int) (off E : Int) (w : World) (h1 : SI w a n c xs) (hE : decayE xs off = E) :
    Calls Try.prog 56 #[.agg #[.slice a n c, .int .i64 off]] w fun e w' => ∃ a' L c', e = .returned (.tuple #[.slice a' L c', .int .i64 E]) ∧ SR w' a' L c' (sgF xs off) ∧ Below w.heap.size w w' := by
  have hb : Below w.heap.size w (w.alloc (.cells #[.slice a n c, .int .i64 off] 87)) := (Below.refl _ _).alloc (Nat.le_refl _) _
  have HE := Lib.hid hE
  clear hE
  go_enter Try.func56, Try.ntmps56
  go_wp2_with fail
  refine (openD_swings a n c xs off _ (h1.keep hb)).mono ?_
  rintro e w1 ⟨a', L, c', a0, n0, c0, o0, rfl, hb1, hcall⟩
  have hbw : Below w.heap.size w w1 := hb.trans (hb1.mono (by simp))
  have hal : ∀ o, Below w1.heap.size w1 (w1.alloc o) := fun o => (Below.refl _ _).alloc (Nat.le_refl _) _
  rw [HE.out]
  go_wp2_with fail
  refine (hcall _ (hal _)).mono ?_
  rintro e w2 ⟨a2, L2, c2, rfl, hs, hb2⟩
  go_wp2_with fail
  refine bodyPost_ret (v := .tuple #[.slice a2 L2 c2, .int .i64 E]) (by simp [results, Try.results56, go_sem]) rfl ⟨_, _, _, rfl, hs.sr, hbw.trans (((hal _).mono hbw.size).trans (hb2.mono (by simp; have := hbw.size; omega)))⟩
end Go.Proofs.Ytmaidjankakppaa
