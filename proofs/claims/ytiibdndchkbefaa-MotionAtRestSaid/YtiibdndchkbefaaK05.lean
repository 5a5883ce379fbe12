/- Plain law of chapter 2: all lists of times, and the match. Plain law of chapter 2: the errors of oscillators, bands, waves and times; where samples are outside of a band. Contracts of chapter 2: the first error of items, and the errors of oscillators, bands, waves and times. Plain law of chapter 2: prices and rests. -/
import Derived.Test.YtiibdndchkbefaaK04
namespace Go.Proofs.Ytiibdndchkbefaa

/-- All lists of so many times, in lexicographic order. -/
def five : List Int := [-2, -1, 0, 1, 2]
def allC : Nat → List (List Int)
  | 0 => [[]]
  | k + 1 => five.flatMap (fun n => (allC k).map (fun c => n :: c))
/-- Those that begin so. -/
def genC (pre : List Int) (k : Nat) : List (List Int) := (allC k).map (fun c => pre ++ c)
theorem genC_zero (pre : List Int) : genC pre 0 = [pre] := by simp [genC, allC]
theorem genC_succ (pre : List Int) (k : Nat) : genC pre (k + 1) = five.flatMap (fun n => genC (pre ++ [n]) k) := by
  unfold genC
  rw [allC, List.map_flatMap]
  congr 1
  funext n
  rw [List.map_map]
  congr 1
  funext c
  simp
theorem genC_nil (k : Nat) : genC [] k = allC k := by simp [genC]
theorem allC_len {k : Nat} {c : List Int} (h : c ∈ allC k) : c.length = k ∧ ∀ j : Nat, -2 ≤ c[j]?.getD 0 ∧ c[j]?.getD 0 ≤ 2 := by
  induction k generalizing c with
  | zero =>
    simp [allC] at h
    subst h
    simp
  | succ k ih =>
    rw [allC, List.mem_flatMap] at h
    obtain ⟨n, hn, h⟩ := h
    obtain ⟨d, hd, rfl⟩ := List.mem_map.1 h
    obtain ⟨h1, h2⟩ := ih hd
    refine ⟨by simp [h1], fun j => ?_⟩
    cases j with
    | zero =>
      simp [five] at hn
      simp
      omega
    | succ j => simpa using h2 j
theorem mem_allC {c : List Int} (h : ∀ x ∈ c, -2 ≤ x ∧ x ≤ 2) : c ∈ allC c.length := by
  induction c with
  | nil => simp [allC]
  | cons x c ih =>
    rw [List.length_cons, allC, List.mem_flatMap]
    refine ⟨x, ?_, List.mem_map.2 ⟨c, ih (fun y hy => h y (List.mem_cons_of_mem _ hy)), rfl⟩⟩
    have := h x List.mem_cons_self
    simp [five]
    omega
/-- The sum of the sizes of the first times. -/
def szT (ts : List Int) : Nat → Int
  | 0 => 0
  | k + 1 => szT ts k + sizeOf' (ts[k]?.getD 0)
def szs (ts : List Int) : Int := szT ts ts.length
theorem szT_bd {ts : List Int} (h : ∀ j : Nat, -2 ≤ ts[j]?.getD 0 ∧ ts[j]?.getD 0 ≤ 2) (k : Nat) : 0 ≤ szT ts k ∧ szT ts k ≤ 2 * (k : Int) := by
  induction k with
  | zero => simp [szT]
  | succ k ih =>
    have := h k
    rw [szT, sizeOf_abs]
    omega
/-- What is best of those that came so far; false: none. -/
def mtStep (good : List Int → Bool) (s : List Int × Bool) (t : List Int) : List Int × Bool := if good t = true ∧ (s.2 = true → szs t < szs s.1) then (t, true) else s
def mtF (good : List Int → Bool) (k : Nat) : List Int × Bool := (allC k).foldl (mtStep good) ([], false)
theorem mtStep_none {good : List Int → Bool} {s : List Int × Bool} {t : List Int} (h : (mtStep good s t).2 = false) : s.2 = false ∧ good t = false := by
  unfold mtStep at h
  split at h
  · cases h
  · rename_i hn
    refine ⟨h, ?_⟩
    cases hg : good t with
    | false => rfl
    | true => exact absurd ⟨hg, fun hs => by rw [h] at hs; cases hs⟩ hn
/-- The law of the best: it is good, and no good one has a smaller sum of sizes. -/
theorem mt_inv (good : List Int → Bool) (l : List (List Int)) (s : List Int × Bool) :
    ((l.foldl (mtStep good) s).2 = false → s.2 = false ∧ ∀ t ∈ l, good t = false) ∧
      ((l.foldl (mtStep good) s).2 = true → ((s.2 = true ∧ (l.foldl (mtStep good) s) = s) ∨ ((l.foldl (mtStep good) s).1 ∈ l ∧ good (l.foldl (mtStep good) s).1 = true)) ∧
        (s.2 = true → szs (l.foldl (mtStep good) s).1 ≤ szs s.1) ∧ ∀ t ∈ l, good t = true → szs (l.foldl (mtStep good) s).1 ≤ szs t) := by
  induction l generalizing s with
  | nil => exact ⟨fun h => ⟨h, by simp⟩, fun h => ⟨.inl ⟨h, rfl⟩, fun _ => Int.le_refl _, by simp⟩⟩
  | cons t l ih =>
    obtain ⟨h1, h2⟩ := ih (mtStep good s t)
    rw [List.foldl_cons]
    refine ⟨fun h => ?_, fun h => ?_⟩
    · obtain ⟨a1, a2⟩ := h1 h
      obtain ⟨b1, b2⟩ := mtStep_none a1
      refine ⟨b1, fun u hu => ?_⟩
      rcases List.mem_cons.1 hu with rfl | hu
      · exact b2
      · exact a2 u hu
    · obtain ⟨a1, a2, a3⟩ := h2 h
      generalize l.foldl (mtStep good) (mtStep good s t) = r at *
      by_cases hc : good t = true ∧ (s.2 = true → szs t < szs s.1)
      · have e : mtStep good s t = (t, true) := by unfold mtStep; rw [if_pos hc]
        rw [e] at a1 a2
        have b2 := a2 rfl
        refine ⟨.inr ?_, fun hs => ?_, fun u hu hg => ?_⟩
        · rcases a1 with ⟨_, rfl⟩ | ⟨c1, c2⟩
          · exact ⟨List.mem_cons_self, hc.1⟩
          · exact ⟨List.mem_cons_of_mem _ c1, c2⟩
        · have := hc.2 hs
          dsimp only at b2
          omega
        · rcases List.mem_cons.1 hu with rfl | hu
          · exact b2
          · exact a3 u hu hg
      · have e : mtStep good s t = s := by unfold mtStep; rw [if_neg hc]
        rw [e] at a1 a2
        refine ⟨?_, a2, fun u hu hg => ?_⟩
        · rcases a1 with c1 | ⟨c1, c2⟩
          · exact .inl c1
          · exact .inr ⟨List.mem_cons_of_mem _ c1, c2⟩
        · rcases List.mem_cons.1 hu with rfl | hu
          · by_cases hs : s.2 = true
            · have h3 : ¬ szs u < szs s.1 := fun h4 => hc ⟨hg, fun _ => h4⟩
              have := a2 hs
              omega
            · exact absurd ⟨hg, fun h4 => absurd h4 hs⟩ hc
          · exact a3 u hu hg
/-- Samples with the first waves added. -/
def adS (ws : List (List Int)) (ts : List Int) (t : Nat) : Nat → Int
  | 0 => 0
  | i + 1 => adS ws ts t i + ts[i]?.getD 0 * (ws[i]?.getD [])[t]?.getD 0
def adTo (xs : List Int) (ws : List (List Int)) (ts : List Int) (i : Nat) : List Int := (List.range xs.length).map (fun t => xs[t]?.getD 0 + adS ws ts t i)
theorem adTo_len (xs : List Int) (ws : List (List Int)) (ts : List Int) (i : Nat) : (adTo xs ws ts i).length = xs.length := by simp [adTo]
theorem adTo_get (xs : List Int) (ws : List (List Int)) (ts : List Int) (i t : Nat) (h : t < xs.length) : (adTo xs ws ts i)[t]?.getD 0 = xs[t]?.getD 0 + adS ws ts t i := by
  unfold adTo
  rw [List.getElem?_map, List.getElem?_range h]
  rfl
theorem adTo_zero (xs : List Int) (ws : List (List Int)) (ts : List Int) : adTo xs ws ts 0 = xs := by
  refine List.ext_getElem (adTo_len _ _ _ _) fun t h1 h2 => ?_
  have := adTo_get xs ws ts 0 t h2
  rw [List.getElem?_eq_getElem h1, List.getElem?_eq_getElem h2] at this
  simpa [adS] using this
/-- The first positions of one wave more. -/
def adMid (xs : List Int) (ws : List (List Int)) (ts : List Int) (i p : Nat) : List Int := (adTo xs ws ts (i + 1)).take p ++ (adTo xs ws ts i).drop p
theorem adMid_zero (xs : List Int) (ws : List (List Int)) (ts : List Int) (i : Nat) : adMid xs ws ts i 0 = adTo xs ws ts i := by simp [adMid]
theorem adMid_all (xs : List Int) (ws : List (List Int)) (ts : List Int) (i p : Nat) (h : xs.length ≤ p) : adMid xs ws ts i p = adTo xs ws ts (i + 1) := by
  unfold adMid
  rw [List.take_of_length_le (by rw [adTo_len]; exact h), List.drop_eq_nil_of_le (by rw [adTo_len]; exact h), List.append_nil]
theorem adMid_len (xs : List Int) (ws : List (List Int)) (ts : List Int) (i p : Nat) : (adMid xs ws ts i p).length = xs.length := by
  simp [adMid, adTo_len]
  omega
theorem adMid_get (xs : List Int) (ws : List (List Int)) (ts : List Int) (i p : Nat) (h : p < xs.length) : (adMid xs ws ts i p)[p]?.getD 0 = xs[p]?.getD 0 + adS ws ts p i := by
  unfold adMid
  rw [List.getElem?_append_right (by simp [adTo_len]; omega), List.length_take, adTo_len, Nat.min_eq_left (by omega), Nat.sub_self, List.getElem?_drop, Nat.add_zero, adTo_get _ _ _ _ _ h]
theorem adMid_set (xs : List Int) (ws : List (List Int)) (ts : List Int) (i p : Nat) (h : p < xs.length) :
    (adMid xs ws ts i p).set p (xs[p]?.getD 0 + adS ws ts p i + ts[i]?.getD 0 * (ws[i]?.getD [])[p]?.getD 0) = adMid xs ws ts i (p + 1) := by
  have hl1 : (adTo xs ws ts (i + 1)).length = xs.length := adTo_len _ _ _ _
  have hl2 : (adTo xs ws ts i).length = xs.length := adTo_len _ _ _ _
  unfold adMid
  rw [List.drop_eq_getElem_cons (by omega), List.set_append_right _ _ (by simp; omega), List.length_take, hl1, Nat.min_eq_left (by omega), Nat.sub_self, List.set_cons_zero, List.take_succ_eq_append_getElem (by omega), List.append_assoc]
  congr 1
  have e := adTo_get xs ws ts (i + 1) p h
  rw [List.getElem?_eq_getElem (by omega)] at e
  simp only [Option.getD_some] at e
  rw [e, adS, Int.add_assoc]
  rfl
/-- Whether all numbers are samples. -/
theorem gsT_le (xs : List Int) (M : Int) (hM : 0 ≤ M) (k : Nat) : gsT xs k ≤ M ↔ ∀ j, j < k → -M ≤ xs[j]?.getD 0 ∧ xs[j]?.getD 0 ≤ M := by
  induction k with
  | zero => simp [gsT]; exact hM
  | succ k ih =>
    rw [gsT, sizeOf_abs]
    constructor
    · intro h j hj
      rcases Nat.lt_or_ge j k with h1 | h1
      · exact ih.1 (by omega) j h1
      · obtain rfl : j = k := by omega
        omega
    · intro h
      have h1 := ih.2 (fun j hj => h j (by omega))
      have h2 := h k (by omega)
      omega
end Go.Proofs.Ytiibdndchkbefaa

namespace Go.Proofs.Ytiibdndchkbefaa

theorem eachE_drop {α : Type} (f : α → Int) (l : List α) (d : α) (k : Nat) (h : k < l.length) : firstE ((l.drop k).map f) = if f (l[k]?.getD d) = 0 then firstE ((l.drop (k + 1)).map f) else f (l[k]?.getD d) := by
  rw [List.drop_eq_getElem_cons h, List.map_cons, firstE, List.getElem?_eq_getElem h]
  rfl
theorem firstE_all {l : List Int} (h : firstE l = 0) : ∀ x ∈ l, x = 0 := by
  induction l with
  | nil => simp
  | cons y l ih =>
    rw [firstE] at h
    split at h
    · rename_i hy
      intro x hx
      rcases List.mem_cons.1 hx with rfl | hx
      · exact hy
      · exact ih h x hx
    · exact absurd h (by assumption)
theorem unlessE_zero {b : Bool} {x : Int} (h : unlessE b x = 0) (hx : x ≠ 0) : b = true := by
  cases b
  · exact absurd h hx
  · rfl

/-- The error of an oscillator, of a row of a band, of a band. -/
def oscE (o : Int × Int) : Int := unlessE (wIn o.1 0 3000 && wIn o.2 0 500) 2
theorem oscE_ok {o : Int × Int} (h : oscE o = 0) : (0 ≤ o.1 ∧ o.1 ≤ 3000) ∧ (0 ≤ o.2 ∧ o.2 ≤ 500) := by
  have := unlessE_zero h (by decide)
  rw [Bool.and_eq_true, wIn_iff, wIn_iff] at this
  exact this
def bndE (b : Four) : Int := firstE [oscE b.1, unlessE (wIn b.2.1 0 1000000 && wIn b.2.2 0 1000000) 2, unlessE (decide (b.2.1 ≤ b.2.2)) 9]
theorem bndE_ok {b : Four} (h : bndE b = 0) : oscE b.1 = 0 ∧ (0 ≤ b.2.1 ∧ b.2.1 ≤ 1000000) ∧ (0 ≤ b.2.2 ∧ b.2.2 ≤ 1000000) ∧ b.2.1 ≤ b.2.2 := by
  have h1 := firstE_all h _ (List.mem_cons_self)
  have h2 := unlessE_zero (firstE_all h _ (List.mem_cons_of_mem _ (List.mem_cons_self))) (by decide)
  have h3 := unlessE_zero (firstE_all h _ (List.mem_cons_of_mem _ (List.mem_cons_of_mem _ (List.mem_cons_self)))) (by decide)
  rw [Bool.and_eq_true, wIn_iff, wIn_iff] at h2
  exact ⟨h1, h2.1, h2.2, of_decide_eq_true h3⟩
def bandE (l : List Four) : Int := firstE [unlessE (decide (0 < l.length)) 10, unlessE (decide (l.length ≤ 6)) 8, firstE (l.map bndE)]
theorem bandE_ok {l : List Four} (h : bandE l = 0) : 0 < l.length ∧ l.length ≤ 6 ∧ ∀ k, k < l.length → bndE (l[k]?.getD four0) = 0 := by
  have h1 := unlessE_zero (firstE_all h _ (List.mem_cons_self)) (by decide)
  have h2 := unlessE_zero (firstE_all h _ (List.mem_cons_of_mem _ (List.mem_cons_self))) (by decide)
  have h3 := firstE_all h _ (List.mem_cons_of_mem _ (List.mem_cons_of_mem _ (List.mem_cons_self)))
  refine ⟨of_decide_eq_true h1, of_decide_eq_true h2, fun k hk => ?_⟩
  refine firstE_all h3 _ ?_
  rw [List.getElem?_eq_getElem hk]
  exact List.mem_map_of_mem (List.getElem_mem hk)
/-- The error of a wave for so many samples, of waves, of times. -/
def wavE (n : Nat) (x : List Int) : Int := if x.length = n then (if badS x 0 = none then unlessE (decide (sumT x n = 0 ∧ sumT (sumsF x) n = 0)) 21 else 2) else 10
theorem wavE_ok {n : Nat} {x : List Int} (h : wavE n x = 0) : x.length = n ∧ badS x 0 = none ∧ sumT x n = 0 ∧ sumT (sumsF x) n = 0 := by
  unfold wavE at h
  split at h
  · split at h
    · have := of_decide_eq_true (unlessE_zero h (by decide))
      exact ⟨by assumption, by assumption, this.1, this.2⟩
    · cases h
  · cases h
def wavesE (n : Nat) (ws : List (List Int)) : Int := firstE [unlessE (decide (ws.length ≤ 3)) 8, firstE (ws.map (wavE n))]
theorem wavesE_ok {n : Nat} {ws : List (List Int)} (h : wavesE n ws = 0) : ws.length ≤ 3 ∧ ∀ k, k < ws.length → wavE n (ws[k]?.getD []) = 0 := by
  have h1 := unlessE_zero (firstE_all h _ (List.mem_cons_self)) (by decide)
  have h3 := firstE_all h _ (List.mem_cons_of_mem _ (List.mem_cons_self))
  refine ⟨of_decide_eq_true h1, fun k hk => ?_⟩
  refine firstE_all h3 _ ?_
  rw [List.getElem?_eq_getElem hk]
  exact List.mem_map_of_mem (List.getElem_mem hk)
def timE (t : Int) : Int := unlessE (wIn t (-2) 2) 2
def timesE (m : Nat) (ts : List Int) : Int := firstE [unlessE (decide (ts.length = m)) 10, firstE (ts.map timE)]
theorem timesE_ok {m : Nat} {ts : List Int} (h : timesE m ts = 0) : ts.length = m ∧ ∀ j : Nat, -2 ≤ ts[j]?.getD 0 ∧ ts[j]?.getD 0 ≤ 2 := by
  have h1 := unlessE_zero (firstE_all h _ (List.mem_cons_self)) (by decide)
  have h3 := firstE_all h _ (List.mem_cons_of_mem _ (List.mem_cons_self))
  refine ⟨of_decide_eq_true h1, fun j => ?_⟩
  rcases Nat.lt_or_ge j ts.length with hj | hj
  · have := firstE_all h3 (timE (ts[j]?.getD 0)) (by rw [List.getElem?_eq_getElem hj]; exact List.mem_map_of_mem (List.getElem_mem hj))
    exact wIn_iff.1 (unlessE_zero this (by decide))
  · rw [List.getElem?_eq_none hj]
    simp

/-- Where samples are outside of a band. -/
def pkO (xs : List Int) (o : Int × Int) : Int := gsT (rspTo xs o.1 o.2 xs.length) xs.length
def outB (xs : List Int) (b : Four) : Bool := !(wIn (pkO xs b.1) b.2.1 b.2.2)
def outT (xs : List Int) (l : List Four) (k : Nat) : List Int := ((List.range k).filter (fun i => outB xs (l[i]?.getD four0))).map (fun i => ((i : Nat) : Int))
theorem outT_succ (xs : List Int) (l : List Four) (k : Nat) : outT xs l (k + 1) = if outB xs (l[k]?.getD four0) = true then outT xs l k ++ [(k : Int)] else outT xs l k := by
  unfold outT
  rw [List.range_succ, List.filter_append, List.map_append]
  simp only [List.filter_cons, List.filter_nil]
  split <;> simp
theorem outT_len (xs : List Int) (l : List Four) (k : Nat) : (outT xs l k).length ≤ k := by
  unfold outT
  rw [List.length_map]
  exact Nat.le_trans (List.length_filter_le _ _) (by simp)
/-- Times with which samples are in the band. -/
def goodM (xs : List Int) (ws : List (List Int)) (l : List Four) (ts : List Int) : Bool := decide (gsT (adTo xs ws ts ws.length) xs.length ≤ 1000) && (outT (adTo xs ws ts ws.length) l l.length).isEmpty
theorem rspTo_len (xs : List Int) (st dm : Int) (k : Nat) : (rspTo xs st dm k).length = k := by simp [rspTo]
theorem rspTo_get (xs : List Int) (st dm : Int) (n k : Nat) (h : k < n) : (rspTo xs st dm n)[k]?.getD 0 = (rspT xs st dm (k + 1)).1 := by
  unfold rspTo
  rw [List.getElem?_map, List.getElem?_range h]
  rfl
/-- How great the added samples are. -/
theorem adS_bd {ws : List (List Int)} {ts : List Int} (hw : ∀ i t : Nat, -1000 ≤ (ws[i]?.getD [])[t]?.getD 0 ∧ (ws[i]?.getD [])[t]?.getD 0 ≤ 1000) (ht : ∀ j : Nat, -2 ≤ ts[j]?.getD 0 ∧ ts[j]?.getD 0 ≤ 2) (t i : Nat) :
    -(2000 * (i : Int)) ≤ adS ws ts t i ∧ adS ws ts t i ≤ 2000 * (i : Int) := by
  induction i with
  | zero => simp [adS]
  | succ i ih =>
    rw [adS]
    have h1 := hw i t
    have h2 := ht i
    have := pr_bd (c := ts[i]?.getD 0) (a := (ws[i]?.getD [])[t]?.getD 0) (C := 2) (A := 1000) h2.1 h2.2 h1.1 h1.2
    omega
theorem wavesE_bd {n : Nat} {ws : List (List Int)} (h : wavesE n ws = 0) : ∀ i t : Nat, -1000 ≤ (ws[i]?.getD [])[t]?.getD 0 ∧ (ws[i]?.getD [])[t]?.getD 0 ≤ 1000 := by
  intro i t
  rcases Nat.lt_or_ge i ws.length with hi | hi
  · exact badS_none (wavE_ok ((wavesE_ok h).2 i hi)).2.1 t
  · rw [List.getElem?_eq_none hi]
    simp
end Go.Proofs.Ytiibdndchkbefaa

namespace Go.Proofs.Ytiibdndchkbefaa
open Go.RowKit
open Calmly (Kept)

theorem store_fn (P : Program) (w : World) (a : Addr) (m : Mode) (fn : Fn) (first captured : Array Value) : (store a (.func fn first captured) m).run P w = stored P w a (.func fn first captured) m := run_store P w a _ m rfl
attribute [local go_sem] store_fn

set_option maxHeartbeats 400000 in
theorem oscillatorErr_any (st dm : Int) (w : World) : Calls Try.prog 101 #[.agg #[.int .i64 st, .int .i64 dm]] w fun e w' => e = .returned (.int .i64 (oscE (st, dm))) ∧ Below w.heap.size w w' := by
  have BW : Below w.heap.size w (w.alloc (.cells #[.int .i64 st, .int .i64 dm] 49)) := (Below.refl _ _).alloc (Nat.le_refl _) _
  cases hs : wIn st 0 3000
  · have hE : oscE (st, dm) = unlessE false 2 := by simp [oscE, hs]
    rw [hE]
    go_enter Try.func101, Try.ntmps101
    go_wp2_with fail
    refine (nWithin_any _ _ _ _).mono ?_
    rintro e w1 ⟨rfl, rfl⟩
    go_wp2_with fail
    refine (nUnless_any _ _ _).mono ?_
    rintro e w1 ⟨rfl, rfl⟩
    go_wp2_with fail
    go_ret
    exact ⟨rfl, BW⟩
  · have hE : oscE (st, dm) = unlessE (wIn dm 0 500) 2 := by simp [oscE, hs]
    rw [hE]
    go_enter Try.func101, Try.ntmps101
    go_wp2_with fail
    refine (nWithin_any _ _ _ _).mono ?_
    rintro e w1 ⟨rfl, rfl⟩
    go_wp2_with fail
    refine (nWithin_any _ _ _ _).mono ?_
    rintro e w1 ⟨rfl, rfl⟩
    go_wp2_with fail
    refine (nUnless_any _ _ _).mono ?_
    rintro e w1 ⟨rfl, rfl⟩
    go_wp2_with fail
    go_ret
    exact ⟨rfl, BW⟩

set_option maxHeartbeats 400000 in
theorem isPeak_any (x : Int) (w : World) : Calls Try.prog 140 #[.int .i64 x] w fun e w' => e = .returned (.bool (wIn x 0 1000000)) ∧ w = w' := by
  go_enter Try.func140, Try.ntmps140
  go_wp2_with fail
  refine (nWithin_any _ _ _ _).mono ?_
  rintro e w1 ⟨rfl, rfl⟩
  go_wp2_with fail
  go_ret
  exact ⟨rfl, rfl⟩

set_option maxHeartbeats 400000 in
theorem timErr_any (x : Int) (w : World) : Calls Try.prog 156 #[.int .i64 x] w fun e w' => e = .returned (.int .i64 (timE x)) ∧ Below w.heap.size w w' := by
  go_enter Try.func156, Try.ntmps156
  go_wp2_with fail
  refine (nSized_any x 2 _ (by omega) (by omega)).mono ?_
  rintro e w1 ⟨rfl, rfl⟩
  go_wp2_with fail
  refine (nUnless_any _ _ _).mono ?_
  rintro e w1 ⟨rfl, rfl⟩
  go_wp2_with fail
  go_ret
  exact ⟨rfl, Below.refl _ _⟩

set_option maxRecDepth 100000 in
set_option maxHeartbeats 1000000 in
theorem bndErr_any (st dm lo hi : Int) (pb : Nat) (w : World) (h1 : w.heap[pb]? = some (.cells #[.func (.func 140) #[] #[]] 124)) :
    Calls Try.prog 142 #[.agg #[.int .i64 st, .int .i64 dm, .int .i64 lo, .int .i64 hi], .pointer (some ⟨pb, 0, none⟩)] w fun e w' => e = .returned (.int .i64 (bndE ((st, dm), (lo, hi)))) ∧ Below w.heap.size w w' := by
  have hb : ∀ o, Below w.heap.size w (w.alloc o) := fun o => (Below.refl _ _).alloc (Nat.le_refl _) _
  obtain ⟨E, hE⟩ : ∃ E, bndE ((st, dm), (lo, hi)) = E := ⟨_, rfl⟩
  rw [hE]
  have HE := Lib.hid hE
  clear hE
  have x1 := alloc_new w (.cells #[.int .i64 st, .int .i64 dm, .int .i64 lo, .int .i64 hi] 51)
  have x2 := blk_keep h1 (hb (.cells #[.int .i64 st, .int .i64 dm, .int .i64 lo, .int .i64 hi] 51))
  go_enter Try.func142, Try.ntmps142
  go_wp2_with fail
  refine Calmly.wp_region_mix 26 (.fl 0 <| .fl 1 <| .fl 3 <| .fl 4 <| .fl 5 <| .fl 6 <| .fl 16 <| .fl 17 <| .fl 18 <| .fl 19 <| .fl 20 <| .fl 21 <| .fl 22 <| .eff 2 <| .eff 7 <| .fl 8 <| .gl 9 <| .gl 10 <| .gl 11 <| .gl 12 <| .gf 13 <| .fl 14 <| .eff 15 <| .eff 23 <| .eff 24 <| .eff 25 <| .tail [26]) (by kernel_rfl) (by kernel_rfl) ?_
  have BW := (hb (.cells #[.int .i64 st, .int .i64 dm, .int .i64 lo, .int .i64 hi] 51)).drew
  replace x1 := blk_keep x1 (Below.refl _ _).drew
  replace x2 := blk_keep x2 (Below.refl _ _).drew
  generalize World.drew _ = V at x1 x2 BW ⊢
  have f0 := cell_block x1 0
  have f1 := cell_block x1 1
  have f2 := cell_block x1 2
  have f3 := cell_block x1 3
  have f4 := cell_block x2 0
  have hk := Below.refl V.heap.size V
  cases hlo : wIn lo 0 1000000
  all_goals
    go_wp2_with (first | ((with_reducible refine Calmly.is_fl ?_); refine Calmly.mix_fl rfl ?_ (fun _ _ => ?_); (first | exact .move _ | exact .load _ _ | exact .fieldAddr _ _ _ (by kernel_rfl) | exact .assign _ | exact .binOp _ _ _ _ _ rfl | exact .indexAddr _ _ _ | exact .len _ _ (by kernel_rfl) | exact .field _ _ _ | exact .extract _ _ | exact .pick _ _ _ | exact .build _ _ | exact .slice _ _ _ _ _ | exact .unOp _ _ _ rfl | exact .index _ _ _ | exact .max _ _ _ rfl rfl | exact .min _ _ _ rfl rfl)) | ((with_reducible refine Calmly.is_gl ?_); refine Calmly.mix_gl rfl rfl rfl ?_; first | ((first | with_reducible refine Calmly.gl_tt ?_ (fun _ _ => ?_) | with_reducible refine Calmly.gl_ff ?_ (fun _ _ => ?_)); (first | exact .move _ | exact .load _ _ | exact .fieldAddr _ _ _ (by kernel_rfl) | exact .assign _ | exact .binOp _ _ _ _ _ rfl | exact .indexAddr _ _ _ | exact .len _ _ (by kernel_rfl) | exact .field _ _ _ | exact .extract _ _ | exact .pick _ _ _ | exact .build _ _ | exact .slice _ _ _ _ _ | exact .unOp _ _ _ rfl | exact .index _ _ _ | exact .max _ _ _ rfl rfl | exact .min _ _ _ rfl rfl)) | with_reducible refine Calmly.gl_tf (fun _ _ => ?_) | with_reducible refine Calmly.gl_ft (fun _ _ => ?_)) | ((with_reducible refine Calmly.is_eff ?_); refine Calmly.mix_eff rfl (fun _ _ => ?_)) | ((with_reducible refine Calmly.is_gf ?_); refine Calmly.mix_gf rfl rfl rfl ?_; first | with_reducible refine Calmly.gf_tt (fun _ _ => ?_) | with_reducible refine Calmly.gf_ff (fun _ _ => ?_) | with_reducible refine Calmly.gf_tf (kept_of hk) (fun _ _ => ?_) | with_reducible refine Calmly.gf_ft (kept_of hk) (fun _ _ => ?_)) | ((with_reducible refine Calmly.is_kept ?_); refine ⟨kept_of hk, ?_⟩) | (with_reducible refine Calmly.mix_alt ?_ ?_) | (refine kept_alloc hk (fun hk' hblk hge => ?_); replace hk := hk'; clear hk') | (go_at_call 101; refine (oscillatorErr_any st dm _).mono ?_; rintro e w1 ⟨rfl, hs⟩; replace hk := step_of hk hs) | (go_at_call 140; refine (isPeak_any _ _).mono ?_; rintro e w1 ⟨rfl, rfl⟩) | (go_at_call 90; refine (nUnless_any _ _ _).mono ?_; rintro e w1 ⟨rfl, rfl⟩))
    refine (nFirst_any _ 3 3 _ _ (SI.three _ _ _ _ _ (by simp))).mono ?_
    rintro e w1 ⟨rfl, rfl⟩
    go_wp2_with (first | ((with_reducible refine Calmly.is_fl ?_); refine Calmly.mix_fl rfl ?_ (fun _ _ => ?_); (first | exact .move _ | exact .load _ _ | exact .fieldAddr _ _ _ (by kernel_rfl) | exact .assign _ | exact .binOp _ _ _ _ _ rfl | exact .indexAddr _ _ _ | exact .len _ _ (by kernel_rfl) | exact .field _ _ _ | exact .extract _ _ | exact .pick _ _ _ | exact .build _ _ | exact .slice _ _ _ _ _ | exact .unOp _ _ _ rfl | exact .index _ _ _ | exact .max _ _ _ rfl rfl | exact .min _ _ _ rfl rfl)) | ((with_reducible refine Calmly.is_gl ?_); refine Calmly.mix_gl rfl rfl rfl ?_; first | ((first | with_reducible refine Calmly.gl_tt ?_ (fun _ _ => ?_) | with_reducible refine Calmly.gl_ff ?_ (fun _ _ => ?_)); (first | exact .move _ | exact .load _ _ | exact .fieldAddr _ _ _ (by kernel_rfl) | exact .assign _ | exact .binOp _ _ _ _ _ rfl | exact .indexAddr _ _ _ | exact .len _ _ (by kernel_rfl) | exact .field _ _ _ | exact .extract _ _ | exact .pick _ _ _ | exact .build _ _ | exact .slice _ _ _ _ _ | exact .unOp _ _ _ rfl | exact .index _ _ _ | exact .max _ _ _ rfl rfl | exact .min _ _ _ rfl rfl)) | with_reducible refine Calmly.gl_tf (fun _ _ => ?_) | with_reducible refine Calmly.gl_ft (fun _ _ => ?_)) | ((with_reducible refine Calmly.is_eff ?_); refine Calmly.mix_eff rfl (fun _ _ => ?_)) | ((with_reducible refine Calmly.is_gf ?_); refine Calmly.mix_gf rfl rfl rfl ?_; first | with_reducible refine Calmly.gf_tt (fun _ _ => ?_) | with_reducible refine Calmly.gf_ff (fun _ _ => ?_) | with_reducible refine Calmly.gf_tf (kept_of hk) (fun _ _ => ?_) | with_reducible refine Calmly.gf_ft (kept_of hk) (fun _ _ => ?_)) | ((with_reducible refine Calmly.is_tail ?_); first | refine Calmly.mix_tail_nil ?_ | refine Calmly.mix_tail rfl (fun _ _ => ?_)) | ((with_reducible refine Calmly.is_kept ?_); refine ⟨kept_of hk, ?_⟩) | (with_reducible refine Calmly.mix_alt ?_ ?_))
    go_ret
    refine ⟨ret_int ?_, BW.trans (hk.mono BW.size)⟩
    rw [← HE.out, bndE]
    simp [hlo]

set_option maxRecDepth 100000 in
set_option maxHeartbeats 1000000 in
theorem eachOsc_any (a : Option Addr) (n c : Nat) (l : List (Int × Int)) (w : World) (h1 : SR w a n c l) :
    Calls Try.prog 103 #[.slice a n c, .func (.func 101) #[] #[]] w fun e w' => e = .returned (.int .i64 (firstE (l.map oscE))) ∧ Below w.heap.size w w' := by
  obtain ⟨l1, l2⟩ : n ≤ l.length ∧ l.length ≤ n := by have := h1.len; omega
  have m1 := h1.max
  have c1 := h1.cap
  obtain ⟨R, hR⟩ : ∃ R, firstE (l.map oscE) = R := ⟨_, rfl⟩
  rw [hR]
  have HR := Lib.hid hR
  clear hR
  go_enter Try.func103, Try.ntmps103
  go_wp2_with fail
  go_loopw [10] (fun i wr => ∃ k : Nat, k ≤ n ∧ i = .int .i64 k ∧ firstE ((l.drop k).map oscE) = R ∧ Below w.heap.size w wr) (fun i _ => n - (intOf i).toNat)
  case atStart => exact ⟨0, by omega, rfl, HR.out, Below.refl _ _⟩
  case round =>
    obtain ⟨k, hk, rfl, ht, hbr⟩ := hrel
    have HT := Lib.hid ht
    clear ht
    have hrs := hbr.size
    by_cases hlt : k < n
    · obtain ⟨cb, co, rfl, hcc⟩ := h1.at_ (by omega)
      obtain ⟨y0, y1⟩ := hcc k hlt
      replace y0 := cell_keep y0 hbr
      replace y1 := cell_keep y1 hbr
      clear hcc
      have hd := eachE_drop oscE l (0, 0) k (by omega)
      rw [HT.out] at hd
      obtain ⟨rr, hrr⟩ : ∃ rr, l[k]?.getD (0, 0) = rr := ⟨_, rfl⟩
      obtain ⟨st, dm⟩ := rr
      rw [hrr] at y0 y1 hd
      clear hrr
      dsimp only at y0 y1
      obtain ⟨E, hE⟩ : ∃ E, oscE (st, dm) = E := ⟨_, rfl⟩
      rw [hE] at hd
      have HD := Lib.hid hd
      have HE := Lib.hid hE
      clear hd hE
      have hi1 : (k : Int) < (n : Int) := by omega
      have hi0 : (0 : Int) ≤ (k : Int) := by omega
      go_wp2_with fail
      refine (oscillatorErr_any st dm _).mono ?_
      rintro e w1 ⟨rfl, hs⟩
      rw [HE.out]
      have hbn := hbr.trans (((Below.refl wr.heap.size wr).alloc (Nat.le_refl _) (.cells #[.int .i64 st, .int .i64 dm] 49)).trans (hs.mono (by simp)) |>.mono hrs)
      by_cases hz : E = 0
      · subst hz
        have hE0 : ((0 : Int) != 0) = false := rfl
        go_wp2_with fail
        go_roundw
        case rel => exact ⟨k + 1, by omega, by go_num, by rw [HD.out]; simp, hbn⟩
        case measure => simp [intOf]; omega
      · have b1 : (E != 0) = true := by simpa using hz
        have hRE : R = E := by rw [HD.out, if_neg hz]
        clear hz
        go_wp2_with fail
        go_ret
        exact ⟨ret_int hRE.symm, hbn⟩
    · have hle : (n : Int) ≤ (k : Int) := by omega
      have hR0 : R = 0 := by rw [← HT.out, List.drop_eq_nil_of_le (by omega)]; rfl
      go_wp2_with fail
      go_ret
      exact ⟨ret_int hR0.symm, hbr⟩

set_option maxRecDepth 100000 in
set_option maxHeartbeats 1000000 in
theorem eachBnd_any (a : Option Addr) (n c : Nat) (l : List Four) (w : World) (h1 : SB w a n c l) (pb : Nat) (h2 : w.heap[pb]? = some (.cells #[.func (.func 140) #[] #[]] 124)) :
    Calls Try.prog 141 #[.slice a n c, .func (.func 142) #[] #[.pointer (some ⟨pb, 0, none⟩)]] w fun e w' => e = .returned (.int .i64 (firstE (l.map bndE))) ∧ Below w.heap.size w w' := by
  obtain ⟨l1, l2⟩ : n ≤ l.length ∧ l.length ≤ n := by have := h1.len; omega
  have m1 := h1.max
  have c1 := h1.cap
  obtain ⟨R, hR⟩ : ∃ R, firstE (l.map bndE) = R := ⟨_, rfl⟩
  rw [hR]
  have HR := Lib.hid hR
  clear hR
  go_enter Try.func141, Try.ntmps141
  go_wp2_with fail
  go_loopw [10] (fun i wr => ∃ k : Nat, k ≤ n ∧ i = .int .i64 k ∧ firstE ((l.drop k).map bndE) = R ∧ Below w.heap.size w wr) (fun i _ => n - (intOf i).toNat)
  case atStart => exact ⟨0, by omega, rfl, HR.out, Below.refl _ _⟩
  case round =>
    obtain ⟨k, hk, rfl, ht, hbr⟩ := hrel
    have HT := Lib.hid ht
    clear ht
    have hrs := hbr.size
    by_cases hlt : k < n
    · obtain ⟨cb, co, rfl, hcc⟩ := h1.at_ (by omega)
      obtain ⟨y0, y1, y2, y3⟩ := hcc k hlt
      replace y0 := cell_keep y0 hbr
      replace y1 := cell_keep y1 hbr
      replace y2 := cell_keep y2 hbr
      replace y3 := cell_keep y3 hbr
      clear hcc
      have hd := eachE_drop bndE l four0 k (by omega)
      rw [HT.out] at hd
      obtain ⟨rr, hrr⟩ : ∃ rr, l[k]?.getD four0 = rr := ⟨_, rfl⟩
      obtain ⟨⟨st, dm⟩, ⟨lo, hi⟩⟩ := rr
      rw [hrr] at y0 y1 y2 y3 hd
      clear hrr
      dsimp only at y0 y1 y2 y3
      obtain ⟨E, hE⟩ : ∃ E, bndE ((st, dm), (lo, hi)) = E := ⟨_, rfl⟩
      rw [hE] at hd
      have HD := Lib.hid hd
      have HE := Lib.hid hE
      clear hd hE
      have hi1 : (k : Int) < (n : Int) := by omega
      have hi0 : (0 : Int) ≤ (k : Int) := by omega
      go_wp2_with fail
      refine (bndErr_any st dm lo hi pb _ (blk_keep (blk_keep h2 hbr) ((Below.refl _ _).alloc (Nat.le_refl _) _))).mono ?_
      rintro e w1 ⟨rfl, hs⟩
      rw [HE.out]
      have hbn := hbr.trans (((Below.refl wr.heap.size wr).alloc (Nat.le_refl _) (.cells #[.int .i64 st, .int .i64 dm, .int .i64 lo, .int .i64 hi] 51)).trans (hs.mono (by simp)) |>.mono hrs)
      by_cases hz : E = 0
      · subst hz
        have hE0 : ((0 : Int) != 0) = false := rfl
        go_wp2_with fail
        go_roundw
        case rel => exact ⟨k + 1, by omega, by go_num, by rw [HD.out]; simp, hbn⟩
        case measure => simp [intOf]; omega
      · have b1 : (E != 0) = true := by simpa using hz
        have hRE : R = E := by rw [HD.out, if_neg hz]
        clear hz
        go_wp2_with fail
        go_ret
        exact ⟨ret_int hRE.symm, hbn⟩
    · have hle : (n : Int) ≤ (k : Int) := by omega
      have hR0 : R = 0 := by rw [← HT.out, List.drop_eq_nil_of_le (by omega)]; rfl
      go_wp2_with fail
      go_ret
      exact ⟨ret_int hR0.symm, hbr⟩

set_option maxRecDepth 100000 in
set_option maxHeartbeats 1000000 in
theorem eachTim_any (a : Option Addr) (n c : Nat) (l : List Int) (w : World) (h1 : SI w a n c l) :
    Calls Try.prog 155 #[.slice a n c, .func (.func 156) #[] #[]] w fun e w' => e = .returned (.int .i64 (firstE (l.map timE))) ∧ Below w.heap.size w w' := by
  obtain ⟨l1, l2⟩ : n ≤ l.length ∧ l.length ≤ n := by have := h1.len; omega
  have m1 := h1.max
  have c1 := h1.cap
  obtain ⟨R, hR⟩ : ∃ R, firstE (l.map timE) = R := ⟨_, rfl⟩
  rw [hR]
  have HR := Lib.hid hR
  clear hR
  go_enter Try.func155, Try.ntmps155
  go_wp2_with fail
  go_loopw [10] (fun i wr => ∃ k : Nat, k ≤ n ∧ i = .int .i64 k ∧ firstE ((l.drop k).map timE) = R ∧ Below w.heap.size w wr) (fun i _ => n - (intOf i).toNat)
  case atStart => exact ⟨0, by omega, rfl, HR.out, Below.refl _ _⟩
  case round =>
    obtain ⟨k, hk, rfl, ht, hbr⟩ := hrel
    have HT := Lib.hid ht
    clear ht
    have hrs := hbr.size
    by_cases hlt : k < n
    · obtain ⟨cb, co, rfl, hcc⟩ := h1.at_ (by omega)
      have y0 := cell_keep (hcc k hlt) hbr
      clear hcc
      have hd := eachE_drop timE l 0 k (by omega)
      rw [HT.out] at hd
      obtain ⟨x, hxx⟩ : ∃ x, l[k]?.getD 0 = x := ⟨_, rfl⟩
      rw [hxx] at y0 hd
      clear hxx
      obtain ⟨E, hE⟩ : ∃ E, timE x = E := ⟨_, rfl⟩
      rw [hE] at hd
      have HD := Lib.hid hd
      have HE := Lib.hid hE
      clear hd hE
      have hi1 : (k : Int) < (n : Int) := by omega
      have hi0 : (0 : Int) ≤ (k : Int) := by omega
      go_wp2_with fail
      refine (timErr_any x _).mono ?_
      rintro e w1 ⟨rfl, hs⟩
      rw [HE.out]
      have hbn := hbr.trans (hs.mono hrs)
      by_cases hz : E = 0
      · subst hz
        have hE0 : ((0 : Int) != 0) = false := rfl
        go_wp2_with fail
        go_roundw
        case rel => exact ⟨k + 1, by omega, by go_num, by rw [HD.out]; simp, hbn⟩
        case measure => simp [intOf]; omega
      · have b1 : (E != 0) = true := by simpa using hz
        have hRE : R = E := by rw [HD.out, if_neg hz]
        clear hz
        go_wp2_with fail
        go_ret
        exact ⟨ret_int hRE.symm, hbn⟩
    · have hle : (n : Int) ≤ (k : Int) := by omega
      have hR0 : R = 0 := by rw [← HT.out, List.drop_eq_nil_of_le (by omega)]; rfl
      go_wp2_with fail
      go_ret
      exact ⟨ret_int hR0.symm, hbr⟩

set_option maxHeartbeats 400000 in
theorem noSampleW_any (x : Int) (w : World) : Calls Try.prog 170 #[.int .i64 x] w fun e w' => e = .returned (.bool (!smp x)) ∧ w = w' := by
  go_enter Try.func170, Try.ntmps170
  go_wp2_with fail
  refine (isSample_any x _).mono ?_
  rintro e w1 ⟨rfl, rfl⟩
  go_wp2_with fail
  go_ret
  exact ⟨rfl, rfl⟩

set_option maxRecDepth 100000 in
set_option maxHeartbeats 1000000 in
theorem indexBadW_any (a : Option Addr) (n c : Nat) (xs : List Int) (w : World) (h1 : SI w a n c xs) :
    Calls Try.prog 95 #[.slice a n c, .func (.func 170) #[] #[]] w fun e w' => e = .returned (.int .i64 (badI xs)) ∧ w = w' := by
  obtain ⟨l1, l2⟩ : n ≤ xs.length ∧ xs.length ≤ n := by have := h1.len; omega
  have m1 := h1.max
  have c1 := h1.cap
  obtain ⟨R, hR⟩ : ∃ R, badI xs = R := ⟨_, rfl⟩
  rw [hR]
  have HR := Lib.hid hR
  clear hR
  go_enter Try.func95, Try.ntmps95
  go_wp2_with fail
  go_loop [8] (fun i => ∃ k : Nat, k ≤ n ∧ i = .int .i64 k ∧ badS xs 0 = badS (xs.drop k) k) (fun i => n - (intOf i).toNat)
  case atStart => exact ⟨0, by omega, rfl, rfl⟩
  case round =>
    obtain ⟨k, hk, rfl, ht⟩ := hrel
    have HT := Lib.hid ht
    clear ht
    by_cases hlt : k < n
    · obtain ⟨b1, o1, rfl, hc1⟩ := h1.at_ (by omega)
      have e1 := hc1 k hlt
      clear hc1
      have hi : (k : Int) < (n : Int) := by omega
      have hi0 : (0 : Int) ≤ (k : Int) := by omega
      have hd := badS_drop xs k (by omega)
      obtain ⟨x, hxx⟩ : ∃ x, xs[k]?.getD 0 = x := ⟨_, rfl⟩
      rw [hxx] at e1 hd
      have HD := Lib.hid hd
      clear hxx hd
      go_wp2_with fail
      refine (noSampleW_any _ _).mono ?_
      rintro e w1 ⟨rfl, rfl⟩
      cases ho : smp x
      · go_wp2_with fail
        go_ret
        refine ⟨ret_int ?_, rfl⟩
        rw [← HR.out, badI, HT.out, HD.out, ho]
        rfl
      · go_wp2_with fail
        go_round
        case rel => exact ⟨k + 1, by omega, by go_num, by rw [HT.out, HD.out, ho]; rfl⟩
        case measure => simp [intOf]; omega
    · have hle : (n : Int) ≤ (k : Int) := by omega
      go_wp2_with fail
      go_ret
      refine ⟨ret_int ?_, rfl⟩
      rw [← HR.out, badI, HT.out, List.drop_eq_nil_of_le (by omega)]
      rfl

set_option maxHeartbeats 400000 in
theorem containsBadW_any (a : Option Addr) (n c : Nat) (xs : List Int) (w : World) (h1 : SI w a n c xs) :
    Calls Try.prog 122 #[.slice a n c, .func (.func 170) #[] #[]] w fun e w' => e = .returned (.bool (badS xs 0).isSome) ∧ w = w' := by
  have hI : decide (badI xs ≥ 0) = (badS xs 0).isSome := by
    unfold badI
    cases badS xs 0 with
    | none => rfl
    | some i => simp
  have HI := Lib.hid hI
  clear hI
  go_enter Try.func122, Try.ntmps122
  go_wp2_with fail
  refine (indexBadW_any a n c xs _ h1).mono ?_
  rintro e w1 ⟨rfl, rfl⟩
  go_wp2_with fail
  go_ret
  exact ⟨ret_bool HI.out, rfl⟩

set_option maxRecDepth 100000 in
set_option maxHeartbeats 1000000 in
theorem wavErr_any (a : Option Addr) (n c : Nat) (xs : List Int) (step : Int) (ra : Option Addr) (rn rc pb : Nat) (w : World) (h1 : SI w a n c xs) (hn : rn ≤ 24) (hn2 : 0 < rn) (h2 : w.heap[pb]? = some (.cells #[.int .i64 step, .slice ra rn rc] 24)) :
    Calls Try.prog 169 #[.slice a n c, .pointer (some ⟨pb, 0, none⟩)] w fun e w' => e = .returned (.int .i64 (wavE rn xs)) ∧ Below w.heap.size w w' := by
  obtain ⟨l1, l2⟩ : n ≤ xs.length ∧ xs.length ≤ n := by have := h1.len; omega
  obtain ⟨E, hE⟩ : ∃ E, wavE rn xs = E := ⟨_, rfl⟩
  rw [hE]
  have HE := Lib.hid hE
  clear hE
  have f0 := cell_block h2 0
  have f1 := cell_block h2 1
  by_cases hl : n = rn
  case neg =>
    have b1 : ((n : Int) != (rn : Int)) = true := by simp; omega
    have hE1 : E = 10 := by rw [← HE.out, wavE, if_neg (by omega)]
    clear hl
    go_enter Try.func169, Try.ntmps169
    go_wp2_with fail
    go_ret
    exact ⟨ret_int hE1.symm, Below.refl _ _⟩
  subst hl
  have b1 : ((n : Int) != (n : Int)) = false := by simp
  cases hbs : badS xs 0 with
  | some i =>
    have hE1 : E = 2 := by rw [← HE.out, wavE, if_pos (by omega), hbs]; rfl
    have HB : Hid ((badS xs 0).isSome = true) := Lib.hid (by rw [hbs]; rfl)
    clear hbs
    go_enter Try.func169, Try.ntmps169
    go_wp2_with fail
    refine (containsBadW_any a n c xs _ h1).mono ?_
    rintro e w1 ⟨rfl, rfl⟩
    rw [HB.out]
    go_wp2_with fail
    go_ret
    exact ⟨ret_int hE1.symm, Below.refl _ _⟩
  | none =>
    have hq := badS_none hbs
    have HQ := Lib.hid hq
    obtain ⟨V, hV⟩ : ∃ V, sumT xs n = V := ⟨_, rfl⟩
    obtain ⟨D, hD⟩ : ∃ D, sumT (sumsF xs) n = D := ⟨_, rfl⟩
    have hE1 : E = unlessE (decide (V = 0 ∧ D = 0)) 21 := by rw [← HE.out, wavE, if_pos (by omega), if_pos hbs, hV, hD]
    have HE1 := Lib.hid hE1
    have HV := Lib.hid hV
    have HD := Lib.hid hD
    have HB : Hid ((badS xs 0).isSome = false) := Lib.hid (by rw [hbs]; rfl)
    clear hbs hq hE1 hV hD HE
    go_enter Try.func169, Try.ntmps169
    go_wp2_with fail
    refine (containsBadW_any a n c xs _ h1).mono ?_
    rintro e w1 ⟨rfl, rfl⟩
    rw [HB.out]
    go_wp2_with fail
    refine (end_any a n c xs _ h1 (by omega) (by omega) HQ.out V D HV.out HD.out).mono ?_
    rintro e w1 ⟨rfl, hs⟩
    go_wp2_with fail
    all_goals
      refine (nUnless_any _ _ _).mono ?_
      rintro e w2 ⟨rfl, rfl⟩
      go_wp2_with fail
      go_ret
      refine ⟨ret_int ?_, hs⟩
      rw [HE1.out]
      congr 1
      simp
      try omega

set_option maxRecDepth 100000 in
set_option maxHeartbeats 1000000 in
theorem eachWav_any (a : Option Addr) (n c : Nat) (l : List (List Int)) (w : World) (h1 : SW w a n c l) (step : Int) (ra : Option Addr) (rn rc pb : Nat) (hn : rn ≤ 24) (hn2 : 0 < rn) (h2 : w.heap[pb]? = some (.cells #[.int .i64 step, .slice ra rn rc] 24)) :
    Calls Try.prog 168 #[.slice a n c, .func (.func 169) #[] #[.pointer (some ⟨pb, 0, none⟩)]] w fun e w' => e = .returned (.int .i64 (firstE (l.map (wavE rn)))) ∧ Below w.heap.size w w' := by
  obtain ⟨l1, l2⟩ : n ≤ l.length ∧ l.length ≤ n := by have := h1.len; omega
  have m1 := h1.max
  have c1 := h1.cap
  obtain ⟨R, hR⟩ : ∃ R, firstE (l.map (wavE rn)) = R := ⟨_, rfl⟩
  rw [hR]
  have HR := Lib.hid hR
  clear hR
  go_enter Try.func168, Try.ntmps168
  go_wp2_with fail
  go_loopw [10] (fun i wr => ∃ k : Nat, k ≤ n ∧ i = .int .i64 k ∧ firstE ((l.drop k).map (wavE rn)) = R ∧ Below w.heap.size w wr) (fun i _ => n - (intOf i).toNat)
  case atStart => exact ⟨0, by omega, rfl, HR.out, Below.refl _ _⟩
  case round =>
    obtain ⟨k, hk, rfl, ht, hbr⟩ := hrel
    have HT := Lib.hid ht
    clear ht
    have hrs := hbr.size
    by_cases hlt : k < n
    · obtain ⟨cb, co, rfl, hcc⟩ := h1.at_ (by omega)
      obtain ⟨ya, yn, yc, y0, y1⟩ := hcc k hlt
      replace y0 := cell_keep y0 hbr
      replace y1 := y1.keep hbr
      clear hcc
      have hd := eachE_drop (wavE rn) l [] k (by omega)
      rw [HT.out] at hd
      obtain ⟨x, hxx⟩ : ∃ x, l[k]?.getD [] = x := ⟨_, rfl⟩
      rw [hxx] at y1 hd
      clear hxx
      obtain ⟨E, hE⟩ : ∃ E, (wavE rn) x = E := ⟨_, rfl⟩
      rw [hE] at hd
      have HD := Lib.hid hd
      have HE := Lib.hid hE
      clear hd hE
      have hi1 : (k : Int) < (n : Int) := by omega
      have hi0 : (0 : Int) ≤ (k : Int) := by omega
      go_wp2_with fail
      refine (wavErr_any ya yn yc x step ra rn rc pb _ y1 hn hn2 (blk_keep h2 hbr)).mono ?_
      rintro e w1 ⟨rfl, hs⟩
      rw [HE.out]
      have hbn := hbr.trans (hs.mono hrs)
      by_cases hz : E = 0
      · subst hz
        have hE0 : ((0 : Int) != 0) = false := rfl
        go_wp2_with fail
        go_roundw
        case rel => exact ⟨k + 1, by omega, by go_num, by rw [HD.out]; simp, hbn⟩
        case measure => simp [intOf]; omega
      · have b1 : (E != 0) = true := by simpa using hz
        have hRE : R = E := by rw [HD.out, if_neg hz]
        clear hz
        go_wp2_with fail
        go_ret
        exact ⟨ret_int hRE.symm, hbn⟩
    · have hle : (n : Int) ≤ (k : Int) := by omega
      have hR0 : R = 0 := by rw [← HT.out, List.drop_eq_nil_of_le (by omega)]; rfl
      go_wp2_with fail
      go_ret
      exact ⟨ret_int hR0.symm, hbr⟩

set_option maxRecDepth 100000 in
set_option maxHeartbeats 1000000 in
theorem timesErr_any (wa : Option Addr) (wn wc : Nat) (a : Option Addr) (n c : Nat) (xs : List Int) (w : World) (h1 : SI w a n c xs) (_hw1 : wn ≤ wc) (_hw2 : wc ≤ 9223372036854775807) (E : Int) (hE : timesE wn xs = E) :
    Calls Try.prog 116 #[.slice wa wn wc, .slice a n c] w fun e w' => e = .returned (.int .i64 E) ∧ Below w.heap.size w w' := by
  obtain ⟨l1, l2⟩ : n ≤ xs.length ∧ xs.length ≤ n := by have := h1.len; omega
  have m1 := h1.max
  have c1 := h1.cap
  have e1 : decide (xs.length = wn) = ((n : Int) == (wn : Int)) := by
    rw [Bool.eq_iff_iff]
    simp
    omega
  unfold timesE at hE
  rw [e1] at hE
  have HE := Lib.hid hE
  clear hE e1
  go_enter Try.func116, Try.ntmps116
  go_wp2_with fail
  refine (nUnless_any _ _ _).mono ?_
  rintro e w1 ⟨rfl, rfl⟩
  go_wp2_with fail
  refine (eachTim_any a n c xs _ h1).mono ?_
  rintro e w1 ⟨rfl, hs⟩
  go_wp2_with fail
  refine (nFirst_any _ 2 2 _ _ (SI.two _ _ _ _ rfl)).mono ?_
  rintro e w2 ⟨rfl, rfl⟩
  go_wp2_with fail
  go_ret
  exact ⟨ret_int HE.out, hs.alloc hs.size _⟩

set_option maxRecDepth 100000 in
set_option maxHeartbeats 1000000 in
theorem bandErr_any (a : Option Addr) (n c : Nat) (l : List Four) (w : World) (h1 : SB w a n c l) (E : Int) (hE : bandE l = E) :
    Calls Try.prog 84 #[.slice a n c] w fun e w' => e = .returned (.int .i64 E) ∧ Below w.heap.size w w' := by
  obtain ⟨l1, l2⟩ : n ≤ l.length ∧ l.length ≤ n := by have := h1.len; omega
  have m1 := h1.max
  have c1 := h1.cap
  have e1 : decide (0 < l.length) = decide (0 < n) := by congr 1; rw [eq_iff_iff]; omega
  have e2 : decide (l.length ≤ 6) = decide ((n : Int) ≤ 6) := by congr 1; rw [eq_iff_iff]; omega
  unfold bandE at hE
  rw [e1, e2] at hE
  have HE := Lib.hid hE
  clear hE e1 e2
  have BW : Below w.heap.size w (w.alloc (.cells #[.func (.func 140) #[] #[]] 124)) := (Below.refl _ _).alloc (Nat.le_refl _) _
  have x1 := alloc_new w (.cells #[.func (.func 140) #[] #[]] 124)
  go_enter Try.func84, Try.ntmps84
  go_wp2_with fail
  refine (nUnless_any _ _ _).mono ?_
  rintro e w1 ⟨rfl, rfl⟩
  go_wp2_with fail
  refine (nUnless_any _ _ _).mono ?_
  rintro e w1 ⟨rfl, rfl⟩
  go_wp2_with fail
  refine (eachBnd_any a n c l _ (h1.keep BW) w.heap.size x1).mono ?_
  rintro e w1 ⟨rfl, hs⟩
  go_wp2_with fail
  refine (nFirst_any _ 3 3 _ _ (SI.three _ _ _ _ _ rfl)).mono ?_
  rintro e w2 ⟨rfl, rfl⟩
  go_wp2_with fail
  go_ret
  have B2 := BW.trans (hs.mono BW.size)
  exact ⟨ret_int HE.out, B2.alloc B2.size _⟩

set_option maxRecDepth 100000 in
set_option maxHeartbeats 1000000 in
theorem wavesErr_any (step : Int) (ra : Option Addr) (rn rc : Nat) (a : Option Addr) (n c : Nat) (l : List (List Int)) (w : World) (h1 : SW w a n c l) (hn : rn ≤ 24) (hn2 : 0 < rn) (E : Int) (hE : wavesE rn l = E) :
    Calls Try.prog 139 #[.agg #[.int .i64 step, .slice ra rn rc], .slice a n c] w fun e w' => e = .returned (.int .i64 E) ∧ Below w.heap.size w w' := by
  obtain ⟨l1, l2⟩ : n ≤ l.length ∧ l.length ≤ n := by have := h1.len; omega
  have m1 := h1.max
  have c1 := h1.cap
  have e2 : decide (l.length ≤ 3) = decide ((n : Int) ≤ 3) := by congr 1; rw [eq_iff_iff]; omega
  unfold wavesE at hE
  rw [e2] at hE
  have HE := Lib.hid hE
  clear hE e2
  have BW : Below w.heap.size w (w.alloc (.cells #[.int .i64 step, .slice ra rn rc] 24)) := (Below.refl _ _).alloc (Nat.le_refl _) _
  have x1 := alloc_new w (.cells #[.int .i64 step, .slice ra rn rc] 24)
  go_enter Try.func139, Try.ntmps139
  go_wp2_with fail
  refine (nUnless_any _ _ _).mono ?_
  rintro e w1 ⟨rfl, rfl⟩
  go_wp2_with fail
  refine (eachWav_any a n c l _ (h1.keep BW) step ra rn rc w.heap.size hn hn2 x1).mono ?_
  rintro e w1 ⟨rfl, hs⟩
  go_wp2_with fail
  refine (nFirst_any _ 2 2 _ _ (SI.two _ _ _ _ rfl)).mono ?_
  rintro e w2 ⟨rfl, rfl⟩
  go_wp2_with fail
  go_ret
  have B2 := BW.trans (hs.mono BW.size)
  exact ⟨ret_int HE.out, B2.alloc B2.size _⟩

/-- The error of a record, then that of waves. -/
def openE (step : Int) (xs : List Int) (ws : List (List Int)) : Int := if (recF step xs).2 = 0 then wavesE xs.length ws else (recF step xs).2
set_option maxRecDepth 100000 in
set_option maxHeartbeats 1000000 in
theorem openWaves_any (step : Int) (ra : Option Addr) (rn rc : Nat) (xs : List Int) (a : Option Addr) (n c : Nat) (l : List (List Int)) (w : World) (h0 : SI w ra rn rc xs) (h1 : SW w a n c l) (E : Int) (hE : openE step xs l = E) :
    Calls Try.prog 83 #[.agg #[.int .i64 step, .slice ra rn rc], .slice a n c] w fun e w' => e = .returned (.int .i64 E) ∧ Below w.heap.size w w' := by
  obtain ⟨l1, l2⟩ : rn ≤ xs.length ∧ xs.length ≤ rn := by have := h0.len; omega
  have m1 := h1.max
  have c1 := h1.cap
  obtain ⟨F, hF⟩ : ∃ F, (recF step xs).2 = F := ⟨_, rfl⟩
  unfold openE at hE
  rw [hF] at hE
  have HE := Lib.hid hE
  have HF := Lib.hid hF
  clear hE hF
  have BW : Below w.heap.size w (w.alloc (.cells #[.int .i64 step, .slice ra rn rc] 24)) := (Below.refl _ _).alloc (Nat.le_refl _) _
  go_enter Try.func83, Try.ntmps83
  go_wp2_with fail
  refine (recordErr_any step ra rn rc xs _ (h0.keep BW) F HF.out).mono ?_
  rintro e w1 ⟨rfl, hs⟩
  have x1 := box1 (w := w) (o := .cells #[.int .i64 step, .slice ra rn rc] 24) hs
  replace BW := BW.trans (hs.mono BW.size)
  have f0 := cell_block x1 0
  have f1 := cell_block x1 1
  clear hs
  by_cases hz : F = 0
  case neg =>
    have b1 : (F != 0) = true := by simpa using hz
    have hE1 : E = F := by rw [← HE.out, if_neg hz]
    clear hz
    go_wp2_with fail
    go_ret
    exact ⟨ret_int hE1.symm, BW⟩
  subst hz
  obtain ⟨q1, q2, q3, q4, q5⟩ := recF_ok HF.out
  have hq : rn ≤ 24 ∧ 0 < rn := by omega
  obtain ⟨hq1, hq2⟩ := hq
  clear q1 q2 q3 q4 q5
  go_wp2_with fail
  refine (wavesErr_any step ra rn rc a n c l _ (h1.keep BW) hq1 hq2 E (by rw [← HE.out]; simp; congr 1; omega)).mono ?_
  rintro e w2 ⟨rfl, hs⟩
  go_wp2_with fail
  go_ret
  exact ⟨rfl, BW.trans (hs.mono BW.size)⟩
end Go.Proofs.Ytiibdndchkbefaa

namespace Go.Proofs.Ytiibdndchkbefaa

/-- The sums of the first numbers, and of their squares. -/
def momT : Nat → Int
  | 0 => 0
  | k + 1 => momT k + ((k : Int) + 1)
def sqrT : Nat → Int
  | 0 => 0
  | k + 1 => sqrT k + ((k : Int) + 1) * ((k : Int) + 1)
theorem mom_bd (k : Nat) (h : k ≤ 24) : 0 ≤ momT k ∧ momT k ≤ 300 ∧ 0 ≤ sqrT k ∧ sqrT k ≤ 4900 := by
  have key : ∀ k : Fin 25, 0 ≤ momT k ∧ momT k ≤ 300 ∧ 0 ≤ sqrT k ∧ sqrT k ≤ 4900 := by decide
  exact key ⟨k, by omega⟩
def denR (n : Nat) : Int := (n : Int) * sqrT n - momT n * momT n
theorem denR_bd (n : Nat) (h1 : 2 ≤ n) (h2 : n ≤ 24) : 1 ≤ denR n ∧ denR n ≤ 27600 := by
  have key : ∀ k : Fin 25, 2 ≤ (k : Nat) → 1 ≤ denR k ∧ denR k ≤ 27600 := by decide
  exact key ⟨n, by omega⟩ h1
/-- The two prices times a number, and this number. -/
def prV (xs : List Int) : Int := sumT (sumsF xs) xs.length * momT xs.length - sumT xs xs.length * sqrT xs.length
def prD (xs : List Int) : Int := sumT xs xs.length * momT xs.length - sumT (sumsF xs) xs.length * (xs.length : Int)
def prG (xs : List Int) : Int := (gcds [denR xs.length, prV xs, prD xs] : Nat)
/-- They solve the equations: the changes end with the opposite velocity and displacement. -/
theorem pr_solve (xs : List Int) : prV xs * (xs.length : Int) + prD xs * momT xs.length = -(sumT xs xs.length * denR xs.length) ∧ prV xs * momT xs.length + prD xs * sqrT xs.length = -(sumT (sumsF xs) xs.length * denR xs.length) := by
  unfold prV prD denR
  constructor <;> grind
/-- Prices in lowest terms. -/
def prDen (xs : List Int) : Int := (denR xs.length).tdiv (prG xs)
def prVel (xs : List Int) : Int := (prV xs).tdiv (prG xs)
def prDis (xs : List Int) : Int := (prD xs).tdiv (prG xs)
/-- The parts before they are put in lowest terms. -/
def rsT (xs : List Int) (t : Nat) : Int := xs[t]?.getD 0 * prDen xs + (prVel xs + prDis xs * ((xs.length : Int) - (t : Int)))
def rsTo (xs : List Int) (k : Nat) : List Int := (List.range k).map (rsT xs)
theorem rsTo_succ (xs : List Int) (k : Nat) : rsTo xs (k + 1) = rsTo xs k ++ [rsT xs k] := by
  unfold rsTo
  rw [List.range_succ, List.map_append]
  rfl
def rdG (den : Int) (ps : List Int) : Int := (gcds (den :: ps) : Nat)
/-- The rest: its denominator and its parts. -/
def restD (xs : List Int) : Int := (prDen xs).tdiv (rdG (prDen xs) (rsTo xs xs.length))
def restP (xs : List Int) : List Int := (rsTo xs xs.length).map (fun p => p.tdiv (rdG (prDen xs) (rsTo xs xs.length)))

theorem ex_restD : restD [1, 0, -1, 2] = 5 := by decide
theorem ex_restP : restP [1, 0, -1, 2] = [4, -2, -8, 6] := by decide
theorem ex_sums : sumsF (sumsF [1, 0, -1, 2]) = [1, 2, 2, 4] := by decide
theorem ex_resp : rspTo [1, 0, -1, 2] 500 0 4 = [-1, -2, -1, -2] := by decide
end Go.Proofs.Ytiibdndchkbefaa
