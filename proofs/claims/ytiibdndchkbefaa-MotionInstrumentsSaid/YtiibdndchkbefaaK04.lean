/- Plain law of chapter 2: all lists of times, and the match. Plain law of chapter 2: the errors of oscillators, bands, waves and times; where samples are outside of a band. Plain law of chapter 2: what an instrument records, and of what it records something; each undoes the other. Contracts of the small functions of chapter 2's package. Contracts of chapter 2: which records are valid. A region walked by a plan: an operation whose guard is itself an operation that was not carried out. Contracts of chapter 2: the error of a record, and sums. Words that the packages share: rows of the call's own under stores below them, what a call laid before it called another one, cells that are stored into. Contracts of chapter 2: the reference's error of a record. -/
import Derived.Test.YtiibdndchkbefaaK03
namespace Go.Proofs.Ytiibdndchkbefaa

/-- All lists of so many times, in lexicographic order. -/
def five : List Int := [-2, -1, 0, 1, 2]
def allC : Nat → List (List Int)
  | 0 => [[]]
  | k + 1 => five.flatMap (fun n => (allC k).map (fun c => n :: c))
/-- Those that begin so. -/
def genC (pre : List Int) (k : Nat) : List (List Int) := (allC k).map (fun c => pre ++ c)
theorem genC_zero (pre : List Int) : genC pre 0 = [pre] := by simp [genC, allC]
theorem genC_succ (pre : List Int) (k : Nat) : genC pre (k + 1) = five.flatMap (fun n => genC (pre ++ [n]) k) := by
  unfold genC
  rw [allC, List.map_flatMap]
  congr 1
  funext n
  rw [List.map_map]
  congr 1
  funext c
  simp
theorem genC_nil (k : Nat) : genC [] k = allC k := by simp [genC]
theorem allC_len {k : Nat} {c : List Int} (h : c ∈ allC k) : c.length = k ∧ ∀ j : Nat, -2 ≤ c[j]?.getD 0 ∧ c[j]?.getD 0 ≤ 2 := by
  induction k generalizing c with
  | zero =>
    simp [allC] at h
    subst h
    simp
  | succ k ih =>
    rw [allC, List.mem_flatMap] at h
    obtain ⟨n, hn, h⟩ := h
    obtain ⟨d, hd, rfl⟩ := List.mem_map.1 h
    obtain ⟨h1, h2⟩ := ih hd
    refine ⟨by simp [h1], fun j => ?_⟩
    cases j with
    | zero =>
      simp [five] at hn
      simp
      omega
    | succ j => simpa using h2 j
theorem mem_allC {c : List Int} (h : ∀ x ∈ c, -2 ≤ x ∧ x ≤ 2) : c ∈ allC c.length := by
  induction c with
  | nil => simp [allC]
  | cons x c ih =>
    rw [List.length_cons, allC, List.mem_flatMap]
    refine ⟨x, ?_, List.mem_map.2 ⟨c, ih (fun y hy => h y (List.mem_cons_of_mem _ hy)), rfl⟩⟩
    have := h x List.mem_cons_self
    simp [five]
    omega
/-- The sum of the sizes of the first times. -/
def szT (ts : List Int) : Nat → Int
  | 0 => 0
  | k + 1 => szT ts k + sizeOf' (ts[k]?.getD 0)
def szs (ts : List Int) : Int := szT ts ts.length
theorem szT_bd {ts : List Int} (h : ∀ j : Nat, -2 ≤ ts[j]?.getD 0 ∧ ts[j]?.getD 0 ≤ 2) (k : Nat) : 0 ≤ szT ts k ∧ szT ts k ≤ 2 * (k : Int) := by
  induction k with
  | zero => simp [szT]
  | succ k ih =>
    have := h k
    rw [szT, sizeOf_abs]
    omega
/-- What is best of those that came so far; false: none. -/
def mtStep (good : List Int → Bool) (s : List Int × Bool) (t : List Int) : List Int × Bool := if good t = true ∧ (s.2 = true → szs t < szs s.1) then (t, true) else s
def mtF (good : List Int → Bool) (k : Nat) : List Int × Bool := (allC k).foldl (mtStep good) ([], false)
theorem mtStep_none {good : List Int → Bool} {s : List Int × Bool} {t : List Int} (h : (mtStep good s t).2 = false) : s.2 = false ∧ good t = false := by
  unfold mtStep at h
  split at h
  · cases h
  · rename_i hn
    refine ⟨h, ?_⟩
    cases hg : good t with
    | false => rfl
    | true => exact absurd ⟨hg, fun hs => by rw [h] at hs; cases hs⟩ hn
/-- The law of the best: it is good, and no good one has a smaller sum of sizes. -/
theorem mt_inv (good : List Int → Bool) (l : List (List Int)) (s : List Int × Bool) :
    ((l.foldl (mtStep good) s).2 = false → s.2 = false ∧ ∀ t ∈ l, good t = false) ∧
      ((l.foldl (mtStep good) s).2 = true → ((s.2 = true ∧ (l.foldl (mtStep good) s) = s) ∨ ((l.foldl (mtStep good) s).1 ∈ l ∧ good (l.foldl (mtStep good) s).1 = true)) ∧
        (s.2 = true → szs (l.foldl (mtStep good) s).1 ≤ szs s.1) ∧ ∀ t ∈ l, good t = true → szs (l.foldl (mtStep good) s).1 ≤ szs t) := by
  induction l generalizing s with
  | nil => exact ⟨fun h => ⟨h, by simp⟩, fun h => ⟨.inl ⟨h, rfl⟩, fun _ => Int.le_refl _, by simp⟩⟩
  | cons t l ih =>
    obtain ⟨h1, h2⟩ := ih (mtStep good s t)
    rw [List.foldl_cons]
    refine ⟨fun h => ?_, fun h => ?_⟩
    · obtain ⟨a1, a2⟩ := h1 h
      obtain ⟨b1, b2⟩ := mtStep_none a1
      refine ⟨b1, fun u hu => ?_⟩
      rcases List.mem_cons.1 hu with rfl | hu
      · exact b2
      · exact a2 u hu
    · obtain ⟨a1, a2, a3⟩ := h2 h
      generalize l.foldl (mtStep good) (mtStep good s t) = r at *
      by_cases hc : good t = true ∧ (s.2 = true → szs t < szs s.1)
      · have e : mtStep good s t = (t, true) := by unfold mtStep; rw [if_pos hc]
        rw [e] at a1 a2
        have b2 := a2 rfl
        refine ⟨.inr ?_, fun hs => ?_, fun u hu hg => ?_⟩
        · rcases a1 with ⟨_, rfl⟩ | ⟨c1, c2⟩
          · exact ⟨List.mem_cons_self, hc.1⟩
          · exact ⟨List.mem_cons_of_mem _ c1, c2⟩
        · have := hc.2 hs
          dsimp only at b2
          omega
        · rcases List.mem_cons.1 hu with rfl | hu
          · exact b2
          · exact a3 u hu hg
      · have e : mtStep good s t = s := by unfold mtStep; rw [if_neg hc]
        rw [e] at a1 a2
        refine ⟨?_, a2, fun u hu hg => ?_⟩
        · rcases a1 with c1 | ⟨c1, c2⟩
          · exact .inl c1
          · exact .inr ⟨List.mem_cons_of_mem _ c1, c2⟩
        · rcases List.mem_cons.1 hu with rfl | hu
          · by_cases hs : s.2 = true
            · have h3 : ¬ szs u < szs s.1 := fun h4 => hc ⟨hg, fun _ => h4⟩
              have := a2 hs
              omega
            · exact absurd ⟨hg, fun h4 => absurd h4 hs⟩ hc
          · exact a3 u hu hg
/-- Samples with the first waves added. -/
def adS (ws : List (List Int)) (ts : List Int) (t : Nat) : Nat → Int
  | 0 => 0
  | i + 1 => adS ws ts t i + ts[i]?.getD 0 * (ws[i]?.getD [])[t]?.getD 0
def adTo (xs : List Int) (ws : List (List Int)) (ts : List Int) (i : Nat) : List Int := (List.range xs.length).map (fun t => xs[t]?.getD 0 + adS ws ts t i)
theorem adTo_len (xs : List Int) (ws : List (List Int)) (ts : List Int) (i : Nat) : (adTo xs ws ts i).length = xs.length := by simp [adTo]
theorem adTo_get (xs : List Int) (ws : List (List Int)) (ts : List Int) (i t : Nat) (h : t < xs.length) : (adTo xs ws ts i)[t]?.getD 0 = xs[t]?.getD 0 + adS ws ts t i := by
  unfold adTo
  rw [List.getElem?_map, List.getElem?_range h]
  rfl
theorem adTo_zero (xs : List Int) (ws : List (List Int)) (ts : List Int) : adTo xs ws ts 0 = xs := by
  refine List.ext_getElem (adTo_len _ _ _ _) fun t h1 h2 => ?_
  have := adTo_get xs ws ts 0 t h2
  rw [List.getElem?_eq_getElem h1, List.getElem?_eq_getElem h2] at this
  simpa [adS] using this
/-- The first positions of one wave more. -/
def adMid (xs : List Int) (ws : List (List Int)) (ts : List Int) (i p : Nat) : List Int := (adTo xs ws ts (i + 1)).take p ++ (adTo xs ws ts i).drop p
theorem adMid_zero (xs : List Int) (ws : List (List Int)) (ts : List Int) (i : Nat) : adMid xs ws ts i 0 = adTo xs ws ts i := by simp [adMid]
theorem adMid_all (xs : List Int) (ws : List (List Int)) (ts : List Int) (i p : Nat) (h : xs.length ≤ p) : adMid xs ws ts i p = adTo xs ws ts (i + 1) := by
  unfold adMid
  rw [List.take_of_length_le (by rw [adTo_len]; exact h), List.drop_eq_nil_of_le (by rw [adTo_len]; exact h), List.append_nil]
theorem adMid_len (xs : List Int) (ws : List (List Int)) (ts : List Int) (i p : Nat) : (adMid xs ws ts i p).length = xs.length := by
  simp [adMid, adTo_len]
  omega
theorem adMid_get (xs : List Int) (ws : List (List Int)) (ts : List Int) (i p : Nat) (h : p < xs.length) : (adMid xs ws ts i p)[p]?.getD 0 = xs[p]?.getD 0 + adS ws ts p i := by
  unfold adMid
  rw [List.getElem?_append_right (by simp [adTo_len]; omega), List.length_take, adTo_len, Nat.min_eq_left (by omega), Nat.sub_self, List.getElem?_drop, Nat.add_zero, adTo_get _ _ _ _ _ h]
theorem adMid_set (xs : List Int) (ws : List (List Int)) (ts : List Int) (i p : Nat) (h : p < xs.length) :
    (adMid xs ws ts i p).set p (xs[p]?.getD 0 + adS ws ts p i + ts[i]?.getD 0 * (ws[i]?.getD [])[p]?.getD 0) = adMid xs ws ts i (p + 1) := by
  have hl1 : (adTo xs ws ts (i + 1)).length = xs.length := adTo_len _ _ _ _
  have hl2 : (adTo xs ws ts i).length = xs.length := adTo_len _ _ _ _
  unfold adMid
  rw [List.drop_eq_getElem_cons (by omega), List.set_append_right _ _ (by simp; omega), List.length_take, hl1, Nat.min_eq_left (by omega), Nat.sub_self, List.set_cons_zero, List.take_succ_eq_append_getElem (by omega), List.append_assoc]
  congr 1
  have e := adTo_get xs ws ts (i + 1) p h
  rw [List.getElem?_eq_getElem (by omega)] at e
  simp only [Option.getD_some] at e
  rw [e, adS, Int.add_assoc]
  rfl
/-- Whether all numbers are samples. -/
theorem gsT_le (xs : List Int) (M : Int) (hM : 0 ≤ M) (k : Nat) : gsT xs k ≤ M ↔ ∀ j, j < k → -M ≤ xs[j]?.getD 0 ∧ xs[j]?.getD 0 ≤ M := by
  induction k with
  | zero => simp [gsT]; exact hM
  | succ k ih =>
    rw [gsT, sizeOf_abs]
    constructor
    · intro h j hj
      rcases Nat.lt_or_ge j k with h1 | h1
      · exact ih.1 (by omega) j h1
      · obtain rfl : j = k := by omega
        omega
    · intro h
      have h1 := ih.2 (fun j hj => h j (by omega))
      have h2 := h k (by omega)
      omega
end Go.Proofs.Ytiibdndchkbefaa

namespace Go.Proofs.Ytiibdndchkbefaa

theorem eachE_drop {α : Type} (f : α → Int) (l : List α) (d : α) (k : Nat) (h : k < l.length) : firstE ((l.drop k).map f) = if f (l[k]?.getD d) = 0 then firstE ((l.drop (k + 1)).map f) else f (l[k]?.getD d) := by
  rw [List.drop_eq_getElem_cons h, List.map_cons, firstE, List.getElem?_eq_getElem h]
  rfl
theorem firstE_all {l : List Int} (h : firstE l = 0) : ∀ x ∈ l, x = 0 := by
  induction l with
  | nil => simp
  | cons y l ih =>
    rw [firstE] at h
    split at h
    · rename_i hy
      intro x hx
      rcases List.mem_cons.1 hx with rfl | hx
      · exact hy
      · exact ih h x hx
    · exact absurd h (by assumption)
theorem unlessE_zero {b : Bool} {x : Int} (h : unlessE b x = 0) (hx : x ≠ 0) : b = true := by
  cases b
  · exact absurd h hx
  · rfl

/-- The error of an oscillator, of a row of a band, of a band. -/
def oscE (o : Int × Int) : Int := unlessE (wIn o.1 0 3000 && wIn o.2 0 500) 2
theorem oscE_ok {o : Int × Int} (h : oscE o = 0) : (0 ≤ o.1 ∧ o.1 ≤ 3000) ∧ (0 ≤ o.2 ∧ o.2 ≤ 500) := by
  have := unlessE_zero h (by decide)
  rw [Bool.and_eq_true, wIn_iff, wIn_iff] at this
  exact this
def bndE (b : Four) : Int := firstE [oscE b.1, unlessE (wIn b.2.1 0 1000000 && wIn b.2.2 0 1000000) 2, unlessE (decide (b.2.1 ≤ b.2.2)) 9]
theorem bndE_ok {b : Four} (h : bndE b = 0) : oscE b.1 = 0 ∧ (0 ≤ b.2.1 ∧ b.2.1 ≤ 1000000) ∧ (0 ≤ b.2.2 ∧ b.2.2 ≤ 1000000) ∧ b.2.1 ≤ b.2.2 := by
  have h1 := firstE_all h _ (List.mem_cons_self)
  have h2 := unlessE_zero (firstE_all h _ (List.mem_cons_of_mem _ (List.mem_cons_self))) (by decide)
  have h3 := unlessE_zero (firstE_all h _ (List.mem_cons_of_mem _ (List.mem_cons_of_mem _ (List.mem_cons_self)))) (by decide)
  rw [Bool.and_eq_true, wIn_iff, wIn_iff] at h2
  exact ⟨h1, h2.1, h2.2, of_decide_eq_true h3⟩
def bandE (l : List Four) : Int := firstE [unlessE (decide (0 < l.length)) 10, unlessE (decide (l.length ≤ 6)) 8, firstE (l.map bndE)]
theorem bandE_ok {l : List Four} (h : bandE l = 0) : 0 < l.length ∧ l.length ≤ 6 ∧ ∀ k, k < l.length → bndE (l[k]?.getD four0) = 0 := by
  have h1 := unlessE_zero (firstE_all h _ (List.mem_cons_self)) (by decide)
  have h2 := unlessE_zero (firstE_all h _ (List.mem_cons_of_mem _ (List.mem_cons_self))) (by decide)
  have h3 := firstE_all h _ (List.mem_cons_of_mem _ (List.mem_cons_of_mem _ (List.mem_cons_self)))
  refine ⟨of_decide_eq_true h1, of_decide_eq_true h2, fun k hk => ?_⟩
  refine firstE_all h3 _ ?_
  rw [List.getElem?_eq_getElem hk]
  exact List.mem_map_of_mem (List.getElem_mem hk)
/-- The error of a wave for so many samples, of waves, of times. -/
def wavE (n : Nat) (x : List Int) : Int := if x.length = n then (if badS x 0 = none then unlessE (decide (sumT x n = 0 ∧ sumT (sumsF x) n = 0)) 21 else 2) else 10
theorem wavE_ok {n : Nat} {x : List Int} (h : wavE n x = 0) : x.length = n ∧ badS x 0 = none ∧ sumT x n = 0 ∧ sumT (sumsF x) n = 0 := by
  unfold wavE at h
  split at h
  · split at h
    · have := of_decide_eq_true (unlessE_zero h (by decide))
      exact ⟨by assumption, by assumption, this.1, this.2⟩
    · cases h
  · cases h
def wavesE (n : Nat) (ws : List (List Int)) : Int := firstE [unlessE (decide (ws.length ≤ 3)) 8, firstE (ws.map (wavE n))]
theorem wavesE_ok {n : Nat} {ws : List (List Int)} (h : wavesE n ws = 0) : ws.length ≤ 3 ∧ ∀ k, k < ws.length → wavE n (ws[k]?.getD []) = 0 := by
  have h1 := unlessE_zero (firstE_all h _ (List.mem_cons_self)) (by decide)
  have h3 := firstE_all h _ (List.mem_cons_of_mem _ (List.mem_cons_self))
  refine ⟨of_decide_eq_true h1, fun k hk => ?_⟩
  refine firstE_all h3 _ ?_
  rw [List.getElem?_eq_getElem hk]
  exact List.mem_map_of_mem (List.getElem_mem hk)
def timE (t : Int) : Int := unlessE (wIn t (-2) 2) 2
def timesE (m : Nat) (ts : List Int) : Int := firstE [unlessE (decide (ts.length = m)) 10, firstE (ts.map timE)]
theorem timesE_ok {m : Nat} {ts : List Int} (h : timesE m ts = 0) : ts.length = m ∧ ∀ j : Nat, -2 ≤ ts[j]?.getD 0 ∧ ts[j]?.getD 0 ≤ 2 := by
  have h1 := unlessE_zero (firstE_all h _ (List.mem_cons_self)) (by decide)
  have h3 := firstE_all h _ (List.mem_cons_of_mem _ (List.mem_cons_self))
  refine ⟨of_decide_eq_true h1, fun j => ?_⟩
  rcases Nat.lt_or_ge j ts.length with hj | hj
  · have := firstE_all h3 (timE (ts[j]?.getD 0)) (by rw [List.getElem?_eq_getElem hj]; exact List.mem_map_of_mem (List.getElem_mem hj))
    exact wIn_iff.1 (unlessE_zero this (by decide))
  · rw [List.getElem?_eq_none hj]
    simp

/-- Where samples are outside of a band. -/
def pkO (xs : List Int) (o : Int × Int) : Int := gsT (rspTo xs o.1 o.2 xs.length) xs.length
def outB (xs : List Int) (b : Four) : Bool := !(wIn (pkO xs b.1) b.2.1 b.2.2)
def outT (xs : List Int) (l : List Four) (k : Nat) : List Int := ((List.range k).filter (fun i => outB xs (l[i]?.getD four0))).map (fun i => ((i : Nat) : Int))
theorem outT_succ (xs : List Int) (l : List Four) (k : Nat) : outT xs l (k + 1) = if outB xs (l[k]?.getD four0) = true then outT xs l k ++ [(k : Int)] else outT xs l k := by
  unfold outT
  rw [List.range_succ, List.filter_append, List.map_append]
  simp only [List.filter_cons, List.filter_nil]
  split <;> simp
theorem outT_len (xs : List Int) (l : List Four) (k : Nat) : (outT xs l k).length ≤ k := by
  unfold outT
  rw [List.length_map]
  exact Nat.le_trans (List.length_filter_le _ _) (by simp)
/-- Times with which samples are in the band. -/
def goodM (xs : List Int) (ws : List (List Int)) (l : List Four) (ts : List Int) : Bool := decide (gsT (adTo xs ws ts ws.length) xs.length ≤ 1000) && (outT (adTo xs ws ts ws.length) l l.length).isEmpty
theorem rspTo_len (xs : List Int) (st dm : Int) (k : Nat) : (rspTo xs st dm k).length = k := by simp [rspTo]
theorem rspTo_get (xs : List Int) (st dm : Int) (n k : Nat) (h : k < n) : (rspTo xs st dm n)[k]?.getD 0 = (rspT xs st dm (k + 1)).1 := by
  unfold rspTo
  rw [List.getElem?_map, List.getElem?_range h]
  rfl
/-- How great the added samples are. -/
theorem adS_bd {ws : List (List Int)} {ts : List Int} (hw : ∀ i t : Nat, -1000 ≤ (ws[i]?.getD [])[t]?.getD 0 ∧ (ws[i]?.getD [])[t]?.getD 0 ≤ 1000) (ht : ∀ j : Nat, -2 ≤ ts[j]?.getD 0 ∧ ts[j]?.getD 0 ≤ 2) (t i : Nat) :
    -(2000 * (i : Int)) ≤ adS ws ts t i ∧ adS ws ts t i ≤ 2000 * (i : Int) := by
  induction i with
  | zero => simp [adS]
  | succ i ih =>
    rw [adS]
    have h1 := hw i t
    have h2 := ht i
    have := pr_bd (c := ts[i]?.getD 0) (a := (ws[i]?.getD [])[t]?.getD 0) (C := 2) (A := 1000) h2.1 h2.2 h1.1 h1.2
    omega
theorem wavesE_bd {n : Nat} {ws : List (List Int)} (h : wavesE n ws = 0) : ∀ i t : Nat, -1000 ≤ (ws[i]?.getD [])[t]?.getD 0 ∧ (ws[i]?.getD [])[t]?.getD 0 ≤ 1000 := by
  intro i t
  rcases Nat.lt_or_ge i ws.length with hi | hi
  · exact badS_none (wavE_ok ((wavesE_ok h).2 i hi)).2.1 t
  · rw [List.getElem?_eq_none hi]
    simp
end Go.Proofs.Ytiibdndchkbefaa

namespace Go.Proofs.Ytiibdndchkbefaa

/-- The number before the one at an index, 0 at the begin. -/
def befT (xs : List Int) : Nat → Int
  | 0 => 0
  | k + 1 => xs[k]?.getD 0
/-- What is made of the first numbers, one after the other. -/
def echT (nx : Int → Int → Int → Int) (xs : List Int) : Nat → Int
  | 0 => 0
  | k + 1 => nx (xs[k]?.getD 0) (befT xs k) (echT nx xs k)
/-- All that is made of the first numbers. -/
def echL (nx : Int → Int → Int → Int) (xs : List Int) (k : Nat) : List Int := (List.range k).map (fun t => echT nx xs (t + 1))
/-- All that is made of the first numbers are samples. -/
def echB (nx : Int → Int → Int → Int) (xs : List Int) : Nat → Bool
  | 0 => true
  | k + 1 => echB nx xs k && smp (echT nx xs (k + 1))
theorem echL_len (nx : Int → Int → Int → Int) (xs : List Int) (k : Nat) : (echL nx xs k).length = k := by simp [echL]
theorem echL_succ (nx : Int → Int → Int → Int) (xs : List Int) (k : Nat) : echL nx xs (k + 1) = echL nx xs k ++ [echT nx xs (k + 1)] := by
  unfold echL
  rw [List.range_succ, List.map_append]
  rfl
theorem echL_get (nx : Int → Int → Int → Int) (xs : List Int) (k t : Nat) (h : t < k) : (echL nx xs k)[t]?.getD 0 = echT nx xs (t + 1) := by
  unfold echL
  rw [List.getElem?_map, List.getElem?_range h]
  rfl
theorem echB_smp {nx : Int → Int → Int → Int} {xs : List Int} {k : Nat} (h : echB nx xs k = true) : ∀ t, t < k → smp (echT nx xs (t + 1)) = true := by
  induction k with
  | zero => intro t ht; omega
  | succ k ih =>
    unfold echB at h
    rw [Bool.and_eq_true] at h
    intro t ht
    rcases Nat.lt_or_ge t k with h' | h'
    · exact ih h.1 t h'
    · obtain rfl : t = k := by omega
      exact h.2
theorem echB_of {nx : Int → Int → Int → Int} {xs : List Int} {k : Nat} (h : ∀ t, t < k → smp (echT nx xs (t + 1)) = true) : echB nx xs k = true := by
  induction k with
  | zero => rfl
  | succ k ih =>
    unfold echB
    rw [ih (fun t ht => h t (by omega)), h k (by omega)]
    rfl
theorem echB_no {nx : Int → Int → Int → Int} {xs : List Int} {k n : Nat} (hk : k < n) (h : smp (echT nx xs (k + 1)) = false) : echB nx xs n = false := by
  rcases hb : echB nx xs n with _ | _
  · rfl
  · have := echB_smp hb k hk
    rw [h] at this
    cases this
/-- What an instrument records, and of what it records something. -/
def recN (e : Int) (s _b m : Int) : Int := s + e * m
def corN (e : Int) (s b _m : Int) : Int := s - e * b
/-- Both undo each other. -/
theorem cor_rec {e : Int} {xs : List Int} {n : Nat} (k : Nat) (hk : k < n) : echT (corN e) (echL (recN e) xs n) (k + 1) = xs[k]?.getD 0 := by
  have h1 : echT (corN e) (echL (recN e) xs n) (k + 1) = (echL (recN e) xs n)[k]?.getD 0 - e * befT (echL (recN e) xs n) k := rfl
  rw [h1, echL_get _ _ _ _ hk]
  cases k with
  | zero =>
    show xs[0]?.getD 0 + e * 0 - e * 0 = _
    omega
  | succ k =>
    have h2 : befT (echL (recN e) xs n) (k + 1) = (echL (recN e) xs n)[k]?.getD 0 := rfl
    rw [h2, echL_get _ _ _ _ (by omega)]
    show xs[k + 1]?.getD 0 + e * echT (recN e) xs (k + 1) - e * echT (recN e) xs (k + 1) = _
    omega
theorem rec_cor {e : Int} {xs : List Int} {n : Nat} (k : Nat) (hk : k < n) : echT (recN e) (echL (corN e) xs n) (k + 1) = xs[k]?.getD 0 := by
  induction k with
  | zero =>
    show (echL (corN e) xs n)[0]?.getD 0 + e * 0 = _
    rw [echL_get _ _ _ _ hk]
    show xs[0]?.getD 0 - e * 0 + e * 0 = _
    omega
  | succ k ih =>
    show (echL (corN e) xs n)[k + 1]?.getD 0 + e * echT (recN e) (echL (corN e) xs n) (k + 1) = _
    rw [ih (by omega), echL_get _ _ _ _ hk]
    show xs[k + 1]?.getD 0 - e * xs[k]?.getD 0 + e * xs[k]?.getD 0 = _
    omega
theorem list_of_get {xs ys : List Int} (h1 : ys.length = xs.length) (h : ∀ k, k < xs.length → ys[k]?.getD 0 = xs[k]?.getD 0) : ys = xs := by
  refine List.ext_getElem h1 fun i hi hi' => ?_
  have := h i hi'
  rw [List.getElem?_eq_getElem hi, List.getElem?_eq_getElem hi'] at this
  exact this
theorem back_cor {e : Int} {xs : List Int} {n : Nat} (hn : xs.length = n) : echL (corN e) (echL (recN e) xs n) n = xs :=
  list_of_get (by rw [echL_len]; omega) fun k hk => by rw [echL_get _ _ _ _ (by omega), cor_rec k (by omega)]
theorem back_rec {e : Int} {xs : List Int} {n : Nat} (hn : xs.length = n) : echL (recN e) (echL (corN e) xs n) n = xs :=
  list_of_get (by rw [echL_len]; omega) fun k hk => by rw [echL_get _ _ _ _ (by omega), rec_cor k (by omega)]
end Go.Proofs.Ytiibdndchkbefaa

namespace Go.Proofs.Ytiibdndchkbefaa
open Go.RowKit
open Calmly (Kept)

set_option maxHeartbeats 400000 in
theorem nWithin_any (n lo hi : Int) (w : World) :
    Calls Try.prog 94 #[.int .i64 n, .int .i64 lo, .int .i64 hi] w fun e w' => e = .returned (.bool (wIn n lo hi)) ∧ w = w' := by
  go_enter Try.func94, Try.ntmps94
  go_wp2
  · go_ret
    refine ⟨ret_bool ?_, rfl⟩
    have h : lo ≤ n := by assumption
    simp [wIn, h]
  · go_ret
    refine ⟨ret_bool ?_, rfl⟩
    have : wIn n lo hi = false := wIn_false.2 (.inl (by assumption))
    rw [this]

theorem nSized_any (n m : Int) (w : World) (h1 : -9223372036854775807 ≤ m) (h2 : m ≤ 9223372036854775807) :
    Calls Try.prog 147 #[.int .i64 n, .int .i64 m] w fun e w' => e = .returned (.bool (wIn n (-m) m)) ∧ w = w' := by
  go_enter Try.func147, Try.ntmps147
  go_wp2_with fail
  refine (nWithin_any n (-m) m _).mono ?_
  rintro e w1 ⟨rfl, rfl⟩
  go_wp2_with fail
  go_ret
  exact ⟨rfl, rfl⟩

theorem nUnless_any (b : Bool) (x : Int) (w : World) :
    Calls Try.prog 90 #[.bool b, .int .i64 x] w fun e w' => e = .returned (.int .i64 (unlessE b x)) ∧ w = w' := by
  cases b
  · go_enter Try.func90, Try.ntmps90
    go_wp2
    go_ret
    exact ⟨rfl, rfl⟩
  · go_enter Try.func90, Try.ntmps90
    go_wp2
    go_ret
    exact ⟨rfl, rfl⟩

set_option maxRecDepth 100000 in
set_option maxHeartbeats 400000 in
theorem nFirst_any (a : Option Addr) (n c : Nat) (xs : List Int) (w : World) (h1 : SI w a n c xs) :
    Calls Try.prog 82 #[.slice a n c] w fun e w' => e = .returned (.int .i64 (firstE xs)) ∧ w = w' := by
  obtain ⟨l1, l2⟩ : n ≤ xs.length ∧ xs.length ≤ n := by have := h1.len; omega
  have m1 := h1.max
  have c1 := h1.cap
  go_enter Try.func82, Try.ntmps82
  go_wp2
  go_loop [7] (fun i => ∃ k : Nat, k ≤ n ∧ i = .int .i64 k ∧ firstE xs = firstE (xs.drop k)) (fun i => n - (intOf i).toNat)
  case atStart => exact ⟨0, by omega, rfl, rfl⟩
  case round =>
    obtain ⟨k, hk, rfl, ht⟩ := hrel
    have HT := Lib.hid ht
    clear ht
    by_cases hlt : k < n
    · obtain ⟨b1, o1, rfl, hc1⟩ := h1.at_ (by omega)
      have e1 := hc1 k hlt
      clear hc1
      have hd := firstE_drop xs k (by omega)
      have HD := Lib.hid hd
      clear hd
      have hi : (k : Int) < (n : Int) := by omega
      have hi0 : (0 : Int) ≤ (k : Int) := by omega
      go_wp2
      · have hne : (xs[k]?.getD 0 != 0) = true := by assumption
        go_ret
        refine ⟨ret_int ?_, rfl⟩
        rw [HT.out, HD.out, if_neg (by simpa using hne)]
      · have hne : (xs[k]?.getD 0 != 0) = false := by assumption
        go_round
        case rel => exact ⟨k + 1, by omega, by go_num, by rw [HT.out, HD.out, if_pos (by simpa using hne)]⟩
        case measure => simp [intOf]; omega
    · have hle : (n : Int) ≤ (k : Int) := by omega
      go_wp2
      go_ret
      refine ⟨ret_int ?_, rfl⟩
      rw [HT.out, List.drop_eq_nil_of_le (by omega)]
      rfl

set_option maxHeartbeats 400000 in
theorem nSize_any (n : Int) (w : World) (h1 : -9223372036854775807 ≤ n) (h2 : n ≤ 9223372036854775807) :
    Calls Try.prog 146 #[.int .i64 n] w fun e w' => e = .returned (.int .i64 n.natAbs) ∧ w = w' := by
  by_cases h : n < -n
  · go_enter Try.func146, Try.ntmps146
    go_wp2
    go_ret
    exact ⟨ret_int (by show -n = _; omega), rfl⟩
  · go_enter Try.func146, Try.ntmps146
    go_wp2
    go_ret
    exact ⟨ret_int (by show n = _; omega), rfl⟩

set_option maxRecDepth 100000 in
set_option maxHeartbeats 1000000 in
theorem nDivisor_any (a : Option Addr) (n c : Nat) (xs : List Int) (w : World) (h1 : SI w a n c xs) (hb : ∀ x ∈ xs, -9223372036854775807 ≤ x ∧ x ≤ 9223372036854775807) :
    Calls Try.prog 125 #[.slice a n c] w fun e w' => e = .returned (.int .i64 (gcds xs)) ∧ ∃ n, w' = w.drewN n := by
  obtain ⟨l1, l2⟩ : n ≤ xs.length ∧ xs.length ≤ n := by have := h1.len; omega
  have m1 := h1.max
  have c1 := h1.cap
  have HB := Lib.hid hb
  clear hb
  go_enter Try.func125, Try.ntmps125
  go_wp2
  go_loopw [3, 8] (fun g i wr => ∃ (k : Nat) (p : Int), k ≤ n ∧ i = .int .i64 k ∧ g = .int .i64 p ∧ p.natAbs = gcds (xs.take k) ∧ -9223372036854775807 ≤ p ∧ p ≤ 9223372036854775807 ∧ ∃ n, wr = w.drewN n) (fun _ i _ => n - (intOf i).toNat)
  case atStart => exact ⟨0, 0, by omega, rfl, rfl, rfl, by omega, by omega, 0, rfl⟩
  case round =>
    obtain ⟨k, p, hk, rfl, rfl, hg, hp1, hp2, q, rfl⟩ := hrel
    have HG := Lib.hid hg
    clear hg
    by_cases hlt : k < n
    · obtain ⟨b1, o1, rfl, hc1⟩ := h1.at_ (by omega)
      have e1 := hc1 k hlt
      clear hc1
      have hd := gcds_take xs k (by omega)
      rw [← HG.out] at hd
      have HD := Lib.hid hd
      clear hd
      have hx : -9223372036854775807 ≤ xs[k]?.getD 0 ∧ xs[k]?.getD 0 ≤ 9223372036854775807 := by
        have : k < xs.length := by omega
        simp only [List.getElem?_eq_getElem this, Option.getD_some]
        exact HB.out _ (List.getElem_mem this)
      obtain ⟨hx1, hx2⟩ := hx
      generalize xs[k]?.getD 0 = x at *
      have hi : (k : Int) < (n : Int) := by omega
      have hi0 : (0 : Int) ≤ (k : Int) := by omega
      go_wp2_with fail
      go_loopw [3, 5] (fun g y wr => ∃ (u v : Int), g = .int .i64 u ∧ y = .int .i64 v ∧ Int.gcd u v = Int.gcd p x ∧ -9223372036854775807 ≤ u ∧ u ≤ 9223372036854775807 ∧ -9223372036854775807 ≤ v ∧ v ≤ 9223372036854775807 ∧ ∃ n, wr = w.drewN n) (fun _ y _ => (intOf y).natAbs)
      case atStart => exact ⟨p, x, rfl, rfl, rfl, hp1, hp2, hx1, hx2, q, rfl⟩
      case round =>
        obtain ⟨u, v, rfl, rfl, hg, hu1, hu2, hv1, hv2, q', rfl⟩ := hrel
        have HG2 := Lib.hid hg
        clear hg
        by_cases hz : v = 0
        · have hb : (v != 0) = false := by simp [hz]
          have Hz := Lib.hid hz
          clear hz
          go_wp2_with fail
          go_round
          case rel =>
            refine ⟨k + 1, u, by omega, by go_num, rfl, ?_, hu1, hu2, q', rfl⟩
            have := HG2.out
            rw [Hz.out] at this
            have h3 := HD.out
            rw [Int.gcd] at h3 this
            simp at h3 this
            rw [h3, this, Int.gcd]
          case measure => simp [intOf]; omega
        · have hb : (v != 0) = true := by simpa using hz
          have h1 := tmod_bd (a := u) hz hv1 hv2
          have h2 := tmod_lt (a := u) hz
          have hc : (v == 0) = false := by simpa using hz
          go_wp2_with fail
          refine Calmly.wp_region_mix 5 (.fl 0 <| .fl 1 <| .fl 2 <| .fl 3 <| .fl 4 <| .tail [5]) (by kernel_rfl) (by kernel_rfl) ?_
          go_wp2_with (first | ((with_reducible refine Calmly.is_fl ?_); refine Calmly.mix_fl rfl ?_ (fun _ _ => ?_); (first | exact .move _ | exact .load _ _ | exact .fieldAddr _ _ _ (by kernel_rfl) | exact .assign _ | exact .binOp _ _ _ _ _ rfl | exact .indexAddr _ _ _ | exact .len _ _ (by kernel_rfl) | exact .field _ _ _ | exact .extract _ _ | exact .pick _ _ _ | exact .build _ _ | exact .slice _ _ _ _ _ | exact .unOp _ _ _ rfl | exact .index _ _ _ | exact .max _ _ _ rfl rfl | exact .min _ _ _ rfl rfl)) | ((with_reducible refine Calmly.is_gl ?_); refine Calmly.mix_gl rfl rfl rfl ?_; first | ((first | with_reducible refine Calmly.gl_tt ?_ (fun _ _ => ?_) | with_reducible refine Calmly.gl_ff ?_ (fun _ _ => ?_)); (first | exact .move _ | exact .load _ _ | exact .fieldAddr _ _ _ (by kernel_rfl) | exact .assign _ | exact .binOp _ _ _ _ _ rfl | exact .indexAddr _ _ _ | exact .len _ _ (by kernel_rfl) | exact .field _ _ _ | exact .extract _ _ | exact .pick _ _ _ | exact .build _ _ | exact .slice _ _ _ _ _ | exact .unOp _ _ _ rfl | exact .index _ _ _ | exact .max _ _ _ rfl rfl | exact .min _ _ _ rfl rfl)) | with_reducible refine Calmly.gl_tf (fun _ _ => ?_) | with_reducible refine Calmly.gl_ft (fun _ _ => ?_)) | ((with_reducible refine Calmly.is_eff ?_); refine Calmly.mix_eff rfl (fun _ _ => ?_)) | ((with_reducible refine Calmly.is_gf ?_); refine Calmly.mix_gf rfl rfl rfl ?_; first | with_reducible refine Calmly.gf_tt (fun _ _ => ?_) | with_reducible refine Calmly.gf_ff (fun _ _ => ?_) | with_reducible refine Calmly.gf_tf (kept_of hk) (fun _ _ => ?_) | with_reducible refine Calmly.gf_ft (kept_of hk) (fun _ _ => ?_)) | ((with_reducible refine Calmly.is_tail ?_); first | refine Calmly.mix_tail_nil ?_ | refine Calmly.mix_tail rfl (fun _ _ => ?_)) | ((with_reducible refine Calmly.is_kept ?_); refine ⟨kept_of hk, ?_⟩) | (with_reducible refine Calmly.mix_alt ?_ ?_))
          go_roundw
          case rel => exact ⟨v, u.tmod v, rfl, rfl, by rw [gcd_step]; exact HG2.out, hv1, hv2, h1.1, h1.2, q' + 1, rfl⟩
          case measure => simpa [intOf] using h2
    · have hle : (n : Int) ≤ (k : Int) := by omega
      go_wp2_with fail
      refine (nSize_any p _ hp1 hp2).mono ?_
      rintro e w1 ⟨rfl, rfl⟩
      go_wp2_with fail
      go_ret
      refine ⟨ret_int ?_, q, rfl⟩
      have := HG.out
      rw [List.take_of_length_le (by omega)] at this
      rw [← this]
end Go.Proofs.Ytiibdndchkbefaa

namespace Go.Proofs.Ytiibdndchkbefaa
open Go.RowKit
open Calmly (Kept)

set_option maxHeartbeats 400000 in
theorem isSample_any (x : Int) (w : World) : Calls Try.prog 97 #[.int .i64 x] w fun e w' => e = .returned (.bool (smp x)) ∧ w = w' := by
  go_enter Try.func97, Try.ntmps97
  go_wp2_with fail
  refine (nSized_any x 1000 _ (by omega) (by omega)).mono ?_
  rintro e w1 ⟨rfl, rfl⟩
  go_wp2_with fail
  go_ret
  exact ⟨rfl, rfl⟩
set_option maxHeartbeats 400000 in
theorem noSample_any (x : Int) (w : World) : Calls Try.prog 96 #[.int .i64 x] w fun e w' => e = .returned (.bool (!smp x)) ∧ w = w' := by
  go_enter Try.func96, Try.ntmps96
  go_wp2_with fail
  refine (isSample_any x _).mono ?_
  rintro e w1 ⟨rfl, rfl⟩
  go_wp2_with fail
  go_ret
  exact ⟨rfl, rfl⟩

/-- The index as the program has it. -/
def badI (xs : List Int) : Int := match badS xs 0 with | none => -1 | some i => (i : Int)

set_option maxRecDepth 100000 in
set_option maxHeartbeats 1000000 in
theorem indexBad_any (a : Option Addr) (n c : Nat) (xs : List Int) (w : World) (h1 : SI w a n c xs) :
    Calls Try.prog 95 #[.slice a n c, .func (.func 96) #[] #[]] w fun e w' => e = .returned (.int .i64 (badI xs)) ∧ w = w' := by
  obtain ⟨l1, l2⟩ : n ≤ xs.length ∧ xs.length ≤ n := by have := h1.len; omega
  have m1 := h1.max
  have c1 := h1.cap
  obtain ⟨R, hR⟩ : ∃ R, badI xs = R := ⟨_, rfl⟩
  rw [hR]
  have HR := Lib.hid hR
  clear hR
  go_enter Try.func95, Try.ntmps95
  go_wp2_with fail
  go_loop [8] (fun i => ∃ k : Nat, k ≤ n ∧ i = .int .i64 k ∧ badS xs 0 = badS (xs.drop k) k) (fun i => n - (intOf i).toNat)
  case atStart => exact ⟨0, by omega, rfl, rfl⟩
  case round =>
    obtain ⟨k, hk, rfl, ht⟩ := hrel
    have HT := Lib.hid ht
    clear ht
    by_cases hlt : k < n
    · obtain ⟨b1, o1, rfl, hc1⟩ := h1.at_ (by omega)
      have e1 := hc1 k hlt
      clear hc1
      have hi : (k : Int) < (n : Int) := by omega
      have hi0 : (0 : Int) ≤ (k : Int) := by omega
      have hd := badS_drop xs k (by omega)
      obtain ⟨x, hxx⟩ : ∃ x, xs[k]?.getD 0 = x := ⟨_, rfl⟩
      rw [hxx] at e1 hd
      have HD := Lib.hid hd
      clear hxx hd
      go_wp2_with fail
      refine (noSample_any _ _).mono ?_
      rintro e w1 ⟨rfl, rfl⟩
      cases ho : smp x
      · go_wp2_with fail
        go_ret
        refine ⟨ret_int ?_, rfl⟩
        rw [← HR.out, badI, HT.out, HD.out, ho]
        rfl
      · go_wp2_with fail
        go_round
        case rel => exact ⟨k + 1, by omega, by go_num, by rw [HT.out, HD.out, ho]; rfl⟩
        case measure => simp [intOf]; omega
    · have hle : (n : Int) ≤ (k : Int) := by omega
      go_wp2_with fail
      go_ret
      refine ⟨ret_int ?_, rfl⟩
      rw [← HR.out, badI, HT.out, List.drop_eq_nil_of_le (by omega)]
      rfl
end Go.Proofs.Ytiibdndchkbefaa

namespace Go.Calmly
section
variable {P : Program} {ops : Array Oper} {Q : Exit → Act → World → Prop} {w0 : World}
theorem wanted_un {o : Oper} {g d : Nat} {want : Bool} {a : Act} (hg : o.guard = some (g, want)) (hd : (ops[g]?).bind (·.dst) = some d) (hv : a.tmps[d]? = some undef) :
    Region.wanted o (yielded ops a.tmps) = false := by
  simp only [Region.wanted, hg, yielded, hd, Option.bind_some, hv]
  cases want <;> rfl
theorem mix_glu {i : Nat} {k : Plan} {dst : Option Tmp} {op : Op} {ty : TypeId} {pos : String} {after : Array Edge} {a : Act} {w : World} {g d : Nat} {want : Bool} (hi : ops[i]? = some ⟨dst, op, ty, pos, after, some (g, want)⟩) (hd : (ops[g]?).bind (·.dst) = some d) (hv : a.tmps[d]? = some undef)
    (h : ∀ K : Act → World → Prop, (∀ a', WpMix P ops Q w0 k a' w → K a' w0) → Oper.wp P ⟨dst, .assign (.const undef), ty, pos, after, none⟩ a w0 K NoQ) : WpMix P ops Q w0 (.gl i k) a w := by
  refine ⟨?_⟩
  have hw := wanted_un (o := ⟨dst, op, ty, pos, after, some (g, want)⟩) rfl hd hv
  simp only [Plan.gl, wpMix, hi, hw, Bool.false_eq_true, if_false]
  exact h (fun a' _ => wpMix P ops Q w0 k a' w) (fun _ hh => hh.out)
theorem mix_gfu {i : Nat} {k : Plan} {dst : Option Tmp} {op : Op} {ty : TypeId} {pos : String} {after : Array Edge} {a : Act} {w : World} {g d : Nat} {want : Bool} (hi : ops[i]? = some ⟨dst, op, ty, pos, after, some (g, want)⟩) (hd : (ops[g]?).bind (·.dst) = some d) (hv : a.tmps[d]? = some undef) (hk : Kept w0 w)
    (h : ∀ K : Act → World → Prop, (∀ a', WpMix P ops Q w0 k a' w → K a' w) → Oper.wp P ⟨dst, .assign (.const undef), ty, pos, after, none⟩ a w K NoQ) : WpMix P ops Q w0 (.gf i k) a w := by
  refine ⟨?_⟩
  show wpOp P ops NoQ i (fun a' w' => Kept w0 w' ∧ wpMix P ops Q w0 k a' w') a w
  exact op_off (K := fun a' w' => Kept w0 w' ∧ wpMix P ops Q w0 k a' w') hi (wanted_un rfl hd hv) ⟨hk, h (fun a' _ => wpMix P ops Q w0 k a' w) (fun _ hh => hh.out)⟩
end
end Go.Calmly

namespace Go.Proofs.Ytiibdndchkbefaa
open Go.RowKit
open Calmly (Kept)

theorem recF_cases (step : Int) (xs : List Int) : recF step xs = if firstE [unlessE (wIn step 1 1000000) 2, unlessE (decide (1 < xs.length)) 10, unlessE (decide (xs.length ≤ 24)) 8] = 0 then (if 0 ≤ badI xs then (badI xs, 2) else (0, 0)) else (0, firstE [unlessE (wIn step 1 1000000) 2, unlessE (decide (1 < xs.length)) 10, unlessE (decide (xs.length ≤ 24)) 8]) := by
  unfold recF badI
  cases wIn step 1 1000000 with
  | false => simp [firstE, unlessE]
  | true =>
    by_cases h1 : 1 < xs.length
    · by_cases h2 : xs.length ≤ 24
      · simp only [h1, h2, if_true, decide_true, unlessE, firstE]
        cases badS xs 0 with
        | none => rfl
        | some i => simp
      · simp [h1, h2, unlessE, firstE]
    · simp [h1, unlessE, firstE]

set_option maxRecDepth 100000 in
set_option maxHeartbeats 1000000 in
theorem CheckRecord_any (step : Int) (a : Option Addr) (n c : Nat) (xs : List Int) (w : World) (h1 : SI w a n c xs) (I E : Int) (hR : recF step xs = (I, E)) :
    Calls Try.prog 30 #[.agg #[.int .i64 step, .slice a n c]] w fun e w' => e = .returned (.tuple #[.int .i64 I, .int .i64 E]) ∧ Below w.heap.size w w' := by
  obtain ⟨l1, l2⟩ : n ≤ xs.length ∧ xs.length ≤ n := by have := h1.len; omega
  have m1 := h1.max
  have c1 := h1.cap
  have hb : ∀ o, Below w.heap.size w (w.alloc o) := fun o => (Below.refl _ _).alloc (Nat.le_refl _) _
  have x1 := alloc_new w (.cells #[.int .i64 step, .slice a n c] 24)
  rw [recF_cases] at hR
  have e1 : decide (1 < xs.length) = decide ((1 : Int) < (n : Int)) := by congr 1; rw [eq_iff_iff]; omega
  have e2 : decide (xs.length ≤ 24) = decide ((n : Int) ≤ 24) := by congr 1; rw [eq_iff_iff]; omega
  rw [e1, e2] at hR
  have HR := Lib.hid hR
  clear hR e1 e2
  go_enter Try.func30, Try.ntmps30
  go_wp2_with fail
  refine Calmly.wp_region_mix 16 (.fl 0 <| .fl 1 <| .fl 4 <| .fl 5 <| .fl 6 <| .fl 7 <| .fl 9 <| .fl 10 <| .fl 11 <| .fl 12 <| .eff 2 <| .eff 3 <| .eff 8 <| .eff 13 <| .eff 14 <| .eff 15 <| .tail [16]) (by kernel_rfl) (by kernel_rfl) ?_
  have BW := (hb (.cells #[.int .i64 step, .slice a n c] 24)).drew
  replace x1 := blk_keep x1 (Below.refl _ _).drew
  generalize World.drew _ = V at x1 BW ⊢
  have f0 := cell_block x1 0
  have f1 := cell_block x1 1
  have hk := Below.refl V.heap.size V
  go_wp2_with (first | ((with_reducible refine Calmly.is_fl ?_); refine Calmly.mix_fl rfl ?_ (fun _ _ => ?_); (first | exact .move _ | exact .load _ _ | exact .fieldAddr _ _ _ (by kernel_rfl) | exact .assign _ | exact .binOp _ _ _ _ _ rfl | exact .indexAddr _ _ _ | exact .len _ _ (by kernel_rfl) | exact .field _ _ _ | exact .extract _ _ | exact .pick _ _ _ | exact .build _ _ | exact .slice _ _ _ _ _ | exact .unOp _ _ _ rfl | exact .index _ _ _ | exact .max _ _ _ rfl rfl | exact .min _ _ _ rfl rfl)) | ((with_reducible refine Calmly.is_gl ?_); refine Calmly.mix_gl rfl rfl rfl ?_; first | ((first | with_reducible refine Calmly.gl_tt ?_ (fun _ _ => ?_) | with_reducible refine Calmly.gl_ff ?_ (fun _ _ => ?_)); (first | exact .move _ | exact .load _ _ | exact .fieldAddr _ _ _ (by kernel_rfl) | exact .assign _ | exact .binOp _ _ _ _ _ rfl | exact .indexAddr _ _ _ | exact .len _ _ (by kernel_rfl) | exact .field _ _ _ | exact .extract _ _ | exact .pick _ _ _ | exact .build _ _ | exact .slice _ _ _ _ _ | exact .unOp _ _ _ rfl | exact .index _ _ _ | exact .max _ _ _ rfl rfl | exact .min _ _ _ rfl rfl)) | with_reducible refine Calmly.gl_tf (fun _ _ => ?_) | with_reducible refine Calmly.gl_ft (fun _ _ => ?_)) | ((with_reducible refine Calmly.is_eff ?_); refine Calmly.mix_eff rfl (fun _ _ => ?_)) | ((with_reducible refine Calmly.is_gf ?_); refine Calmly.mix_gf rfl rfl rfl ?_; first | with_reducible refine Calmly.gf_tt (fun _ _ => ?_) | with_reducible refine Calmly.gf_ff (fun _ _ => ?_) | with_reducible refine Calmly.gf_tf (kept_of hk) (fun _ _ => ?_) | with_reducible refine Calmly.gf_ft (kept_of hk) (fun _ _ => ?_)) | ((with_reducible refine Calmly.is_kept ?_); refine ⟨kept_of hk, ?_⟩) | (with_reducible refine Calmly.mix_alt ?_ ?_) | (refine kept_alloc hk (fun hk' hblk hge => ?_); replace hk := hk'; clear hk') | (go_at_call 94; (refine (nWithin_any _ _ _ _).mono ?_; rintro e w1 ⟨rfl, rfl⟩)) | (go_at_call 90; (refine (nUnless_any _ _ _).mono ?_; rintro e w1 ⟨rfl, rfl⟩)) | (go_at_call 82; (refine (nFirst_any _ 3 3 _ _ (SI.three _ _ _ _ _ (by simp))).mono ?_; rintro e w1 ⟨rfl, rfl⟩; obtain ⟨F, hF⟩ : ∃ F, firstE [unlessE (wIn step 1 1000000) 2, unlessE (decide ((1 : Int) < (n : Int))) 10, unlessE (decide ((n : Int) ≤ 24)) 8] = F := ⟨_, rfl⟩; rw [hF]; have HF := Lib.hid hF; clear hF)))
  have BW2 := BW.trans (hk.mono BW.size)
  have x2 := blk_keep x1 hk
  clear f0 f1
  have f0 := cell_block x2 0
  have f1 := cell_block x2 1
  by_cases hz : F = 0
  · subst hz
    have hR := HR.out
    rw [HF.out, if_pos rfl] at hR
    by_cases hb0 : 0 ≤ badI xs
    · rw [if_pos hb0] at hR
      obtain ⟨rfl, rfl⟩ := Prod.mk.inj hR
      clear HR hR
      go_wp2_with (first | ((with_reducible refine Calmly.is_fl ?_); refine Calmly.mix_fl rfl ?_ (fun _ _ => ?_); (first | exact .move _ | exact .load _ _ | exact .fieldAddr _ _ _ (by kernel_rfl) | exact .assign _ | exact .binOp _ _ _ _ _ rfl | exact .indexAddr _ _ _ | exact .len _ _ (by kernel_rfl) | exact .field _ _ _ | exact .extract _ _ | exact .pick _ _ _ | exact .build _ _ | exact .slice _ _ _ _ _ | exact .unOp _ _ _ rfl | exact .index _ _ _ | exact .max _ _ _ rfl rfl | exact .min _ _ _ rfl rfl)) | ((with_reducible refine Calmly.is_gl ?_); refine Calmly.mix_gl rfl rfl rfl ?_; first | ((first | with_reducible refine Calmly.gl_tt ?_ (fun _ _ => ?_) | with_reducible refine Calmly.gl_ff ?_ (fun _ _ => ?_)); (first | exact .move _ | exact .load _ _ | exact .fieldAddr _ _ _ (by kernel_rfl) | exact .assign _ | exact .binOp _ _ _ _ _ rfl | exact .indexAddr _ _ _ | exact .len _ _ (by kernel_rfl) | exact .field _ _ _ | exact .extract _ _ | exact .pick _ _ _ | exact .build _ _ | exact .slice _ _ _ _ _ | exact .unOp _ _ _ rfl | exact .index _ _ _ | exact .max _ _ _ rfl rfl | exact .min _ _ _ rfl rfl)) | with_reducible refine Calmly.gl_tf (fun _ _ => ?_) | with_reducible refine Calmly.gl_ft (fun _ _ => ?_)) | ((with_reducible refine Calmly.is_eff ?_); refine Calmly.mix_eff rfl (fun _ _ => ?_)) | ((with_reducible refine Calmly.is_gf ?_); refine Calmly.mix_gf rfl rfl rfl ?_; first | with_reducible refine Calmly.gf_tt (fun _ _ => ?_) | with_reducible refine Calmly.gf_ff (fun _ _ => ?_) | with_reducible refine Calmly.gf_tf (kept_of hk) (fun _ _ => ?_) | with_reducible refine Calmly.gf_ft (kept_of hk) (fun _ _ => ?_)) | ((with_reducible refine Calmly.is_tail ?_); first | refine Calmly.mix_tail_nil ?_ | refine Calmly.mix_tail rfl (fun _ _ => ?_)) | ((with_reducible refine Calmly.is_kept ?_); refine ⟨kept_of hk, ?_⟩) | (with_reducible refine Calmly.mix_alt ?_ ?_))
      refine (indexBad_any a n c xs _ ((h1.keep BW).keep hk)).mono ?_
      rintro e w1 ⟨rfl, rfl⟩
      go_wp2_with fail
      go_ret2
      exact ⟨rfl, BW2⟩
    · rw [if_neg hb0] at hR
      obtain ⟨rfl, rfl⟩ := Prod.mk.inj hR
      have hb1 : badI xs < 0 := by omega
      clear HR hR
      go_wp2_with (first | ((with_reducible refine Calmly.is_fl ?_); refine Calmly.mix_fl rfl ?_ (fun _ _ => ?_); (first | exact .move _ | exact .load _ _ | exact .fieldAddr _ _ _ (by kernel_rfl) | exact .assign _ | exact .binOp _ _ _ _ _ rfl | exact .indexAddr _ _ _ | exact .len _ _ (by kernel_rfl) | exact .field _ _ _ | exact .extract _ _ | exact .pick _ _ _ | exact .build _ _ | exact .slice _ _ _ _ _ | exact .unOp _ _ _ rfl | exact .index _ _ _ | exact .max _ _ _ rfl rfl | exact .min _ _ _ rfl rfl)) | ((with_reducible refine Calmly.is_gl ?_); refine Calmly.mix_gl rfl rfl rfl ?_; first | ((first | with_reducible refine Calmly.gl_tt ?_ (fun _ _ => ?_) | with_reducible refine Calmly.gl_ff ?_ (fun _ _ => ?_)); (first | exact .move _ | exact .load _ _ | exact .fieldAddr _ _ _ (by kernel_rfl) | exact .assign _ | exact .binOp _ _ _ _ _ rfl | exact .indexAddr _ _ _ | exact .len _ _ (by kernel_rfl) | exact .field _ _ _ | exact .extract _ _ | exact .pick _ _ _ | exact .build _ _ | exact .slice _ _ _ _ _ | exact .unOp _ _ _ rfl | exact .index _ _ _ | exact .max _ _ _ rfl rfl | exact .min _ _ _ rfl rfl)) | with_reducible refine Calmly.gl_tf (fun _ _ => ?_) | with_reducible refine Calmly.gl_ft (fun _ _ => ?_)) | ((with_reducible refine Calmly.is_eff ?_); refine Calmly.mix_eff rfl (fun _ _ => ?_)) | ((with_reducible refine Calmly.is_gf ?_); refine Calmly.mix_gf rfl rfl rfl ?_; first | with_reducible refine Calmly.gf_tt (fun _ _ => ?_) | with_reducible refine Calmly.gf_ff (fun _ _ => ?_) | with_reducible refine Calmly.gf_tf (kept_of hk) (fun _ _ => ?_) | with_reducible refine Calmly.gf_ft (kept_of hk) (fun _ _ => ?_)) | ((with_reducible refine Calmly.is_tail ?_); first | refine Calmly.mix_tail_nil ?_ | refine Calmly.mix_tail rfl (fun _ _ => ?_)) | ((with_reducible refine Calmly.is_kept ?_); refine ⟨kept_of hk, ?_⟩) | (with_reducible refine Calmly.mix_alt ?_ ?_))
      refine (indexBad_any a n c xs _ ((h1.keep BW).keep hk)).mono ?_
      rintro e w1 ⟨rfl, rfl⟩
      go_wp2_with fail
      go_ret2
      exact ⟨rfl, BW2⟩
  · have hR := HR.out
    rw [HF.out, if_neg hz] at hR
    obtain ⟨rfl, rfl⟩ := Prod.mk.inj hR
    have b1 : (F != 0) = true := by simpa using hz
    clear hz HR hR
    go_wp2_with (first | ((with_reducible refine Calmly.is_fl ?_); refine Calmly.mix_fl rfl ?_ (fun _ _ => ?_); (first | exact .move _ | exact .load _ _ | exact .fieldAddr _ _ _ (by kernel_rfl) | exact .assign _ | exact .binOp _ _ _ _ _ rfl | exact .indexAddr _ _ _ | exact .len _ _ (by kernel_rfl) | exact .field _ _ _ | exact .extract _ _ | exact .pick _ _ _ | exact .build _ _ | exact .slice _ _ _ _ _ | exact .unOp _ _ _ rfl | exact .index _ _ _ | exact .max _ _ _ rfl rfl | exact .min _ _ _ rfl rfl)) | ((with_reducible refine Calmly.is_gl ?_); refine Calmly.mix_gl rfl rfl rfl ?_; first | ((first | with_reducible refine Calmly.gl_tt ?_ (fun _ _ => ?_) | with_reducible refine Calmly.gl_ff ?_ (fun _ _ => ?_)); (first | exact .move _ | exact .load _ _ | exact .fieldAddr _ _ _ (by kernel_rfl) | exact .assign _ | exact .binOp _ _ _ _ _ rfl | exact .indexAddr _ _ _ | exact .len _ _ (by kernel_rfl) | exact .field _ _ _ | exact .extract _ _ | exact .pick _ _ _ | exact .build _ _ | exact .slice _ _ _ _ _ | exact .unOp _ _ _ rfl | exact .index _ _ _ | exact .max _ _ _ rfl rfl | exact .min _ _ _ rfl rfl)) | with_reducible refine Calmly.gl_tf (fun _ _ => ?_) | with_reducible refine Calmly.gl_ft (fun _ _ => ?_)) | ((with_reducible refine Calmly.is_eff ?_); refine Calmly.mix_eff rfl (fun _ _ => ?_)) | ((with_reducible refine Calmly.is_gf ?_); refine Calmly.mix_gf rfl rfl rfl ?_; first | with_reducible refine Calmly.gf_tt (fun _ _ => ?_) | with_reducible refine Calmly.gf_ff (fun _ _ => ?_) | with_reducible refine Calmly.gf_tf (kept_of hk) (fun _ _ => ?_) | with_reducible refine Calmly.gf_ft (kept_of hk) (fun _ _ => ?_)) | ((with_reducible refine Calmly.is_tail ?_); first | refine Calmly.mix_tail_nil ?_ | refine Calmly.mix_tail rfl (fun _ _ => ?_)) | ((with_reducible refine Calmly.is_kept ?_); refine ⟨kept_of hk, ?_⟩) | (with_reducible refine Calmly.mix_alt ?_ ?_))
    go_ret2
    exact ⟨rfl, BW2⟩
end Go.Proofs.Ytiibdndchkbefaa

namespace Go.Proofs.Ytiibdndchkbefaa
open Go.RowKit
open Calmly (Kept)

theorem OwI.weak {w : World} {B B' : Nat} {a : Option Addr} {n c : Nat} {xs : List Int} (h : OwI w B a n c xs) (hB : B' ≤ B) : OwI w B' a n c xs := by
  obtain ⟨h1, h2⟩ := h
  refine ⟨h1, ?_⟩
  rcases h2 with h2 | ⟨g, cap, cur, hv, hg, r⟩
  · exact .inl h2
  · exact .inr ⟨g, cap, cur, hv, Nat.le_trans hB hg, r⟩
/-- A store below the call's own rows. -/
theorem OwI.under {w : World} {B : Nat} {a : Option Addr} {n c : Nat} {xs : List Int} (h : OwI w B a n c xs) {r o : Nat} (hr : r < B) (v : Value) : OwI (w.setCell ⟨r, o, none⟩ v) B a n c xs := by
  obtain ⟨h1, h2⟩ := h
  refine ⟨h1, ?_⟩
  rcases h2 with h2 | ⟨g, cap, cur, hv, hg, hh, r'⟩
  · exact .inl h2
  · refine .inr ⟨g, cap, cur, hv, hg, ?_, r'⟩
    rw [Below.heap_setCell _ _ _ _ (by show g ≠ r; omega)]
    exact hh
/-- Two stores below the call's own rows. -/
theorem OwI.under2 {w : World} {B : Nat} {a : Option Addr} {n c : Nat} {xs : List Int} (h : OwI w B a n c xs) {r : Nat} (hr : r < B) (u v : Value) : OwI ((w.setCell ⟨r, 0, none⟩ u).setCell ⟨r, 1, none⟩ v) B a n c xs :=
  (h.under hr u).under hr v

/-- What a call laid before it called another one. -/
theorem box1 {w W w1 : World} {o : Obj} (h : Below W.heap.size W w1) (hW : W.heap = (w.alloc o).heap := by rfl) : w1.heap[w.heap.size]? = some o := by
  rw [h.block _ (by rw [hW]; simp), hW]
  exact alloc_new _ _
theorem box2 {w W w1 : World} {o o' : Obj} (h : Below W.heap.size W w1) (hW : W.heap = ((w.alloc o).alloc o').heap := by rfl) : w1.heap[w.heap.size]? = some o ∧ w1.heap[w.heap.size + 1]? = some o' := by
  have h0 : Below (w.alloc o).heap.size (w.alloc o) ((w.alloc o).alloc o') := (Below.refl _ _).alloc (Nat.le_refl _) _
  refine ⟨?_, ?_⟩
  · rw [h.block _ (by rw [hW]; simp; omega), hW]
    exact box1 (W := w.alloc o) h0
  · rw [h.block _ (by rw [hW]; simp), hW]
    have := alloc_new (w.alloc o) o'
    simpa using this
theorem blk_setAt {W : World} {b : Nat} {cs : Array Value} {t : TypeId} (h : W.heap[b]? = some (.cells cs t)) (i : Nat) (v : Value) : (W.setCell ⟨b, i, none⟩ v).heap[b]? = some (.cells (cs.setIfInBounds i v) t) := by
  simp [World.setCell, Array.getElem?_modify, h]
end Go.Proofs.Ytiibdndchkbefaa

namespace Go.Proofs.Ytiibdndchkbefaa
open Go.RowKit
open Calmly (Kept)

set_option maxHeartbeats 400000 in
theorem rIsSample_any (x : Int) (w : World) : Calls Try.prog 74 #[.int .i64 x] w fun e w' => e = .returned (.bool (smp x)) ∧ w = w' := by
  go_enter Try.func74, Try.ntmps74
  go_wp2_with fail
  refine (within_any _ _ _ _).mono ?_
  rintro e w1 ⟨rfl, rfl⟩
  go_wp2_with fail
  go_ret
  exact ⟨rfl, rfl⟩

set_option maxRecDepth 100000 in
set_option maxHeartbeats 1000000 in
theorem rCheckRecord_any (step : Int) (a : Option Addr) (n c : Nat) (xs : List Int) (w : World) (h1 : SI w a n c xs) (I E : Int) (hR : recF step xs = (I, E)) :
    Calls Try.prog 34 #[.agg #[.int .i64 step, .slice a n c]] w fun e w' => e = .returned (.tuple #[.int .i64 I, .int .i64 E]) ∧ Below w.heap.size w w' := by
  obtain ⟨l1, l2⟩ : n ≤ xs.length ∧ xs.length ≤ n := by have := h1.len; omega
  have m1 := h1.max
  have c1 := h1.cap
  have BW : Below w.heap.size w (w.alloc (.cells #[.int .i64 step, .slice a n c] 24)) := (Below.refl _ _).alloc (Nat.le_refl _) _
  have x1 := alloc_new w (.cells #[.int .i64 step, .slice a n c] 24)
  unfold recF at hR
  have HR := Lib.hid hR
  clear hR
  go_enter Try.func34, Try.ntmps34
  go_wp2_with fail
  refine (within_any _ _ _ _).mono ?_
  rintro e w1 ⟨rfl, rfl⟩
  cases hw : wIn step 1 1000000
  · have hR := HR.out
    rw [hw, if_neg (by simp)] at hR
    obtain ⟨rfl, rfl⟩ := Prod.mk.inj hR
    clear hR HR
    go_wp2_with fail
    go_ret2
    exact ⟨rfl, BW⟩
  have hR := HR.out
  rw [hw, if_pos rfl] at hR
  replace HR := Lib.hid hR
  clear hR
  by_cases hn1 : n ≤ 1
  · have hn2 : (n : Int) < 2 := by omega
    have hR := HR.out
    rw [if_neg (by omega)] at hR
    obtain ⟨rfl, rfl⟩ := Prod.mk.inj hR
    clear hR HR
    go_wp2_with fail
    go_ret2
    exact ⟨rfl, BW⟩
  have hn2 : (2 : Int) ≤ (n : Int) := by omega
  by_cases hn3 : 24 < n
  · have hn4 : (24 : Int) < (n : Int) := by omega
    have hR := HR.out
    rw [if_pos (by omega), if_neg (by omega)] at hR
    obtain ⟨rfl, rfl⟩ := Prod.mk.inj hR
    clear hR HR
    go_wp2_with fail
    go_ret2
    exact ⟨rfl, BW⟩
  have hn4 : (n : Int) ≤ 24 := by omega
  have hR := HR.out
  rw [if_pos (by omega), if_pos (by omega)] at hR
  replace HR := Lib.hid hR
  clear hR
  obtain ⟨V, hV⟩ : ∃ V, w.alloc (.cells #[.int .i64 step, .slice a n c] 24) = V := ⟨_, rfl⟩
  rw [hV] at x1 BW ⊢
  clear hV
  have f0 := cell_block x1 0
  have f1 := cell_block x1 1
  go_wp2_with fail
  go_loop [4] (fun i => ∃ k : Nat, k ≤ n ∧ i = .int .i64 k ∧ badS xs 0 = badS (xs.drop k) k) (fun i => n - (intOf i).toNat)
  case atStart => exact ⟨0, by omega, rfl, rfl⟩
  case round =>
    obtain ⟨k, hk, rfl, ht⟩ := hrel
    have HT := Lib.hid ht
    clear ht
    by_cases hlt : k < n
    · obtain ⟨b1, o1, rfl, hc1⟩ := (h1.keep BW).at_ (by omega)
      have e1 := hc1 k hlt
      clear hc1
      have hi : (k : Int) < (n : Int) := by omega
      have hi0 : (0 : Int) ≤ (k : Int) := by omega
      have hd := badS_drop xs k (by omega)
      obtain ⟨x, hxx⟩ : ∃ x, xs[k]?.getD 0 = x := ⟨_, rfl⟩
      rw [hxx] at e1 hd
      have HD := Lib.hid hd
      clear hxx hd
      go_wp2_with fail
      refine (rIsSample_any _ _).mono ?_
      rintro e w1 ⟨rfl, rfl⟩
      cases ho : smp x
      · have hR := HR.out
        rw [HT.out, HD.out, ho] at hR
        obtain ⟨rfl, rfl⟩ := Prod.mk.inj hR
        clear hR HR
        go_wp2_with fail
        go_ret2
        exact ⟨rfl, BW⟩
      · go_wp2_with fail
        go_round
        case rel => exact ⟨k + 1, by omega, by go_num, by rw [HT.out, HD.out, ho]; rfl⟩
        case measure => simp [intOf]; omega
    · have hle : (n : Int) ≤ (k : Int) := by omega
      have hR := HR.out
      rw [HT.out, List.drop_eq_nil_of_le (by omega)] at hR
      obtain ⟨rfl, rfl⟩ := Prod.mk.inj hR
      clear hR HR
      go_wp2_with fail
      go_ret2
      exact ⟨rfl, BW⟩
end Go.Proofs.Ytiibdndchkbefaa
