/- Plain law of chapter 2: samples, sums, ends, peaks and responses. Plain law of chapter 2: all lists of times, and the match. Plain law of chapter 2: the errors of oscillators, bands, waves and times; where samples are outside of a band. Plain law of chapter 2: energies, and where a share of them is reached. Plain law of chapter 2: fractions in lowest terms, and the greatest scale. Contracts of the small functions of chapter 2's package. Contracts of chapter 2: which records are valid. A region walked by a plan: an operation whose guard is itself an operation that was not carried out. -/
import Derived.Test.YtiibdndchkbefaaK03
namespace Go.Proofs.Ytiibdndchkbefaa

/-- Samples; the first number that is none. -/
def smp (n : Int) : Bool := wIn n (-1000) 1000
def badS : List Int → Nat → Option Nat
  | [], _ => none
  | x :: l, i => if smp x = true then badS l (i + 1) else some i
theorem badS_drop (xs : List Int) (k : Nat) (h : k < xs.length) : badS (xs.drop k) k = if smp (xs[k]?.getD 0) = true then badS (xs.drop (k + 1)) (k + 1) else some k := by
  rw [List.drop_eq_getElem_cons h, badS, List.getElem?_eq_getElem h]
  rfl
theorem badS_none {xs : List Int} {i : Nat} (h : badS xs i = none) : ∀ j : Nat, -1000 ≤ xs[j]?.getD 0 ∧ xs[j]?.getD 0 ≤ 1000 := by
  induction xs generalizing i with
  | nil => intro j; simp
  | cons x l ih =>
    rw [badS] at h
    split at h
    · rename_i hx
      intro j
      cases j with
      | zero => exact wIn_iff.1 hx
      | succ j => exact ih h j
    · cases h
/-- The index and the error of a record. -/
def recF (step : Int) (xs : List Int) : Int × Int :=
  if wIn step 1 1000000 = true then
    if 1 < xs.length then
      if xs.length ≤ 24 then (match badS xs 0 with | none => (0, 0) | some i => ((i : Int), 2)) else (0, 8)
    else (0, 10)
  else (0, 2)
theorem recF_ok {step : Int} {xs : List Int} (h : (recF step xs).2 = 0) : 1 < xs.length ∧ xs.length ≤ 24 ∧ (1 ≤ step ∧ step ≤ 1000000) ∧ badS xs 0 = none ∧ ∀ j : Nat, -1000 ≤ xs[j]?.getD 0 ∧ xs[j]?.getD 0 ≤ 1000 := by
  unfold recF at h
  split at h
  · rename_i h1
    split at h
    · split at h
      · rename_i h2 h3
        cases hb : badS xs 0 with
        | none => exact ⟨h2, h3, wIn_iff.1 h1, rfl, badS_none hb⟩
        | some i => rw [hb] at h; cases h
      · cases h
    · cases h
  · cases h

/-- The sum of the first numbers; all these sums. -/
def sumT (xs : List Int) : Nat → Int
  | 0 => 0
  | k + 1 => sumT xs k + xs[k]?.getD 0
def sumsF (xs : List Int) : List Int := (List.range xs.length).map (fun t => sumT xs (t + 1))
def sumsTo (xs : List Int) (k : Nat) : List Int := (List.range k).map (fun t => sumT xs (t + 1))
theorem sumsTo_succ (xs : List Int) (k : Nat) : sumsTo xs (k + 1) = sumsTo xs k ++ [sumT xs (k + 1)] := by
  unfold sumsTo
  rw [List.range_succ, List.map_append]
  rfl
theorem sumsF_len (xs : List Int) : (sumsF xs).length = xs.length := by simp [sumsF]
theorem sumsF_get (xs : List Int) (k : Nat) (h : k < xs.length) : (sumsF xs)[k]?.getD 0 = sumT xs (k + 1) := by
  unfold sumsF
  rw [List.getElem?_map, List.getElem?_range h]
  rfl
theorem sumT_bd {xs : List Int} {M : Int} (h : ∀ j : Nat, -M ≤ xs[j]?.getD 0 ∧ xs[j]?.getD 0 ≤ M) (k : Nat) : -(M * (k : Int)) ≤ sumT xs k ∧ sumT xs k ≤ M * (k : Int) := by
  induction k with
  | zero => simp [sumT]
  | succ k ih =>
    have := h k
    rw [sumT]
    have e : M * ((k + 1 : Nat) : Int) = M * (k : Int) + M := by rw [Int.natCast_add, Int.mul_add]; simp
    rw [e]
    omega
/-- The displacement at the end, as the reference has it. -/
def endT (xs : List Int) (n : Int) : Nat → Int
  | 0 => 0
  | k + 1 => endT xs n k + (n - (k : Int)) * xs[k]?.getD 0
theorem endT_more (xs : List Int) (n : Int) (k : Nat) : endT xs (n + 1) k = endT xs n k + sumT xs k := by
  induction k with
  | zero => rfl
  | succ k ih =>
    rw [endT, endT, sumT, ih]
    have : (n + 1 - (k : Int)) * xs[k]?.getD 0 = (n - (k : Int)) * xs[k]?.getD 0 + xs[k]?.getD 0 := by
      rw [show n + 1 - (k : Int) = (n - (k : Int)) + 1 by omega, Int.add_mul, Int.one_mul]
    omega
theorem sumT_sums (xs : List Int) (k : Nat) (h : k ≤ xs.length) : sumT (sumsF xs) k = endT xs k k := by
  induction k with
  | zero => rfl
  | succ k ih =>
    rw [sumT, ih (by omega), sumsF_get xs k (by omega), show ((k + 1 : Nat) : Int) = (k : Int) + 1 by omega, endT_more, endT]
    have : ((k : Int) - (k : Int)) * xs[k]?.getD 0 = 0 := by rw [Int.sub_self, Int.zero_mul]
    omega

/-- The greatest size of numbers. -/
def gsT (xs : List Int) : Nat → Int
  | 0 => 0
  | k + 1 => max (gsT xs k) (sizeOf' (xs[k]?.getD 0))
/-- The greatest, and the smallest of numbers. -/
def mxT (xs : List Int) : Nat → Int
  | 0 => xs[0]?.getD 0
  | k + 1 => max (mxT xs k) (xs[k]?.getD 0)
def mnT (xs : List Int) : Nat → Int
  | 0 => xs[0]?.getD 0
  | k + 1 => min (mnT xs k) (xs[k]?.getD 0)
theorem peak_law (xs : List Int) (k : Nat) (h : 0 < k) : max (mxT xs k) (-(mnT xs k)) = gsT xs k := by
  have key : ∀ k, 0 < k → max (mxT xs k) (-(mnT xs k)) = gsT xs k ∧ mnT xs k ≤ mxT xs k := by
    intro k hk
    induction k with
    | zero => omega
    | succ k ih =>
      rcases Nat.eq_zero_or_pos k with rfl | h0
      · simp only [mxT, mnT, gsT, sizeOf']
        split <;> omega
      · obtain ⟨h1, h2⟩ := ih h0
        simp only [mxT, mnT, gsT, sizeOf']
        split <;> omega
  exact (key k h).1

/-- The two last displacements of an oscillator. -/
def rspT (xs : List Int) (st dm : Int) : Nat → Int × Int
  | 0 => (0, 0)
  | k + 1 => (2 * (rspT xs st dm k).1 - (rspT xs st dm k).2 - (st * (rspT xs st dm k).1 + dm * ((rspT xs st dm k).1 - (rspT xs st dm k).2)).tdiv 1000 - xs[k]?.getD 0, (rspT xs st dm k).1)
def rspTo (xs : List Int) (st dm : Int) (k : Nat) : List Int := (List.range k).map (fun t => (rspT xs st dm (t + 1)).1)
theorem rspTo_succ (xs : List Int) (st dm : Int) (k : Nat) : rspTo xs st dm (k + 1) = rspTo xs st dm k ++ [(rspT xs st dm (k + 1)).1] := by
  unfold rspTo
  rw [List.range_succ, List.map_append]
  rfl
/-- How great they are at most. -/
def rspB : Nat → Int × Int
  | 0 => (0, 0)
  | k + 1 => (2 * (rspB k).1 + (rspB k).2 + 1001, (rspB k).1)
theorem rspB_pos (k : Nat) : 0 ≤ (rspB k).2 ∧ (rspB k).2 ≤ (rspB k).1 := by
  induction k with
  | zero => decide
  | succ k ih =>
    rw [rspB]
    dsimp only
    omega
theorem rspB_mono {j k : Nat} (h : j ≤ k) : (rspB j).1 ≤ (rspB k).1 := by
  induction k with
  | zero =>
    obtain rfl : j = 0 := by omega
    exact Int.le_refl _
  | succ k ih =>
    rcases Nat.lt_or_ge k j with h1 | h1
    · obtain rfl : j = k + 1 := by omega
      exact Int.le_refl _
    · refine Int.le_trans (ih h1) ?_
      have := rspB_pos k
      rw [rspB]
      dsimp only
      omega
theorem pr_bd {c a C A : Int} (h1 : -C ≤ c) (h2 : c ≤ C) (h3 : -A ≤ a) (h4 : a ≤ A) : -(C * A) ≤ c * a ∧ c * a ≤ C * A := by
  have e : (c * a).natAbs ≤ C.toNat * A.toNat := by
    rw [Int.natAbs_mul]
    exact Nat.mul_le_mul (by omega) (by omega)
  have e2 : ((C.toNat * A.toNat : Nat) : Int) = C * A := by
    rw [Int.natCast_mul, Int.toNat_of_nonneg (by omega), Int.toNat_of_nonneg (by omega)]
  omega
theorem rsp_step {st dm a b x A B : Int} (hs : 0 ≤ st ∧ st ≤ 3000) (hd : 0 ≤ dm ∧ dm ≤ 500) (hx : -1000 ≤ x ∧ x ≤ 1000) (ha : -A ≤ a ∧ a ≤ A) (hb : -B ≤ b ∧ b ≤ B) :
    (-(3000 * A) ≤ st * a ∧ st * a ≤ 3000 * A) ∧ (-(500 * (A + B)) ≤ dm * (a - b) ∧ dm * (a - b) ≤ 500 * (A + B)) ∧
      -(2 * A + B + 1001) ≤ 2 * a - b - (st * a + dm * (a - b)).tdiv 1000 - x ∧ 2 * a - b - (st * a + dm * (a - b)).tdiv 1000 - x ≤ 2 * A + B + 1001 := by
  have p1 := pr_bd (c := st) (a := a) (C := 3000) (A := A) (by omega) (by omega) ha.1 ha.2
  have p2 := pr_bd (c := dm) (a := a - b) (C := 500) (A := A + B) (by omega) (by omega) (by omega) (by omega)
  have p3 := pr_bd (c := 2000 - st - dm) (a := a) (C := 2000) (A := A) (by omega) (by omega) ha.1 ha.2
  have p4 := pr_bd (c := dm - 1000) (a := b) (C := 1000) (A := B) (by omega) (by omega) hb.1 hb.2
  have e : (2000 - st - dm) * a + (dm - 1000) * b = 2000 * a - 1000 * b - (st * a + dm * (a - b)) := by grind
  have t1 := Int.tmod_add_mul_tdiv (st * a + dm * (a - b)) 1000
  have t2 : -999 ≤ (st * a + dm * (a - b)).tmod 1000 ∧ (st * a + dm * (a - b)).tmod 1000 ≤ 999 := by
    have h1 := Int.natAbs_tmod (st * a + dm * (a - b)) 1000
    have h2 : (st * a + dm * (a - b)).natAbs % (1000 : Int).natAbs < 1000 := Nat.mod_lt _ (by decide)
    omega
  refine ⟨p1, p2, ?_⟩
  generalize (2000 - st - dm) * a = X at *
  generalize (dm - 1000) * b = Y at *
  generalize st * a + dm * (a - b) = V at *
  omega
theorem rspT_bd {xs : List Int} {st dm : Int} (hs : 0 ≤ st ∧ st ≤ 3000) (hd : 0 ≤ dm ∧ dm ≤ 500) (hx : ∀ j : Nat, -1000 ≤ xs[j]?.getD 0 ∧ xs[j]?.getD 0 ≤ 1000) (k : Nat) :
    (-(rspB k).1 ≤ (rspT xs st dm k).1 ∧ (rspT xs st dm k).1 ≤ (rspB k).1) ∧ (-(rspB k).2 ≤ (rspT xs st dm k).2 ∧ (rspT xs st dm k).2 ≤ (rspB k).2) := by
  induction k with
  | zero =>
    show (-(0 : Int) ≤ 0 ∧ (0 : Int) ≤ 0) ∧ (-(0 : Int) ≤ 0 ∧ (0 : Int) ≤ 0)
    decide
  | succ k ih =>
    obtain ⟨h1, h2⟩ := ih
    exact ⟨(rsp_step hs hd (hx k) h1 h2).2.2, h1⟩
theorem rspB_num : (rspB 23).1 ≤ 1099511627776 ∧ (rspB 26).1 ≤ 10000000000000 := by decide
end Go.Proofs.Ytiibdndchkbefaa

namespace Go.Proofs.Ytiibdndchkbefaa

/-- All lists of so many times, in lexicographic order. -/
def five : List Int := [-2, -1, 0, 1, 2]
def allC : Nat → List (List Int)
  | 0 => [[]]
  | k + 1 => five.flatMap (fun n => (allC k).map (fun c => n :: c))
/-- Those that begin so. -/
def genC (pre : List Int) (k : Nat) : List (List Int) := (allC k).map (fun c => pre ++ c)
theorem genC_zero (pre : List Int) : genC pre 0 = [pre] := by simp [genC, allC]
theorem genC_succ (pre : List Int) (k : Nat) : genC pre (k + 1) = five.flatMap (fun n => genC (pre ++ [n]) k) := by
  unfold genC
  rw [allC, List.map_flatMap]
  congr 1
  funext n
  rw [List.map_map]
  congr 1
  funext c
  simp
theorem genC_nil (k : Nat) : genC [] k = allC k := by simp [genC]
theorem allC_len {k : Nat} {c : List Int} (h : c ∈ allC k) : c.length = k ∧ ∀ j : Nat, -2 ≤ c[j]?.getD 0 ∧ c[j]?.getD 0 ≤ 2 := by
  induction k generalizing c with
  | zero =>
    simp [allC] at h
    subst h
    simp
  | succ k ih =>
    rw [allC, List.mem_flatMap] at h
    obtain ⟨n, hn, h⟩ := h
    obtain ⟨d, hd, rfl⟩ := List.mem_map.1 h
    obtain ⟨h1, h2⟩ := ih hd
    refine ⟨by simp [h1], fun j => ?_⟩
    cases j with
    | zero =>
      simp [five] at hn
      simp
      omega
    | succ j => simpa using h2 j
theorem mem_allC {c : List Int} (h : ∀ x ∈ c, -2 ≤ x ∧ x ≤ 2) : c ∈ allC c.length := by
  induction c with
  | nil => simp [allC]
  | cons x c ih =>
    rw [List.length_cons, allC, List.mem_flatMap]
    refine ⟨x, ?_, List.mem_map.2 ⟨c, ih (fun y hy => h y (List.mem_cons_of_mem _ hy)), rfl⟩⟩
    have := h x List.mem_cons_self
    simp [five]
    omega
/-- The sum of the sizes of the first times. -/
def szT (ts : List Int) : Nat → Int
  | 0 => 0
  | k + 1 => szT ts k + sizeOf' (ts[k]?.getD 0)
def szs (ts : List Int) : Int := szT ts ts.length
theorem szT_bd {ts : List Int} (h : ∀ j : Nat, -2 ≤ ts[j]?.getD 0 ∧ ts[j]?.getD 0 ≤ 2) (k : Nat) : 0 ≤ szT ts k ∧ szT ts k ≤ 2 * (k : Int) := by
  induction k with
  | zero => simp [szT]
  | succ k ih =>
    have := h k
    rw [szT, sizeOf_abs]
    omega
/-- What is best of those that came so far; false: none. -/
def mtStep (good : List Int → Bool) (s : List Int × Bool) (t : List Int) : List Int × Bool := if good t = true ∧ (s.2 = true → szs t < szs s.1) then (t, true) else s
def mtF (good : List Int → Bool) (k : Nat) : List Int × Bool := (allC k).foldl (mtStep good) ([], false)
theorem mtStep_none {good : List Int → Bool} {s : List Int × Bool} {t : List Int} (h : (mtStep good s t).2 = false) : s.2 = false ∧ good t = false := by
  unfold mtStep at h
  split at h
  · cases h
  · rename_i hn
    refine ⟨h, ?_⟩
    cases hg : good t with
    | false => rfl
    | true => exact absurd ⟨hg, fun hs => by rw [h] at hs; cases hs⟩ hn
/-- The law of the best: it is good, and no good one has a smaller sum of sizes. -/
theorem mt_inv (good : List Int → Bool) (l : List (List Int)) (s : List Int × Bool) :
    ((l.foldl (mtStep good) s).2 = false → s.2 = false ∧ ∀ t ∈ l, good t = false) ∧
      ((l.foldl (mtStep good) s).2 = true → ((s.2 = true ∧ (l.foldl (mtStep good) s) = s) ∨ ((l.foldl (mtStep good) s).1 ∈ l ∧ good (l.foldl (mtStep good) s).1 = true)) ∧
        (s.2 = true → szs (l.foldl (mtStep good) s).1 ≤ szs s.1) ∧ ∀ t ∈ l, good t = true → szs (l.foldl (mtStep good) s).1 ≤ szs t) := by
  induction l generalizing s with
  | nil => exact ⟨fun h => ⟨h, by simp⟩, fun h => ⟨.inl ⟨h, rfl⟩, fun _ => Int.le_refl _, by simp⟩⟩
  | cons t l ih =>
    obtain ⟨h1, h2⟩ := ih (mtStep good s t)
    rw [List.foldl_cons]
    refine ⟨fun h => ?_, fun h => ?_⟩
    · obtain ⟨a1, a2⟩ := h1 h
      obtain ⟨b1, b2⟩ := mtStep_none a1
      refine ⟨b1, fun u hu => ?_⟩
      rcases List.mem_cons.1 hu with rfl | hu
      · exact b2
      · exact a2 u hu
    · obtain ⟨a1, a2, a3⟩ := h2 h
      generalize l.foldl (mtStep good) (mtStep good s t) = r at *
      by_cases hc : good t = true ∧ (s.2 = true → szs t < szs s.1)
      · have e : mtStep good s t = (t, true) := by unfold mtStep; rw [if_pos hc]
        rw [e] at a1 a2
        have b2 := a2 rfl
        refine ⟨.inr ?_, fun hs => ?_, fun u hu hg => ?_⟩
        · rcases a1 with ⟨_, rfl⟩ | ⟨c1, c2⟩
          · exact ⟨List.mem_cons_self, hc.1⟩
          · exact ⟨List.mem_cons_of_mem _ c1, c2⟩
        · have := hc.2 hs
          dsimp only at b2
          omega
        · rcases List.mem_cons.1 hu with rfl | hu
          · exact b2
          · exact a3 u hu hg
      · have e : mtStep good s t = s := by unfold mtStep; rw [if_neg hc]
        rw [e] at a1 a2
        refine ⟨?_, a2, fun u hu hg => ?_⟩
        · rcases a1 with c1 | ⟨c1, c2⟩
          · exact .inl c1
          · exact .inr ⟨List.mem_cons_of_mem _ c1, c2⟩
        · rcases List.mem_cons.1 hu with rfl | hu
          · by_cases hs : s.2 = true
            · have h3 : ¬ szs u < szs s.1 := fun h4 => hc ⟨hg, fun _ => h4⟩
              have := a2 hs
              omega
            · exact absurd ⟨hg, fun h4 => absurd h4 hs⟩ hc
          · exact a3 u hu hg
/-- Samples with the first waves added. -/
def adS (ws : List (List Int)) (ts : List Int) (t : Nat) : Nat → Int
  | 0 => 0
  | i + 1 => adS ws ts t i + ts[i]?.getD 0 * (ws[i]?.getD [])[t]?.getD 0
def adTo (xs : List Int) (ws : List (List Int)) (ts : List Int) (i : Nat) : List Int := (List.range xs.length).map (fun t => xs[t]?.getD 0 + adS ws ts t i)
theorem adTo_len (xs : List Int) (ws : List (List Int)) (ts : List Int) (i : Nat) : (adTo xs ws ts i).length = xs.length := by simp [adTo]
theorem adTo_get (xs : List Int) (ws : List (List Int)) (ts : List Int) (i t : Nat) (h : t < xs.length) : (adTo xs ws ts i)[t]?.getD 0 = xs[t]?.getD 0 + adS ws ts t i := by
  unfold adTo
  rw [List.getElem?_map, List.getElem?_range h]
  rfl
theorem adTo_zero (xs : List Int) (ws : List (List Int)) (ts : List Int) : adTo xs ws ts 0 = xs := by
  refine List.ext_getElem (adTo_len _ _ _ _) fun t h1 h2 => ?_
  have := adTo_get xs ws ts 0 t h2
  rw [List.getElem?_eq_getElem h1, List.getElem?_eq_getElem h2] at this
  simpa [adS] using this
/-- The first positions of one wave more. -/
def adMid (xs : List Int) (ws : List (List Int)) (ts : List Int) (i p : Nat) : List Int := (adTo xs ws ts (i + 1)).take p ++ (adTo xs ws ts i).drop p
theorem adMid_zero (xs : List Int) (ws : List (List Int)) (ts : List Int) (i : Nat) : adMid xs ws ts i 0 = adTo xs ws ts i := by simp [adMid]
theorem adMid_all (xs : List Int) (ws : List (List Int)) (ts : List Int) (i p : Nat) (h : xs.length ≤ p) : adMid xs ws ts i p = adTo xs ws ts (i + 1) := by
  unfold adMid
  rw [List.take_of_length_le (by rw [adTo_len]; exact h), List.drop_eq_nil_of_le (by rw [adTo_len]; exact h), List.append_nil]
theorem adMid_len (xs : List Int) (ws : List (List Int)) (ts : List Int) (i p : Nat) : (adMid xs ws ts i p).length = xs.length := by
  simp [adMid, adTo_len]
  omega
theorem adMid_get (xs : List Int) (ws : List (List Int)) (ts : List Int) (i p : Nat) (h : p < xs.length) : (adMid xs ws ts i p)[p]?.getD 0 = xs[p]?.getD 0 + adS ws ts p i := by
  unfold adMid
  rw [List.getElem?_append_right (by simp [adTo_len]; omega), List.length_take, adTo_len, Nat.min_eq_left (by omega), Nat.sub_self, List.getElem?_drop, Nat.add_zero, adTo_get _ _ _ _ _ h]
theorem adMid_set (xs : List Int) (ws : List (List Int)) (ts : List Int) (i p : Nat) (h : p < xs.length) :
    (adMid xs ws ts i p).set p (xs[p]?.getD 0 + adS ws ts p i + ts[i]?.getD 0 * (ws[i]?.getD [])[p]?.getD 0) = adMid xs ws ts i (p + 1) := by
  have hl1 : (adTo xs ws ts (i + 1)).length = xs.length := adTo_len _ _ _ _
  have hl2 : (adTo xs ws ts i).length = xs.length := adTo_len _ _ _ _
  unfold adMid
  rw [List.drop_eq_getElem_cons (by omega), List.set_append_right _ _ (by simp; omega), List.length_take, hl1, Nat.min_eq_left (by omega), Nat.sub_self, List.set_cons_zero, List.take_succ_eq_append_getElem (by omega), List.append_assoc]
  congr 1
  have e := adTo_get xs ws ts (i + 1) p h
  rw [List.getElem?_eq_getElem (by omega)] at e
  simp only [Option.getD_some] at e
  rw [e, adS, Int.add_assoc]
  rfl
/-- Whether all numbers are samples. -/
theorem gsT_le (xs : List Int) (M : Int) (hM : 0 ≤ M) (k : Nat) : gsT xs k ≤ M ↔ ∀ j, j < k → -M ≤ xs[j]?.getD 0 ∧ xs[j]?.getD 0 ≤ M := by
  induction k with
  | zero => simp [gsT]; exact hM
  | succ k ih =>
    rw [gsT, sizeOf_abs]
    constructor
    · intro h j hj
      rcases Nat.lt_or_ge j k with h1 | h1
      · exact ih.1 (by omega) j h1
      · obtain rfl : j = k := by omega
        omega
    · intro h
      have h1 := ih.2 (fun j hj => h j (by omega))
      have h2 := h k (by omega)
      omega
end Go.Proofs.Ytiibdndchkbefaa

namespace Go.Proofs.Ytiibdndchkbefaa

theorem eachE_drop {α : Type} (f : α → Int) (l : List α) (d : α) (k : Nat) (h : k < l.length) : firstE ((l.drop k).map f) = if f (l[k]?.getD d) = 0 then firstE ((l.drop (k + 1)).map f) else f (l[k]?.getD d) := by
  rw [List.drop_eq_getElem_cons h, List.map_cons, firstE, List.getElem?_eq_getElem h]
  rfl
theorem firstE_all {l : List Int} (h : firstE l = 0) : ∀ x ∈ l, x = 0 := by
  induction l with
  | nil => simp
  | cons y l ih =>
    rw [firstE] at h
    split at h
    · rename_i hy
      intro x hx
      rcases List.mem_cons.1 hx with rfl | hx
      · exact hy
      · exact ih h x hx
    · exact absurd h (by assumption)
theorem unlessE_zero {b : Bool} {x : Int} (h : unlessE b x = 0) (hx : x ≠ 0) : b = true := by
  cases b
  · exact absurd h hx
  · rfl

/-- The error of an oscillator, of a row of a band, of a band. -/
def oscE (o : Int × Int) : Int := unlessE (wIn o.1 0 3000 && wIn o.2 0 500) 2
theorem oscE_ok {o : Int × Int} (h : oscE o = 0) : (0 ≤ o.1 ∧ o.1 ≤ 3000) ∧ (0 ≤ o.2 ∧ o.2 ≤ 500) := by
  have := unlessE_zero h (by decide)
  rw [Bool.and_eq_true, wIn_iff, wIn_iff] at this
  exact this
def bndE (b : Four) : Int := firstE [oscE b.1, unlessE (wIn b.2.1 0 1000000 && wIn b.2.2 0 1000000) 2, unlessE (decide (b.2.1 ≤ b.2.2)) 9]
theorem bndE_ok {b : Four} (h : bndE b = 0) : oscE b.1 = 0 ∧ (0 ≤ b.2.1 ∧ b.2.1 ≤ 1000000) ∧ (0 ≤ b.2.2 ∧ b.2.2 ≤ 1000000) ∧ b.2.1 ≤ b.2.2 := by
  have h1 := firstE_all h _ (List.mem_cons_self)
  have h2 := unlessE_zero (firstE_all h _ (List.mem_cons_of_mem _ (List.mem_cons_self))) (by decide)
  have h3 := unlessE_zero (firstE_all h _ (List.mem_cons_of_mem _ (List.mem_cons_of_mem _ (List.mem_cons_self)))) (by decide)
  rw [Bool.and_eq_true, wIn_iff, wIn_iff] at h2
  exact ⟨h1, h2.1, h2.2, of_decide_eq_true h3⟩
def bandE (l : List Four) : Int := firstE [unlessE (decide (0 < l.length)) 10, unlessE (decide (l.length ≤ 6)) 8, firstE (l.map bndE)]
theorem bandE_ok {l : List Four} (h : bandE l = 0) : 0 < l.length ∧ l.length ≤ 6 ∧ ∀ k, k < l.length → bndE (l[k]?.getD four0) = 0 := by
  have h1 := unlessE_zero (firstE_all h _ (List.mem_cons_self)) (by decide)
  have h2 := unlessE_zero (firstE_all h _ (List.mem_cons_of_mem _ (List.mem_cons_self))) (by decide)
  have h3 := firstE_all h _ (List.mem_cons_of_mem _ (List.mem_cons_of_mem _ (List.mem_cons_self)))
  refine ⟨of_decide_eq_true h1, of_decide_eq_true h2, fun k hk => ?_⟩
  refine firstE_all h3 _ ?_
  rw [List.getElem?_eq_getElem hk]
  exact List.mem_map_of_mem (List.getElem_mem hk)
/-- The error of a wave for so many samples, of waves, of times. -/
def wavE (n : Nat) (x : List Int) : Int := if x.length = n then (if badS x 0 = none then unlessE (decide (sumT x n = 0 ∧ sumT (sumsF x) n = 0)) 21 else 2) else 10
theorem wavE_ok {n : Nat} {x : List Int} (h : wavE n x = 0) : x.length = n ∧ badS x 0 = none ∧ sumT x n = 0 ∧ sumT (sumsF x) n = 0 := by
  unfold wavE at h
  split at h
  · split at h
    · have := of_decide_eq_true (unlessE_zero h (by decide))
      exact ⟨by assumption, by assumption, this.1, this.2⟩
    · cases h
  · cases h
def wavesE (n : Nat) (ws : List (List Int)) : Int := firstE [unlessE (decide (ws.length ≤ 3)) 8, firstE (ws.map (wavE n))]
theorem wavesE_ok {n : Nat} {ws : List (List Int)} (h : wavesE n ws = 0) : ws.length ≤ 3 ∧ ∀ k, k < ws.length → wavE n (ws[k]?.getD []) = 0 := by
  have h1 := unlessE_zero (firstE_all h _ (List.mem_cons_self)) (by decide)
  have h3 := firstE_all h _ (List.mem_cons_of_mem _ (List.mem_cons_self))
  refine ⟨of_decide_eq_true h1, fun k hk => ?_⟩
  refine firstE_all h3 _ ?_
  rw [List.getElem?_eq_getElem hk]
  exact List.mem_map_of_mem (List.getElem_mem hk)
def timE (t : Int) : Int := unlessE (wIn t (-2) 2) 2
def timesE (m : Nat) (ts : List Int) : Int := firstE [unlessE (decide (ts.length = m)) 10, firstE (ts.map timE)]
theorem timesE_ok {m : Nat} {ts : List Int} (h : timesE m ts = 0) : ts.length = m ∧ ∀ j : Nat, -2 ≤ ts[j]?.getD 0 ∧ ts[j]?.getD 0 ≤ 2 := by
  have h1 := unlessE_zero (firstE_all h _ (List.mem_cons_self)) (by decide)
  have h3 := firstE_all h _ (List.mem_cons_of_mem _ (List.mem_cons_self))
  refine ⟨of_decide_eq_true h1, fun j => ?_⟩
  rcases Nat.lt_or_ge j ts.length with hj | hj
  · have := firstE_all h3 (timE (ts[j]?.getD 0)) (by rw [List.getElem?_eq_getElem hj]; exact List.mem_map_of_mem (List.getElem_mem hj))
    exact wIn_iff.1 (unlessE_zero this (by decide))
  · rw [List.getElem?_eq_none hj]
    simp

/-- Where samples are outside of a band. -/
def pkO (xs : List Int) (o : Int × Int) : Int := gsT (rspTo xs o.1 o.2 xs.length) xs.length
def outB (xs : List Int) (b : Four) : Bool := !(wIn (pkO xs b.1) b.2.1 b.2.2)
def outT (xs : List Int) (l : List Four) (k : Nat) : List Int := ((List.range k).filter (fun i => outB xs (l[i]?.getD four0))).map (fun i => ((i : Nat) : Int))
theorem outT_succ (xs : List Int) (l : List Four) (k : Nat) : outT xs l (k + 1) = if outB xs (l[k]?.getD four0) = true then outT xs l k ++ [(k : Int)] else outT xs l k := by
  unfold outT
  rw [List.range_succ, List.filter_append, List.map_append]
  simp only [List.filter_cons, List.filter_nil]
  split <;> simp
theorem outT_len (xs : List Int) (l : List Four) (k : Nat) : (outT xs l k).length ≤ k := by
  unfold outT
  rw [List.length_map]
  exact Nat.le_trans (List.length_filter_le _ _) (by simp)
/-- Times with which samples are in the band. -/
def goodM (xs : List Int) (ws : List (List Int)) (l : List Four) (ts : List Int) : Bool := decide (gsT (adTo xs ws ts ws.length) xs.length ≤ 1000) && (outT (adTo xs ws ts ws.length) l l.length).isEmpty
theorem rspTo_len (xs : List Int) (st dm : Int) (k : Nat) : (rspTo xs st dm k).length = k := by simp [rspTo]
theorem rspTo_get (xs : List Int) (st dm : Int) (n k : Nat) (h : k < n) : (rspTo xs st dm n)[k]?.getD 0 = (rspT xs st dm (k + 1)).1 := by
  unfold rspTo
  rw [List.getElem?_map, List.getElem?_range h]
  rfl
/-- How great the added samples are. -/
theorem adS_bd {ws : List (List Int)} {ts : List Int} (hw : ∀ i t : Nat, -1000 ≤ (ws[i]?.getD [])[t]?.getD 0 ∧ (ws[i]?.getD [])[t]?.getD 0 ≤ 1000) (ht : ∀ j : Nat, -2 ≤ ts[j]?.getD 0 ∧ ts[j]?.getD 0 ≤ 2) (t i : Nat) :
    -(2000 * (i : Int)) ≤ adS ws ts t i ∧ adS ws ts t i ≤ 2000 * (i : Int) := by
  induction i with
  | zero => simp [adS]
  | succ i ih =>
    rw [adS]
    have h1 := hw i t
    have h2 := ht i
    have := pr_bd (c := ts[i]?.getD 0) (a := (ws[i]?.getD [])[t]?.getD 0) (C := 2) (A := 1000) h2.1 h2.2 h1.1 h1.2
    omega
theorem wavesE_bd {n : Nat} {ws : List (List Int)} (h : wavesE n ws = 0) : ∀ i t : Nat, -1000 ≤ (ws[i]?.getD [])[t]?.getD 0 ∧ (ws[i]?.getD [])[t]?.getD 0 ≤ 1000 := by
  intro i t
  rcases Nat.lt_or_ge i ws.length with hi | hi
  · exact badS_none (wavE_ok ((wavesE_ok h).2 i hi)).2.1 t
  · rw [List.getElem?_eq_none hi]
    simp
end Go.Proofs.Ytiibdndchkbefaa

namespace Go.Proofs.Ytiibdndchkbefaa

/-- The squares of numbers, and the sum of the first ones. -/
def sqL (xs : List Int) (k : Nat) : List Int := (List.range k).map (fun t => xs[t]?.getD 0 * xs[t]?.getD 0)
def eT (xs : List Int) : Nat → Int
  | 0 => 0
  | k + 1 => eT xs k + xs[k]?.getD 0 * xs[k]?.getD 0
theorem sqL_len (xs : List Int) (k : Nat) : (sqL xs k).length = k := by simp [sqL]
theorem sqL_succ (xs : List Int) (k : Nat) : sqL xs (k + 1) = sqL xs k ++ [xs[k]?.getD 0 * xs[k]?.getD 0] := by
  unfold sqL
  rw [List.range_succ, List.map_append]
  rfl
theorem sqL_get (xs : List Int) (k t : Nat) (h : t < k) : (sqL xs k)[t]?.getD 0 = xs[t]?.getD 0 * xs[t]?.getD 0 := by
  unfold sqL
  rw [List.getElem?_map, List.getElem?_range h]
  rfl
theorem sq_bd {x : Int} (h1 : -1000 ≤ x) (h2 : x ≤ 1000) : 0 ≤ x * x ∧ x * x ≤ 1000000 := by
  have e : (x * x).natAbs ≤ 1000 * 1000 := by
    rw [Int.natAbs_mul]
    exact Nat.mul_le_mul (by omega) (by omega)
  have h0 : 0 ≤ x * x := by
    rcases Int.le_total 0 x with h | h
    · exact Int.mul_nonneg h h
    · have := Int.mul_nonneg_of_nonpos_of_nonpos h h
      exact this
  omega
theorem sumT_sqL (xs : List Int) (n k : Nat) (h : k ≤ n) : sumT (sqL xs n) k = eT xs k := by
  induction k with
  | zero => rfl
  | succ k ih => rw [sumT, eT, ih (by omega), sqL_get _ _ _ (by omega)]
theorem eT_bd {xs : List Int} (hb : ∀ j : Nat, -1000 ≤ xs[j]?.getD 0 ∧ xs[j]?.getD 0 ≤ 1000) (k : Nat) : 0 ≤ eT xs k ∧ eT xs k ≤ 1000000 * (k : Int) := by
  induction k with
  | zero => exact ⟨by simp [eT], by simp [eT]⟩
  | succ k ih =>
    have := sq_bd (hb k).1 (hb k).2
    unfold eT
    omega
/-- At an index a share of the energy is reached. -/
def rchP (xs : List Int) (n : Nat) (p q : Int) (t : Nat) : Bool := decide (p * eT xs n ≤ eT xs (t + 1) * q)
theorem rch_ex {xs : List Int} (hb : ∀ j : Nat, -1000 ≤ xs[j]?.getD 0 ∧ xs[j]?.getD 0 ≤ 1000) {n : Nat} (hn : 0 < n) {p q : Int} (h1 : p ≤ q) :
    ∃ t, t < n ∧ rchP xs n p q t = true ∧ ∀ j, j < t → rchP xs n p q j = false := by
  have key : ∀ m, (∃ t, t < m ∧ rchP xs n p q t = true ∧ ∀ j, j < t → rchP xs n p q j = false) ∨ ∀ j, j < m → rchP xs n p q j = false := by
    intro m
    induction m with
    | zero => exact .inr fun j hj => by omega
    | succ m ih =>
      rcases ih with ⟨t, a1, a2, a3⟩ | h
      · exact .inl ⟨t, by omega, a2, a3⟩
      · rcases hm : rchP xs n p q m with _ | _
        · refine .inr fun j hj => ?_
          rcases Nat.lt_or_ge j m with h' | h'
          · exact h j h'
          · obtain rfl : j = m := by omega
            exact hm
        · exact .inl ⟨m, by omega, hm, h⟩
  rcases key n with h | h
  · exact h
  · exfalso
    have h2 := h (n - 1) (by omega)
    unfold rchP at h2
    rw [show n - 1 + 1 = n by omega] at h2
    have h3 := of_decide_eq_false h2
    have h4 := Int.mul_le_mul_of_nonneg_right h1 (eT_bd hb n).1
    apply h3
    rw [Int.mul_comm (eT xs n) q]
    exact h4
/-- A smaller share is reached no later. -/
theorem rch_mono {xs : List Int} {n : Nat} {p q p' q' : Int} (hb : ∀ j : Nat, -1000 ≤ xs[j]?.getD 0 ∧ xs[j]?.getD 0 ≤ 1000) (hq : 0 < q) (hq' : 0 < q') (h : p * q' ≤ p' * q) {t t' : Nat}
    (h1 : ∀ j, j < t → rchP xs n p q j = false) (h2 : rchP xs n p' q' t' = true) : t ≤ t' := by
  rcases Nat.lt_or_ge t' t with hlt | hge
  · exfalso
    have h3 := of_decide_eq_false (h1 t' hlt)
    have h4 := of_decide_eq_true h2
    have hw := (eT_bd hb n).1
    generalize eT xs n = w at *
    generalize eT xs (t' + 1) = e at *
    apply h3
    have a1 := Int.mul_le_mul_of_nonneg_right h hw
    have a2 := Int.mul_le_mul_of_nonneg_right h4 (Int.le_of_lt hq)
    refine Int.le_of_mul_le_mul_right (a := q') ?_ hq'
    grind
  · exact hge
/-- The error of a share, and of two. -/
def shrE (p q : Int) : Int := firstE [unlessE (isLow p q) 3, unlessE (wIn p 0 q && decide (q ≤ 1000)) 2]
theorem shrE_ok {p q : Int} (h : shrE p q = 0) : 0 ≤ p ∧ p ≤ q ∧ 0 < q ∧ q ≤ 1000 := by
  unfold shrE at h
  have h1 : isLow p q = true := by
    cases hl : isLow p q
    · rw [hl] at h; cases h
    · rfl
  rw [h1] at h
  have h2 : (wIn p 0 q && decide (q ≤ 1000)) = true := by
    cases hl : (wIn p 0 q && decide (q ≤ 1000))
    · rw [hl] at h; cases h
    · rfl
  rw [Bool.and_eq_true, wIn_iff] at h2
  have := of_decide_eq_true h2.2
  unfold isLow at h1
  rw [Bool.and_eq_true] at h1
  have := of_decide_eq_true h1.1
  omega
end Go.Proofs.Ytiibdndchkbefaa

namespace Go.Proofs.Ytiibdndchkbefaa

/-- A fraction in lowest terms. -/
def fracF (x y : Int) : Int × Int := (x.tdiv (Int.gcd x y), y.tdiv (Int.gcd x y))
/-- The fraction in lowest terms. -/
theorem fracF_low (x y : Int) (hy : 0 < y) : isLow (fracF x y).1 (fracF x y).2 = true := by
  have hg : 0 < Int.gcd x y := Int.gcd_pos_of_ne_zero_right x (by omega)
  have hgI : (0 : Int) < (Int.gcd x y : Int) := by omega
  obtain ⟨a, ha⟩ := Int.gcd_dvd_left x y
  obtain ⟨b, hb⟩ := Int.gcd_dvd_right x y
  have e1 : x.tdiv (Int.gcd x y) = a := by
    conv => lhs; arg 1; rw [ha]
    exact Int.mul_tdiv_cancel_left a (by omega)
  have e2 : y.tdiv (Int.gcd x y) = b := by
    conv => lhs; arg 1; rw [hb]
    exact Int.mul_tdiv_cancel_left b (by omega)
  unfold fracF isLow
  rw [e1, e2]
  have h3 : Int.gcd ((Int.gcd x y : Int) * a) ((Int.gcd x y : Int) * b) = Int.gcd x y * Int.gcd a b := by
    rw [Int.gcd_mul_left]
    simp
  rw [← ha, ← hb] at h3
  have h4 : Int.gcd a b = 1 := by
    have : Int.gcd x y * Int.gcd a b = Int.gcd x y * 1 := by rw [← h3, Nat.mul_one]
    exact Nat.eq_of_mul_eq_mul_left hg this
  have h5 : 0 < b := by
    rcases Int.lt_or_le 0 b with h | h
    · exact h
    · have := Int.mul_le_mul_of_nonneg_left h (by omega : 0 ≤ (Int.gcd x y : Int))
      omega
  rw [h4, decide_eq_true h5]
  rfl
theorem fracF_parts (x y : Int) (hy : 0 < y) : ∃ g : Int, 0 < g ∧ x = g * (fracF x y).1 ∧ y = g * (fracF x y).2 := by
  have hg : 0 < Int.gcd x y := Int.gcd_pos_of_ne_zero_right x (by omega)
  obtain ⟨a, ha⟩ := Int.gcd_dvd_left x y
  obtain ⟨b, hb⟩ := Int.gcd_dvd_right x y
  have e1 : x.tdiv (Int.gcd x y) = a := by
    conv => lhs; arg 1; rw [ha]
    exact Int.mul_tdiv_cancel_left a (by omega)
  have e2 : y.tdiv (Int.gcd x y) = b := by
    conv => lhs; arg 1; rw [hb]
    exact Int.mul_tdiv_cancel_left b (by omega)
  refine ⟨Int.gcd x y, by omega, ?_, ?_⟩
  · show x = (Int.gcd x y : Int) * x.tdiv (Int.gcd x y); rw [e1]; exact ha
  · show y = (Int.gcd x y : Int) * y.tdiv (Int.gcd x y); rw [e2]; exact hb
theorem fracF_bd (x y : Int) (hy : 0 < y) (B : Int) (hx1 : -B ≤ x) (hx2 : x ≤ B) (hyB : y ≤ B) : -B ≤ (fracF x y).1 ∧ (fracF x y).1 ≤ B ∧ 0 < (fracF x y).2 ∧ (fracF x y).2 ≤ B := by
  obtain ⟨g, hg, h1, h2⟩ := fracF_parts x y hy
  generalize (fracF x y).1 = a at *
  generalize (fracF x y).2 = b at *
  have h3 := Int.natAbs_mul g a
  have h4 := Int.natAbs_mul g b
  rw [← h1] at h3
  rw [← h2] at h4
  have h5 : a.natAbs ≤ g.natAbs * a.natAbs := Nat.le_mul_of_pos_left _ (by omega)
  have h6 : b.natAbs ≤ g.natAbs * b.natAbs := Nat.le_mul_of_pos_left _ (by omega)
  have h7 : 0 < b := by
    rcases Int.lt_or_le 0 b with h | h
    · exact h
    · have := Int.mul_le_mul_of_nonneg_left h (by omega : 0 ≤ g)
      omega
  omega

/-- The lesser of two fractions, the first if they are equal. -/
def minQ (b f : Int × Int) : Int × Int := if f.1 * b.2 < b.1 * f.2 then f else b
/-- The least of fractions, the first of equal ones. -/
def minL : List (Int × Int) → Int × Int
  | [] => (0, 0)
  | b :: l => l.foldl minQ b
theorem minQ_lt {b1 b2 f1 f2 x p : Int} (hb : 0 < b2) (hf : 0 < f2) (hp : 0 ≤ p) (h1 : b1 * p ≤ x * b2) (h2 : f1 * b2 < b1 * f2) : f1 * p ≤ x * f2 := by
  have a1 := Int.mul_le_mul_of_nonneg_right (Int.le_of_lt h2) hp
  have a2 := Int.mul_le_mul_of_nonneg_right h1 (Int.le_of_lt hf)
  refine Int.le_of_mul_le_mul_right (a := b2) ?_ hb
  grind
theorem minQ_ge {b1 b2 f1 f2 g x p : Int} (hg : 0 < g) (hx : x = g * f1) (hp : p = g * f2) (h : ¬ f1 * b2 < b1 * f2) : b1 * p ≤ x * b2 := by
  have a1 := Int.mul_le_mul_of_nonneg_left (Int.not_lt.1 h) (Int.le_of_lt hg)
  subst hx hp
  grind
theorem frac_eq {x p : Int} (hp : 0 < p) : (fracF x p).1 * p = x * (fracF x p).2 := by
  obtain ⟨g, hg, h1, h2⟩ := fracF_parts x p hp
  generalize (fracF x p).1 = a at *
  generalize (fracF x p).2 = b at *
  subst h1 h2
  grind
/-- A further limit: if the peak is above 0, the lesser of both. -/
def scS (b : Int × Int) (x p : Int) : Int × Int := if 0 < p then minQ b (fracF x p) else b
/-- The greatest scale for three limits, of which the first peak is above 0. -/
def scF (xa xv xd a v d : Int) : Int × Int := scS (scS (fracF xa a) xv v) xd d
theorem scS_ok {b : Int × Int} {x p : Int} (hb : 0 < b.2) (h0 : 0 ≤ p) (hx : 0 ≤ x) :
    0 < (scS b x p).2 ∧ (scS b x p).1 * p ≤ x * (scS b x p).2 ∧ (∀ y q : Int, 0 ≤ q → b.1 * q ≤ y * b.2 → (scS b x p).1 * q ≤ y * (scS b x p).2) ∧ (scS b x p = b ∨ 0 < p ∧ (scS b x p).1 * p = x * (scS b x p).2) := by
  unfold scS
  by_cases hp : 0 < p
  · rw [if_pos hp]
    obtain ⟨g, hg, h1, h2⟩ := fracF_parts x p hp
    have h3 := frac_eq (x := x) hp
    have hf : 0 < (fracF x p).2 := by
      rcases Int.lt_or_le 0 (fracF x p).2 with h | h
      · exact h
      · have := Int.mul_le_mul_of_nonneg_left h (Int.le_of_lt hg)
        omega
    unfold minQ
    by_cases hm : (fracF x p).1 * b.2 < b.1 * (fracF x p).2
    · rw [if_pos hm]
      exact ⟨hf, Int.le_of_eq h3, fun y q hq h => minQ_lt hb hf hq h hm, .inr ⟨hp, h3⟩⟩
    · rw [if_neg hm]
      exact ⟨hb, minQ_ge hg h1 h2 hm, fun y q hq h => h, .inl rfl⟩
  · rw [if_neg hp]
    obtain rfl : p = 0 := by omega
    refine ⟨hb, ?_, fun y q hq h => h, .inl rfl⟩
    have := Int.mul_nonneg hx (Int.le_of_lt hb)
    omega
theorem scS_bd {b : Int × Int} {x p B : Int} (h1 : -B ≤ x) (h2 : x ≤ B) (h3 : p ≤ B) (hb : -B ≤ b.1 ∧ b.1 ≤ B ∧ 0 < b.2 ∧ b.2 ≤ B) : -B ≤ (scS b x p).1 ∧ (scS b x p).1 ≤ B ∧ 0 < (scS b x p).2 ∧ (scS b x p).2 ≤ B := by
  unfold scS
  split
  · have := fracF_bd x p (by assumption) B h1 h2 h3
    unfold minQ
    split
    · exact this
    · exact hb
  · exact hb
theorem scF_ok {xa xv xd a v d : Int} (ha : 0 < a) (hv : 0 ≤ v) (hd : 0 ≤ d) (h1 : 0 ≤ xa) (h2 : 0 ≤ xv) (h3 : 0 ≤ xd) {p q : Int} (e1 : (scF xa xv xd a v d).1 = p) (e2 : (scF xa xv xd a v d).2 = q) :
    p * a ≤ xa * q ∧ p * v ≤ xv * q ∧ p * d ≤ xd * q ∧ (p * a = xa * q ∨ (0 < v ∧ p * v = xv * q) ∨ (0 < d ∧ p * d = xd * q)) := by
  subst e1 e2
  obtain ⟨g, hg, i1, i2⟩ := fracF_parts xa a ha
  have hf : 0 < (fracF xa a).2 := by
    rcases Int.lt_or_le 0 (fracF xa a).2 with h | h
    · exact h
    · have := Int.mul_le_mul_of_nonneg_left h (Int.le_of_lt hg)
      omega
  have hq := frac_eq (x := xa) ha
  obtain ⟨a1, a2, a3, a4⟩ := scS_ok (x := xv) (p := v) hf hv h2
  obtain ⟨b1, b2, b3, b4⟩ := scS_ok (x := xd) (p := d) a1 hd h3
  unfold scF
  refine ⟨b3 _ _ (Int.le_of_lt ha) (a3 _ _ (Int.le_of_lt ha) (Int.le_of_eq hq)), b3 _ _ hv a2, b2, ?_⟩
  rcases b4 with b4 | b4
  · rw [b4]
    rcases a4 with a4 | a4
    · rw [a4]
      exact .inl hq
    · exact .inr (.inl a4)
  · exact .inr (.inr b4)
theorem scF_bd {xa xv xd a v d B : Int} (ha : 0 < a) (h1 : 0 ≤ xa) (h2 : 0 ≤ xv) (h3 : 0 ≤ xd) (k1 : xa ≤ B) (k2 : xv ≤ B) (k3 : xd ≤ B) (k4 : a ≤ B) (k5 : v ≤ B) (k6 : d ≤ B) {p q : Int} (e1 : (scF xa xv xd a v d).1 = p) (e2 : (scF xa xv xd a v d).2 = q) :
    -B ≤ p ∧ p ≤ B ∧ 0 < q ∧ q ≤ B := by
  subst e1 e2
  exact scS_bd (by omega) k3 k6 (scS_bd (by omega) k2 k5 (fracF_bd _ _ ha B (by omega) k1 k4))
/-- The fractions of peaks above 0. -/
def scL (xa xv xd a v d : Int) : List (Int × Int) := (if 0 < a then [fracF xa a] else []) ++ (if 0 < v then [fracF xv v] else []) ++ (if 0 < d then [fracF xd d] else [])
theorem minL_scL {xa xv xd a v d : Int} (ha : 0 < a) : minL (scL xa xv xd a v d) = scF xa xv xd a v d := by
  unfold scL scF scS
  rw [if_pos ha]
  by_cases hv : 0 < v <;> by_cases hd : 0 < d <;> simp [hv, hd, minL]
theorem gsT_zero {xs : List Int} {n : Nat} (h : gsT xs n = 0) : ∀ j, j < n → xs[j]?.getD 0 = 0 := by
  induction n with
  | zero => intro j hj; omega
  | succ n ih =>
    unfold gsT at h
    have hn : 0 ≤ gsT xs n := by
      clear ih h
      induction n with
      | zero => simp [gsT]
      | succ k ih => unfold gsT; omega
    unfold sizeOf' at h
    intro j hj
    rcases Nat.lt_or_ge j n with hj' | hj'
    · exact ih (by omega) j hj'
    · obtain rfl : j = n := by omega
      omega
theorem zero_gsT {xs : List Int} {n : Nat} (h : ∀ j, j < n → xs[j]?.getD 0 = 0) : gsT xs n = 0 := by
  induction n with
  | zero => rfl
  | succ n ih =>
    unfold gsT
    rw [ih (fun j hj => h j (by omega)), h n (by omega)]
    rfl
theorem zero_sums {xs : List Int} {n : Nat} (hn : n ≤ xs.length) (h : ∀ j, j < n → xs[j]?.getD 0 = 0) : ∀ j, j < n → (sumsF xs)[j]?.getD 0 = 0 := by
  intro j hj
  rw [sumsF_get xs j (by omega)]
  have : ∀ k, k ≤ n → sumT xs k = 0 := by
    intro k hk
    induction k with
    | zero => rfl
    | succ k ih => rw [sumT, ih (by omega), h k (by omega)]; rfl
  exact this (j + 1) (by omega)
/-- Without accelerations there are no velocities nor displacements. -/
theorem peaks_zero {xs : List Int} {n : Nat} (hn : xs.length = n) (h : gsT xs n = 0) : gsT (sumsF xs) n = 0 ∧ gsT (sumsF (sumsF xs)) n = 0 := by
  have h1 := gsT_zero h
  have h2 := zero_sums (by omega) h1
  have h3 := zero_sums (by rw [sumsF_len]; omega) h2
  exact ⟨zero_gsT h2, zero_gsT h3⟩
end Go.Proofs.Ytiibdndchkbefaa

namespace Go.Proofs.Ytiibdndchkbefaa
open Go.RowKit
open Calmly (Kept)

set_option maxHeartbeats 400000 in
theorem nWithin_any (n lo hi : Int) (w : World) :
    Calls Try.prog 94 #[.int .i64 n, .int .i64 lo, .int .i64 hi] w fun e w' => e = .returned (.bool (wIn n lo hi)) ∧ w = w' := by
  go_enter Try.func94, Try.ntmps94
  go_wp2
  · go_ret
    refine ⟨ret_bool ?_, rfl⟩
    have h : lo ≤ n := by assumption
    simp [wIn, h]
  · go_ret
    refine ⟨ret_bool ?_, rfl⟩
    have : wIn n lo hi = false := wIn_false.2 (.inl (by assumption))
    rw [this]

theorem nSized_any (n m : Int) (w : World) (h1 : -9223372036854775807 ≤ m) (h2 : m ≤ 9223372036854775807) :
    Calls Try.prog 147 #[.int .i64 n, .int .i64 m] w fun e w' => e = .returned (.bool (wIn n (-m) m)) ∧ w = w' := by
  go_enter Try.func147, Try.ntmps147
  go_wp2_with fail
  refine (nWithin_any n (-m) m _).mono ?_
  rintro e w1 ⟨rfl, rfl⟩
  go_wp2_with fail
  go_ret
  exact ⟨rfl, rfl⟩

theorem nUnless_any (b : Bool) (x : Int) (w : World) :
    Calls Try.prog 90 #[.bool b, .int .i64 x] w fun e w' => e = .returned (.int .i64 (unlessE b x)) ∧ w = w' := by
  cases b
  · go_enter Try.func90, Try.ntmps90
    go_wp2
    go_ret
    exact ⟨rfl, rfl⟩
  · go_enter Try.func90, Try.ntmps90
    go_wp2
    go_ret
    exact ⟨rfl, rfl⟩

set_option maxRecDepth 100000 in
set_option maxHeartbeats 400000 in
theorem nFirst_any (a : Option Addr) (n c : Nat) (xs : List Int) (w : World) (h1 : SI w a n c xs) :
    Calls Try.prog 82 #[.slice a n c] w fun e w' => e = .returned (.int .i64 (firstE xs)) ∧ w = w' := by
  obtain ⟨l1, l2⟩ : n ≤ xs.length ∧ xs.length ≤ n := by have := h1.len; omega
  have m1 := h1.max
  have c1 := h1.cap
  go_enter Try.func82, Try.ntmps82
  go_wp2
  go_loop [7] (fun i => ∃ k : Nat, k ≤ n ∧ i = .int .i64 k ∧ firstE xs = firstE (xs.drop k)) (fun i => n - (intOf i).toNat)
  case atStart => exact ⟨0, by omega, rfl, rfl⟩
  case round =>
    obtain ⟨k, hk, rfl, ht⟩ := hrel
    have HT := Lib.hid ht
    clear ht
    by_cases hlt : k < n
    · obtain ⟨b1, o1, rfl, hc1⟩ := h1.at_ (by omega)
      have e1 := hc1 k hlt
      clear hc1
      have hd := firstE_drop xs k (by omega)
      have HD := Lib.hid hd
      clear hd
      have hi : (k : Int) < (n : Int) := by omega
      have hi0 : (0 : Int) ≤ (k : Int) := by omega
      go_wp2
      · have hne : (xs[k]?.getD 0 != 0) = true := by assumption
        go_ret
        refine ⟨ret_int ?_, rfl⟩
        rw [HT.out, HD.out, if_neg (by simpa using hne)]
      · have hne : (xs[k]?.getD 0 != 0) = false := by assumption
        go_round
        case rel => exact ⟨k + 1, by omega, by go_num, by rw [HT.out, HD.out, if_pos (by simpa using hne)]⟩
        case measure => simp [intOf]; omega
    · have hle : (n : Int) ≤ (k : Int) := by omega
      go_wp2
      go_ret
      refine ⟨ret_int ?_, rfl⟩
      rw [HT.out, List.drop_eq_nil_of_le (by omega)]
      rfl

set_option maxHeartbeats 400000 in
theorem nSize_any (n : Int) (w : World) (h1 : -9223372036854775807 ≤ n) (h2 : n ≤ 9223372036854775807) :
    Calls Try.prog 146 #[.int .i64 n] w fun e w' => e = .returned (.int .i64 n.natAbs) ∧ w = w' := by
  by_cases h : n < -n
  · go_enter Try.func146, Try.ntmps146
    go_wp2
    go_ret
    exact ⟨ret_int (by show -n = _; omega), rfl⟩
  · go_enter Try.func146, Try.ntmps146
    go_wp2
    go_ret
    exact ⟨ret_int (by show n = _; omega), rfl⟩

set_option maxRecDepth 100000 in
set_option maxHeartbeats 1000000 in
theorem nDivisor_any (a : Option Addr) (n c : Nat) (xs : List Int) (w : World) (h1 : SI w a n c xs) (hb : ∀ x ∈ xs, -9223372036854775807 ≤ x ∧ x ≤ 9223372036854775807) :
    Calls Try.prog 125 #[.slice a n c] w fun e w' => e = .returned (.int .i64 (gcds xs)) ∧ ∃ n, w' = w.drewN n := by
  obtain ⟨l1, l2⟩ : n ≤ xs.length ∧ xs.length ≤ n := by have := h1.len; omega
  have m1 := h1.max
  have c1 := h1.cap
  have HB := Lib.hid hb
  clear hb
  go_enter Try.func125, Try.ntmps125
  go_wp2
  go_loopw [3, 8] (fun g i wr => ∃ (k : Nat) (p : Int), k ≤ n ∧ i = .int .i64 k ∧ g = .int .i64 p ∧ p.natAbs = gcds (xs.take k) ∧ -9223372036854775807 ≤ p ∧ p ≤ 9223372036854775807 ∧ ∃ n, wr = w.drewN n) (fun _ i _ => n - (intOf i).toNat)
  case atStart => exact ⟨0, 0, by omega, rfl, rfl, rfl, by omega, by omega, 0, rfl⟩
  case round =>
    obtain ⟨k, p, hk, rfl, rfl, hg, hp1, hp2, q, rfl⟩ := hrel
    have HG := Lib.hid hg
    clear hg
    by_cases hlt : k < n
    · obtain ⟨b1, o1, rfl, hc1⟩ := h1.at_ (by omega)
      have e1 := hc1 k hlt
      clear hc1
      have hd := gcds_take xs k (by omega)
      rw [← HG.out] at hd
      have HD := Lib.hid hd
      clear hd
      have hx : -9223372036854775807 ≤ xs[k]?.getD 0 ∧ xs[k]?.getD 0 ≤ 9223372036854775807 := by
        have : k < xs.length := by omega
        simp only [List.getElem?_eq_getElem this, Option.getD_some]
        exact HB.out _ (List.getElem_mem this)
      obtain ⟨hx1, hx2⟩ := hx
      generalize xs[k]?.getD 0 = x at *
      have hi : (k : Int) < (n : Int) := by omega
      have hi0 : (0 : Int) ≤ (k : Int) := by omega
      go_wp2_with fail
      go_loopw [3, 5] (fun g y wr => ∃ (u v : Int), g = .int .i64 u ∧ y = .int .i64 v ∧ Int.gcd u v = Int.gcd p x ∧ -9223372036854775807 ≤ u ∧ u ≤ 9223372036854775807 ∧ -9223372036854775807 ≤ v ∧ v ≤ 9223372036854775807 ∧ ∃ n, wr = w.drewN n) (fun _ y _ => (intOf y).natAbs)
      case atStart => exact ⟨p, x, rfl, rfl, rfl, hp1, hp2, hx1, hx2, q, rfl⟩
      case round =>
        obtain ⟨u, v, rfl, rfl, hg, hu1, hu2, hv1, hv2, q', rfl⟩ := hrel
        have HG2 := Lib.hid hg
        clear hg
        by_cases hz : v = 0
        · have hb : (v != 0) = false := by simp [hz]
          have Hz := Lib.hid hz
          clear hz
          go_wp2_with fail
          go_round
          case rel =>
            refine ⟨k + 1, u, by omega, by go_num, rfl, ?_, hu1, hu2, q', rfl⟩
            have := HG2.out
            rw [Hz.out] at this
            have h3 := HD.out
            rw [Int.gcd] at h3 this
            simp at h3 this
            rw [h3, this, Int.gcd]
          case measure => simp [intOf]; omega
        · have hb : (v != 0) = true := by simpa using hz
          have h1 := tmod_bd (a := u) hz hv1 hv2
          have h2 := tmod_lt (a := u) hz
          have hc : (v == 0) = false := by simpa using hz
          go_wp2_with fail
          refine Calmly.wp_region_mix 5 (.fl 0 <| .fl 1 <| .fl 2 <| .fl 3 <| .fl 4 <| .tail [5]) (by kernel_rfl) (by kernel_rfl) ?_
          go_wp2_with (first | ((with_reducible refine Calmly.is_fl ?_); refine Calmly.mix_fl rfl ?_ (fun _ _ => ?_); (first | exact .move _ | exact .load _ _ | exact .fieldAddr _ _ _ (by kernel_rfl) | exact .assign _ | exact .binOp _ _ _ _ _ rfl | exact .indexAddr _ _ _ | exact .len _ _ (by kernel_rfl) | exact .field _ _ _ | exact .extract _ _ | exact .pick _ _ _ | exact .build _ _ | exact .slice _ _ _ _ _ | exact .unOp _ _ _ rfl | exact .index _ _ _ | exact .max _ _ _ rfl rfl | exact .min _ _ _ rfl rfl)) | ((with_reducible refine Calmly.is_gl ?_); refine Calmly.mix_gl rfl rfl rfl ?_; first | ((first | with_reducible refine Calmly.gl_tt ?_ (fun _ _ => ?_) | with_reducible refine Calmly.gl_ff ?_ (fun _ _ => ?_)); (first | exact .move _ | exact .load _ _ | exact .fieldAddr _ _ _ (by kernel_rfl) | exact .assign _ | exact .binOp _ _ _ _ _ rfl | exact .indexAddr _ _ _ | exact .len _ _ (by kernel_rfl) | exact .field _ _ _ | exact .extract _ _ | exact .pick _ _ _ | exact .build _ _ | exact .slice _ _ _ _ _ | exact .unOp _ _ _ rfl | exact .index _ _ _ | exact .max _ _ _ rfl rfl | exact .min _ _ _ rfl rfl)) | with_reducible refine Calmly.gl_tf (fun _ _ => ?_) | with_reducible refine Calmly.gl_ft (fun _ _ => ?_)) | ((with_reducible refine Calmly.is_eff ?_); refine Calmly.mix_eff rfl (fun _ _ => ?_)) | ((with_reducible refine Calmly.is_gf ?_); refine Calmly.mix_gf rfl rfl rfl ?_; first | with_reducible refine Calmly.gf_tt (fun _ _ => ?_) | with_reducible refine Calmly.gf_ff (fun _ _ => ?_) | with_reducible refine Calmly.gf_tf (kept_of hk) (fun _ _ => ?_) | with_reducible refine Calmly.gf_ft (kept_of hk) (fun _ _ => ?_)) | ((with_reducible refine Calmly.is_tail ?_); first | refine Calmly.mix_tail_nil ?_ | refine Calmly.mix_tail rfl (fun _ _ => ?_)) | ((with_reducible refine Calmly.is_kept ?_); refine ⟨kept_of hk, ?_⟩) | (with_reducible refine Calmly.mix_alt ?_ ?_))
          go_roundw
          case rel => exact ⟨v, u.tmod v, rfl, rfl, by rw [gcd_step]; exact HG2.out, hv1, hv2, h1.1, h1.2, q' + 1, rfl⟩
          case measure => simpa [intOf] using h2
    · have hle : (n : Int) ≤ (k : Int) := by omega
      go_wp2_with fail
      refine (nSize_any p _ hp1 hp2).mono ?_
      rintro e w1 ⟨rfl, rfl⟩
      go_wp2_with fail
      go_ret
      refine ⟨ret_int ?_, q, rfl⟩
      have := HG.out
      rw [List.take_of_length_le (by omega)] at this
      rw [← this]
end Go.Proofs.Ytiibdndchkbefaa

namespace Go.Proofs.Ytiibdndchkbefaa
open Go.RowKit
open Calmly (Kept)

set_option maxHeartbeats 400000 in
theorem isSample_any (x : Int) (w : World) : Calls Try.prog 97 #[.int .i64 x] w fun e w' => e = .returned (.bool (smp x)) ∧ w = w' := by
  go_enter Try.func97, Try.ntmps97
  go_wp2_with fail
  refine (nSized_any x 1000 _ (by omega) (by omega)).mono ?_
  rintro e w1 ⟨rfl, rfl⟩
  go_wp2_with fail
  go_ret
  exact ⟨rfl, rfl⟩
set_option maxHeartbeats 400000 in
theorem noSample_any (x : Int) (w : World) : Calls Try.prog 96 #[.int .i64 x] w fun e w' => e = .returned (.bool (!smp x)) ∧ w = w' := by
  go_enter Try.func96, Try.ntmps96
  go_wp2_with fail
  refine (isSample_any x _).mono ?_
  rintro e w1 ⟨rfl, rfl⟩
  go_wp2_with fail
  go_ret
  exact ⟨rfl, rfl⟩

/-- The index as the program has it. -/
def badI (xs : List Int) : Int := match badS xs 0 with | none => -1 | some i => (i : Int)

set_option maxRecDepth 100000 in
set_option maxHeartbeats 1000000 in
theorem indexBad_any (a : Option Addr) (n c : Nat) (xs : List Int) (w : World) (h1 : SI w a n c xs) :
    Calls Try.prog 95 #[.slice a n c, .func (.func 96) #[] #[]] w fun e w' => e = .returned (.int .i64 (badI xs)) ∧ w = w' := by
  obtain ⟨l1, l2⟩ : n ≤ xs.length ∧ xs.length ≤ n := by have := h1.len; omega
  have m1 := h1.max
  have c1 := h1.cap
  obtain ⟨R, hR⟩ : ∃ R, badI xs = R := ⟨_, rfl⟩
  rw [hR]
  have HR := Lib.hid hR
  clear hR
  go_enter Try.func95, Try.ntmps95
  go_wp2_with fail
  go_loop [8] (fun i => ∃ k : Nat, k ≤ n ∧ i = .int .i64 k ∧ badS xs 0 = badS (xs.drop k) k) (fun i => n - (intOf i).toNat)
  case atStart => exact ⟨0, by omega, rfl, rfl⟩
  case round =>
    obtain ⟨k, hk, rfl, ht⟩ := hrel
    have HT := Lib.hid ht
    clear ht
    by_cases hlt : k < n
    · obtain ⟨b1, o1, rfl, hc1⟩ := h1.at_ (by omega)
      have e1 := hc1 k hlt
      clear hc1
      have hi : (k : Int) < (n : Int) := by omega
      have hi0 : (0 : Int) ≤ (k : Int) := by omega
      have hd := badS_drop xs k (by omega)
      obtain ⟨x, hxx⟩ : ∃ x, xs[k]?.getD 0 = x := ⟨_, rfl⟩
      rw [hxx] at e1 hd
      have HD := Lib.hid hd
      clear hxx hd
      go_wp2_with fail
      refine (noSample_any _ _).mono ?_
      rintro e w1 ⟨rfl, rfl⟩
      cases ho : smp x
      · go_wp2_with fail
        go_ret
        refine ⟨ret_int ?_, rfl⟩
        rw [← HR.out, badI, HT.out, HD.out, ho]
        rfl
      · go_wp2_with fail
        go_round
        case rel => exact ⟨k + 1, by omega, by go_num, by rw [HT.out, HD.out, ho]; rfl⟩
        case measure => simp [intOf]; omega
    · have hle : (n : Int) ≤ (k : Int) := by omega
      go_wp2_with fail
      go_ret
      refine ⟨ret_int ?_, rfl⟩
      rw [← HR.out, badI, HT.out, List.drop_eq_nil_of_le (by omega)]
      rfl
end Go.Proofs.Ytiibdndchkbefaa

namespace Go.Calmly
section
variable {P : Program} {ops : Array Oper} {Q : Exit → Act → World → Prop} {w0 : World}
theorem wanted_un {o : Oper} {g d : Nat} {want : Bool} {a : Act} (hg : o.guard = some (g, want)) (hd : (ops[g]?).bind (·.dst) = some d) (hv : a.tmps[d]? = some undef) :
    Region.wanted o (yielded ops a.tmps) = false := by
  simp only [Region.wanted, hg, yielded, hd, Option.bind_some, hv]
  cases want <;> rfl
theorem mix_glu {i : Nat} {k : Plan} {dst : Option Tmp} {op : Op} {ty : TypeId} {pos : String} {after : Array Edge} {a : Act} {w : World} {g d : Nat} {want : Bool} (hi : ops[i]? = some ⟨dst, op, ty, pos, after, some (g, want)⟩) (hd : (ops[g]?).bind (·.dst) = some d) (hv : a.tmps[d]? = some undef)
    (h : ∀ K : Act → World → Prop, (∀ a', WpMix P ops Q w0 k a' w → K a' w0) → Oper.wp P ⟨dst, .assign (.const undef), ty, pos, after, none⟩ a w0 K NoQ) : WpMix P ops Q w0 (.gl i k) a w := by
  refine ⟨?_⟩
  have hw := wanted_un (o := ⟨dst, op, ty, pos, after, some (g, want)⟩) rfl hd hv
  simp only [Plan.gl, wpMix, hi, hw, Bool.false_eq_true, if_false]
  exact h (fun a' _ => wpMix P ops Q w0 k a' w) (fun _ hh => hh.out)
theorem mix_gfu {i : Nat} {k : Plan} {dst : Option Tmp} {op : Op} {ty : TypeId} {pos : String} {after : Array Edge} {a : Act} {w : World} {g d : Nat} {want : Bool} (hi : ops[i]? = some ⟨dst, op, ty, pos, after, some (g, want)⟩) (hd : (ops[g]?).bind (·.dst) = some d) (hv : a.tmps[d]? = some undef) (hk : Kept w0 w)
    (h : ∀ K : Act → World → Prop, (∀ a', WpMix P ops Q w0 k a' w → K a' w) → Oper.wp P ⟨dst, .assign (.const undef), ty, pos, after, none⟩ a w K NoQ) : WpMix P ops Q w0 (.gf i k) a w := by
  refine ⟨?_⟩
  show wpOp P ops NoQ i (fun a' w' => Kept w0 w' ∧ wpMix P ops Q w0 k a' w') a w
  exact op_off (K := fun a' w' => Kept w0 w' ∧ wpMix P ops Q w0 k a' w') hi (wanted_un rfl hd hv) ⟨hk, h (fun a' _ => wpMix P ops Q w0 k a' w) (fun _ hh => hh.out)⟩
end
end Go.Calmly
