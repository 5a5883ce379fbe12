/- Plain law of chapter 2: samples, sums, ends, peaks and responses. Contracts of chapter 2: which records are valid. A region walked by a plan: an operation whose guard is itself an operation that was not carried out. Contracts of chapter 2: the error of a record, and sums. Contracts of chapter 2: the error of a record alone, and sums. Words that the packages share: rows of the call's own under stores below them, what a call laid before it called another one, cells that are stored into. Contracts of chapter 2: traces. Contracts of chapter 2: velocities and displacements. Contracts of chapter 2: the end of samples. Contracts of chapter 2: the greatest size of numbers. Contracts of chapter 2: the end of a record. Plain law of chapter 2: all lists of times, and the match. -/
import Derived.Test.YtfjcfbmfpefabaaGreatK12
namespace Go.Proofs.YtfjcfbmfpefabaaGreat

/-- Samples; the first number that is none. -/
def smp (n : Int) : Bool := wIn n (-1000) 1000
def badS : List Int → Nat → Option Nat
  | [], _ => none
  | x :: l, i => if smp x = true then badS l (i + 1) else some i
theorem badS_drop (xs : List Int) (k : Nat) (h : k < xs.length) : badS (xs.drop k) k = if smp (xs[k]?.getD 0) = true then badS (xs.drop (k + 1)) (k + 1) else some k := by
  rw [List.drop_eq_getElem_cons h, badS, List.getElem?_eq_getElem h]
  rfl
theorem badS_none {xs : List Int} {i : Nat} (h : badS xs i = none) : ∀ j : Nat, -1000 ≤ xs[j]?.getD 0 ∧ xs[j]?.getD 0 ≤ 1000 := by
  induction xs generalizing i with
  | nil => intro j; simp
  | cons x l ih =>
    rw [badS] at h
    split at h
    · rename_i hx
      intro j
      cases j with
      | zero => exact wIn_iff.1 hx
      | succ j => exact ih h j
    · cases h
/-- The index and the error of a record. -/
def recF (step : Int) (xs : List Int) : Int × Int :=
  if wIn step 1 1000000 = true then
    if 1 < xs.length then
      if xs.length ≤ 24 then (match badS xs 0 with | none => (0, 0) | some i => ((i : Int), 2)) else (0, 8)
    else (0, 10)
  else (0, 2)
theorem recF_ok {step : Int} {xs : List Int} (h : (recF step xs).2 = 0) : 1 < xs.length ∧ xs.length ≤ 24 ∧ (1 ≤ step ∧ step ≤ 1000000) ∧ badS xs 0 = none ∧ ∀ j : Nat, -1000 ≤ xs[j]?.getD 0 ∧ xs[j]?.getD 0 ≤ 1000 := by
  unfold recF at h
  split at h
  · rename_i h1
    split at h
    · split at h
      · rename_i h2 h3
        cases hb : badS xs 0 with
        | none => exact ⟨h2, h3, wIn_iff.1 h1, rfl, badS_none hb⟩
        | some i => rw [hb] at h; cases h
      · cases h
    · cases h
  · cases h

/-- The sum of the first numbers; all these sums. -/
def sumT (xs : List Int) : Nat → Int
  | 0 => 0
  | k + 1 => sumT xs k + xs[k]?.getD 0
def sumsF (xs : List Int) : List Int := (List.range xs.length).map (fun t => sumT xs (t + 1))
def sumsTo (xs : List Int) (k : Nat) : List Int := (List.range k).map (fun t => sumT xs (t + 1))
theorem sumsTo_succ (xs : List Int) (k : Nat) : sumsTo xs (k + 1) = sumsTo xs k ++ [sumT xs (k + 1)] := by
  unfold sumsTo
  rw [List.range_succ, List.map_append]
  rfl
theorem sumsF_len (xs : List Int) : (sumsF xs).length = xs.length := by simp [sumsF]
theorem sumsF_get (xs : List Int) (k : Nat) (h : k < xs.length) : (sumsF xs)[k]?.getD 0 = sumT xs (k + 1) := by
  unfold sumsF
  rw [List.getElem?_map, List.getElem?_range h]
  rfl
theorem sumT_bd {xs : List Int} {M : Int} (h : ∀ j : Nat, -M ≤ xs[j]?.getD 0 ∧ xs[j]?.getD 0 ≤ M) (k : Nat) : -(M * (k : Int)) ≤ sumT xs k ∧ sumT xs k ≤ M * (k : Int) := by
  induction k with
  | zero => simp [sumT]
  | succ k ih =>
    have := h k
    rw [sumT]
    have e : M * ((k + 1 : Nat) : Int) = M * (k : Int) + M := by rw [Int.natCast_add, Int.mul_add]; simp
    rw [e]
    omega
/-- The displacement at the end, as the reference has it. -/
def endT (xs : List Int) (n : Int) : Nat → Int
  | 0 => 0
  | k + 1 => endT xs n k + (n - (k : Int)) * xs[k]?.getD 0
theorem endT_more (xs : List Int) (n : Int) (k : Nat) : endT xs (n + 1) k = endT xs n k + sumT xs k := by
  induction k with
  | zero => rfl
  | succ k ih =>
    rw [endT, endT, sumT, ih]
    have : (n + 1 - (k : Int)) * xs[k]?.getD 0 = (n - (k : Int)) * xs[k]?.getD 0 + xs[k]?.getD 0 := by
      rw [show n + 1 - (k : Int) = (n - (k : Int)) + 1 by omega, Int.add_mul, Int.one_mul]
    omega
theorem sumT_sums (xs : List Int) (k : Nat) (h : k ≤ xs.length) : sumT (sumsF xs) k = endT xs k k := by
  induction k with
  | zero => rfl
  | succ k ih =>
    rw [sumT, ih (by omega), sumsF_get xs k (by omega), show ((k + 1 : Nat) : Int) = (k : Int) + 1 by omega, endT_more, endT]
    have : ((k : Int) - (k : Int)) * xs[k]?.getD 0 = 0 := by rw [Int.sub_self, Int.zero_mul]
    omega

/-- The greatest size of numbers. -/
def gsT (xs : List Int) : Nat → Int
  | 0 => 0
  | k + 1 => max (gsT xs k) (sizeOf' (xs[k]?.getD 0))
/-- The greatest, and the smallest of numbers. -/
def mxT (xs : List Int) : Nat → Int
  | 0 => xs[0]?.getD 0
  | k + 1 => max (mxT xs k) (xs[k]?.getD 0)
def mnT (xs : List Int) : Nat → Int
  | 0 => xs[0]?.getD 0
  | k + 1 => min (mnT xs k) (xs[k]?.getD 0)
theorem peak_law (xs : List Int) (k : Nat) (h : 0 < k) : max (mxT xs k) (-(mnT xs k)) = gsT xs k := by
  have key : ∀ k, 0 < k → max (mxT xs k) (-(mnT xs k)) = gsT xs k ∧ mnT xs k ≤ mxT xs k := by
    intro k hk
    induction k with
    | zero => omega
    | succ k ih =>
      rcases Nat.eq_zero_or_pos k with rfl | h0
      · simp only [mxT, mnT, gsT, sizeOf']
        split <;> omega
      · obtain ⟨h1, h2⟩ := ih h0
        simp only [mxT, mnT, gsT, sizeOf']
        split <;> omega
  exact (key k h).1

/-- The two last displacements of an oscillator. -/
def rspT (xs : List Int) (st dm : Int) : Nat → Int × Int
  | 0 => (0, 0)
  | k + 1 => (2 * (rspT xs st dm k).1 - (rspT xs st dm k).2 - (st * (rspT xs st dm k).1 + dm * ((rspT xs st dm k).1 - (rspT xs st dm k).2)).tdiv 1000 - xs[k]?.getD 0, (rspT xs st dm k).1)
def rspTo (xs : List Int) (st dm : Int) (k : Nat) : List Int := (List.range k).map (fun t => (rspT xs st dm (t + 1)).1)
theorem rspTo_succ (xs : List Int) (st dm : Int) (k : Nat) : rspTo xs st dm (k + 1) = rspTo xs st dm k ++ [(rspT xs st dm (k + 1)).1] := by
  unfold rspTo
  rw [List.range_succ, List.map_append]
  rfl
/-- How great they are at most. -/
def rspB : Nat → Int × Int
  | 0 => (0, 0)
  | k + 1 => (2 * (rspB k).1 + (rspB k).2 + 1001, (rspB k).1)
theorem rspB_pos (k : Nat) : 0 ≤ (rspB k).2 ∧ (rspB k).2 ≤ (rspB k).1 := by
  induction k with
  | zero => decide
  | succ k ih =>
    rw [rspB]
    dsimp only
    omega
theorem rspB_mono {j k : Nat} (h : j ≤ k) : (rspB j).1 ≤ (rspB k).1 := by
  induction k with
  | zero =>
    obtain rfl : j = 0 := by omega
    exact Int.le_refl _
  | succ k ih =>
    rcases Nat.lt_or_ge k j with h1 | h1
    · obtain rfl : j = k + 1 := by omega
      exact Int.le_refl _
    · refine Int.le_trans (ih h1) ?_
      have := rspB_pos k
      rw [rspB]
      dsimp only
      omega
theorem pr_bd {c a C A : Int} (h1 : -C ≤ c) (h2 : c ≤ C) (h3 : -A ≤ a) (h4 : a ≤ A) : -(C * A) ≤ c * a ∧ c * a ≤ C * A := by
  have e : (c * a).natAbs ≤ C.toNat * A.toNat := by
    rw [Int.natAbs_mul]
    exact Nat.mul_le_mul (by omega) (by omega)
  have e2 : ((C.toNat * A.toNat : Nat) : Int) = C * A := by
    rw [Int.natCast_mul, Int.toNat_of_nonneg (by omega), Int.toNat_of_nonneg (by omega)]
  omega
theorem rsp_step {st dm a b x A B : Int} (hs : 0 ≤ st ∧ st ≤ 3000) (hd : 0 ≤ dm ∧ dm ≤ 500) (hx : -1000 ≤ x ∧ x ≤ 1000) (ha : -A ≤ a ∧ a ≤ A) (hb : -B ≤ b ∧ b ≤ B) :
    (-(3000 * A) ≤ st * a ∧ st * a ≤ 3000 * A) ∧ (-(500 * (A + B)) ≤ dm * (a - b) ∧ dm * (a - b) ≤ 500 * (A + B)) ∧
      -(2 * A + B + 1001) ≤ 2 * a - b - (st * a + dm * (a - b)).tdiv 1000 - x ∧ 2 * a - b - (st * a + dm * (a - b)).tdiv 1000 - x ≤ 2 * A + B + 1001 := by
  have p1 := pr_bd (c := st) (a := a) (C := 3000) (A := A) (by omega) (by omega) ha.1 ha.2
  have p2 := pr_bd (c := dm) (a := a - b) (C := 500) (A := A + B) (by omega) (by omega) (by omega) (by omega)
  have p3 := pr_bd (c := 2000 - st - dm) (a := a) (C := 2000) (A := A) (by omega) (by omega) ha.1 ha.2
  have p4 := pr_bd (c := dm - 1000) (a := b) (C := 1000) (A := B) (by omega) (by omega) hb.1 hb.2
  have e : (2000 - st - dm) * a + (dm - 1000) * b = 2000 * a - 1000 * b - (st * a + dm * (a - b)) := by grind
  have t1 := Int.tmod_add_mul_tdiv (st * a + dm * (a - b)) 1000
  have t2 : -999 ≤ (st * a + dm * (a - b)).tmod 1000 ∧ (st * a + dm * (a - b)).tmod 1000 ≤ 999 := by
    have h1 := Int.natAbs_tmod (st * a + dm * (a - b)) 1000
    have h2 : (st * a + dm * (a - b)).natAbs % (1000 : Int).natAbs < 1000 := Nat.mod_lt _ (by decide)
    omega
  refine ⟨p1, p2, ?_⟩
  generalize (2000 - st - dm) * a = X at *
  generalize (dm - 1000) * b = Y at *
  generalize st * a + dm * (a - b) = V at *
  omega
theorem rspT_bd {xs : List Int} {st dm : Int} (hs : 0 ≤ st ∧ st ≤ 3000) (hd : 0 ≤ dm ∧ dm ≤ 500) (hx : ∀ j : Nat, -1000 ≤ xs[j]?.getD 0 ∧ xs[j]?.getD 0 ≤ 1000) (k : Nat) :
    (-(rspB k).1 ≤ (rspT xs st dm k).1 ∧ (rspT xs st dm k).1 ≤ (rspB k).1) ∧ (-(rspB k).2 ≤ (rspT xs st dm k).2 ∧ (rspT xs st dm k).2 ≤ (rspB k).2) := by
  induction k with
  | zero =>
    show (-(0 : Int) ≤ 0 ∧ (0 : Int) ≤ 0) ∧ (-(0 : Int) ≤ 0 ∧ (0 : Int) ≤ 0)
    decide
  | succ k ih =>
    obtain ⟨h1, h2⟩ := ih
    exact ⟨(rsp_step hs hd (hx k) h1 h2).2.2, h1⟩
theorem rspB_num : (rspB 23).1 ≤ 1099511627776 ∧ (rspB 26).1 ≤ 10000000000000 := by decide
end Go.Proofs.YtfjcfbmfpefabaaGreat

namespace Go.Proofs.YtfjcfbmfpefabaaGreat
open Go.RowKit
open Calmly (Kept)

set_option maxHeartbeats 400000 in
theorem isSample_any (x : Int) (w : World) : Calls Tryz.prog 86 #[.int .i64 x] w fun e w' => e = .returned (.bool (smp x)) ∧ w = w' := by
  go_enter Tryz.func86, Tryz.ntmps86
  go_wp2_with fail
  refine (nSized_any x 1000 _ (by omega) (by omega)).mono ?_
  rintro e w1 ⟨rfl, rfl⟩
  go_wp2_with fail
  go_ret
  exact ⟨rfl, rfl⟩
set_option maxHeartbeats 400000 in
theorem noSample_any (x : Int) (w : World) : Calls Tryz.prog 85 #[.int .i64 x] w fun e w' => e = .returned (.bool (!smp x)) ∧ w = w' := by
  go_enter Tryz.func85, Tryz.ntmps85
  go_wp2_with fail
  refine (isSample_any x _).mono ?_
  rintro e w1 ⟨rfl, rfl⟩
  go_wp2_with fail
  go_ret
  exact ⟨rfl, rfl⟩

/-- The index as the program has it. -/
def badI (xs : List Int) : Int := match badS xs 0 with | none => -1 | some i => (i : Int)

set_option maxRecDepth 100000 in
set_option maxHeartbeats 1000000 in
theorem indexBad_any (a : Option Addr) (n c : Nat) (xs : List Int) (w : World) (h1 : SI w a n c xs) :
    Calls Tryz.prog 61 #[.slice a n c, .func (.func 85) #[] #[]] w fun e w' => e = .returned (.int .i64 (badI xs)) ∧ w = w' := by
  obtain ⟨l1, l2⟩ : n ≤ xs.length ∧ xs.length ≤ n := by have := h1.len; omega
  have m1 := h1.max
  have c1 := h1.cap
  obtain ⟨R, hR⟩ : ∃ R, badI xs = R := ⟨_, rfl⟩
  rw [hR]
  have HR := Lib.hid hR
  clear hR
  go_enter Tryz.func61, Tryz.ntmps61
  go_wp2_with fail
  go_loop [8] (fun i => ∃ k : Nat, k ≤ n ∧ i = .int .i64 k ∧ badS xs 0 = badS (xs.drop k) k) (fun i => n - (intOf i).toNat)
  case atStart => exact ⟨0, by omega, rfl, rfl⟩
  case round =>
    obtain ⟨k, hk, rfl, ht⟩ := hrel
    have HT := Lib.hid ht
    clear ht
    by_cases hlt : k < n
    · obtain ⟨b1, o1, rfl, hc1⟩ := h1.at_ (by omega)
      have e1 := hc1 k hlt
      clear hc1
      have hi : (k : Int) < (n : Int) := by omega
      have hi0 : (0 : Int) ≤ (k : Int) := by omega
      have hd := badS_drop xs k (by omega)
      obtain ⟨x, hxx⟩ : ∃ x, xs[k]?.getD 0 = x := ⟨_, rfl⟩
      rw [hxx] at e1 hd
      have HD := Lib.hid hd
      clear hxx hd
      go_wp2_with fail
      refine (noSample_any _ _).mono ?_
      rintro e w1 ⟨rfl, rfl⟩
      cases ho : smp x
      · go_wp2_with fail
        go_ret
        refine ⟨ret_int ?_, rfl⟩
        rw [← HR.out, badI, HT.out, HD.out, ho]
        rfl
      · go_wp2_with fail
        go_round
        case rel => exact ⟨k + 1, by omega, by go_num, by rw [HT.out, HD.out, ho]; rfl⟩
        case measure => simp [intOf]; omega
    · have hle : (n : Int) ≤ (k : Int) := by omega
      go_wp2_with fail
      go_ret
      refine ⟨ret_int ?_, rfl⟩
      rw [← HR.out, badI, HT.out, List.drop_eq_nil_of_le (by omega)]
      rfl
end Go.Proofs.YtfjcfbmfpefabaaGreat

namespace Go.Calmly
section
variable {P : Program} {ops : Array Oper} {Q : Exit → Act → World → Prop} {w0 : World}
theorem wanted_un {o : Oper} {g d : Nat} {want : Bool} {a : Act} (hg : o.guard = some (g, want)) (hd : (ops[g]?).bind (·.dst) = some d) (hv : a.tmps[d]? = some undef) :
    Region.wanted o (yielded ops a.tmps) = false := by
  simp only [Region.wanted, hg, yielded, hd, Option.bind_some, hv]
  cases want <;> rfl
theorem mix_glu {i : Nat} {k : Plan} {dst : Option Tmp} {op : Op} {ty : TypeId} {pos : String} {after : Array Edge} {a : Act} {w : World} {g d : Nat} {want : Bool} (hi : ops[i]? = some ⟨dst, op, ty, pos, after, some (g, want)⟩) (hd : (ops[g]?).bind (·.dst) = some d) (hv : a.tmps[d]? = some undef)
    (h : ∀ K : Act → World → Prop, (∀ a', WpMix P ops Q w0 k a' w → K a' w0) → Oper.wp P ⟨dst, .assign (.const undef), ty, pos, after, none⟩ a w0 K NoQ) : WpMix P ops Q w0 (.gl i k) a w := by
  refine ⟨?_⟩
  have hw := wanted_un (o := ⟨dst, op, ty, pos, after, some (g, want)⟩) rfl hd hv
  simp only [Plan.gl, wpMix, hi, hw, Bool.false_eq_true, if_false]
  exact h (fun a' _ => wpMix P ops Q w0 k a' w) (fun _ hh => hh.out)
theorem mix_gfu {i : Nat} {k : Plan} {dst : Option Tmp} {op : Op} {ty : TypeId} {pos : String} {after : Array Edge} {a : Act} {w : World} {g d : Nat} {want : Bool} (hi : ops[i]? = some ⟨dst, op, ty, pos, after, some (g, want)⟩) (hd : (ops[g]?).bind (·.dst) = some d) (hv : a.tmps[d]? = some undef) (hk : Kept w0 w)
    (h : ∀ K : Act → World → Prop, (∀ a', WpMix P ops Q w0 k a' w → K a' w) → Oper.wp P ⟨dst, .assign (.const undef), ty, pos, after, none⟩ a w K NoQ) : WpMix P ops Q w0 (.gf i k) a w := by
  refine ⟨?_⟩
  show wpOp P ops NoQ i (fun a' w' => Kept w0 w' ∧ wpMix P ops Q w0 k a' w') a w
  exact op_off (K := fun a' w' => Kept w0 w' ∧ wpMix P ops Q w0 k a' w') hi (wanted_un rfl hd hv) ⟨hk, h (fun a' _ => wpMix P ops Q w0 k a' w) (fun _ hh => hh.out)⟩
end
end Go.Calmly

namespace Go.Proofs.YtfjcfbmfpefabaaGreat
open Go.RowKit
open Calmly (Kept)

theorem recF_cases (step : Int) (xs : List Int) : recF step xs = if firstE [unlessE (wIn step 1 1000000) 2, unlessE (decide (1 < xs.length)) 10, unlessE (decide (xs.length ≤ 24)) 8] = 0 then (if 0 ≤ badI xs then (badI xs, 2) else (0, 0)) else (0, firstE [unlessE (wIn step 1 1000000) 2, unlessE (decide (1 < xs.length)) 10, unlessE (decide (xs.length ≤ 24)) 8]) := by
  unfold recF badI
  cases wIn step 1 1000000 with
  | false => simp [firstE, unlessE]
  | true =>
    by_cases h1 : 1 < xs.length
    · by_cases h2 : xs.length ≤ 24
      · simp only [h1, h2, if_true, decide_true, unlessE, firstE]
        cases badS xs 0 with
        | none => rfl
        | some i => simp
      · simp [h1, h2, unlessE, firstE]
    · simp [h1, unlessE, firstE]

set_option maxRecDepth 100000 in
set_option maxHeartbeats 1000000 in
theorem CheckRecord_any (step : Int) (a : Option Addr) (n c : Nat) (xs : List Int) (w : World) (h1 : SI w a n c xs) (I E : Int) (hR : recF step xs = (I, E)) :
    Calls Tryz.prog 59 #[.agg #[.int .i64 step, .slice a n c]] w fun e w' => e = .returned (.tuple #[.int .i64 I, .int .i64 E]) ∧ Below w.heap.size w w' := by
  obtain ⟨l1, l2⟩ : n ≤ xs.length ∧ xs.length ≤ n := by have := h1.len; omega
  have m1 := h1.max
  have c1 := h1.cap
  have hb : ∀ o, Below w.heap.size w (w.alloc o) := fun o => (Below.refl _ _).alloc (Nat.le_refl _) _
  have x1 := alloc_new w (.cells #[.int .i64 step, .slice a n c] 24)
  rw [recF_cases] at hR
  have e1 : decide (1 < xs.length) = decide ((1 : Int) < (n : Int)) := by congr 1; rw [eq_iff_iff]; omega
  have e2 : decide (xs.length ≤ 24) = decide ((n : Int) ≤ 24) := by congr 1; rw [eq_iff_iff]; omega
  rw [e1, e2] at hR
  have HR := Lib.hid hR
  clear hR e1 e2
  go_enter Tryz.func59, Tryz.ntmps59
  go_wp2_with fail
  refine Calmly.wp_region_mix 16 (.fl 0 <| .fl 1 <| .fl 4 <| .fl 5 <| .fl 6 <| .fl 7 <| .fl 9 <| .fl 10 <| .fl 11 <| .fl 12 <| .eff 2 <| .eff 3 <| .eff 8 <| .eff 13 <| .eff 14 <| .eff 15 <| .tail [16]) (by kernel_rfl) (by kernel_rfl) ?_
  have BW := (hb (.cells #[.int .i64 step, .slice a n c] 24)).drew
  replace x1 := blk_keep x1 (Below.refl _ _).drew
  generalize World.drew _ = V at x1 BW ⊢
  have f0 := cell_block x1 0
  have f1 := cell_block x1 1
  have hk := Below.refl V.heap.size V
  go_wp2_with (first | ((with_reducible refine Calmly.is_fl ?_); refine Calmly.mix_fl rfl ?_ (fun _ _ => ?_); (first | exact .move _ | exact .load _ _ | exact .fieldAddr _ _ _ (by kernel_rfl) | exact .assign _ | exact .binOp _ _ _ _ _ rfl | exact .indexAddr _ _ _ | exact .len _ _ (by kernel_rfl) | exact .field _ _ _ | exact .extract _ _ | exact .pick _ _ _ | exact .build _ _ | exact .slice _ _ _ _ _ | exact .unOp _ _ _ rfl | exact .index _ _ _ | exact .max _ _ _ rfl rfl | exact .min _ _ _ rfl rfl)) | ((with_reducible refine Calmly.is_gl ?_); refine Calmly.mix_gl rfl rfl rfl ?_; first | ((first | with_reducible refine Calmly.gl_tt ?_ (fun _ _ => ?_) | with_reducible refine Calmly.gl_ff ?_ (fun _ _ => ?_)); (first | exact .move _ | exact .load _ _ | exact .fieldAddr _ _ _ (by kernel_rfl) | exact .assign _ | exact .binOp _ _ _ _ _ rfl | exact .indexAddr _ _ _ | exact .len _ _ (by kernel_rfl) | exact .field _ _ _ | exact .extract _ _ | exact .pick _ _ _ | exact .build _ _ | exact .slice _ _ _ _ _ | exact .unOp _ _ _ rfl | exact .index _ _ _ | exact .max _ _ _ rfl rfl | exact .min _ _ _ rfl rfl)) | with_reducible refine Calmly.gl_tf (fun _ _ => ?_) | with_reducible refine Calmly.gl_ft (fun _ _ => ?_)) | ((with_reducible refine Calmly.is_eff ?_); refine Calmly.mix_eff rfl (fun _ _ => ?_)) | ((with_reducible refine Calmly.is_gf ?_); refine Calmly.mix_gf rfl rfl rfl ?_; first | with_reducible refine Calmly.gf_tt (fun _ _ => ?_) | with_reducible refine Calmly.gf_ff (fun _ _ => ?_) | with_reducible refine Calmly.gf_tf (kept_of hk) (fun _ _ => ?_) | with_reducible refine Calmly.gf_ft (kept_of hk) (fun _ _ => ?_)) | ((with_reducible refine Calmly.is_kept ?_); refine ⟨kept_of hk, ?_⟩) | (with_reducible refine Calmly.mix_alt ?_ ?_) | (refine kept_alloc hk (fun hk' hblk hge => ?_); replace hk := hk'; clear hk') | (go_at_call 60; (refine (nWithin_any _ _ _ _).mono ?_; rintro e w1 ⟨rfl, rfl⟩)) | (go_at_call 27; (refine (nUnless_any _ _ _).mono ?_; rintro e w1 ⟨rfl, rfl⟩)) | (go_at_call 26; (refine (nFirst_any _ 3 3 _ _ (SI.three _ _ _ _ _ (by simp))).mono ?_; rintro e w1 ⟨rfl, rfl⟩; obtain ⟨F, hF⟩ : ∃ F, firstE [unlessE (wIn step 1 1000000) 2, unlessE (decide ((1 : Int) < (n : Int))) 10, unlessE (decide ((n : Int) ≤ 24)) 8] = F := ⟨_, rfl⟩; rw [hF]; have HF := Lib.hid hF; clear hF)))
  have BW2 := BW.trans (hk.mono BW.size)
  have x2 := blk_keep x1 hk
  clear f0 f1
  have f0 := cell_block x2 0
  have f1 := cell_block x2 1
  by_cases hz : F = 0
  · subst hz
    have hR := HR.out
    rw [HF.out, if_pos rfl] at hR
    by_cases hb0 : 0 ≤ badI xs
    · rw [if_pos hb0] at hR
      obtain ⟨rfl, rfl⟩ := Prod.mk.inj hR
      clear HR hR
      go_wp2_with (first | ((with_reducible refine Calmly.is_fl ?_); refine Calmly.mix_fl rfl ?_ (fun _ _ => ?_); (first | exact .move _ | exact .load _ _ | exact .fieldAddr _ _ _ (by kernel_rfl) | exact .assign _ | exact .binOp _ _ _ _ _ rfl | exact .indexAddr _ _ _ | exact .len _ _ (by kernel_rfl) | exact .field _ _ _ | exact .extract _ _ | exact .pick _ _ _ | exact .build _ _ | exact .slice _ _ _ _ _ | exact .unOp _ _ _ rfl | exact .index _ _ _ | exact .max _ _ _ rfl rfl | exact .min _ _ _ rfl rfl)) | ((with_reducible refine Calmly.is_gl ?_); refine Calmly.mix_gl rfl rfl rfl ?_; first | ((first | with_reducible refine Calmly.gl_tt ?_ (fun _ _ => ?_) | with_reducible refine Calmly.gl_ff ?_ (fun _ _ => ?_)); (first | exact .move _ | exact .load _ _ | exact .fieldAddr _ _ _ (by kernel_rfl) | exact .assign _ | exact .binOp _ _ _ _ _ rfl | exact .indexAddr _ _ _ | exact .len _ _ (by kernel_rfl) | exact .field _ _ _ | exact .extract _ _ | exact .pick _ _ _ | exact .build _ _ | exact .slice _ _ _ _ _ | exact .unOp _ _ _ rfl | exact .index _ _ _ | exact .max _ _ _ rfl rfl | exact .min _ _ _ rfl rfl)) | with_reducible refine Calmly.gl_tf (fun _ _ => ?_) | with_reducible refine Calmly.gl_ft (fun _ _ => ?_)) | ((with_reducible refine Calmly.is_eff ?_); refine Calmly.mix_eff rfl (fun _ _ => ?_)) | ((with_reducible refine Calmly.is_gf ?_); refine Calmly.mix_gf rfl rfl rfl ?_; first | with_reducible refine Calmly.gf_tt (fun _ _ => ?_) | with_reducible refine Calmly.gf_ff (fun _ _ => ?_) | with_reducible refine Calmly.gf_tf (kept_of hk) (fun _ _ => ?_) | with_reducible refine Calmly.gf_ft (kept_of hk) (fun _ _ => ?_)) | ((with_reducible refine Calmly.is_tail ?_); first | refine Calmly.mix_tail_nil ?_ | refine Calmly.mix_tail rfl (fun _ _ => ?_)) | ((with_reducible refine Calmly.is_kept ?_); refine ⟨kept_of hk, ?_⟩) | (with_reducible refine Calmly.mix_alt ?_ ?_))
      refine (indexBad_any a n c xs _ ((h1.keep BW).keep hk)).mono ?_
      rintro e w1 ⟨rfl, rfl⟩
      go_wp2_with fail
      go_ret2
      exact ⟨rfl, BW2⟩
    · rw [if_neg hb0] at hR
      obtain ⟨rfl, rfl⟩ := Prod.mk.inj hR
      have hb1 : badI xs < 0 := by omega
      clear HR hR
      go_wp2_with (first | ((with_reducible refine Calmly.is_fl ?_); refine Calmly.mix_fl rfl ?_ (fun _ _ => ?_); (first | exact .move _ | exact .load _ _ | exact .fieldAddr _ _ _ (by kernel_rfl) | exact .assign _ | exact .binOp _ _ _ _ _ rfl | exact .indexAddr _ _ _ | exact .len _ _ (by kernel_rfl) | exact .field _ _ _ | exact .extract _ _ | exact .pick _ _ _ | exact .build _ _ | exact .slice _ _ _ _ _ | exact .unOp _ _ _ rfl | exact .index _ _ _ | exact .max _ _ _ rfl rfl | exact .min _ _ _ rfl rfl)) | ((with_reducible refine Calmly.is_gl ?_); refine Calmly.mix_gl rfl rfl rfl ?_; first | ((first | with_reducible refine Calmly.gl_tt ?_ (fun _ _ => ?_) | with_reducible refine Calmly.gl_ff ?_ (fun _ _ => ?_)); (first | exact .move _ | exact .load _ _ | exact .fieldAddr _ _ _ (by kernel_rfl) | exact .assign _ | exact .binOp _ _ _ _ _ rfl | exact .indexAddr _ _ _ | exact .len _ _ (by kernel_rfl) | exact .field _ _ _ | exact .extract _ _ | exact .pick _ _ _ | exact .build _ _ | exact .slice _ _ _ _ _ | exact .unOp _ _ _ rfl | exact .index _ _ _ | exact .max _ _ _ rfl rfl | exact .min _ _ _ rfl rfl)) | with_reducible refine Calmly.gl_tf (fun _ _ => ?_) | with_reducible refine Calmly.gl_ft (fun _ _ => ?_)) | ((with_reducible refine Calmly.is_eff ?_); refine Calmly.mix_eff rfl (fun _ _ => ?_)) | ((with_reducible refine Calmly.is_gf ?_); refine Calmly.mix_gf rfl rfl rfl ?_; first | with_reducible refine Calmly.gf_tt (fun _ _ => ?_) | with_reducible refine Calmly.gf_ff (fun _ _ => ?_) | with_reducible refine Calmly.gf_tf (kept_of hk) (fun _ _ => ?_) | with_reducible refine Calmly.gf_ft (kept_of hk) (fun _ _ => ?_)) | ((with_reducible refine Calmly.is_tail ?_); first | refine Calmly.mix_tail_nil ?_ | refine Calmly.mix_tail rfl (fun _ _ => ?_)) | ((with_reducible refine Calmly.is_kept ?_); refine ⟨kept_of hk, ?_⟩) | (with_reducible refine Calmly.mix_alt ?_ ?_))
      refine (indexBad_any a n c xs _ ((h1.keep BW).keep hk)).mono ?_
      rintro e w1 ⟨rfl, rfl⟩
      go_wp2_with fail
      go_ret2
      exact ⟨rfl, BW2⟩
  · have hR := HR.out
    rw [HF.out, if_neg hz] at hR
    obtain ⟨rfl, rfl⟩ := Prod.mk.inj hR
    have b1 : (F != 0) = true := by simpa using hz
    clear hz HR hR
    go_wp2_with (first | ((with_reducible refine Calmly.is_fl ?_); refine Calmly.mix_fl rfl ?_ (fun _ _ => ?_); (first | exact .move _ | exact .load _ _ | exact .fieldAddr _ _ _ (by kernel_rfl) | exact .assign _ | exact .binOp _ _ _ _ _ rfl | exact .indexAddr _ _ _ | exact .len _ _ (by kernel_rfl) | exact .field _ _ _ | exact .extract _ _ | exact .pick _ _ _ | exact .build _ _ | exact .slice _ _ _ _ _ | exact .unOp _ _ _ rfl | exact .index _ _ _ | exact .max _ _ _ rfl rfl | exact .min _ _ _ rfl rfl)) | ((with_reducible refine Calmly.is_gl ?_); refine Calmly.mix_gl rfl rfl rfl ?_; first | ((first | with_reducible refine Calmly.gl_tt ?_ (fun _ _ => ?_) | with_reducible refine Calmly.gl_ff ?_ (fun _ _ => ?_)); (first | exact .move _ | exact .load _ _ | exact .fieldAddr _ _ _ (by kernel_rfl) | exact .assign _ | exact .binOp _ _ _ _ _ rfl | exact .indexAddr _ _ _ | exact .len _ _ (by kernel_rfl) | exact .field _ _ _ | exact .extract _ _ | exact .pick _ _ _ | exact .build _ _ | exact .slice _ _ _ _ _ | exact .unOp _ _ _ rfl | exact .index _ _ _ | exact .max _ _ _ rfl rfl | exact .min _ _ _ rfl rfl)) | with_reducible refine Calmly.gl_tf (fun _ _ => ?_) | with_reducible refine Calmly.gl_ft (fun _ _ => ?_)) | ((with_reducible refine Calmly.is_eff ?_); refine Calmly.mix_eff rfl (fun _ _ => ?_)) | ((with_reducible refine Calmly.is_gf ?_); refine Calmly.mix_gf rfl rfl rfl ?_; first | with_reducible refine Calmly.gf_tt (fun _ _ => ?_) | with_reducible refine Calmly.gf_ff (fun _ _ => ?_) | with_reducible refine Calmly.gf_tf (kept_of hk) (fun _ _ => ?_) | with_reducible refine Calmly.gf_ft (kept_of hk) (fun _ _ => ?_)) | ((with_reducible refine Calmly.is_tail ?_); first | refine Calmly.mix_tail_nil ?_ | refine Calmly.mix_tail rfl (fun _ _ => ?_)) | ((with_reducible refine Calmly.is_kept ?_); refine ⟨kept_of hk, ?_⟩) | (with_reducible refine Calmly.mix_alt ?_ ?_))
    go_ret2
    exact ⟨rfl, BW2⟩
end Go.Proofs.YtfjcfbmfpefabaaGreat

namespace Go.Proofs.YtfjcfbmfpefabaaGreat
open Go.RowKit
open Calmly (Kept)

set_option maxHeartbeats 400000 in
theorem recordErr_any (step : Int) (a : Option Addr) (n c : Nat) (xs : List Int) (w : World) (h1 : SI w a n c xs) (E : Int) (hE : (recF step xs).2 = E) :
    Calls Tryz.prog 21 #[.agg #[.int .i64 step, .slice a n c]] w fun e w' => e = .returned (.int .i64 E) ∧ Below w.heap.size w w' := by
  have hb : ∀ o, Below w.heap.size w (w.alloc o) := fun o => (Below.refl _ _).alloc (Nat.le_refl _) _
  obtain ⟨I, hI⟩ : ∃ I, recF step xs = (I, E) := ⟨(recF step xs).1, by rw [← hE]⟩
  have HI := Lib.hid hI
  clear hI hE
  go_enter Tryz.func21, Tryz.ntmps21
  go_wp2_with fail
  refine (CheckRecord_any step a n c xs _ (h1.keep (hb _)) I E HI.out).mono ?_
  rintro e w1 ⟨rfl, hs⟩
  have BW := (hb (.cells #[.int .i64 step, .slice a n c] 24)).trans (hs.mono (by simp))
  go_wp2_with fail
  go_ret
  exact ⟨rfl, BW⟩

set_option maxRecDepth 100000 in
set_option maxHeartbeats 1000000 in
theorem sums_any (a : Option Addr) (n c : Nat) (xs : List Int) (w : World) (h1 : SI w a n c xs) (hn : n ≤ 1000000) (hb : ∀ j : Nat, -1000000000 ≤ xs[j]?.getD 0 ∧ xs[j]?.getD 0 ≤ 1000000000) :
    Calls Tryz.prog 87 #[.slice a n c] w fun e w' => ∃ a' c', e = .returned (.slice a' n c') ∧ OwI w' w.heap.size a' n c' (sumsF xs) ∧ Below w.heap.size w w' := by
  obtain ⟨l1, l2⟩ : n ≤ xs.length ∧ xs.length ≤ n := by have := h1.len; omega
  have m1 := h1.max
  have c1 := h1.cap
  have HB := Lib.hid hb
  clear hb
  go_enter Tryz.func87, Tryz.ntmps87
  go_wp2_with fail
  go_loopw [4, 3, 9] (fun s v i wr => ∃ (k c' : Nat) (a' : Option Addr), i = .int .i64 (k : Int) ∧ k ≤ n ∧ s = .int .i64 (sumT xs k) ∧ v = .slice a' k c' ∧ OwI wr w.heap.size a' k c' (sumsTo xs k) ∧ Below w.heap.size w wr) (fun _ _ i _ => n - (intOf i).toNat)
  case atStart => exact ⟨0, 0, none, rfl, by omega, rfl, rfl, OwI.nil _ _, Below.refl _ _⟩
  case round =>
    obtain ⟨k, c', a', rfl, hk, rfl, rfl, hown, hbr⟩ := hrel
    have hs := hbr.size
    obtain ⟨b1, b2⟩ := sumT_bd HB.out k
    by_cases hlt : k < n
    · obtain ⟨ba, oa, rfl, hca⟩ := (h1.keep hbr).at_ (by omega)
      have ea := hca k hlt
      have hx := HB.out k
      have hn1 : sumT xs (k + 1) = sumT xs k + xs[k]?.getD 0 := rfl
      have hn2 := sumsTo_succ xs k
      rw [hn1] at hn2
      obtain ⟨x, hxx⟩ : ∃ x, xs[k]?.getD 0 = x := ⟨_, rfl⟩
      obtain ⟨s, hss⟩ : ∃ s, sumT xs k = s := ⟨_, rfl⟩
      rw [hxx] at ea hx hn1 hn2
      rw [hss] at b1 b2 hn1 hn2 ⊢
      have HN1 := Lib.hid hn1
      have HN2 := Lib.hid hn2
      clear hca hn1 hn2 hxx hss
      have hi : (k : Int) < (n : Int) := by omega
      have hi0 : (0 : Int) ≤ (k : Int) := by omega
      go_wp2_with (first | (at_builtin; refine appI rfl _ _ rfl hown rfl rfl (by omega) (by omega) ?_; intro a2' c2' w5 ho5 hb5 hs5))
      go_roundw
      case rel => exact ⟨k + 1, c2', a2', by go_num, by omega, by rw [HN1.out], rfl, by rw [HN2.out]; exact ho5, hbr.trans hb5⟩
      case measure => simp [intOf]; omega
    · have hle : (n : Int) ≤ (k : Int) := by omega
      obtain rfl : n = k := by omega
      go_wp2_with fail
      go_ret
      refine ⟨a', c', rfl, ?_, hbr⟩
      have e : sumsF xs = sumsTo xs n := by unfold sumsF sumsTo; rw [show xs.length = n by omega]
      rw [e]
      exact hown
end Go.Proofs.YtfjcfbmfpefabaaGreat

namespace Go.Proofs.YtfjcfbmfpefabaaGreat
open Go.RowKit
open Calmly (Kept)

theorem OwI.weak {w : World} {B B' : Nat} {a : Option Addr} {n c : Nat} {xs : List Int} (h : OwI w B a n c xs) (hB : B' ≤ B) : OwI w B' a n c xs := by
  obtain ⟨h1, h2⟩ := h
  refine ⟨h1, ?_⟩
  rcases h2 with h2 | ⟨g, cap, cur, hv, hg, r⟩
  · exact .inl h2
  · exact .inr ⟨g, cap, cur, hv, Nat.le_trans hB hg, r⟩
/-- A store below the call's own rows. -/
theorem OwI.under {w : World} {B : Nat} {a : Option Addr} {n c : Nat} {xs : List Int} (h : OwI w B a n c xs) {r o : Nat} (hr : r < B) (v : Value) : OwI (w.setCell ⟨r, o, none⟩ v) B a n c xs := by
  obtain ⟨h1, h2⟩ := h
  refine ⟨h1, ?_⟩
  rcases h2 with h2 | ⟨g, cap, cur, hv, hg, hh, r'⟩
  · exact .inl h2
  · refine .inr ⟨g, cap, cur, hv, hg, ?_, r'⟩
    rw [Below.heap_setCell _ _ _ _ (by show g ≠ r; omega)]
    exact hh
/-- Two stores below the call's own rows. -/
theorem OwI.under2 {w : World} {B : Nat} {a : Option Addr} {n c : Nat} {xs : List Int} (h : OwI w B a n c xs) {r : Nat} (hr : r < B) (u v : Value) : OwI ((w.setCell ⟨r, 0, none⟩ u).setCell ⟨r, 1, none⟩ v) B a n c xs :=
  (h.under hr u).under hr v

/-- What a call laid before it called another one. -/
theorem box1 {w W w1 : World} {o : Obj} (h : Below W.heap.size W w1) (hW : W.heap = (w.alloc o).heap := by rfl) : w1.heap[w.heap.size]? = some o := by
  rw [h.block _ (by rw [hW]; simp), hW]
  exact alloc_new _ _
theorem box2 {w W w1 : World} {o o' : Obj} (h : Below W.heap.size W w1) (hW : W.heap = ((w.alloc o).alloc o').heap := by rfl) : w1.heap[w.heap.size]? = some o ∧ w1.heap[w.heap.size + 1]? = some o' := by
  have h0 : Below (w.alloc o).heap.size (w.alloc o) ((w.alloc o).alloc o') := (Below.refl _ _).alloc (Nat.le_refl _) _
  refine ⟨?_, ?_⟩
  · rw [h.block _ (by rw [hW]; simp; omega), hW]
    exact box1 (W := w.alloc o) h0
  · rw [h.block _ (by rw [hW]; simp), hW]
    have := alloc_new (w.alloc o) o'
    simpa using this
theorem blk_setAt {W : World} {b : Nat} {cs : Array Value} {t : TypeId} (h : W.heap[b]? = some (.cells cs t)) (i : Nat) (v : Value) : (W.setCell ⟨b, i, none⟩ v).heap[b]? = some (.cells (cs.setIfInBounds i v) t) := by
  simp [World.setCell, Array.getElem?_modify, h]
end Go.Proofs.YtfjcfbmfpefabaaGreat

namespace Go.Proofs.YtfjcfbmfpefabaaGreat
open Go.RowKit
open Calmly (Kept)

/-- Three cells of a block are stored into. -/
theorem set3 {v : World} {r : Nat} {u0 u1 u2 x y z : Value} {t : TypeId} (h : v.heap[r]? = some (.cells #[u0, u1, u2] t)) :
    (((v.setCell ⟨r, 0, none⟩ x).setCell ⟨r, 1, none⟩ y).setCell ⟨r, 2, none⟩ z).cell? ⟨r, 0, none⟩ = some x ∧ (((v.setCell ⟨r, 0, none⟩ x).setCell ⟨r, 1, none⟩ y).setCell ⟨r, 2, none⟩ z).cell? ⟨r, 1, none⟩ = some y ∧ (((v.setCell ⟨r, 0, none⟩ x).setCell ⟨r, 1, none⟩ y).setCell ⟨r, 2, none⟩ z).cell? ⟨r, 2, none⟩ = some z := by
  have h3 : (((v.setCell ⟨r, 0, none⟩ x).setCell ⟨r, 1, none⟩ y).setCell ⟨r, 2, none⟩ z).heap[r]? = some (.cells #[x, y, z] t) := by
    simp [World.setCell, Array.getElem?_modify, h]
  exact ⟨cell_block h3 0, cell_block h3 1, cell_block h3 2⟩

set_option maxRecDepth 100000 in
set_option maxHeartbeats 1000000 in
theorem of_any (a : Option Addr) (n c : Nat) (xs : List Int) (w : World) (h1 : SI w a n c xs) (hn : n ≤ 26) (hb : ∀ j : Nat, -1000 ≤ xs[j]?.getD 0 ∧ xs[j]?.getD 0 ≤ 1000) :
    Calls Tryz.prog 64 #[.slice a n c] w fun e w' => ∃ av cv ad cd Bd, e = .returned (.agg #[.slice a n c, .slice av n cv, .slice ad n cd]) ∧ OwI w' (w.heap.size + 1) av n cv (sumsF xs) ∧ OwI w' Bd ad n cd (sumsF (sumsF xs)) ∧ w.heap.size + 1 ≤ Bd ∧ Below w.heap.size w w' := by
  have hA : ∀ o, Below w.heap.size w (w.alloc o) := fun o => (Below.refl _ _).alloc (Nat.le_refl _) _
  have m1 := h1.max
  have c1 := h1.cap
  obtain ⟨l1, l2⟩ : n ≤ xs.length ∧ xs.length ≤ n := by have := h1.len; omega
  have HB := Lib.hid hb
  have hb2 : Hid (∀ j : Nat, -1000000000 ≤ (sumsF xs)[j]?.getD 0 ∧ (sumsF xs)[j]?.getD 0 ≤ 1000000000) := Lib.hid (fun j => by
    rcases Nat.lt_or_ge j xs.length with h | h
    · rw [sumsF_get xs j h]
      have := sumT_bd hb (j + 1)
      omega
    · rw [List.getElem?_eq_none (by rw [sumsF_len]; exact h)]
      simp)
  clear hb
  go_enter Tryz.func64, Tryz.ntmps64
  go_wp2_with fail
  refine (sums_any a n c xs _ (h1.keep (hA _)) (by omega) (fun j => by have := HB.out j; omega)).mono ?_
  rintro e w1 ⟨av, cv, rfl, ov, hs⟩
  have x1 := box1 (w := w) (o := .cells #[.slice none 0 0, .slice none 0 0, .slice none 0 0] 112) hs
  have BW := (hA (.cells #[.slice none 0 0, .slice none 0 0, .slice none 0 0] 112)).trans (hs.mono (by simp))
  replace ov : OwI w1 (w.heap.size + 1) av n cv (sumsF xs) := by simpa using ov
  clear hs
  go_wp2_with fail
  refine (sums_any av n cv (sumsF xs) _ ov.si (by omega) hb2.out).mono ?_
  rintro e w2 ⟨ad, cd, rfl, od, hs⟩
  have x2 := blk_keep x1 hs
  have BW2 := BW.trans (hs.mono BW.size)
  have ov2 := ov.keep hs
  have hlt := blk_lt x1
  have f0 := cell_block x2 0
  have f1 := cell_block x2 1
  have f2 := cell_block x2 2
  have f3 := frozen_block x2 0
  have f4 := frozen_block x2 1
  have f5 := frozen_block x2 2
  clear hs ov BW x1
  go_wp2_with fail
  obtain ⟨s1, s2, s3⟩ := set3 (x := .slice a n c) (y := .slice av n cv) (z := .slice ad n cd) x2
  refine bodyPost_ret (v := .agg #[.slice a n c, .slice av n cv, .slice ad n cd]) (by simp [results, Tryz.results64, go_sem, s1, s2, s3]) rfl ⟨av, cv, ad, cd, w1.heap.size, rfl, ?_, ?_, by omega, ?_⟩
  · exact (ov2.under2 (by omega) _ _).under (by omega) _
  · exact (od.under2 (by omega) _ _).under (by omega) _
  · exact ((BW2.setCell (by simp) _).setCell (by simp) _).setCell (by simp) _
end Go.Proofs.YtfjcfbmfpefabaaGreat

namespace Go.Proofs.YtfjcfbmfpefabaaGreat
open Go.RowKit
open Calmly (Kept)

theorem idx_tr1 (a b d : Option Addr) (n c m e k f : Nat) (w : World) : Sem.run Tryz.prog (Instr.index 112 (.agg #[.slice a n c, .slice b m e, .slice d k f]) (.int .i64 1)) w = .ok (.slice b m e) w := by kernel_rfl
theorem idx_tr2 (a b d : Option Addr) (n c m e k f : Nat) (w : World) : Sem.run Tryz.prog (Instr.index 112 (.agg #[.slice a n c, .slice b m e, .slice d k f]) (.int .i64 2)) w = .ok (.slice d k f) w := by kernel_rfl

set_option maxRecDepth 100000 in
set_option maxHeartbeats 1000000 in
theorem DisplacementsOf_any (step : Int) (a : Option Addr) (n c : Nat) (xs : List Int) (w : World) (h1 : SI w a n c xs) (E : Int) (X : List Int) (hE : (recF step xs).2 = E) (hno : E ≠ 0 → X = []) (hok : E = 0 → X = sumsF (sumsF xs)) :
    Calls Tryz.prog 15 #[.agg #[.int .i64 step, .slice a n c]] w fun e w' => ∃ a' n' c', e = .returned (.tuple #[.slice a' n' c', .int .i64 E]) ∧ SI w' a' n' c' X ∧ Below w.heap.size w w' := by
  have hA : ∀ (A : World) (o : Obj), Below A.heap.size A (A.alloc o) := fun A o => (Below.refl _ _).alloc (Nat.le_refl _) _
  have HE := Lib.hid hE
  have HNO := Lib.hid hno
  have HOK := Lib.hid hok
  clear hE hno hok
  have m1 := h1.max
  have c1 := h1.cap
  go_enter Tryz.func15, Tryz.ntmps15
  go_wp2_with fail
  have key : Calls Tryz.prog 49 #[.agg #[.int .i64 step, .slice a n c], .int .i64 2] (w.alloc (.cells #[.int .i64 step, .slice a n c] 24)) fun e w' => ∃ a' n' c', e = .returned (.tuple #[.slice a' n' c', .int .i64 E]) ∧ SI w' a' n' c' X ∧ Below (w.heap.size + 1) (w.alloc (.cells #[.int .i64 step, .slice a n c] 24)) w' := by
    obtain ⟨V, hV⟩ : ∃ V, w.alloc (.cells #[.int .i64 step, .slice a n c] 24) = V := ⟨_, rfl⟩
    have hVs : V.heap.size = w.heap.size + 1 := by rw [← hV]; simp
    have g1 : SI V a n c xs := by rw [← hV]; exact h1.keep (hA _ _)
    rw [hV, ← hVs]
    clear hV hVs h1
    go_enter Tryz.func49, Tryz.ntmps49
    go_wp2_with fail
    refine (recordErr_any step a n c xs _ (g1.keep (hA _ _)) E HE.out).mono ?_
    rintro e w1 ⟨rfl, hs⟩
    have x1 := box1 (w := V) (o := .cells #[.int .i64 step, .slice a n c] 24) hs
    have BW := (hA V (.cells #[.int .i64 step, .slice a n c] 24)).trans (hs.mono (by simp))
    clear hs
    have f0 := cell_block x1 0
    have f1 := cell_block x1 1
    by_cases hz : E = 0
    case neg =>
      obtain rfl := HNO.out hz
      have b1 : (E != 0) = true := by simpa using hz
      clear hz
      go_wp2_with fail
      go_ret2
      exact ⟨none, 0, 0, rfl, Sl.nil _ 1, BW⟩
    subst hz
    obtain rfl := HOK.out rfl
    obtain ⟨q1, q2, q3, q4, q5⟩ := recF_ok HE.out
    have hn : n ≤ 26 := by have := g1.len; omega
    have H5 := Lib.hid q5
    clear q1 q2 q3 q4 q5
    go_wp2_with fail
    refine (of_any a n c xs _ (g1.keep BW) hn H5.out).mono ?_
    rintro e w2 ⟨av, cv, ad, cd, Bd, rfl, ov, od, hB, hs⟩
    have BW2 := BW.trans (hs.mono BW.size)
    have sv := od.si
    clear hs f0 f1 ov od
    have hix := idx_tr2 a av ad n c n cv n cd w2
    go_wp2_with fail
    go_ret2
    exact ⟨ad, n, cd, rfl, sv, BW2⟩
  refine key.mono ?_
  rintro e w1 ⟨a', n', c', rfl, hs, hb⟩
  have BW := (hA w (.cells #[.int .i64 step, .slice a n c] 24)).trans (hb.mono (by simp))
  go_wp2_with fail
  go_ret2
  exact ⟨a', n', c', rfl, hs, BW⟩
end Go.Proofs.YtfjcfbmfpefabaaGreat

namespace Go.Proofs.YtfjcfbmfpefabaaGreat
open Go.RowKit
open Calmly (Kept)

set_option maxRecDepth 100000 in
set_option maxHeartbeats 1000000 in
theorem end_any (a : Option Addr) (n c : Nat) (xs : List Int) (w : World) (h1 : SI w a n c xs) (hn0 : 0 < n) (hn : n ≤ 26) (hb : ∀ j : Nat, -1000 ≤ xs[j]?.getD 0 ∧ xs[j]?.getD 0 ≤ 1000) (V D : Int) (hV : sumT xs n = V) (hD : sumT (sumsF xs) n = D) :
    Calls Tryz.prog 34 #[.slice a n c] w fun e w' => e = .returned (.agg #[.int .i64 V, .int .i64 D]) ∧ Below w.heap.size w w' := by
  have hA : ∀ (A : World) (o : Obj), Below A.heap.size A (A.alloc o) := fun A o => (Below.refl _ _).alloc (Nat.le_refl _) _
  obtain ⟨l1, l2⟩ : n ≤ xs.length ∧ xs.length ≤ n := by have := h1.len; omega
  have m1 := h1.max
  have c1 := h1.cap
  have HB := Lib.hid hb
  have e1 : (sumsF xs)[n - 1]?.getD 0 = V := by rw [sumsF_get xs (n - 1) (by omega), ← hV]; congr 1; omega
  have e2 : (sumsF (sumsF xs))[n - 1]?.getD 0 = D := by rw [sumsF_get (sumsF xs) (n - 1) (by rw [sumsF_len]; omega), ← hD]; congr 1; omega
  have HE1 := Lib.hid e1
  have HE2 := Lib.hid e2
  clear hb e1 e2 hV hD
  have hn1 : ((n : Int) - 1).toNat = n - 1 := by omega
  have hn2 : (0 : Int) ≤ (n : Int) - 1 := by omega
  have hn3 : (n : Int) - 1 < (n : Int) := by omega
  go_enter Tryz.func34, Tryz.ntmps34
  go_wp2_with fail
  refine (of_any a n c xs _ (h1.keep (hA _ _)) hn HB.out).mono ?_
  rintro e w1 ⟨av, cv, ad, cd, Bd, rfl, ov, od, hBd, hs⟩
  have x1 := box1 (w := w) (o := .cells #[.int .i64 0, .int .i64 0] 71) hs
  have BW := (hA w (.cells #[.int .i64 0, .int .i64 0] 71)).trans (hs.mono (by simp))
  have hk3 := hA w1 (.cells #[.slice a n c, .slice av n cv, .slice ad n cd] 112)
  have x3 := alloc_new w1 (.cells #[.slice a n c, .slice av n cv, .slice ad n cd] 112)
  have sv := ov.si.keep hk3
  have sd := od.si.keep hk3
  replace x1 := blk_keep x1 hk3
  replace BW := BW.trans (hk3.mono BW.size)
  obtain ⟨bv, oV, rfl, hcv⟩ := sv.at_ hn0
  obtain ⟨bd, oD, rfl, hcd⟩ := sd.at_ hn0
  have ev := hcv (n - 1) (by omega)
  have ed := hcd (n - 1) (by omega)
  rw [HE1.out] at ev
  rw [HE2.out] at ed
  clear hs hk3 hcv hcd ov od
  go_wp2_with fail
  refine Calmly.wp_region_mix 10 (.fl 0 <| .fl 1 <| .fl 2 <| .fl 3 <| .fl 4 <| .fl 5 <| .fl 6 <| .fl 7 <| .fl 8 <| .fl 9 <| .tail [10, 11]) (by kernel_rfl) (by kernel_rfl) ?_
  replace x3 := blk_keep x3 (Below.refl _ _).drew
  replace x1 := blk_keep x1 (Below.refl _ _).drew
  replace ev := cell_keep ev (Below.refl _ _).drew
  replace ed := cell_keep ed (Below.refl _ _).drew
  replace BW := BW.drew
  clear sv sd
  generalize World.drew _ = U at x1 x3 ev ed BW ⊢
  have f0 := cell_block x3 0
  have f1 := cell_block x3 1
  have f2 := cell_block x3 2
  have g0 := cell_block x1 0
  have g1 := cell_block x1 1
  have g2 := frozen_block x1 0
  have g3 := frozen_block x1 1
  have hk := Below.refl U.heap.size U
  go_wp2_with (first | ((with_reducible refine Calmly.is_fl ?_); refine Calmly.mix_fl rfl ?_ (fun _ _ => ?_); (first | exact .move _ | exact .load _ _ | exact .fieldAddr _ _ _ (by kernel_rfl) | exact .assign _ | exact .binOp _ _ _ _ _ rfl | exact .indexAddr _ _ _ | exact .len _ _ (by kernel_rfl) | exact .field _ _ _ | exact .extract _ _ | exact .pick _ _ _ | exact .build _ _ | exact .slice _ _ _ _ _ | exact .unOp _ _ _ rfl | exact .index _ _ _ | exact .max _ _ _ rfl rfl | exact .min _ _ _ rfl rfl)) | ((with_reducible refine Calmly.is_gl ?_); refine Calmly.mix_gl rfl rfl rfl ?_; first | ((first | with_reducible refine Calmly.gl_tt ?_ (fun _ _ => ?_) | with_reducible refine Calmly.gl_ff ?_ (fun _ _ => ?_)); (first | exact .move _ | exact .load _ _ | exact .fieldAddr _ _ _ (by kernel_rfl) | exact .assign _ | exact .binOp _ _ _ _ _ rfl | exact .indexAddr _ _ _ | exact .len _ _ (by kernel_rfl) | exact .field _ _ _ | exact .extract _ _ | exact .pick _ _ _ | exact .build _ _ | exact .slice _ _ _ _ _ | exact .unOp _ _ _ rfl | exact .index _ _ _ | exact .max _ _ _ rfl rfl | exact .min _ _ _ rfl rfl)) | with_reducible refine Calmly.gl_tf (fun _ _ => ?_) | with_reducible refine Calmly.gl_ft (fun _ _ => ?_)) | ((with_reducible refine Calmly.is_eff ?_); refine Calmly.mix_eff rfl (fun _ _ => ?_)) | ((with_reducible refine Calmly.is_gf ?_); refine Calmly.mix_gf rfl rfl rfl ?_; first | with_reducible refine Calmly.gf_tt (fun _ _ => ?_) | with_reducible refine Calmly.gf_ff (fun _ _ => ?_) | with_reducible refine Calmly.gf_tf (kept_of hk) (fun _ _ => ?_) | with_reducible refine Calmly.gf_ft (kept_of hk) (fun _ _ => ?_)) | ((with_reducible refine Calmly.is_tail ?_); first | refine Calmly.mix_tail_nil ?_ | refine Calmly.mix_tail rfl (fun _ _ => ?_)) | ((with_reducible refine Calmly.is_kept ?_); refine ⟨kept_of hk, ?_⟩) | (with_reducible refine Calmly.mix_alt ?_ ?_))
  obtain ⟨s1, s2, s3, s4⟩ := set2 (x := .int .i64 V) (y := .int .i64 D) g0 g1
  refine bodyPost_ret (v := .agg #[.int .i64 V, .int .i64 D]) (by simp [results, Tryz.results34, go_sem, s1, s2]) rfl ⟨rfl, ?_⟩
  exact (BW.setCell (by simp) _).setCell (by simp) _
end Go.Proofs.YtfjcfbmfpefabaaGreat

namespace Go.Proofs.YtfjcfbmfpefabaaGreat
open Go.RowKit
open Calmly (Kept)

set_option maxRecDepth 100000 in
set_option maxHeartbeats 1000000 in
theorem nMax_any (a : Option Addr) (n c : Nat) (xs : List Int) (w : World) (h1 : SI w a n c xs) (h0 : 0 < n) :
    Calls Tryz.prog 102 #[.slice a n c] w fun e w' => e = .returned (.int .i64 (mxT xs n)) ∧ w = w' := by
  have m1 := h1.max
  have c1 := h1.cap
  obtain ⟨b1, o1, rfl, hc1⟩ := h1.at_ h0
  have e0 := hc1 0 h0
  simp only [Nat.add_zero] at e0
  have hn1 : (1 : Int) ≤ (n : Int) := by omega
  have hn0 : (0 : Int) < (n : Int) := by omega
  go_enter Tryz.func102, Tryz.ntmps102
  go_wp2_with fail
  go_loop [3, 4] (fun m i => ∃ k : Nat, 1 ≤ k ∧ k ≤ n ∧ i = .int .i64 k ∧ m = .int .i64 (mxT xs k)) (fun _ i => n - (intOf i).toNat)
  case atStart => exact ⟨1, by omega, by omega, rfl, by simp [mxT]⟩
  case round =>
    obtain ⟨k, hk0, hk, rfl, rfl⟩ := hrel
    by_cases hlt : k < n
    · have e1 := hc1 k hlt
      clear hc1
      have hd : mxT xs (k + 1) = max (mxT xs k) (xs[k]?.getD 0) := rfl
      have HD := Lib.hid hd
      clear hd
      obtain ⟨x, hx⟩ : ∃ x, xs[k]?.getD 0 = x := ⟨_, rfl⟩
      obtain ⟨m, hm⟩ : ∃ m, mxT xs k = m := ⟨_, rfl⟩
      rw [hx] at e1
      rw [hx, hm] at HD
      rw [hm]
      clear hx hm
      have hi : (k : Int) < (n : Int) := by omega
      have hi0 : (0 : Int) ≤ (k : Int) := by omega
      rcases Int.lt_or_le m x with t | t
      · have t' : m ≤ x := by omega
        go_wp2_with fail
        go_round
        case rel => exact ⟨k + 1, by omega, by omega, by go_num, by rw [HD.out]; exact congrArg _ (by omega)⟩
        case measure => simp [intOf]; omega
      · go_wp2_with fail
        go_round
        case rel => exact ⟨k + 1, by omega, by omega, by go_num, by rw [HD.out]; exact congrArg _ (by omega)⟩
        case measure => simp [intOf]; omega
    · have hle : (n : Int) ≤ (k : Int) := by omega
      obtain rfl : k = n := by omega
      go_wp2_with fail
      go_ret
      exact ⟨rfl, rfl⟩

set_option maxRecDepth 100000 in
set_option maxHeartbeats 1000000 in
theorem nMin_any (a : Option Addr) (n c : Nat) (xs : List Int) (w : World) (h1 : SI w a n c xs) (h0 : 0 < n) :
    Calls Tryz.prog 103 #[.slice a n c] w fun e w' => e = .returned (.int .i64 (mnT xs n)) ∧ w = w' := by
  have m1 := h1.max
  have c1 := h1.cap
  obtain ⟨b1, o1, rfl, hc1⟩ := h1.at_ h0
  have e0 := hc1 0 h0
  simp only [Nat.add_zero] at e0
  have hn1 : (1 : Int) ≤ (n : Int) := by omega
  have hn0 : (0 : Int) < (n : Int) := by omega
  go_enter Tryz.func103, Tryz.ntmps103
  go_wp2_with fail
  go_loop [3, 4] (fun m i => ∃ k : Nat, 1 ≤ k ∧ k ≤ n ∧ i = .int .i64 k ∧ m = .int .i64 (mnT xs k)) (fun _ i => n - (intOf i).toNat)
  case atStart => exact ⟨1, by omega, by omega, rfl, by simp [mnT]⟩
  case round =>
    obtain ⟨k, hk0, hk, rfl, rfl⟩ := hrel
    by_cases hlt : k < n
    · have e1 := hc1 k hlt
      clear hc1
      have hd : mnT xs (k + 1) = min (mnT xs k) (xs[k]?.getD 0) := rfl
      have HD := Lib.hid hd
      clear hd
      obtain ⟨x, hx⟩ : ∃ x, xs[k]?.getD 0 = x := ⟨_, rfl⟩
      obtain ⟨m, hm⟩ : ∃ m, mnT xs k = m := ⟨_, rfl⟩
      rw [hx] at e1
      rw [hx, hm] at HD
      rw [hm]
      clear hx hm
      have hi : (k : Int) < (n : Int) := by omega
      have hi0 : (0 : Int) ≤ (k : Int) := by omega
      rcases Int.lt_or_le x m with t | t
      · have t' : x ≤ m := by omega
        go_wp2_with fail
        go_round
        case rel => exact ⟨k + 1, by omega, by omega, by go_num, by rw [HD.out]; exact congrArg _ (by omega)⟩
        case measure => simp [intOf]; omega
      · go_wp2_with fail
        go_round
        case rel => exact ⟨k + 1, by omega, by omega, by go_num, by rw [HD.out]; exact congrArg _ (by omega)⟩
        case measure => simp [intOf]; omega
    · have hle : (n : Int) ≤ (k : Int) := by omega
      obtain rfl : k = n := by omega
      go_wp2_with fail
      go_ret
      exact ⟨rfl, rfl⟩

set_option maxHeartbeats 400000 in
theorem peak_any (a : Option Addr) (n c : Nat) (xs : List Int) (w : World) (h1 : SI w a n c xs) (h0 : 0 < n) (hb : ∀ j : Nat, -9000000000000000000 ≤ xs[j]?.getD 0 ∧ xs[j]?.getD 0 ≤ 9000000000000000000) :
    Calls Tryz.prog 84 #[.slice a n c] w fun e w' => e = .returned (.int .i64 (gsT xs n)) ∧ w = w' := by
  have hp := peak_law xs n h0
  have hm : -9000000000000000000 ≤ mnT xs n ∧ mnT xs n ≤ 9000000000000000000 := by
    have key : ∀ k, -9000000000000000000 ≤ mnT xs k ∧ mnT xs k ≤ 9000000000000000000 := by
      intro k
      induction k with
      | zero => exact hb 0
      | succ k ih =>
        have := hb k
        rw [mnT]
        omega
    exact key n
  obtain ⟨hm1, hm2⟩ := hm
  have HP := Lib.hid hp
  clear hp hb
  go_enter Tryz.func84, Tryz.ntmps84
  go_wp2_with fail
  refine (nMax_any a n c xs _ h1 h0).mono ?_
  rintro e w1 ⟨rfl, rfl⟩
  go_wp2_with fail
  refine (nMin_any a n c xs _ h1 h0).mono ?_
  rintro e w1 ⟨rfl, rfl⟩
  obtain ⟨M, hM⟩ : ∃ M, mxT xs n = M := ⟨_, rfl⟩
  obtain ⟨m, hm⟩ : ∃ m, mnT xs n = m := ⟨_, rfl⟩
  rw [hM, hm] at HP
  rw [hm] at hm1 hm2 ⊢
  rw [hM]
  clear hM hm
  go_wp2_with fail
  all_goals
    go_ret
    refine ⟨ret_int ?_, rfl⟩
    rw [← HP.out]
    omega

end Go.Proofs.YtfjcfbmfpefabaaGreat

namespace Go.Proofs.YtfjcfbmfpefabaaGreat
open Go.RowKit
open Calmly (Kept)

end Go.Proofs.YtfjcfbmfpefabaaGreat

namespace Go.Proofs.YtfjcfbmfpefabaaGreat

/-- All lists of so many times, in lexicographic order. -/
def five : List Int := [-2, -1, 0, 1, 2]
def allC : Nat → List (List Int)
  | 0 => [[]]
  | k + 1 => five.flatMap (fun n => (allC k).map (fun c => n :: c))
/-- Those that begin so. -/
def genC (pre : List Int) (k : Nat) : List (List Int) := (allC k).map (fun c => pre ++ c)
theorem genC_zero (pre : List Int) : genC pre 0 = [pre] := by simp [genC, allC]
theorem genC_succ (pre : List Int) (k : Nat) : genC pre (k + 1) = five.flatMap (fun n => genC (pre ++ [n]) k) := by
  unfold genC
  rw [allC, List.map_flatMap]
  congr 1
  funext n
  rw [List.map_map]
  congr 1
  funext c
  simp
theorem genC_nil (k : Nat) : genC [] k = allC k := by simp [genC]
theorem allC_len {k : Nat} {c : List Int} (h : c ∈ allC k) : c.length = k ∧ ∀ j : Nat, -2 ≤ c[j]?.getD 0 ∧ c[j]?.getD 0 ≤ 2 := by
  induction k generalizing c with
  | zero =>
    simp [allC] at h
    subst h
    simp
  | succ k ih =>
    rw [allC, List.mem_flatMap] at h
    obtain ⟨n, hn, h⟩ := h
    obtain ⟨d, hd, rfl⟩ := List.mem_map.1 h
    obtain ⟨h1, h2⟩ := ih hd
    refine ⟨by simp [h1], fun j => ?_⟩
    cases j with
    | zero =>
      simp [five] at hn
      simp
      omega
    | succ j => simpa using h2 j
theorem mem_allC {c : List Int} (h : ∀ x ∈ c, -2 ≤ x ∧ x ≤ 2) : c ∈ allC c.length := by
  induction c with
  | nil => simp [allC]
  | cons x c ih =>
    rw [List.length_cons, allC, List.mem_flatMap]
    refine ⟨x, ?_, List.mem_map.2 ⟨c, ih (fun y hy => h y (List.mem_cons_of_mem _ hy)), rfl⟩⟩
    have := h x List.mem_cons_self
    simp [five]
    omega
/-- The sum of the sizes of the first times. -/
def szT (ts : List Int) : Nat → Int
  | 0 => 0
  | k + 1 => szT ts k + sizeOf' (ts[k]?.getD 0)
def szs (ts : List Int) : Int := szT ts ts.length
theorem szT_bd {ts : List Int} (h : ∀ j : Nat, -2 ≤ ts[j]?.getD 0 ∧ ts[j]?.getD 0 ≤ 2) (k : Nat) : 0 ≤ szT ts k ∧ szT ts k ≤ 2 * (k : Int) := by
  induction k with
  | zero => simp [szT]
  | succ k ih =>
    have := h k
    rw [szT, sizeOf_abs]
    omega
/-- What is best of those that came so far; false: none. -/
def mtStep (good : List Int → Bool) (s : List Int × Bool) (t : List Int) : List Int × Bool := if good t = true ∧ (s.2 = true → szs t < szs s.1) then (t, true) else s
def mtF (good : List Int → Bool) (k : Nat) : List Int × Bool := (allC k).foldl (mtStep good) ([], false)
theorem mtStep_none {good : List Int → Bool} {s : List Int × Bool} {t : List Int} (h : (mtStep good s t).2 = false) : s.2 = false ∧ good t = false := by
  unfold mtStep at h
  split at h
  · cases h
  · rename_i hn
    refine ⟨h, ?_⟩
    cases hg : good t with
    | false => rfl
    | true => exact absurd ⟨hg, fun hs => by rw [h] at hs; cases hs⟩ hn
/-- The law of the best: it is good, and no good one has a smaller sum of sizes. -/
theorem mt_inv (good : List Int → Bool) (l : List (List Int)) (s : List Int × Bool) :
    ((l.foldl (mtStep good) s).2 = false → s.2 = false ∧ ∀ t ∈ l, good t = false) ∧
      ((l.foldl (mtStep good) s).2 = true → ((s.2 = true ∧ (l.foldl (mtStep good) s) = s) ∨ ((l.foldl (mtStep good) s).1 ∈ l ∧ good (l.foldl (mtStep good) s).1 = true)) ∧
        (s.2 = true → szs (l.foldl (mtStep good) s).1 ≤ szs s.1) ∧ ∀ t ∈ l, good t = true → szs (l.foldl (mtStep good) s).1 ≤ szs t) := by
  induction l generalizing s with
  | nil => exact ⟨fun h => ⟨h, by simp⟩, fun h => ⟨.inl ⟨h, rfl⟩, fun _ => Int.le_refl _, by simp⟩⟩
  | cons t l ih =>
    obtain ⟨h1, h2⟩ := ih (mtStep good s t)
    rw [List.foldl_cons]
    refine ⟨fun h => ?_, fun h => ?_⟩
    · obtain ⟨a1, a2⟩ := h1 h
      obtain ⟨b1, b2⟩ := mtStep_none a1
      refine ⟨b1, fun u hu => ?_⟩
      rcases List.mem_cons.1 hu with rfl | hu
      · exact b2
      · exact a2 u hu
    · obtain ⟨a1, a2, a3⟩ := h2 h
      generalize l.foldl (mtStep good) (mtStep good s t) = r at *
      by_cases hc : good t = true ∧ (s.2 = true → szs t < szs s.1)
      · have e : mtStep good s t = (t, true) := by unfold mtStep; rw [if_pos hc]
        rw [e] at a1 a2
        have b2 := a2 rfl
        refine ⟨.inr ?_, fun hs => ?_, fun u hu hg => ?_⟩
        · rcases a1 with ⟨_, rfl⟩ | ⟨c1, c2⟩
          · exact ⟨List.mem_cons_self, hc.1⟩
          · exact ⟨List.mem_cons_of_mem _ c1, c2⟩
        · have := hc.2 hs
          dsimp only at b2
          omega
        · rcases List.mem_cons.1 hu with rfl | hu
          · exact b2
          · exact a3 u hu hg
      · have e : mtStep good s t = s := by unfold mtStep; rw [if_neg hc]
        rw [e] at a1 a2
        refine ⟨?_, a2, fun u hu hg => ?_⟩
        · rcases a1 with c1 | ⟨c1, c2⟩
          · exact .inl c1
          · exact .inr ⟨List.mem_cons_of_mem _ c1, c2⟩
        · rcases List.mem_cons.1 hu with rfl | hu
          · by_cases hs : s.2 = true
            · have h3 : ¬ szs u < szs s.1 := fun h4 => hc ⟨hg, fun _ => h4⟩
              have := a2 hs
              omega
            · exact absurd ⟨hg, fun h4 => absurd h4 hs⟩ hc
          · exact a3 u hu hg
/-- Samples with the first waves added. -/
def adS (ws : List (List Int)) (ts : List Int) (t : Nat) : Nat → Int
  | 0 => 0
  | i + 1 => adS ws ts t i + ts[i]?.getD 0 * (ws[i]?.getD [])[t]?.getD 0
def adTo (xs : List Int) (ws : List (List Int)) (ts : List Int) (i : Nat) : List Int := (List.range xs.length).map (fun t => xs[t]?.getD 0 + adS ws ts t i)
theorem adTo_len (xs : List Int) (ws : List (List Int)) (ts : List Int) (i : Nat) : (adTo xs ws ts i).length = xs.length := by simp [adTo]
theorem adTo_get (xs : List Int) (ws : List (List Int)) (ts : List Int) (i t : Nat) (h : t < xs.length) : (adTo xs ws ts i)[t]?.getD 0 = xs[t]?.getD 0 + adS ws ts t i := by
  unfold adTo
  rw [List.getElem?_map, List.getElem?_range h]
  rfl
theorem adTo_zero (xs : List Int) (ws : List (List Int)) (ts : List Int) : adTo xs ws ts 0 = xs := by
  refine List.ext_getElem (adTo_len _ _ _ _) fun t h1 h2 => ?_
  have := adTo_get xs ws ts 0 t h2
  rw [List.getElem?_eq_getElem h1, List.getElem?_eq_getElem h2] at this
  simpa [adS] using this
/-- The first positions of one wave more. -/
def adMid (xs : List Int) (ws : List (List Int)) (ts : List Int) (i p : Nat) : List Int := (adTo xs ws ts (i + 1)).take p ++ (adTo xs ws ts i).drop p
theorem adMid_zero (xs : List Int) (ws : List (List Int)) (ts : List Int) (i : Nat) : adMid xs ws ts i 0 = adTo xs ws ts i := by simp [adMid]
theorem adMid_all (xs : List Int) (ws : List (List Int)) (ts : List Int) (i p : Nat) (h : xs.length ≤ p) : adMid xs ws ts i p = adTo xs ws ts (i + 1) := by
  unfold adMid
  rw [List.take_of_length_le (by rw [adTo_len]; exact h), List.drop_eq_nil_of_le (by rw [adTo_len]; exact h), List.append_nil]
theorem adMid_len (xs : List Int) (ws : List (List Int)) (ts : List Int) (i p : Nat) : (adMid xs ws ts i p).length = xs.length := by
  simp [adMid, adTo_len]
  omega
theorem adMid_get (xs : List Int) (ws : List (List Int)) (ts : List Int) (i p : Nat) (h : p < xs.length) : (adMid xs ws ts i p)[p]?.getD 0 = xs[p]?.getD 0 + adS ws ts p i := by
  unfold adMid
  rw [List.getElem?_append_right (by simp [adTo_len]; omega), List.length_take, adTo_len, Nat.min_eq_left (by omega), Nat.sub_self, List.getElem?_drop, Nat.add_zero, adTo_get _ _ _ _ _ h]
theorem adMid_set (xs : List Int) (ws : List (List Int)) (ts : List Int) (i p : Nat) (h : p < xs.length) :
    (adMid xs ws ts i p).set p (xs[p]?.getD 0 + adS ws ts p i + ts[i]?.getD 0 * (ws[i]?.getD [])[p]?.getD 0) = adMid xs ws ts i (p + 1) := by
  have hl1 : (adTo xs ws ts (i + 1)).length = xs.length := adTo_len _ _ _ _
  have hl2 : (adTo xs ws ts i).length = xs.length := adTo_len _ _ _ _
  unfold adMid
  rw [List.drop_eq_getElem_cons (by omega), List.set_append_right _ _ (by simp; omega), List.length_take, hl1, Nat.min_eq_left (by omega), Nat.sub_self, List.set_cons_zero, List.take_succ_eq_append_getElem (by omega), List.append_assoc]
  congr 1
  have e := adTo_get xs ws ts (i + 1) p h
  rw [List.getElem?_eq_getElem (by omega)] at e
  simp only [Option.getD_some] at e
  rw [e, adS, Int.add_assoc]
  rfl
/-- Whether all numbers are samples. -/
theorem gsT_le (xs : List Int) (M : Int) (hM : 0 ≤ M) (k : Nat) : gsT xs k ≤ M ↔ ∀ j, j < k → -M ≤ xs[j]?.getD 0 ∧ xs[j]?.getD 0 ≤ M := by
  induction k with
  | zero => simp [gsT]; exact hM
  | succ k ih =>
    rw [gsT, sizeOf_abs]
    constructor
    · intro h j hj
      rcases Nat.lt_or_ge j k with h1 | h1
      · exact ih.1 (by omega) j h1
      · obtain rfl : j = k := by omega
        omega
    · intro h
      have h1 := ih.2 (fun j hj => h j (by omega))
      have h2 := h k (by omega)
      omega
end Go.Proofs.YtfjcfbmfpefabaaGreat
