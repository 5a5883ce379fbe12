/- Plain law of chapter 2: samples, sums, ends, peaks and responses. Contracts of chapter 2: which records are valid. A region walked by a plan: an operation whose guard is itself an operation that was not carried out. Contracts of chapter 2: the error of a record, and sums. Words that the packages share: rows of the call's own under stores below them, what a call laid before it called another one, cells that are stored into. Contracts of chapter 2: the reference's error of a record. A range over a function whose loop variable is one that lay before (its cell is written by the assignment), and whose body is never left early. A range over a function whose body is never left early, and may rely on something of each value it is handed. Plain law of chapter 2: all lists of times, and the match. -/
import Derived.Test.YtiibdndchkbefaaK03
import Derived.RangeFuncFrom
import Derived.RangeFuncBound
import Derived.RangeFuncCalls
import Derived.RangeFuncLeaves
import Derived.RangeFuncWrites
import Derived.Shelf.Abstract
import Derived.Shelf.RegionOpen
import Derived.OwnWalkIn
import Derived.TacticsInMore
import Derived.LoopNIn
import Derived.LoopIn
namespace Go.Proofs.Ytiibdndchkbefaa

/-- Samples; the first number that is none. -/
def smp (n : Int) : Bool := wIn n (-1000) 1000
def badS : List Int → Nat → Option Nat
  | [], _ => none
  | x :: l, i => if smp x = true then badS l (i + 1) else some i
theorem badS_drop (xs : List Int) (k : Nat) (h : k < xs.length) : badS (xs.drop k) k = if smp (xs[k]?.getD 0) = true then badS (xs.drop (k + 1)) (k + 1) else some k := by
  rw [List.drop_eq_getElem_cons h, badS, List.getElem?_eq_getElem h]
  rfl
theorem badS_none {xs : List Int} {i : Nat} (h : badS xs i = none) : ∀ j : Nat, -1000 ≤ xs[j]?.getD 0 ∧ xs[j]?.getD 0 ≤ 1000 := by
  induction xs generalizing i with
  | nil => intro j; simp
  | cons x l ih =>
    rw [badS] at h
    split at h
    · rename_i hx
      intro j
      cases j with
      | zero => exact wIn_iff.1 hx
      | succ j => exact ih h j
    · cases h
/-- The index and the error of a record. -/
def recF (step : Int) (xs : List Int) : Int × Int :=
  if wIn step 1 1000000 = true then
    if 1 < xs.length then
      if xs.length ≤ 24 then (match badS xs 0 with | none => (0, 0) | some i => ((i : Int), 2)) else (0, 8)
    else (0, 10)
  else (0, 2)
theorem recF_ok {step : Int} {xs : List Int} (h : (recF step xs).2 = 0) : 1 < xs.length ∧ xs.length ≤ 24 ∧ (1 ≤ step ∧ step ≤ 1000000) ∧ badS xs 0 = none ∧ ∀ j : Nat, -1000 ≤ xs[j]?.getD 0 ∧ xs[j]?.getD 0 ≤ 1000 := by
  unfold recF at h
  split at h
  · rename_i h1
    split at h
    · split at h
      · rename_i h2 h3
        cases hb : badS xs 0 with
        | none => exact ⟨h2, h3, wIn_iff.1 h1, rfl, badS_none hb⟩
        | some i => rw [hb] at h; cases h
      · cases h
    · cases h
  · cases h

/-- The sum of the first numbers; all these sums. -/
def sumT (xs : List Int) : Nat → Int
  | 0 => 0
  | k + 1 => sumT xs k + xs[k]?.getD 0
def sumsF (xs : List Int) : List Int := (List.range xs.length).map (fun t => sumT xs (t + 1))
def sumsTo (xs : List Int) (k : Nat) : List Int := (List.range k).map (fun t => sumT xs (t + 1))
theorem sumsTo_succ (xs : List Int) (k : Nat) : sumsTo xs (k + 1) = sumsTo xs k ++ [sumT xs (k + 1)] := by
  unfold sumsTo
  rw [List.range_succ, List.map_append]
  rfl
theorem sumsF_len (xs : List Int) : (sumsF xs).length = xs.length := by simp [sumsF]
theorem sumsF_get (xs : List Int) (k : Nat) (h : k < xs.length) : (sumsF xs)[k]?.getD 0 = sumT xs (k + 1) := by
  unfold sumsF
  rw [List.getElem?_map, List.getElem?_range h]
  rfl
theorem sumT_bd {xs : List Int} {M : Int} (h : ∀ j : Nat, -M ≤ xs[j]?.getD 0 ∧ xs[j]?.getD 0 ≤ M) (k : Nat) : -(M * (k : Int)) ≤ sumT xs k ∧ sumT xs k ≤ M * (k : Int) := by
  induction k with
  | zero => simp [sumT]
  | succ k ih =>
    have := h k
    rw [sumT]
    have e : M * ((k + 1 : Nat) : Int) = M * (k : Int) + M := by rw [Int.natCast_add, Int.mul_add]; simp
    rw [e]
    omega
/-- The displacement at the end, as the reference has it. -/
def endT (xs : List Int) (n : Int) : Nat → Int
  | 0 => 0
  | k + 1 => endT xs n k + (n - (k : Int)) * xs[k]?.getD 0
theorem endT_more (xs : List Int) (n : Int) (k : Nat) : endT xs (n + 1) k = endT xs n k + sumT xs k := by
  induction k with
  | zero => rfl
  | succ k ih =>
    rw [endT, endT, sumT, ih]
    have : (n + 1 - (k : Int)) * xs[k]?.getD 0 = (n - (k : Int)) * xs[k]?.getD 0 + xs[k]?.getD 0 := by
      rw [show n + 1 - (k : Int) = (n - (k : Int)) + 1 by omega, Int.add_mul, Int.one_mul]
    omega
theorem sumT_sums (xs : List Int) (k : Nat) (h : k ≤ xs.length) : sumT (sumsF xs) k = endT xs k k := by
  induction k with
  | zero => rfl
  | succ k ih =>
    rw [sumT, ih (by omega), sumsF_get xs k (by omega), show ((k + 1 : Nat) : Int) = (k : Int) + 1 by omega, endT_more, endT]
    have : ((k : Int) - (k : Int)) * xs[k]?.getD 0 = 0 := by rw [Int.sub_self, Int.zero_mul]
    omega

/-- The greatest size of numbers. -/
def gsT (xs : List Int) : Nat → Int
  | 0 => 0
  | k + 1 => max (gsT xs k) (sizeOf' (xs[k]?.getD 0))
/-- The greatest, and the smallest of numbers. -/
def mxT (xs : List Int) : Nat → Int
  | 0 => xs[0]?.getD 0
  | k + 1 => max (mxT xs k) (xs[k]?.getD 0)
def mnT (xs : List Int) : Nat → Int
  | 0 => xs[0]?.getD 0
  | k + 1 => min (mnT xs k) (xs[k]?.getD 0)
theorem peak_law (xs : List Int) (k : Nat) (h : 0 < k) : max (mxT xs k) (-(mnT xs k)) = gsT xs k := by
  have key : ∀ k, 0 < k → max (mxT xs k) (-(mnT xs k)) = gsT xs k ∧ mnT xs k ≤ mxT xs k := by
    intro k hk
    induction k with
    | zero => omega
    | succ k ih =>
      rcases Nat.eq_zero_or_pos k with rfl | h0
      · simp only [mxT, mnT, gsT, sizeOf']
        split <;> omega
      · obtain ⟨h1, h2⟩ := ih h0
        simp only [mxT, mnT, gsT, sizeOf']
        split <;> omega
  exact (key k h).1

/-- The two last displacements of an oscillator. -/
def rspT (xs : List Int) (st dm : Int) : Nat → Int × Int
  | 0 => (0, 0)
  | k + 1 => (2 * (rspT xs st dm k).1 - (rspT xs st dm k).2 - (st * (rspT xs st dm k).1 + dm * ((rspT xs st dm k).1 - (rspT xs st dm k).2)).tdiv 1000 - xs[k]?.getD 0, (rspT xs st dm k).1)
def rspTo (xs : List Int) (st dm : Int) (k : Nat) : List Int := (List.range k).map (fun t => (rspT xs st dm (t + 1)).1)
theorem rspTo_succ (xs : List Int) (st dm : Int) (k : Nat) : rspTo xs st dm (k + 1) = rspTo xs st dm k ++ [(rspT xs st dm (k + 1)).1] := by
  unfold rspTo
  rw [List.range_succ, List.map_append]
  rfl
/-- How great they are at most. -/
def rspB : Nat → Int × Int
  | 0 => (0, 0)
  | k + 1 => (2 * (rspB k).1 + (rspB k).2 + 1001, (rspB k).1)
theorem rspB_pos (k : Nat) : 0 ≤ (rspB k).2 ∧ (rspB k).2 ≤ (rspB k).1 := by
  induction k with
  | zero => decide
  | succ k ih =>
    rw [rspB]
    dsimp only
    omega
theorem rspB_mono {j k : Nat} (h : j ≤ k) : (rspB j).1 ≤ (rspB k).1 := by
  induction k with
  | zero =>
    obtain rfl : j = 0 := by omega
    exact Int.le_refl _
  | succ k ih =>
    rcases Nat.lt_or_ge k j with h1 | h1
    · obtain rfl : j = k + 1 := by omega
      exact Int.le_refl _
    · refine Int.le_trans (ih h1) ?_
      have := rspB_pos k
      rw [rspB]
      dsimp only
      omega
theorem pr_bd {c a C A : Int} (h1 : -C ≤ c) (h2 : c ≤ C) (h3 : -A ≤ a) (h4 : a ≤ A) : -(C * A) ≤ c * a ∧ c * a ≤ C * A := by
  have e : (c * a).natAbs ≤ C.toNat * A.toNat := by
    rw [Int.natAbs_mul]
    exact Nat.mul_le_mul (by omega) (by omega)
  have e2 : ((C.toNat * A.toNat : Nat) : Int) = C * A := by
    rw [Int.natCast_mul, Int.toNat_of_nonneg (by omega), Int.toNat_of_nonneg (by omega)]
  omega
theorem rsp_step {st dm a b x A B : Int} (hs : 0 ≤ st ∧ st ≤ 3000) (hd : 0 ≤ dm ∧ dm ≤ 500) (hx : -1000 ≤ x ∧ x ≤ 1000) (ha : -A ≤ a ∧ a ≤ A) (hb : -B ≤ b ∧ b ≤ B) :
    (-(3000 * A) ≤ st * a ∧ st * a ≤ 3000 * A) ∧ (-(500 * (A + B)) ≤ dm * (a - b) ∧ dm * (a - b) ≤ 500 * (A + B)) ∧
      -(2 * A + B + 1001) ≤ 2 * a - b - (st * a + dm * (a - b)).tdiv 1000 - x ∧ 2 * a - b - (st * a + dm * (a - b)).tdiv 1000 - x ≤ 2 * A + B + 1001 := by
  have p1 := pr_bd (c := st) (a := a) (C := 3000) (A := A) (by omega) (by omega) ha.1 ha.2
  have p2 := pr_bd (c := dm) (a := a - b) (C := 500) (A := A + B) (by omega) (by omega) (by omega) (by omega)
  have p3 := pr_bd (c := 2000 - st - dm) (a := a) (C := 2000) (A := A) (by omega) (by omega) ha.1 ha.2
  have p4 := pr_bd (c := dm - 1000) (a := b) (C := 1000) (A := B) (by omega) (by omega) hb.1 hb.2
  have e : (2000 - st - dm) * a + (dm - 1000) * b = 2000 * a - 1000 * b - (st * a + dm * (a - b)) := by grind
  have t1 := Int.tmod_add_mul_tdiv (st * a + dm * (a - b)) 1000
  have t2 : -999 ≤ (st * a + dm * (a - b)).tmod 1000 ∧ (st * a + dm * (a - b)).tmod 1000 ≤ 999 := by
    have h1 := Int.natAbs_tmod (st * a + dm * (a - b)) 1000
    have h2 : (st * a + dm * (a - b)).natAbs % (1000 : Int).natAbs < 1000 := Nat.mod_lt _ (by decide)
    omega
  refine ⟨p1, p2, ?_⟩
  generalize (2000 - st - dm) * a = X at *
  generalize (dm - 1000) * b = Y at *
  generalize st * a + dm * (a - b) = V at *
  omega
theorem rspT_bd {xs : List Int} {st dm : Int} (hs : 0 ≤ st ∧ st ≤ 3000) (hd : 0 ≤ dm ∧ dm ≤ 500) (hx : ∀ j : Nat, -1000 ≤ xs[j]?.getD 0 ∧ xs[j]?.getD 0 ≤ 1000) (k : Nat) :
    (-(rspB k).1 ≤ (rspT xs st dm k).1 ∧ (rspT xs st dm k).1 ≤ (rspB k).1) ∧ (-(rspB k).2 ≤ (rspT xs st dm k).2 ∧ (rspT xs st dm k).2 ≤ (rspB k).2) := by
  induction k with
  | zero =>
    show (-(0 : Int) ≤ 0 ∧ (0 : Int) ≤ 0) ∧ (-(0 : Int) ≤ 0 ∧ (0 : Int) ≤ 0)
    decide
  | succ k ih =>
    obtain ⟨h1, h2⟩ := ih
    exact ⟨(rsp_step hs hd (hx k) h1 h2).2.2, h1⟩
theorem rspB_num : (rspB 23).1 ≤ 1099511627776 ∧ (rspB 26).1 ≤ 10000000000000 := by decide
end Go.Proofs.Ytiibdndchkbefaa

namespace Go.Proofs.Ytiibdndchkbefaa
open Go.RowKit
open Calmly (Kept)

set_option maxHeartbeats 400000 in
theorem isSample_any (x : Int) (w : World) : Calls Try.prog 97 #[.int .i64 x] w fun e w' => e = .returned (.bool (smp x)) ∧ w = w' := by
  go_enter Try.func97, Try.ntmps97
  go_wp2_with fail
  refine (nSized_any x 1000 _ (by omega) (by omega)).mono ?_
  rintro e w1 ⟨rfl, rfl⟩
  go_wp2_with fail
  go_ret
  exact ⟨rfl, rfl⟩
set_option maxHeartbeats 400000 in
theorem noSample_any (x : Int) (w : World) : Calls Try.prog 96 #[.int .i64 x] w fun e w' => e = .returned (.bool (!smp x)) ∧ w = w' := by
  go_enter Try.func96, Try.ntmps96
  go_wp2_with fail
  refine (isSample_any x _).mono ?_
  rintro e w1 ⟨rfl, rfl⟩
  go_wp2_with fail
  go_ret
  exact ⟨rfl, rfl⟩

/-- The index as the program has it. -/
def badI (xs : List Int) : Int := match badS xs 0 with | none => -1 | some i => (i : Int)

set_option maxRecDepth 100000 in
set_option maxHeartbeats 1000000 in
theorem indexBad_any (a : Option Addr) (n c : Nat) (xs : List Int) (w : World) (h1 : SI w a n c xs) :
    Calls Try.prog 95 #[.slice a n c, .func (.func 96) #[] #[]] w fun e w' => e = .returned (.int .i64 (badI xs)) ∧ w = w' := by
  obtain ⟨l1, l2⟩ : n ≤ xs.length ∧ xs.length ≤ n := by have := h1.len; omega
  have m1 := h1.max
  have c1 := h1.cap
  obtain ⟨R, hR⟩ : ∃ R, badI xs = R := ⟨_, rfl⟩
  rw [hR]
  have HR := Lib.hid hR
  clear hR
  go_enter Try.func95, Try.ntmps95
  go_wp2_with fail
  go_loop [8] (fun i => ∃ k : Nat, k ≤ n ∧ i = .int .i64 k ∧ badS xs 0 = badS (xs.drop k) k) (fun i => n - (intOf i).toNat)
  case atStart => exact ⟨0, by omega, rfl, rfl⟩
  case round =>
    obtain ⟨k, hk, rfl, ht⟩ := hrel
    have HT := Lib.hid ht
    clear ht
    by_cases hlt : k < n
    · obtain ⟨b1, o1, rfl, hc1⟩ := h1.at_ (by omega)
      have e1 := hc1 k hlt
      clear hc1
      have hi : (k : Int) < (n : Int) := by omega
      have hi0 : (0 : Int) ≤ (k : Int) := by omega
      have hd := badS_drop xs k (by omega)
      obtain ⟨x, hxx⟩ : ∃ x, xs[k]?.getD 0 = x := ⟨_, rfl⟩
      rw [hxx] at e1 hd
      have HD := Lib.hid hd
      clear hxx hd
      go_wp2_with fail
      refine (noSample_any _ _).mono ?_
      rintro e w1 ⟨rfl, rfl⟩
      cases ho : smp x
      · go_wp2_with fail
        go_ret
        refine ⟨ret_int ?_, rfl⟩
        rw [← HR.out, badI, HT.out, HD.out, ho]
        rfl
      · go_wp2_with fail
        go_round
        case rel => exact ⟨k + 1, by omega, by go_num, by rw [HT.out, HD.out, ho]; rfl⟩
        case measure => simp [intOf]; omega
    · have hle : (n : Int) ≤ (k : Int) := by omega
      go_wp2_with fail
      go_ret
      refine ⟨ret_int ?_, rfl⟩
      rw [← HR.out, badI, HT.out, List.drop_eq_nil_of_le (by omega)]
      rfl
end Go.Proofs.Ytiibdndchkbefaa

namespace Go.Calmly
section
variable {P : Program} {ops : Array Oper} {Q : Exit → Act → World → Prop} {w0 : World}
theorem wanted_un {o : Oper} {g d : Nat} {want : Bool} {a : Act} (hg : o.guard = some (g, want)) (hd : (ops[g]?).bind (·.dst) = some d) (hv : a.tmps[d]? = some undef) :
    Region.wanted o (yielded ops a.tmps) = false := by
  simp only [Region.wanted, hg, yielded, hd, Option.bind_some, hv]
  cases want <;> rfl
theorem mix_glu {i : Nat} {k : Plan} {dst : Option Tmp} {op : Op} {ty : TypeId} {pos : String} {after : Array Edge} {a : Act} {w : World} {g d : Nat} {want : Bool} (hi : ops[i]? = some ⟨dst, op, ty, pos, after, some (g, want)⟩) (hd : (ops[g]?).bind (·.dst) = some d) (hv : a.tmps[d]? = some undef)
    (h : ∀ K : Act → World → Prop, (∀ a', WpMix P ops Q w0 k a' w → K a' w0) → Oper.wp P ⟨dst, .assign (.const undef), ty, pos, after, none⟩ a w0 K NoQ) : WpMix P ops Q w0 (.gl i k) a w := by
  refine ⟨?_⟩
  have hw := wanted_un (o := ⟨dst, op, ty, pos, after, some (g, want)⟩) rfl hd hv
  simp only [Plan.gl, wpMix, hi, hw, Bool.false_eq_true, if_false]
  exact h (fun a' _ => wpMix P ops Q w0 k a' w) (fun _ hh => hh.out)
theorem mix_gfu {i : Nat} {k : Plan} {dst : Option Tmp} {op : Op} {ty : TypeId} {pos : String} {after : Array Edge} {a : Act} {w : World} {g d : Nat} {want : Bool} (hi : ops[i]? = some ⟨dst, op, ty, pos, after, some (g, want)⟩) (hd : (ops[g]?).bind (·.dst) = some d) (hv : a.tmps[d]? = some undef) (hk : Kept w0 w)
    (h : ∀ K : Act → World → Prop, (∀ a', WpMix P ops Q w0 k a' w → K a' w) → Oper.wp P ⟨dst, .assign (.const undef), ty, pos, after, none⟩ a w K NoQ) : WpMix P ops Q w0 (.gf i k) a w := by
  refine ⟨?_⟩
  show wpOp P ops NoQ i (fun a' w' => Kept w0 w' ∧ wpMix P ops Q w0 k a' w') a w
  exact op_off (K := fun a' w' => Kept w0 w' ∧ wpMix P ops Q w0 k a' w') hi (wanted_un rfl hd hv) ⟨hk, h (fun a' _ => wpMix P ops Q w0 k a' w) (fun _ hh => hh.out)⟩
end
end Go.Calmly

namespace Go.Proofs.Ytiibdndchkbefaa
open Go.RowKit
open Calmly (Kept)

theorem recF_cases (step : Int) (xs : List Int) : recF step xs = if firstE [unlessE (wIn step 1 1000000) 2, unlessE (decide (1 < xs.length)) 10, unlessE (decide (xs.length ≤ 24)) 8] = 0 then (if 0 ≤ badI xs then (badI xs, 2) else (0, 0)) else (0, firstE [unlessE (wIn step 1 1000000) 2, unlessE (decide (1 < xs.length)) 10, unlessE (decide (xs.length ≤ 24)) 8]) := by
  unfold recF badI
  cases wIn step 1 1000000 with
  | false => simp [firstE, unlessE]
  | true =>
    by_cases h1 : 1 < xs.length
    · by_cases h2 : xs.length ≤ 24
      · simp only [h1, h2, if_true, decide_true, unlessE, firstE]
        cases badS xs 0 with
        | none => rfl
        | some i => simp
      · simp [h1, h2, unlessE, firstE]
    · simp [h1, unlessE, firstE]

set_option maxRecDepth 100000 in
set_option maxHeartbeats 1000000 in
theorem CheckRecord_any (step : Int) (a : Option Addr) (n c : Nat) (xs : List Int) (w : World) (h1 : SI w a n c xs) (I E : Int) (hR : recF step xs = (I, E)) :
    Calls Try.prog 30 #[.agg #[.int .i64 step, .slice a n c]] w fun e w' => e = .returned (.tuple #[.int .i64 I, .int .i64 E]) ∧ Below w.heap.size w w' := by
  obtain ⟨l1, l2⟩ : n ≤ xs.length ∧ xs.length ≤ n := by have := h1.len; omega
  have m1 := h1.max
  have c1 := h1.cap
  have hb : ∀ o, Below w.heap.size w (w.alloc o) := fun o => (Below.refl _ _).alloc (Nat.le_refl _) _
  have x1 := alloc_new w (.cells #[.int .i64 step, .slice a n c] 24)
  rw [recF_cases] at hR
  have e1 : decide (1 < xs.length) = decide ((1 : Int) < (n : Int)) := by congr 1; rw [eq_iff_iff]; omega
  have e2 : decide (xs.length ≤ 24) = decide ((n : Int) ≤ 24) := by congr 1; rw [eq_iff_iff]; omega
  rw [e1, e2] at hR
  have HR := Lib.hid hR
  clear hR e1 e2
  go_enter Try.func30, Try.ntmps30
  go_wp2_with fail
  refine Calmly.wp_region_mix 16 (.fl 0 <| .fl 1 <| .fl 4 <| .fl 5 <| .fl 6 <| .fl 7 <| .fl 9 <| .fl 10 <| .fl 11 <| .fl 12 <| .eff 2 <| .eff 3 <| .eff 8 <| .eff 13 <| .eff 14 <| .eff 15 <| .tail [16]) (by kernel_rfl) (by kernel_rfl) ?_
  have BW := (hb (.cells #[.int .i64 step, .slice a n c] 24)).drew
  replace x1 := blk_keep x1 (Below.refl _ _).drew
  generalize World.drew _ = V at x1 BW ⊢
  have f0 := cell_block x1 0
  have f1 := cell_block x1 1
  have hk := Below.refl V.heap.size V
  go_wp2_with (first | ((with_reducible refine Calmly.is_fl ?_); refine Calmly.mix_fl rfl ?_ (fun _ _ => ?_); (first | exact .move _ | exact .load _ _ | exact .fieldAddr _ _ _ (by kernel_rfl) | exact .assign _ | exact .binOp _ _ _ _ _ rfl | exact .indexAddr _ _ _ | exact .len _ _ (by kernel_rfl) | exact .field _ _ _ | exact .extract _ _ | exact .pick _ _ _ | exact .build _ _ | exact .slice _ _ _ _ _ | exact .unOp _ _ _ rfl | exact .index _ _ _ | exact .max _ _ _ rfl rfl | exact .min _ _ _ rfl rfl)) | ((with_reducible refine Calmly.is_gl ?_); refine Calmly.mix_gl rfl rfl rfl ?_; first | ((first | with_reducible refine Calmly.gl_tt ?_ (fun _ _ => ?_) | with_reducible refine Calmly.gl_ff ?_ (fun _ _ => ?_)); (first | exact .move _ | exact .load _ _ | exact .fieldAddr _ _ _ (by kernel_rfl) | exact .assign _ | exact .binOp _ _ _ _ _ rfl | exact .indexAddr _ _ _ | exact .len _ _ (by kernel_rfl) | exact .field _ _ _ | exact .extract _ _ | exact .pick _ _ _ | exact .build _ _ | exact .slice _ _ _ _ _ | exact .unOp _ _ _ rfl | exact .index _ _ _ | exact .max _ _ _ rfl rfl | exact .min _ _ _ rfl rfl)) | with_reducible refine Calmly.gl_tf (fun _ _ => ?_) | with_reducible refine Calmly.gl_ft (fun _ _ => ?_)) | ((with_reducible refine Calmly.is_eff ?_); refine Calmly.mix_eff rfl (fun _ _ => ?_)) | ((with_reducible refine Calmly.is_gf ?_); refine Calmly.mix_gf rfl rfl rfl ?_; first | with_reducible refine Calmly.gf_tt (fun _ _ => ?_) | with_reducible refine Calmly.gf_ff (fun _ _ => ?_) | with_reducible refine Calmly.gf_tf (kept_of hk) (fun _ _ => ?_) | with_reducible refine Calmly.gf_ft (kept_of hk) (fun _ _ => ?_)) | ((with_reducible refine Calmly.is_kept ?_); refine ⟨kept_of hk, ?_⟩) | (with_reducible refine Calmly.mix_alt ?_ ?_) | (refine kept_alloc hk (fun hk' hblk hge => ?_); replace hk := hk'; clear hk') | (go_at_call 94; (refine (nWithin_any _ _ _ _).mono ?_; rintro e w1 ⟨rfl, rfl⟩)) | (go_at_call 90; (refine (nUnless_any _ _ _).mono ?_; rintro e w1 ⟨rfl, rfl⟩)) | (go_at_call 82; (refine (nFirst_any _ 3 3 _ _ (SI.three _ _ _ _ _ (by simp))).mono ?_; rintro e w1 ⟨rfl, rfl⟩; obtain ⟨F, hF⟩ : ∃ F, firstE [unlessE (wIn step 1 1000000) 2, unlessE (decide ((1 : Int) < (n : Int))) 10, unlessE (decide ((n : Int) ≤ 24)) 8] = F := ⟨_, rfl⟩; rw [hF]; have HF := Lib.hid hF; clear hF)))
  have BW2 := BW.trans (hk.mono BW.size)
  have x2 := blk_keep x1 hk
  clear f0 f1
  have f0 := cell_block x2 0
  have f1 := cell_block x2 1
  by_cases hz : F = 0
  · subst hz
    have hR := HR.out
    rw [HF.out, if_pos rfl] at hR
    by_cases hb0 : 0 ≤ badI xs
    · rw [if_pos hb0] at hR
      obtain ⟨rfl, rfl⟩ := Prod.mk.inj hR
      clear HR hR
      go_wp2_with (first | ((with_reducible refine Calmly.is_fl ?_); refine Calmly.mix_fl rfl ?_ (fun _ _ => ?_); (first | exact .move _ | exact .load _ _ | exact .fieldAddr _ _ _ (by kernel_rfl) | exact .assign _ | exact .binOp _ _ _ _ _ rfl | exact .indexAddr _ _ _ | exact .len _ _ (by kernel_rfl) | exact .field _ _ _ | exact .extract _ _ | exact .pick _ _ _ | exact .build _ _ | exact .slice _ _ _ _ _ | exact .unOp _ _ _ rfl | exact .index _ _ _ | exact .max _ _ _ rfl rfl | exact .min _ _ _ rfl rfl)) | ((with_reducible refine Calmly.is_gl ?_); refine Calmly.mix_gl rfl rfl rfl ?_; first | ((first | with_reducible refine Calmly.gl_tt ?_ (fun _ _ => ?_) | with_reducible refine Calmly.gl_ff ?_ (fun _ _ => ?_)); (first | exact .move _ | exact .load _ _ | exact .fieldAddr _ _ _ (by kernel_rfl) | exact .assign _ | exact .binOp _ _ _ _ _ rfl | exact .indexAddr _ _ _ | exact .len _ _ (by kernel_rfl) | exact .field _ _ _ | exact .extract _ _ | exact .pick _ _ _ | exact .build _ _ | exact .slice _ _ _ _ _ | exact .unOp _ _ _ rfl | exact .index _ _ _ | exact .max _ _ _ rfl rfl | exact .min _ _ _ rfl rfl)) | with_reducible refine Calmly.gl_tf (fun _ _ => ?_) | with_reducible refine Calmly.gl_ft (fun _ _ => ?_)) | ((with_reducible refine Calmly.is_eff ?_); refine Calmly.mix_eff rfl (fun _ _ => ?_)) | ((with_reducible refine Calmly.is_gf ?_); refine Calmly.mix_gf rfl rfl rfl ?_; first | with_reducible refine Calmly.gf_tt (fun _ _ => ?_) | with_reducible refine Calmly.gf_ff (fun _ _ => ?_) | with_reducible refine Calmly.gf_tf (kept_of hk) (fun _ _ => ?_) | with_reducible refine Calmly.gf_ft (kept_of hk) (fun _ _ => ?_)) | ((with_reducible refine Calmly.is_tail ?_); first | refine Calmly.mix_tail_nil ?_ | refine Calmly.mix_tail rfl (fun _ _ => ?_)) | ((with_reducible refine Calmly.is_kept ?_); refine ⟨kept_of hk, ?_⟩) | (with_reducible refine Calmly.mix_alt ?_ ?_))
      refine (indexBad_any a n c xs _ ((h1.keep BW).keep hk)).mono ?_
      rintro e w1 ⟨rfl, rfl⟩
      go_wp2_with fail
      go_ret2
      exact ⟨rfl, BW2⟩
    · rw [if_neg hb0] at hR
      obtain ⟨rfl, rfl⟩ := Prod.mk.inj hR
      have hb1 : badI xs < 0 := by omega
      clear HR hR
      go_wp2_with (first | ((with_reducible refine Calmly.is_fl ?_); refine Calmly.mix_fl rfl ?_ (fun _ _ => ?_); (first | exact .move _ | exact .load _ _ | exact .fieldAddr _ _ _ (by kernel_rfl) | exact .assign _ | exact .binOp _ _ _ _ _ rfl | exact .indexAddr _ _ _ | exact .len _ _ (by kernel_rfl) | exact .field _ _ _ | exact .extract _ _ | exact .pick _ _ _ | exact .build _ _ | exact .slice _ _ _ _ _ | exact .unOp _ _ _ rfl | exact .index _ _ _ | exact .max _ _ _ rfl rfl | exact .min _ _ _ rfl rfl)) | ((with_reducible refine Calmly.is_gl ?_); refine Calmly.mix_gl rfl rfl rfl ?_; first | ((first | with_reducible refine Calmly.gl_tt ?_ (fun _ _ => ?_) | with_reducible refine Calmly.gl_ff ?_ (fun _ _ => ?_)); (first | exact .move _ | exact .load _ _ | exact .fieldAddr _ _ _ (by kernel_rfl) | exact .assign _ | exact .binOp _ _ _ _ _ rfl | exact .indexAddr _ _ _ | exact .len _ _ (by kernel_rfl) | exact .field _ _ _ | exact .extract _ _ | exact .pick _ _ _ | exact .build _ _ | exact .slice _ _ _ _ _ | exact .unOp _ _ _ rfl | exact .index _ _ _ | exact .max _ _ _ rfl rfl | exact .min _ _ _ rfl rfl)) | with_reducible refine Calmly.gl_tf (fun _ _ => ?_) | with_reducible refine Calmly.gl_ft (fun _ _ => ?_)) | ((with_reducible refine Calmly.is_eff ?_); refine Calmly.mix_eff rfl (fun _ _ => ?_)) | ((with_reducible refine Calmly.is_gf ?_); refine Calmly.mix_gf rfl rfl rfl ?_; first | with_reducible refine Calmly.gf_tt (fun _ _ => ?_) | with_reducible refine Calmly.gf_ff (fun _ _ => ?_) | with_reducible refine Calmly.gf_tf (kept_of hk) (fun _ _ => ?_) | with_reducible refine Calmly.gf_ft (kept_of hk) (fun _ _ => ?_)) | ((with_reducible refine Calmly.is_tail ?_); first | refine Calmly.mix_tail_nil ?_ | refine Calmly.mix_tail rfl (fun _ _ => ?_)) | ((with_reducible refine Calmly.is_kept ?_); refine ⟨kept_of hk, ?_⟩) | (with_reducible refine Calmly.mix_alt ?_ ?_))
      refine (indexBad_any a n c xs _ ((h1.keep BW).keep hk)).mono ?_
      rintro e w1 ⟨rfl, rfl⟩
      go_wp2_with fail
      go_ret2
      exact ⟨rfl, BW2⟩
  · have hR := HR.out
    rw [HF.out, if_neg hz] at hR
    obtain ⟨rfl, rfl⟩ := Prod.mk.inj hR
    have b1 : (F != 0) = true := by simpa using hz
    clear hz HR hR
    go_wp2_with (first | ((with_reducible refine Calmly.is_fl ?_); refine Calmly.mix_fl rfl ?_ (fun _ _ => ?_); (first | exact .move _ | exact .load _ _ | exact .fieldAddr _ _ _ (by kernel_rfl) | exact .assign _ | exact .binOp _ _ _ _ _ rfl | exact .indexAddr _ _ _ | exact .len _ _ (by kernel_rfl) | exact .field _ _ _ | exact .extract _ _ | exact .pick _ _ _ | exact .build _ _ | exact .slice _ _ _ _ _ | exact .unOp _ _ _ rfl | exact .index _ _ _ | exact .max _ _ _ rfl rfl | exact .min _ _ _ rfl rfl)) | ((with_reducible refine Calmly.is_gl ?_); refine Calmly.mix_gl rfl rfl rfl ?_; first | ((first | with_reducible refine Calmly.gl_tt ?_ (fun _ _ => ?_) | with_reducible refine Calmly.gl_ff ?_ (fun _ _ => ?_)); (first | exact .move _ | exact .load _ _ | exact .fieldAddr _ _ _ (by kernel_rfl) | exact .assign _ | exact .binOp _ _ _ _ _ rfl | exact .indexAddr _ _ _ | exact .len _ _ (by kernel_rfl) | exact .field _ _ _ | exact .extract _ _ | exact .pick _ _ _ | exact .build _ _ | exact .slice _ _ _ _ _ | exact .unOp _ _ _ rfl | exact .index _ _ _ | exact .max _ _ _ rfl rfl | exact .min _ _ _ rfl rfl)) | with_reducible refine Calmly.gl_tf (fun _ _ => ?_) | with_reducible refine Calmly.gl_ft (fun _ _ => ?_)) | ((with_reducible refine Calmly.is_eff ?_); refine Calmly.mix_eff rfl (fun _ _ => ?_)) | ((with_reducible refine Calmly.is_gf ?_); refine Calmly.mix_gf rfl rfl rfl ?_; first | with_reducible refine Calmly.gf_tt (fun _ _ => ?_) | with_reducible refine Calmly.gf_ff (fun _ _ => ?_) | with_reducible refine Calmly.gf_tf (kept_of hk) (fun _ _ => ?_) | with_reducible refine Calmly.gf_ft (kept_of hk) (fun _ _ => ?_)) | ((with_reducible refine Calmly.is_tail ?_); first | refine Calmly.mix_tail_nil ?_ | refine Calmly.mix_tail rfl (fun _ _ => ?_)) | ((with_reducible refine Calmly.is_kept ?_); refine ⟨kept_of hk, ?_⟩) | (with_reducible refine Calmly.mix_alt ?_ ?_))
    go_ret2
    exact ⟨rfl, BW2⟩
end Go.Proofs.Ytiibdndchkbefaa

namespace Go.Proofs.Ytiibdndchkbefaa
open Go.RowKit
open Calmly (Kept)

theorem OwI.weak {w : World} {B B' : Nat} {a : Option Addr} {n c : Nat} {xs : List Int} (h : OwI w B a n c xs) (hB : B' ≤ B) : OwI w B' a n c xs := by
  obtain ⟨h1, h2⟩ := h
  refine ⟨h1, ?_⟩
  rcases h2 with h2 | ⟨g, cap, cur, hv, hg, r⟩
  · exact .inl h2
  · exact .inr ⟨g, cap, cur, hv, Nat.le_trans hB hg, r⟩
/-- A store below the call's own rows. -/
theorem OwI.under {w : World} {B : Nat} {a : Option Addr} {n c : Nat} {xs : List Int} (h : OwI w B a n c xs) {r o : Nat} (hr : r < B) (v : Value) : OwI (w.setCell ⟨r, o, none⟩ v) B a n c xs := by
  obtain ⟨h1, h2⟩ := h
  refine ⟨h1, ?_⟩
  rcases h2 with h2 | ⟨g, cap, cur, hv, hg, hh, r'⟩
  · exact .inl h2
  · refine .inr ⟨g, cap, cur, hv, hg, ?_, r'⟩
    rw [Below.heap_setCell _ _ _ _ (by show g ≠ r; omega)]
    exact hh
/-- Two stores below the call's own rows. -/
theorem OwI.under2 {w : World} {B : Nat} {a : Option Addr} {n c : Nat} {xs : List Int} (h : OwI w B a n c xs) {r : Nat} (hr : r < B) (u v : Value) : OwI ((w.setCell ⟨r, 0, none⟩ u).setCell ⟨r, 1, none⟩ v) B a n c xs :=
  (h.under hr u).under hr v

/-- What a call laid before it called another one. -/
theorem box1 {w W w1 : World} {o : Obj} (h : Below W.heap.size W w1) (hW : W.heap = (w.alloc o).heap := by rfl) : w1.heap[w.heap.size]? = some o := by
  rw [h.block _ (by rw [hW]; simp), hW]
  exact alloc_new _ _
theorem box2 {w W w1 : World} {o o' : Obj} (h : Below W.heap.size W w1) (hW : W.heap = ((w.alloc o).alloc o').heap := by rfl) : w1.heap[w.heap.size]? = some o ∧ w1.heap[w.heap.size + 1]? = some o' := by
  have h0 : Below (w.alloc o).heap.size (w.alloc o) ((w.alloc o).alloc o') := (Below.refl _ _).alloc (Nat.le_refl _) _
  refine ⟨?_, ?_⟩
  · rw [h.block _ (by rw [hW]; simp; omega), hW]
    exact box1 (W := w.alloc o) h0
  · rw [h.block _ (by rw [hW]; simp), hW]
    have := alloc_new (w.alloc o) o'
    simpa using this
theorem blk_setAt {W : World} {b : Nat} {cs : Array Value} {t : TypeId} (h : W.heap[b]? = some (.cells cs t)) (i : Nat) (v : Value) : (W.setCell ⟨b, i, none⟩ v).heap[b]? = some (.cells (cs.setIfInBounds i v) t) := by
  simp [World.setCell, Array.getElem?_modify, h]
end Go.Proofs.Ytiibdndchkbefaa

namespace Go.Proofs.Ytiibdndchkbefaa
open Go.RowKit
open Calmly (Kept)

set_option maxHeartbeats 400000 in
theorem rIsSample_any (x : Int) (w : World) : Calls Try.prog 74 #[.int .i64 x] w fun e w' => e = .returned (.bool (smp x)) ∧ w = w' := by
  go_enter Try.func74, Try.ntmps74
  go_wp2_with fail
  refine (within_any _ _ _ _).mono ?_
  rintro e w1 ⟨rfl, rfl⟩
  go_wp2_with fail
  go_ret
  exact ⟨rfl, rfl⟩

set_option maxRecDepth 100000 in
set_option maxHeartbeats 1000000 in
theorem rCheckRecord_any (step : Int) (a : Option Addr) (n c : Nat) (xs : List Int) (w : World) (h1 : SI w a n c xs) (I E : Int) (hR : recF step xs = (I, E)) :
    Calls Try.prog 34 #[.agg #[.int .i64 step, .slice a n c]] w fun e w' => e = .returned (.tuple #[.int .i64 I, .int .i64 E]) ∧ Below w.heap.size w w' := by
  obtain ⟨l1, l2⟩ : n ≤ xs.length ∧ xs.length ≤ n := by have := h1.len; omega
  have m1 := h1.max
  have c1 := h1.cap
  have BW : Below w.heap.size w (w.alloc (.cells #[.int .i64 step, .slice a n c] 24)) := (Below.refl _ _).alloc (Nat.le_refl _) _
  have x1 := alloc_new w (.cells #[.int .i64 step, .slice a n c] 24)
  unfold recF at hR
  have HR := Lib.hid hR
  clear hR
  go_enter Try.func34, Try.ntmps34
  go_wp2_with fail
  refine (within_any _ _ _ _).mono ?_
  rintro e w1 ⟨rfl, rfl⟩
  cases hw : wIn step 1 1000000
  · have hR := HR.out
    rw [hw, if_neg (by simp)] at hR
    obtain ⟨rfl, rfl⟩ := Prod.mk.inj hR
    clear hR HR
    go_wp2_with fail
    go_ret2
    exact ⟨rfl, BW⟩
  have hR := HR.out
  rw [hw, if_pos rfl] at hR
  replace HR := Lib.hid hR
  clear hR
  by_cases hn1 : n ≤ 1
  · have hn2 : (n : Int) < 2 := by omega
    have hR := HR.out
    rw [if_neg (by omega)] at hR
    obtain ⟨rfl, rfl⟩ := Prod.mk.inj hR
    clear hR HR
    go_wp2_with fail
    go_ret2
    exact ⟨rfl, BW⟩
  have hn2 : (2 : Int) ≤ (n : Int) := by omega
  by_cases hn3 : 24 < n
  · have hn4 : (24 : Int) < (n : Int) := by omega
    have hR := HR.out
    rw [if_pos (by omega), if_neg (by omega)] at hR
    obtain ⟨rfl, rfl⟩ := Prod.mk.inj hR
    clear hR HR
    go_wp2_with fail
    go_ret2
    exact ⟨rfl, BW⟩
  have hn4 : (n : Int) ≤ 24 := by omega
  have hR := HR.out
  rw [if_pos (by omega), if_pos (by omega)] at hR
  replace HR := Lib.hid hR
  clear hR
  obtain ⟨V, hV⟩ : ∃ V, w.alloc (.cells #[.int .i64 step, .slice a n c] 24) = V := ⟨_, rfl⟩
  rw [hV] at x1 BW ⊢
  clear hV
  have f0 := cell_block x1 0
  have f1 := cell_block x1 1
  go_wp2_with fail
  go_loop [4] (fun i => ∃ k : Nat, k ≤ n ∧ i = .int .i64 k ∧ badS xs 0 = badS (xs.drop k) k) (fun i => n - (intOf i).toNat)
  case atStart => exact ⟨0, by omega, rfl, rfl⟩
  case round =>
    obtain ⟨k, hk, rfl, ht⟩ := hrel
    have HT := Lib.hid ht
    clear ht
    by_cases hlt : k < n
    · obtain ⟨b1, o1, rfl, hc1⟩ := (h1.keep BW).at_ (by omega)
      have e1 := hc1 k hlt
      clear hc1
      have hi : (k : Int) < (n : Int) := by omega
      have hi0 : (0 : Int) ≤ (k : Int) := by omega
      have hd := badS_drop xs k (by omega)
      obtain ⟨x, hxx⟩ : ∃ x, xs[k]?.getD 0 = x := ⟨_, rfl⟩
      rw [hxx] at e1 hd
      have HD := Lib.hid hd
      clear hxx hd
      go_wp2_with fail
      refine (rIsSample_any _ _).mono ?_
      rintro e w1 ⟨rfl, rfl⟩
      cases ho : smp x
      · have hR := HR.out
        rw [HT.out, HD.out, ho] at hR
        obtain ⟨rfl, rfl⟩ := Prod.mk.inj hR
        clear hR HR
        go_wp2_with fail
        go_ret2
        exact ⟨rfl, BW⟩
      · go_wp2_with fail
        go_round
        case rel => exact ⟨k + 1, by omega, by go_num, by rw [HT.out, HD.out, ho]; rfl⟩
        case measure => simp [intOf]; omega
    · have hle : (n : Int) ≤ (k : Int) := by omega
      have hR := HR.out
      rw [HT.out, List.drop_eq_nil_of_le (by omega)] at hR
      obtain ⟨rfl, rfl⟩ := Prod.mk.inj hR
      clear hR HR
      go_wp2_with fail
      go_ret2
      exact ⟨rfl, BW⟩
end Go.Proofs.Ytiibdndchkbefaa

namespace Go
open Go.RowKit Go.Shelf

/-- Every round goes on. -/
def OnOn {α : Type} (P : Program) (gf : Nat) (lb : Array Value) (enc : α → Array Value) (Kp : World → World → Prop) (S : List α → Prop) (N m : Nat) (w : World) : Prop :=
  ∀ (l : Nat) (J : List α → World → Prop) (W : World), Below w.heap.size w W → AbidesFrom W.heap.size J →
    (∀ pre x W1, J pre W1 → pre.length < N → YieldAt Fence.wide m P l (enc x) W1 fun e W' => e = .returned (.bool true) ∧ J (pre ++ [x]) W' ∧ Kp W1 W') →
    J [] W → Calls P gf (#[.func (.yield l) #[] #[]] ++ lb) W fun e W' => (∃ v, e = .returned v) ∧ ∃ xs, S xs ∧ J xs W'

theorem range_mid {P : Program} {n : Nat} {α : Type} {g : Operand} {ps : Array Tmp} {assign body : Code} {Q : Exit → Act → World → Prop} {a : Act} {w : World} {gf : Nat} {lb : Array Value}
    (hg : a.eval g = .func (.func gf) #[] lb) (eg : ∀ args w, (callFunc gf args).run P w = .ok (.enter gf args) w)
    {enc : α → Array Value} {Kp : World → World → Prop} {S : List α → Prop} {N m : Nat} (hseq : OnOn P gf lb enc Kp S N m w)
    (hKt : ∀ {A B C : World}, Kp A B → Kp B C → Kp A C) (hKb : ∀ (W : World) (l : Nat) (o o' : Obj), w.heap.size ≤ l → W.heap[l]? = some o → o.isCells = false → Kp W (W.putObj l o')) (hps : ∀ x, (enc x).size = ps.size)
    (I : List α → World → Prop) (hI : OwnFrom w.heap.size I) (h0 : I [] w) (Mid : List α → α → Act → World → Prop) (hM : ∀ pre x a', OwnFrom w.heap.size (fun (_ : Unit) W => Mid pre x a' W))
    (hassign : ∀ (l : Nat) (pre : List α) (x : α) (W : World) (K : Act → World → Prop), I pre W → pre.length < N → (∀ a' W', KeepsOthers W W' → Kp W W' → Mid pre x a' W' → K a' W') →
      assign.wpIn (Fence.wide.inRound l) m P (Exit.then K (fun _ _ _ => False)) { tmps := (ps.zip (enc x)).foldl (fun t (p, v) => t.setIfInBounds p v) a.tmps, defers := [] } W)
    (hbody : ∀ (l : Nat) (pre : List α) (x : α) (a' : Act) (W : World), Mid pre x a' W → body.wpIn (Fence.wide.inRound l) m P (fun e _ W' => e = .normal ∧ KeepsOthers W W' ∧ Kp W W' ∧ I (pre ++ [x]) W') a' W)
    (hdone : ∀ (D : Nat) (xs : List α) (W : World), w.heap.size ≤ D → S xs → I xs W → W.heap[D]? = some (.deferred (some [])) → Q .normal { a with defers := { target := .collected D, args := #[] } :: a.defers } W) :
    (Code.rangeFunc g ps assign body).wpIn Fence.wide n P Q a w := by
  refine wpIn_rangeFunc fun fn hfn => ?_
  obtain ⟨rec, hrec⟩ : ∃ rec : LoopState → Loop, rec = fun st => { state := st, pending := none, fn, tmps := a.tmps, params := ps, assign, body, defers := w.heap.size } := ⟨_, rfl⟩
  obtain ⟨W1, hW1⟩ : ∃ W1, (w.alloc (.deferred (some []))).alloc (.loop (rec .ready)) = W1 := ⟨_, rfl⟩
  have hL : W1.heap[w.heap.size + 1]? = some (.loop (rec .ready)) := by
    have := Go.Proofs.Ytiibdndchkbefaa.alloc_new (w.alloc (.deferred (some []))) (.loop (rec .ready))
    rw [← hW1]
    simpa using this
  have hD : W1.heap[w.heap.size]? = some (.deferred (some [])) := by
    rw [← hW1, Below.heap_alloc _ _ _ (by simp)]
    exact Go.Proofs.Ytiibdndchkbefaa.alloc_new w _
  have hb1 : Below w.heap.size w W1 := by
    rw [← hW1]
    exact ((Below.refl _ w).alloc (Nat.le_refl _) _).alloc (by simp) _
  have hI1 : I [] W1 := by
    rw [← hW1]
    exact hI.alloc _ (hI.alloc _ h0)
  have hs1 : W1.heap.size = w.heap.size + 2 := by rw [← hW1]; simp
  refine ⟨w.heap.size + 1, [{ target := .collected w.heap.size, args := #[] }], W1, { target := .fn (.func gf) lb, args := #[.func (.yield (w.heap.size + 1)) #[] #[]] }, W1, gf, #[.func (.yield (w.heap.size + 1)) #[] #[]] ++ lb, W1, ?_, ?_, fun _ _ => trivial, ?_, fun h => absurd h (by simp [Fence.wide]), ?_⟩
  · rw [← hW1, hrec]
    exact run_enterLoop_outer _ _ _ _ _
  · simp only [resolve, hg]
    simp [go_sem]
  · simp [invoke, go_sem, eg]
  · refine callsIn_wide.2 ?_
    refine (hseq (w.heap.size + 1) (fun pre W => (I pre W ∧ W.heap[w.heap.size + 1]? = some (.loop (rec .ready))) ∧ W.heap[w.heap.size]? = some (.deferred (some []))) W1 hb1 ?_ ?_ ⟨⟨hI1, hL⟩, hD⟩).mono ?_
    · -- what the iterator does of its own
      rintro s A B row ⟨⟨hs, hl⟩, hk⟩ hg' hr
      have hne : ∀ j, j < w.heap.size + 2 → some j ≠ row := fun j hj e => by
        have := (hr j e.symm).1
        omega
      refine ⟨⟨hI s A B row hs hg' fun r e => ?_, ?_⟩, ?_⟩
      · obtain ⟨h1, o, h2, h3⟩ := hr r e
        exact ⟨by omega, o, h2, Obj.not_cells_of_walk h3⟩
      · exact (hg'.block _ (Array.getElem?_eq_some_iff.1 hl).1 (hne _ (by omega))).trans hl
      · exact (hg'.block _ (Array.getElem?_eq_some_iff.1 hk).1 (hne _ (by omega))).trans hk
    · -- one round
      rintro pre x W ⟨⟨hi, hl⟩, hk⟩ hlen
      have hy := run_yield (P := P) (args := enc x) hl (by rw [hrec]; exact hps x)
      rw [hrec] at hy
      refine ⟨fn, _, assign, body, hy, roundIn_of_wpIn hfn (hassign _ pre x W _ hi hlen ?_)⟩
      intro a' Wa ha1 ha2 ha3
      have hl1 := ha1.same _ _ hl rfl
      have hk1 := ha1.same _ _ hk rfl
      have hlt : w.heap.size + 1 < Wa.heap.size := (Array.getElem?_eq_some_iff.1 hl1).1
      refine ⟨_, run_beginRound hl1 (by rw [hrec]), ?_⟩
      have hl2 : (Wa.putObj (w.heap.size + 1) (.loop { rec .ready with state := .busy })).heap[w.heap.size + 1]? = some (.loop { rec .ready with state := .busy }) := World.putObj_heap_same hlt
      have hk2 : (Wa.putObj (w.heap.size + 1) (.loop { rec .ready with state := .busy })).heap[w.heap.size]? = some (.deferred (some [])) := (World.putObj_heap_other (by omega)).trans hk1
      refine wpIn_mono (hbody _ pre x a' _ ((hM pre x a').putObj (s := ()) _ ha3 (by omega) hl1 rfl)) ?_
      rintro e a3 W3 ⟨rfl, hb3, hk3, hi3⟩
      have hl3 := hb3.same _ _ hl2 rfl
      have hr := run_endRound (P := P) none hl3
      rw [hrec] at hr hl3
      refine ⟨_, _, hr, rfl, ⟨⟨hI.putObj _ hi3 (by omega) hl3 rfl, ?_⟩, ?_⟩, ?_⟩
      · rw [hrec]
        exact World.putObj_heap_same (Array.getElem?_eq_some_iff.1 hl3).1
      · exact (World.putObj_heap_other (by omega)).trans (hb3.same _ _ hk2 rfl)
      · exact hKt ha2 (hKt (hKt (hKb _ _ _ _ (by omega) hl1 rfl) hk3) (hKb _ _ _ _ (by omega) hl3 rfl))
    · -- at the end
      rintro e W2 ⟨⟨v, rfl⟩, xs, hS, ⟨hi, hl⟩, hk⟩
      have hr := run_endLoop (P := P) hl (by rw [hrec]; simp)
      rw [hrec] at hr
      exact ⟨none, _, hr, hdone _ xs _ (Nat.le_refl _) hS (hI.putObj _ hi (by omega) hl rfl) ((World.putObj_heap_other (by omega)).trans hk)⟩
end Go

namespace Go
open Go.RowKit Go.Shelf

/-- Every round goes on. -/
def OnOnP {α : Type} (P : Program) (gf : Nat) (lb : Array Value) (enc : α → Array Value) (Kp : World → World → Prop) (Px : α → World → Prop) (S : List α → Prop) (m : Nat) (w : World) : Prop :=
  ∀ (l : Nat) (J : List α → World → Prop) (W : World), Below w.heap.size w W → AbidesFrom W.heap.size J →
    (∀ pre x W1, J pre W1 → Px x W1 → YieldAt Fence.wide m P l (enc x) W1 fun e W' => e = .returned (.bool true) ∧ J (pre ++ [x]) W' ∧ Kp W1 W') →
    J [] W → Calls P gf (#[.func (.yield l) #[] #[]] ++ lb) W fun e W' => (∃ v, e = .returned v) ∧ ∃ xs, S xs ∧ J xs W'

theorem range_midP {P : Program} {n : Nat} {α : Type} {g : Operand} {ps : Array Tmp} {assign body : Code} {Q : Exit → Act → World → Prop} {a : Act} {w : World} {gf : Nat} {lb : Array Value}
    (hg : a.eval g = .func (.func gf) #[] lb) (eg : ∀ args w, (callFunc gf args).run P w = .ok (.enter gf args) w)
    {enc : α → Array Value} {Kp : World → World → Prop} {Px : α → World → Prop} {S : List α → Prop} {m : Nat} (hseq : OnOnP P gf lb enc Kp Px S m w)
    (hKt : ∀ {A B C : World}, Kp A B → Kp B C → Kp A C) (hKb : ∀ (W : World) (l : Nat) (o o' : Obj), w.heap.size ≤ l → W.heap[l]? = some o → o.isCells = false → Kp W (W.putObj l o')) (hps : ∀ x, (enc x).size = ps.size)
    (I : List α → World → Prop) (hI : OwnFrom w.heap.size I) (h0 : I [] w) (Mid : List α → α → Act → World → Prop) (hM : ∀ pre x a', OwnFrom w.heap.size (fun (_ : Unit) W => Mid pre x a' W))
    (hassign : ∀ (l : Nat) (pre : List α) (x : α) (W : World) (K : Act → World → Prop), I pre W → Px x W → (∀ a' W', KeepsOthers W W' → Kp W W' → Mid pre x a' W' → K a' W') →
      assign.wpIn (Fence.wide.inRound l) m P (Exit.then K (fun _ _ _ => False)) { tmps := (ps.zip (enc x)).foldl (fun t (p, v) => t.setIfInBounds p v) a.tmps, defers := [] } W)
    (hbody : ∀ (l : Nat) (pre : List α) (x : α) (a' : Act) (W : World), Mid pre x a' W → body.wpIn (Fence.wide.inRound l) m P (fun e _ W' => e = .normal ∧ KeepsOthers W W' ∧ Kp W W' ∧ I (pre ++ [x]) W') a' W)
    (hdone : ∀ (D : Nat) (xs : List α) (W : World), w.heap.size ≤ D → S xs → I xs W → W.heap[D]? = some (.deferred (some [])) → Q .normal { a with defers := { target := .collected D, args := #[] } :: a.defers } W) :
    (Code.rangeFunc g ps assign body).wpIn Fence.wide n P Q a w := by
  refine wpIn_rangeFunc fun fn hfn => ?_
  obtain ⟨rec, hrec⟩ : ∃ rec : LoopState → Loop, rec = fun st => { state := st, pending := none, fn, tmps := a.tmps, params := ps, assign, body, defers := w.heap.size } := ⟨_, rfl⟩
  obtain ⟨W1, hW1⟩ : ∃ W1, (w.alloc (.deferred (some []))).alloc (.loop (rec .ready)) = W1 := ⟨_, rfl⟩
  have hL : W1.heap[w.heap.size + 1]? = some (.loop (rec .ready)) := by
    have := Go.Proofs.Ytiibdndchkbefaa.alloc_new (w.alloc (.deferred (some []))) (.loop (rec .ready))
    rw [← hW1]
    simpa using this
  have hD : W1.heap[w.heap.size]? = some (.deferred (some [])) := by
    rw [← hW1, Below.heap_alloc _ _ _ (by simp)]
    exact Go.Proofs.Ytiibdndchkbefaa.alloc_new w _
  have hb1 : Below w.heap.size w W1 := by
    rw [← hW1]
    exact ((Below.refl _ w).alloc (Nat.le_refl _) _).alloc (by simp) _
  have hI1 : I [] W1 := by
    rw [← hW1]
    exact hI.alloc _ (hI.alloc _ h0)
  have hs1 : W1.heap.size = w.heap.size + 2 := by rw [← hW1]; simp
  refine ⟨w.heap.size + 1, [{ target := .collected w.heap.size, args := #[] }], W1, { target := .fn (.func gf) lb, args := #[.func (.yield (w.heap.size + 1)) #[] #[]] }, W1, gf, #[.func (.yield (w.heap.size + 1)) #[] #[]] ++ lb, W1, ?_, ?_, fun _ _ => trivial, ?_, fun h => absurd h (by simp [Fence.wide]), ?_⟩
  · rw [← hW1, hrec]
    exact run_enterLoop_outer _ _ _ _ _
  · simp only [resolve, hg]
    simp [go_sem]
  · simp [invoke, go_sem, eg]
  · refine callsIn_wide.2 ?_
    refine (hseq (w.heap.size + 1) (fun pre W => (I pre W ∧ W.heap[w.heap.size + 1]? = some (.loop (rec .ready))) ∧ W.heap[w.heap.size]? = some (.deferred (some []))) W1 hb1 ?_ ?_ ⟨⟨hI1, hL⟩, hD⟩).mono ?_
    · -- what the iterator does of its own
      rintro s A B row ⟨⟨hs, hl⟩, hk⟩ hg' hr
      have hne : ∀ j, j < w.heap.size + 2 → some j ≠ row := fun j hj e => by
        have := (hr j e.symm).1
        omega
      refine ⟨⟨hI s A B row hs hg' fun r e => ?_, ?_⟩, ?_⟩
      · obtain ⟨h1, o, h2, h3⟩ := hr r e
        exact ⟨by omega, o, h2, Obj.not_cells_of_walk h3⟩
      · exact (hg'.block _ (Array.getElem?_eq_some_iff.1 hl).1 (hne _ (by omega))).trans hl
      · exact (hg'.block _ (Array.getElem?_eq_some_iff.1 hk).1 (hne _ (by omega))).trans hk
    · -- one round
      rintro pre x W ⟨⟨hi, hl⟩, hk⟩ hpx
      have hy := run_yield (P := P) (args := enc x) hl (by rw [hrec]; exact hps x)
      rw [hrec] at hy
      refine ⟨fn, _, assign, body, hy, roundIn_of_wpIn hfn (hassign _ pre x W _ hi hpx ?_)⟩
      intro a' Wa ha1 ha2 ha3
      have hl1 := ha1.same _ _ hl rfl
      have hk1 := ha1.same _ _ hk rfl
      have hlt : w.heap.size + 1 < Wa.heap.size := (Array.getElem?_eq_some_iff.1 hl1).1
      refine ⟨_, run_beginRound hl1 (by rw [hrec]), ?_⟩
      have hl2 : (Wa.putObj (w.heap.size + 1) (.loop { rec .ready with state := .busy })).heap[w.heap.size + 1]? = some (.loop { rec .ready with state := .busy }) := World.putObj_heap_same hlt
      have hk2 : (Wa.putObj (w.heap.size + 1) (.loop { rec .ready with state := .busy })).heap[w.heap.size]? = some (.deferred (some [])) := (World.putObj_heap_other (by omega)).trans hk1
      refine wpIn_mono (hbody _ pre x a' _ ((hM pre x a').putObj (s := ()) _ ha3 (by omega) hl1 rfl)) ?_
      rintro e a3 W3 ⟨rfl, hb3, hk3, hi3⟩
      have hl3 := hb3.same _ _ hl2 rfl
      have hr := run_endRound (P := P) none hl3
      rw [hrec] at hr hl3
      refine ⟨_, _, hr, rfl, ⟨⟨hI.putObj _ hi3 (by omega) hl3 rfl, ?_⟩, ?_⟩, ?_⟩
      · rw [hrec]
        exact World.putObj_heap_same (Array.getElem?_eq_some_iff.1 hl3).1
      · exact (World.putObj_heap_other (by omega)).trans (hb3.same _ _ hk2 rfl)
      · exact hKt ha2 (hKt (hKt (hKb _ _ _ _ (by omega) hl1 rfl) hk3) (hKb _ _ _ _ (by omega) hl3 rfl))
    · -- at the end
      rintro e W2 ⟨⟨v, rfl⟩, xs, hS, ⟨hi, hl⟩, hk⟩
      have hr := run_endLoop (P := P) hl (by rw [hrec]; simp)
      rw [hrec] at hr
      exact ⟨none, _, hr, hdone _ xs _ (Nat.le_refl _) hS (hI.putObj _ hi (by omega) hl rfl) ((World.putObj_heap_other (by omega)).trans hk)⟩
end Go

namespace Go.Proofs.Ytiibdndchkbefaa

/-- All lists of so many times, in lexicographic order. -/
def five : List Int := [-2, -1, 0, 1, 2]
def allC : Nat → List (List Int)
  | 0 => [[]]
  | k + 1 => five.flatMap (fun n => (allC k).map (fun c => n :: c))
/-- Those that begin so. -/
def genC (pre : List Int) (k : Nat) : List (List Int) := (allC k).map (fun c => pre ++ c)
theorem genC_zero (pre : List Int) : genC pre 0 = [pre] := by simp [genC, allC]
theorem genC_succ (pre : List Int) (k : Nat) : genC pre (k + 1) = five.flatMap (fun n => genC (pre ++ [n]) k) := by
  unfold genC
  rw [allC, List.map_flatMap]
  congr 1
  funext n
  rw [List.map_map]
  congr 1
  funext c
  simp
theorem genC_nil (k : Nat) : genC [] k = allC k := by simp [genC]
theorem allC_len {k : Nat} {c : List Int} (h : c ∈ allC k) : c.length = k ∧ ∀ j : Nat, -2 ≤ c[j]?.getD 0 ∧ c[j]?.getD 0 ≤ 2 := by
  induction k generalizing c with
  | zero =>
    simp [allC] at h
    subst h
    simp
  | succ k ih =>
    rw [allC, List.mem_flatMap] at h
    obtain ⟨n, hn, h⟩ := h
    obtain ⟨d, hd, rfl⟩ := List.mem_map.1 h
    obtain ⟨h1, h2⟩ := ih hd
    refine ⟨by simp [h1], fun j => ?_⟩
    cases j with
    | zero =>
      simp [five] at hn
      simp
      omega
    | succ j => simpa using h2 j
theorem mem_allC {c : List Int} (h : ∀ x ∈ c, -2 ≤ x ∧ x ≤ 2) : c ∈ allC c.length := by
  induction c with
  | nil => simp [allC]
  | cons x c ih =>
    rw [List.length_cons, allC, List.mem_flatMap]
    refine ⟨x, ?_, List.mem_map.2 ⟨c, ih (fun y hy => h y (List.mem_cons_of_mem _ hy)), rfl⟩⟩
    have := h x List.mem_cons_self
    simp [five]
    omega
/-- The sum of the sizes of the first times. -/
def szT (ts : List Int) : Nat → Int
  | 0 => 0
  | k + 1 => szT ts k + sizeOf' (ts[k]?.getD 0)
def szs (ts : List Int) : Int := szT ts ts.length
theorem szT_bd {ts : List Int} (h : ∀ j : Nat, -2 ≤ ts[j]?.getD 0 ∧ ts[j]?.getD 0 ≤ 2) (k : Nat) : 0 ≤ szT ts k ∧ szT ts k ≤ 2 * (k : Int) := by
  induction k with
  | zero => simp [szT]
  | succ k ih =>
    have := h k
    rw [szT, sizeOf_abs]
    omega
/-- What is best of those that came so far; false: none. -/
def mtStep (good : List Int → Bool) (s : List Int × Bool) (t : List Int) : List Int × Bool := if good t = true ∧ (s.2 = true → szs t < szs s.1) then (t, true) else s
def mtF (good : List Int → Bool) (k : Nat) : List Int × Bool := (allC k).foldl (mtStep good) ([], false)
theorem mtStep_none {good : List Int → Bool} {s : List Int × Bool} {t : List Int} (h : (mtStep good s t).2 = false) : s.2 = false ∧ good t = false := by
  unfold mtStep at h
  split at h
  · cases h
  · rename_i hn
    refine ⟨h, ?_⟩
    cases hg : good t with
    | false => rfl
    | true => exact absurd ⟨hg, fun hs => by rw [h] at hs; cases hs⟩ hn
/-- The law of the best: it is good, and no good one has a smaller sum of sizes. -/
theorem mt_inv (good : List Int → Bool) (l : List (List Int)) (s : List Int × Bool) :
    ((l.foldl (mtStep good) s).2 = false → s.2 = false ∧ ∀ t ∈ l, good t = false) ∧
      ((l.foldl (mtStep good) s).2 = true → ((s.2 = true ∧ (l.foldl (mtStep good) s) = s) ∨ ((l.foldl (mtStep good) s).1 ∈ l ∧ good (l.foldl (mtStep good) s).1 = true)) ∧
        (s.2 = true → szs (l.foldl (mtStep good) s).1 ≤ szs s.1) ∧ ∀ t ∈ l, good t = true → szs (l.foldl (mtStep good) s).1 ≤ szs t) := by
  induction l generalizing s with
  | nil => exact ⟨fun h => ⟨h, by simp⟩, fun h => ⟨.inl ⟨h, rfl⟩, fun _ => Int.le_refl _, by simp⟩⟩
  | cons t l ih =>
    obtain ⟨h1, h2⟩ := ih (mtStep good s t)
    rw [List.foldl_cons]
    refine ⟨fun h => ?_, fun h => ?_⟩
    · obtain ⟨a1, a2⟩ := h1 h
      obtain ⟨b1, b2⟩ := mtStep_none a1
      refine ⟨b1, fun u hu => ?_⟩
      rcases List.mem_cons.1 hu with rfl | hu
      · exact b2
      · exact a2 u hu
    · obtain ⟨a1, a2, a3⟩ := h2 h
      generalize l.foldl (mtStep good) (mtStep good s t) = r at *
      by_cases hc : good t = true ∧ (s.2 = true → szs t < szs s.1)
      · have e : mtStep good s t = (t, true) := by unfold mtStep; rw [if_pos hc]
        rw [e] at a1 a2
        have b2 := a2 rfl
        refine ⟨.inr ?_, fun hs => ?_, fun u hu hg => ?_⟩
        · rcases a1 with ⟨_, rfl⟩ | ⟨c1, c2⟩
          · exact ⟨List.mem_cons_self, hc.1⟩
          · exact ⟨List.mem_cons_of_mem _ c1, c2⟩
        · have := hc.2 hs
          dsimp only at b2
          omega
        · rcases List.mem_cons.1 hu with rfl | hu
          · exact b2
          · exact a3 u hu hg
      · have e : mtStep good s t = s := by unfold mtStep; rw [if_neg hc]
        rw [e] at a1 a2
        refine ⟨?_, a2, fun u hu hg => ?_⟩
        · rcases a1 with c1 | ⟨c1, c2⟩
          · exact .inl c1
          · exact .inr ⟨List.mem_cons_of_mem _ c1, c2⟩
        · rcases List.mem_cons.1 hu with rfl | hu
          · by_cases hs : s.2 = true
            · have h3 : ¬ szs u < szs s.1 := fun h4 => hc ⟨hg, fun _ => h4⟩
              have := a2 hs
              omega
            · exact absurd ⟨hg, fun h4 => absurd h4 hs⟩ hc
          · exact a3 u hu hg
/-- Samples with the first waves added. -/
def adS (ws : List (List Int)) (ts : List Int) (t : Nat) : Nat → Int
  | 0 => 0
  | i + 1 => adS ws ts t i + ts[i]?.getD 0 * (ws[i]?.getD [])[t]?.getD 0
def adTo (xs : List Int) (ws : List (List Int)) (ts : List Int) (i : Nat) : List Int := (List.range xs.length).map (fun t => xs[t]?.getD 0 + adS ws ts t i)
theorem adTo_len (xs : List Int) (ws : List (List Int)) (ts : List Int) (i : Nat) : (adTo xs ws ts i).length = xs.length := by simp [adTo]
theorem adTo_get (xs : List Int) (ws : List (List Int)) (ts : List Int) (i t : Nat) (h : t < xs.length) : (adTo xs ws ts i)[t]?.getD 0 = xs[t]?.getD 0 + adS ws ts t i := by
  unfold adTo
  rw [List.getElem?_map, List.getElem?_range h]
  rfl
theorem adTo_zero (xs : List Int) (ws : List (List Int)) (ts : List Int) : adTo xs ws ts 0 = xs := by
  refine List.ext_getElem (adTo_len _ _ _ _) fun t h1 h2 => ?_
  have := adTo_get xs ws ts 0 t h2
  rw [List.getElem?_eq_getElem h1, List.getElem?_eq_getElem h2] at this
  simpa [adS] using this
/-- The first positions of one wave more. -/
def adMid (xs : List Int) (ws : List (List Int)) (ts : List Int) (i p : Nat) : List Int := (adTo xs ws ts (i + 1)).take p ++ (adTo xs ws ts i).drop p
theorem adMid_zero (xs : List Int) (ws : List (List Int)) (ts : List Int) (i : Nat) : adMid xs ws ts i 0 = adTo xs ws ts i := by simp [adMid]
theorem adMid_all (xs : List Int) (ws : List (List Int)) (ts : List Int) (i p : Nat) (h : xs.length ≤ p) : adMid xs ws ts i p = adTo xs ws ts (i + 1) := by
  unfold adMid
  rw [List.take_of_length_le (by rw [adTo_len]; exact h), List.drop_eq_nil_of_le (by rw [adTo_len]; exact h), List.append_nil]
theorem adMid_len (xs : List Int) (ws : List (List Int)) (ts : List Int) (i p : Nat) : (adMid xs ws ts i p).length = xs.length := by
  simp [adMid, adTo_len]
  omega
theorem adMid_get (xs : List Int) (ws : List (List Int)) (ts : List Int) (i p : Nat) (h : p < xs.length) : (adMid xs ws ts i p)[p]?.getD 0 = xs[p]?.getD 0 + adS ws ts p i := by
  unfold adMid
  rw [List.getElem?_append_right (by simp [adTo_len]; omega), List.length_take, adTo_len, Nat.min_eq_left (by omega), Nat.sub_self, List.getElem?_drop, Nat.add_zero, adTo_get _ _ _ _ _ h]
theorem adMid_set (xs : List Int) (ws : List (List Int)) (ts : List Int) (i p : Nat) (h : p < xs.length) :
    (adMid xs ws ts i p).set p (xs[p]?.getD 0 + adS ws ts p i + ts[i]?.getD 0 * (ws[i]?.getD [])[p]?.getD 0) = adMid xs ws ts i (p + 1) := by
  have hl1 : (adTo xs ws ts (i + 1)).length = xs.length := adTo_len _ _ _ _
  have hl2 : (adTo xs ws ts i).length = xs.length := adTo_len _ _ _ _
  unfold adMid
  rw [List.drop_eq_getElem_cons (by omega), List.set_append_right _ _ (by simp; omega), List.length_take, hl1, Nat.min_eq_left (by omega), Nat.sub_self, List.set_cons_zero, List.take_succ_eq_append_getElem (by omega), List.append_assoc]
  congr 1
  have e := adTo_get xs ws ts (i + 1) p h
  rw [List.getElem?_eq_getElem (by omega)] at e
  simp only [Option.getD_some] at e
  rw [e, adS, Int.add_assoc]
  rfl
/-- Whether all numbers are samples. -/
theorem gsT_le (xs : List Int) (M : Int) (hM : 0 ≤ M) (k : Nat) : gsT xs k ≤ M ↔ ∀ j, j < k → -M ≤ xs[j]?.getD 0 ∧ xs[j]?.getD 0 ≤ M := by
  induction k with
  | zero => simp [gsT]; exact hM
  | succ k ih =>
    rw [gsT, sizeOf_abs]
    constructor
    · intro h j hj
      rcases Nat.lt_or_ge j k with h1 | h1
      · exact ih.1 (by omega) j h1
      · obtain rfl : j = k := by omega
        omega
    · intro h
      have h1 := ih.2 (fun j hj => h j (by omega))
      have h2 := h k (by omega)
      omega
end Go.Proofs.Ytiibdndchkbefaa
