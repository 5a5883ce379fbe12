/- A law's terms: the closures of CheckLaw. Printed by gen_y2.py. Which laws are right: CheckLaw. -/
import Derived.Test.YtaiikekgckjdeaaGreatK19
import Derived.Laws.StructEq
namespace Go.Proofs.YtaiikekgckjdeaaGreat
open Go.RowKit
attribute [local go_sem] Oper.semAt_some
open Calmly (Kept)
set_option maxHeartbeats 400000 in
theorem noExpL_any (x : Int) (w : World) : Calls Tryz.prog 36 #[.int .i64 x] w fun e w' => e = .returned (.bool (!szd x 4)) ∧ w = w' := by
  go_enter Tryz.func36, Tryz.ntmps36
  go_wp2_with fail
  refine (dSized_any x 4 _ (by omega) (by omega)).mono ?_
  rintro e w1 ⟨rfl, rfl⟩
  go_wp2_with fail
  go_ret
  exact ⟨rfl, rfl⟩
set_option maxRecDepth 100000 in
set_option maxHeartbeats 1000000 in
theorem indexExpL_any (a : Option Addr) (n c : Nat) (xs : List Int) (w : World) (h1 : SI w a n c xs) :
    Calls Tryz.prog 65 #[.slice a n c, .func (.func 36) #[] #[]] w fun e w' => (∃ i : Int, e = .returned (.int .i64 i) ∧ decide (i ≥ 0) = !exB xs n) ∧ w = w' := by
  obtain ⟨l1, l2⟩ : n ≤ xs.length ∧ xs.length ≤ n := by have := h1.len; omega
  have m1 := h1.max
  have c1 := h1.cap
  obtain ⟨R, hR⟩ : ∃ R, exB xs n = R := ⟨_, rfl⟩
  rw [hR]
  have HR := Lib.hid hR
  clear hR
  go_enter Tryz.func65, Tryz.ntmps65
  go_wp2_with fail
  go_loop [8] (fun i => ∃ k : Nat, k ≤ n ∧ i = .int .i64 k ∧ exB xs k = true) (fun i => n - (intOf i).toNat)
  case atStart => exact ⟨0, by omega, rfl, rfl⟩
  case round =>
    obtain ⟨k, hk, rfl, ht⟩ := hrel
    have HT := Lib.hid ht
    clear ht
    by_cases hlt : k < n
    · obtain ⟨b1, o1, rfl, hc1⟩ := h1.at_ (by omega)
      have e1 := hc1 k hlt
      clear hc1
      have hi : (k : Int) < (n : Int) := by omega
      have hi0 : (0 : Int) ≤ (k : Int) := by omega
      obtain ⟨x, hxx⟩ : ∃ x, xs[k]?.getD 0 = x := ⟨_, rfl⟩
      rw [hxx] at e1
      have HX := Lib.hid hxx
      clear hxx
      go_wp2_with fail
      refine (noExpL_any _ _).mono ?_
      rintro e w1 ⟨rfl, rfl⟩
      cases ho : szd x 4
      · have hR0 : R = false := by rw [← HR.out]; exact exB_no hlt (by rw [HX.out]; exact ho)
        go_wp2_with fail
        go_ret
        exact ⟨⟨_, rfl, by rw [hR0]; simp⟩, rfl⟩
      · go_wp2_with fail
        go_round
        case rel => exact ⟨k + 1, by omega, by go_num, by rw [exB, HT.out, HX.out, ho]; rfl⟩
        case measure => simp [intOf]; omega
    · have hle : (n : Int) ≤ (k : Int) := by omega
      obtain rfl : k = n := by omega
      have hR0 : R = true := by rw [← HR.out]; exact HT.out
      go_wp2_with fail
      go_ret
      exact ⟨⟨_, rfl, by first | (rw [hR0]; rfl) | (subst hR0; simp)⟩, rfl⟩
set_option maxHeartbeats 400000 in
theorem containsExpL_any (a : Option Addr) (n c : Nat) (xs : List Int) (w : World) (h1 : SI w a n c xs) :
    Calls Tryz.prog 35 #[.slice a n c, .func (.func 36) #[] #[]] w fun e w' => e = .returned (.bool (!exB xs n)) ∧ w = w' := by
  go_enter Tryz.func35, Tryz.ntmps35
  go_wp2_with fail
  refine (indexExpL_any a n c xs _ h1).mono ?_
  rintro e w1 ⟨⟨i, rfl, hi⟩, rfl⟩
  have HI := Lib.hid hi
  clear hi
  go_wp2_with fail
  go_ret
  exact ⟨ret_bool HI.out, rfl⟩

theorem eq3 (x y z x' y' z' : Int) (w : World) : (Op.equalIn 10000 53 (.agg #[.int .i64 x, .int .i64 y, .int .i64 z]) (.agg #[.int .i64 x', .int .i64 y', .int .i64 z'])).run Tryz.prog w = .ok (x == x' && y == y' && z == z') w := by
  have u3 := Tryz.underlying3
  have a3 := Tryz.isAgg3
  have z3 := Tryz.sizeOf3
  rw [show (10000 : Nat) = 9999 + 1 from rfl, Op.equalIn]
  simp only [Sem.run_bind, run_underlying Tryz.underlying53, Result.andThen_ok]
  simp only [Std.Legacy.Range.forIn_eq_forIn_range', Std.Legacy.Range.size, Nat.sub_zero, Nat.add_sub_cancel, Nat.div_one, List.range'_succ, List.range'_zero, List.forIn_cons, List.forIn_nil]
  go_simp
  by_cases h1 : x = x' <;> by_cases h2 : y = y' <;> by_cases h3 : z = z' <;> simp [h1, h2, h3]
/-- The error of a term. -/
def teE (qn : Nat) (t : List Int) : Int := firstE [unlessE ((t.length : Int) == (qn : Int)) 10, unlessE (exB t t.length) 2]
theorem teE_ok {qn : Nat} {t : List Int} (h : teE qn t = 0) : t.length = qn ∧ ∀ i : Nat, -4 ≤ t[i]?.getD 0 ∧ t[i]?.getD 0 ≤ 4 := by
  unfold teE at h
  cases h1 : ((t.length : Int) == (qn : Int))
  · simp [h1, firstE, unlessE] at h
  · cases h2 : exB t t.length
    · simp [h1, h2, firstE, unlessE] at h
    · refine ⟨by have h5 : (t.length : Int) = (qn : Int) := by simpa using h1
                 omega, fun i => ?_⟩
      rcases Nat.lt_or_ge i t.length with hi | hi
      · exact szd_iff.1 (exB_all h2 i hi)
      · rw [List.getElem?_eq_none hi]; simp
set_option maxRecDepth 100000 in
set_option maxHeartbeats 1000000 in
theorem termErr_any (i : Int) (p1 : Nat) (qa la ta : Option Addr) (qn qc ln lc tn tc : Nat) (t : List Int) (w : World) (h1 : w.heap[p1]? = some (.cells #[.slice qa qn qc, .slice la ln lc] 25)) (h2 : SI w ta tn tc t) :
    Calls Tryz.prog 34 #[.int .i64 i, .slice ta tn tc, .pointer (some ⟨p1, 0, none⟩)] w fun e w' => e = .returned (.int .i64 (teE qn t)) ∧ Below w.heap.size w w' := by
  have hl := h2.len
  have m1 := h2.max
  have c1 := h2.cap
  have hE : teE qn t = firstE [unlessE ((tn : Int) == (qn : Int)) 10, unlessE (exB t tn) 2] := by rw [teE, hl]
  have HE := Lib.hid hE
  clear hE hl
  have f0 := cell_block h1 0
  go_enter Tryz.func34, Tryz.ntmps34
  go_wp2_with fail
  refine (containsExpL_any ta tn tc t _ h2).mono ?_
  rintro e w1 ⟨rfl, rfl⟩
  obtain ⟨B, hB⟩ : ∃ B, exB t tn = B := ⟨_, rfl⟩
  rw [hB]
  have HB := Lib.hid hB
  clear hB
  have hbb : (!(!B)) = B := by simp
  go_wp2_with fail
  refine (dUnless_any _ 10 _).mono ?_
  rintro e w1 ⟨rfl, rfl⟩
  go_wp2_with fail
  refine (dUnless_any _ 2 _).mono ?_
  rintro e w1 ⟨rfl, rfl⟩
  go_wp2_with fail
  refine (dFirst_any _ 2 2 _ _ (SI.two _ _ _ _ (by simp))).mono ?_
  rintro e w1 ⟨rfl, rfl⟩
  go_wp2_with fail
  go_ret
  exact ⟨ret_int (by rw [HE.out, HB.out]), (Below.refl _ _).alloc (Nat.le_refl _) _⟩

/-! ### The exponents of a term -/
def exA (f : QuR → Int) (qs : List QuR) (t : List Int) (n : Nat) : Int := sumR (fun k => t[k]?.getD 0 * f (qs[k]?.getD qur0)) n
def exS (qs : List QuR) (t : List Int) : Int × Int × Int := (exA (·.1) qs t qs.length, exA (·.2.1) qs t qs.length, exA (·.2.2) qs t qs.length)
theorem mul16 {x y : Int} (hx : -4 ≤ x ∧ x ≤ 4) (hy : -4 ≤ y ∧ y ≤ 4) : -16 ≤ x * y ∧ x * y ≤ 16 := by
  have : (x * y).natAbs ≤ 4 * 4 := by
    rw [Int.natAbs_mul]
    exact Nat.mul_le_mul (by omega) (by omega)
  omega
theorem exA_bd {f : QuR → Int} {qs : List QuR} {t : List Int} (ht : ∀ i : Nat, -4 ≤ t[i]?.getD 0 ∧ t[i]?.getD 0 ≤ 4) (hf : ∀ i : Nat, -4 ≤ f (qs[i]?.getD qur0) ∧ f (qs[i]?.getD qur0) ≤ 4) (n : Nat) : -(16 * (n : Int)) ≤ exA f qs t n ∧ exA f qs t n ≤ 16 * (n : Int) :=
  sumR_bd (B := 16) (by omega) (fun i _ => mul16 (ht i) (hf i))
/-- A box that holds three numbers. -/
structure B3 (w : World) (b : Nat) (x y z : Int) : Prop where
  blk : w.heap[b]? = some (.cells #[.int .i64 x, .int .i64 y, .int .i64 z] 53)
theorem B3.keep {w w' : World} {b : Nat} {x y z : Int} (h : B3 w b x y z) (hb : Below w.heap.size w w') : B3 w' b x y z := ⟨blk_keep h.blk hb⟩
theorem B3.other {w : World} {b r o : Nat} {x y z : Int} (h : B3 w b x y z) (hr : b ≠ r) (v : Value) : B3 (w.setCell ⟨r, o, none⟩ v) b x y z := ⟨(Below.heap_setCell _ _ _ _ hr).trans h.blk⟩
theorem B3.set0 {w : World} {b : Nat} {x y z : Int} (h : B3 w b x y z) (v : Int) : B3 (w.setCell ⟨b, 0, none⟩ (.int .i64 v)) b v y z := by
  have := setBlk h.blk 0 (.int .i64 v)
  exact ⟨by simpa using this⟩
theorem B3.set1 {w : World} {b : Nat} {x y z : Int} (h : B3 w b x y z) (v : Int) : B3 (w.setCell ⟨b, 1, none⟩ (.int .i64 v)) b x v z := by
  have := setBlk h.blk 1 (.int .i64 v)
  exact ⟨by simpa using this⟩
theorem B3.set2 {w : World} {b : Nat} {x y z : Int} (h : B3 w b x y z) (v : Int) : B3 (w.setCell ⟨b, 2, none⟩ (.int .i64 v)) b x y v := by
  have := setBlk h.blk 2 (.int .i64 v)
  exact ⟨by simpa using this⟩
theorem ix0 (x y z : Int) (w : World) : Sem.run Tryz.prog (Instr.index 53 (.agg #[.int .i64 x, .int .i64 y, .int .i64 z]) (.int .i64 0)) w = .ok (.int .i64 x) w := by kernel_rfl
theorem ix1 (x y z : Int) (w : World) : Sem.run Tryz.prog (Instr.index 53 (.agg #[.int .i64 x, .int .i64 y, .int .i64 z]) (.int .i64 1)) w = .ok (.int .i64 y) w := by kernel_rfl
theorem ix2 (x y z : Int) (w : World) : Sem.run Tryz.prog (Instr.index 53 (.agg #[.int .i64 x, .int .i64 y, .int .i64 z]) (.int .i64 2)) w = .ok (.int .i64 z) w := by kernel_rfl
/-- What has been added after so many of three. -/
def ad3 (S d : Int) (j e : Nat) : Int := if j < e then S + d else S
set_option maxRecDepth 100000 in
set_option maxHeartbeats 2000000 in
theorem exps_any (p1 : Nat) (qa la ta : Option Addr) (qn qc ln lc tn tc : Nat) (qs : List QuR) (t : List Int) (w : World) (h1 : w.heap[p1]? = some (.cells #[.slice qa qn qc, .slice la ln lc] 25)) (h2 : SI w ta tn tc t) (h3 : SQuR w qa qn qc qs) (hl : tn = qn) (hq : qn ≤ 8)
    (ht : ∀ i : Nat, -4 ≤ t[i]?.getD 0 ∧ t[i]?.getD 0 ≤ 4) (hqs : (qsE qs).2 = 0) :
    Calls Tryz.prog 38 #[.slice ta tn tc, .pointer (some ⟨p1, 0, none⟩)] w fun e w' => e = .returned (.agg #[.int .i64 (exS qs t).1, .int .i64 (exS qs t).2.1, .int .i64 (exS qs t).2.2]) ∧ Below w.heap.size w w' := by
  subst hl
  have hqn := h3.len
  have m1 := h2.max
  have c1 := h2.cap
  have m2 := h3.max
  have c2 := h3.cap
  have HQ := Lib.hid hqn
  have HT := Lib.hid ht
  have HQS := Lib.hid hqs
  clear hqn ht hqs
  have y3 : B3 ((w.alloc (.cells #[.int .i64 0, .int .i64 0, .int .i64 0] 53)).alloc (.cells #[.int .i64 0, .int .i64 0, .int .i64 0] 53)) w.heap.size 0 0 0 := ⟨blk_keep (alloc_new w _) ((Below.refl _ _).alloc (Nat.le_refl _) _)⟩
  have y4 : B3 ((w.alloc (.cells #[.int .i64 0, .int .i64 0, .int .i64 0] 53)).alloc (.cells #[.int .i64 0, .int .i64 0, .int .i64 0] 53)) (w.heap.size + 1) 0 0 0 := ⟨by
    have := alloc_new (w.alloc (.cells #[.int .i64 0, .int .i64 0, .int .i64 0] 53)) (.cells #[.int .i64 0, .int .i64 0, .int .i64 0] 53)
    simpa using this⟩
  have BW : Below w.heap.size w ((w.alloc (.cells #[.int .i64 0, .int .i64 0, .int .i64 0] 53)).alloc (.cells #[.int .i64 0, .int .i64 0, .int .i64 0] 53)) := ((Below.refl _ _).alloc (Nat.le_refl _) _).alloc (by simp) _
  go_enter Tryz.func38, Tryz.ntmps38
  go_wp2_with fail
  generalize (w.alloc (.cells #[.int .i64 0, .int .i64 0, .int .i64 0] 53)).alloc (.cells #[.int .i64 0, .int .i64 0, .int .i64 0] 53) = W at *
  go_loopw [11] (fun i wr => ∃ k : Nat, k ≤ tn ∧ i = .int .i64 k ∧ B3 wr w.heap.size 0 0 0 ∧ B3 wr (w.heap.size + 1) (exA (·.1) qs t k) (exA (·.2.1) qs t k) (exA (·.2.2) qs t k) ∧ Below w.heap.size w wr) (fun i _ => tn - (intOf i).toNat)
  case atStart => exact ⟨0, by omega, rfl, y3, y4, BW⟩
  case round =>
    clear y3 y4 BW
    obtain ⟨k, hk, rfl, y3, y4, hb⟩ := hrel
    by_cases hlt : k < tn
    · obtain ⟨tb, to, rfl, htc⟩ := (h2.keep hb).at_ (by omega)
      obtain ⟨qb, qo, rfl, hqc⟩ := (h3.keep hb).at_ (by omega)
      have z0 := htc k hlt
      obtain ⟨z1, z2, z3⟩ := hqc k hlt
      have f0 := cell_block (blk_keep h1 hb) 0
      have bA := exA_bd (f := (·.1)) (qs := qs) HT.out (fun i => (qsE_ok HQS.out i).1) k
      have bB := exA_bd (f := (·.2.1)) (qs := qs) HT.out (fun i => (qsE_ok HQS.out i).2.1) k
      have bC := exA_bd (f := (·.2.2)) (qs := qs) HT.out (fun i => (qsE_ok HQS.out i).2.2) k
      have pA := mul16 (HT.out k) (qsE_ok HQS.out k).1
      have pB := mul16 (HT.out k) (qsE_ok HQS.out k).2.1
      have pC := mul16 (HT.out k) (qsE_ok HQS.out k).2.2
      have sA : exA (·.1) qs t (k + 1) = exA (·.1) qs t k + t[k]?.getD 0 * (qs[k]?.getD qur0).1 := rfl
      have sB : exA (·.2.1) qs t (k + 1) = exA (·.2.1) qs t k + t[k]?.getD 0 * (qs[k]?.getD qur0).2.1 := rfl
      have sC : exA (·.2.2) qs t (k + 1) = exA (·.2.2) qs t k + t[k]?.getD 0 * (qs[k]?.getD qur0).2.2 := rfl
      obtain ⟨p, hp⟩ : ∃ p, t[k]?.getD 0 = p := ⟨_, rfl⟩
      obtain ⟨⟨x0, x1, x2⟩, hx⟩ : ∃ x, qs[k]?.getD qur0 = x := ⟨_, rfl⟩
      rw [hp] at z0 pA pB pC sA sB sC
      rw [hx] at z1 z2 z3 pA pB pC sA sB sC
      dsimp only at z1 z2 z3 pA pB pC sA sB sC
      obtain ⟨A, hA⟩ : ∃ A, exA (·.1) qs t k = A := ⟨_, rfl⟩
      obtain ⟨B, hB⟩ : ∃ B, exA (·.2.1) qs t k = B := ⟨_, rfl⟩
      obtain ⟨C, hC⟩ : ∃ C, exA (·.2.2) qs t k = C := ⟨_, rfl⟩
      rw [hA] at y4 bA sA
      rw [hB] at y4 bB sB
      rw [hC] at y4 bC sC
      obtain ⟨mA, hmA⟩ : ∃ m, p * x0 = m := ⟨_, rfl⟩
      obtain ⟨mB, hmB⟩ : ∃ m, p * x1 = m := ⟨_, rfl⟩
      obtain ⟨mC, hmC⟩ : ∃ m, p * x2 = m := ⟨_, rfl⟩
      rw [hmA] at pA sA
      rw [hmB] at pB sB
      rw [hmC] at pC sC
      have SA := Lib.hid sA
      have SB := Lib.hid sB
      have SC := Lib.hid sC
      have hi1 : (k : Int) < (tn : Int) := by omega
      have hi0 : (0 : Int) ≤ (k : Int) := by omega
      clear hA hB hC sA sB sC hp hx htc hqc
      go_wp2_with fail
      go_loopw [21] (fun j wr2 => ∃ (e : Nat) (E : Int), e ≤ 3 ∧ E = e ∧ j = .int .i64 E ∧ B3 wr2 w.heap.size 0 0 0 ∧ B3 wr2 (w.heap.size + 1) (ad3 A mA 0 e) (ad3 B mB 1 e) (ad3 C mC 2 e) ∧ Below w.heap.size w wr2) (fun j _ => 3 - (intOf j).toNat)
      case atStart => exact ⟨0, 0, by omega, rfl, rfl, y3, y4, hb⟩
      case round =>
        clear z0 z1 z2 z3 f0 y3 y4
        obtain ⟨e, E, he, hE, rfl, y3, y4, hb2⟩ := hrel
        have hw4 : w.heap.size ≤ w.heap.size + 1 := by omega
        have hne : w.heap.size ≠ w.heap.size + 1 := by omega
        rcases (by omega : e = 0 ∨ e = 1 ∨ e = 2 ∨ e = 3) with rfl | rfl | rfl | rfl
        · simp only [ad3, Nat.lt_irrefl, Nat.not_lt_zero, if_false] at y4
          obtain rfl : E = 0 := by simpa using hE
          have hix := ix0 x0 x1 x2 wr
          have g0 := cell_block y4.blk 0
          have g1 := frozen_block y4.blk 0
          clear hE he
          go_wp2_with fail
          go_roundw
          case rel => exact ⟨1, 1, by omega, rfl, by go_num, y3.other hne _, y4.set0 (A + mA), hb2.setCell (p := ⟨w.heap.size + 1, 0, none⟩) hw4 _⟩
          case measure => simp [intOf]
        · simp only [ad3] at y4
          obtain rfl : E = 1 := by simpa using hE
          have hix := ix1 x0 x1 x2 wr
          have g0 := cell_block y4.blk 1
          have g1 := frozen_block y4.blk 1
          clear hE he
          go_wp2_with fail
          go_roundw
          case rel => exact ⟨2, 2, by omega, rfl, by go_num, y3.other hne _, y4.set1 (B + mB), hb2.setCell (p := ⟨w.heap.size + 1, 1, none⟩) hw4 _⟩
          case measure => simp [intOf]
        · simp only [ad3] at y4
          obtain rfl : E = 2 := by simpa using hE
          have hix := ix2 x0 x1 x2 wr
          have g0 := cell_block y4.blk 2
          have g1 := frozen_block y4.blk 2
          clear hE he
          go_wp2_with fail
          go_roundw
          case rel => exact ⟨3, 3, by omega, rfl, by go_num, y3.other hne _, y4.set2 (C + mC), hb2.setCell (p := ⟨w.heap.size + 1, 2, none⟩) hw4 _⟩
          case measure => simp [intOf]
        · simp only [ad3] at y4
          obtain rfl : E = 3 := by simpa using hE
          clear hE he
          go_wp2_with fail
          go_roundw
          case rel => exact ⟨k + 1, by omega, by go_num, y3, by rw [SA.out, SB.out, SC.out]; exact y4, hb2⟩
          case measure => simp [intOf]; omega
    · obtain rfl : tn = k := by omega
      have hle : ¬ (tn : Int) < (tn : Int) := by omega
      have hS : exS qs t = (exA (·.1) qs t tn, exA (·.2.1) qs t tn, exA (·.2.2) qs t tn) := by rw [exS, HQ.out]
      generalize exA (·.1) qs t tn = A at *
      generalize exA (·.2.1) qs t tn = B at *
      generalize exA (·.2.2) qs t tn = C at *
      have HSS := Lib.hid hS
      have g0 := cell_block y4.blk 0
      have g1 := cell_block y4.blk 1
      have g2 := cell_block y4.blk 2
      have e0 := cell_block y3.blk 0
      have e1 := cell_block y3.blk 1
      have e2 := cell_block y3.blk 2
      have e3 := frozen_block y3.blk 0
      have e4 := frozen_block y3.blk 1
      have e5 := frozen_block y3.blk 2
      clear hlt hk hS
      go_wp2_with fail
      have q0 := ((y3.set0 A).set1 B).set2 C
      have d0 := cell_block q0.blk 0
      have d1 := cell_block q0.blk 1
      have d2 := cell_block q0.blk 2
      have hw : w.heap.size ≤ w.heap.size := Nat.le_refl _
      have B4 := ((hb.setCell (p := ⟨w.heap.size, 0, none⟩) hw (.int .i64 A)).setCell (p := ⟨w.heap.size, 1, none⟩) hw (.int .i64 B)).setCell (p := ⟨w.heap.size, 2, none⟩) hw (.int .i64 C)
      refine bodyPost_ret (v := .agg #[.int .i64 A, .int .i64 B, .int .i64 C]) (by simp [results, Tryz.results38, go_sem, d0, d1, d2]) rfl ⟨by rw [HSS.out], B4⟩
end Go.Proofs.YtaiikekgckjdeaaGreat

namespace Go.Proofs.YtaiikekgckjdeaaGreat
open Go.RowKit
attribute [local go_sem] Oper.semAt_some eq3
open Calmly (Kept)

set_option maxRecDepth 100000 in
set_option maxHeartbeats 2000000 in
theorem clash_any (i : Int) (pf p1 : Nat) (qa la ta : Option Addr) (qn qc ln lc tn tc : Nat) (raw : List LsR) (ts : List (List Int)) (qs : List QuR) (t : List Int) (w : World) (h0 : w.heap[pf]? = some (.cells #[.func (.func 38) #[] #[.pointer (some ⟨p1, 0, none⟩)]] 87)) (h1 : w.heap[p1]? = some (.cells #[.slice qa qn qc, .slice la ln lc] 25)) (h2 : SI w ta tn tc t) (h3 : SQuR w qa qn qc qs) (h4 : LlV w la ln lc raw ts) (hl : tn = qn) (hq : qn ≤ 8) (hn : 0 < ln)
    (ht : ∀ i : Nat, -4 ≤ t[i]?.getD 0 ∧ t[i]?.getD 0 ≤ 4) (hl0 : (ts[0]?.getD []).length = qn) (ht0 : ∀ i : Nat, -4 ≤ (ts[0]?.getD [])[i]?.getD 0 ∧ (ts[0]?.getD [])[i]?.getD 0 ≤ 4) (hqs : (qsE qs).2 = 0) :
    Calls Tryz.prog 39 #[.int .i64 i, .slice ta tn tc, .pointer (some ⟨pf, 0, none⟩), .pointer (some ⟨p1, 0, none⟩)] w fun e w' => e = .returned (.int .i64 (unlessE (decide (exS qs t = exS qs (ts[0]?.getD []))) 13)) ∧ Below w.heap.size w w' := by
  obtain ⟨R, hR⟩ : ∃ R, decide (exS qs t = exS qs (ts[0]?.getD [])) = R := ⟨_, rfl⟩
  rw [hR]
  have HR := Lib.hid hR
  have f0 := cell_block h0 0
  have HT := Lib.hid ht
  have HT0 := Lib.hid ht0
  have HL := Lib.hid hl
  have HL0 := Lib.hid hl0
  have HN := Lib.hid hn
  have m1 := h4.row.max
  have c1 := h4.row.cap
  clear hR ht ht0 hl hl0
  go_enter Tryz.func39, Tryz.ntmps39
  go_wp2_with fail
  refine Calmly.wp_region_mix 11 (.fl 0 <| .fl 1 <| .fl 3 <| .fl 4 <| .fl 5 <| .fl 6 <| .fl 7 <| .eff 2 <| .eff 8 <| .eff 9 <| .eff 10 <| .tail [11]) (by kernel_rfl) (by kernel_rfl) ?_
  have BD : Below w.heap.size w w.drew := (Below.refl _ _).drew
  have g0 := blk_keep h0 BD
  have g1 := blk_keep h1 BD
  have g2 := h2.keep BD
  have g3 := h3.keep BD
  have g4 := h4.keep BD
  clear f0
  generalize w.drew = V at *
  have f0 := cell_block g0 0
  have f2 := cell_block g1 1
  have hn0 : 0 < ts.length := by have := g4.n_; omega
  have hs0 := g4.at_ 0 hn0
  obtain ⟨lb, lo, rfl, hlc⟩ := g4.row.at_ (by omega)
  have z0 := hlc 0 HN.out
  rw [Nat.zero_mul, Nat.add_zero] at z0
  obtain ⟨rr, hrr⟩ : ∃ rr, raw[0]?.getD lsr0 = rr := ⟨_, rfl⟩
  obtain ⟨u1, u2, u3⟩ := rr
  rw [hrr] at z0 hs0
  dsimp only [hv] at z0 hs0
  have hu2 := hs0.len
  have HU := Lib.hid hu2
  clear hlc hrr hu2
  have hk := Below.refl V.heap.size V
  go_wp2_with (first | ((with_reducible refine Calmly.is_fl ?_); refine Calmly.mix_fl rfl ?_ (fun _ _ => ?_); (first | exact .move _ | exact .load _ _ | exact .fieldAddr _ _ _ (by kernel_rfl) | exact .assign _ | exact .binOp _ _ _ _ _ rfl | exact .indexAddr _ _ _ | exact .len _ _ (by kernel_rfl) | exact .field _ _ _ | exact .extract _ _ | exact .pick _ _ _ | exact .build _ _ | exact .slice _ _ _ _ _ | exact .unOp _ _ _ rfl | exact .index _ _ _ | exact .max _ _ _ rfl rfl | exact .min _ _ _ rfl rfl | exact .nilCheck _ _ rfl)) | ((with_reducible refine Calmly.is_gl ?_); refine Calmly.mix_gl rfl rfl rfl ?_; first | ((first | with_reducible refine Calmly.gl_tt ?_ (fun _ _ => ?_) | with_reducible refine Calmly.gl_ff ?_ (fun _ _ => ?_)); (first | exact .move _ | exact .load _ _ | exact .fieldAddr _ _ _ (by kernel_rfl) | exact .assign _ | exact .binOp _ _ _ _ _ rfl | exact .indexAddr _ _ _ | exact .len _ _ (by kernel_rfl) | exact .field _ _ _ | exact .extract _ _ | exact .pick _ _ _ | exact .build _ _ | exact .slice _ _ _ _ _ | exact .unOp _ _ _ rfl | exact .index _ _ _ | exact .max _ _ _ rfl rfl | exact .min _ _ _ rfl rfl | exact .nilCheck _ _ rfl)) | with_reducible refine Calmly.gl_tf (fun _ _ => ?_) | with_reducible refine Calmly.gl_ft (fun _ _ => ?_)) | ((with_reducible refine Calmly.is_eff ?_); refine Calmly.mix_eff rfl (fun _ _ => ?_)) | ((with_reducible refine Calmly.is_gf ?_); refine Calmly.mix_gf rfl rfl rfl ?_; first | with_reducible refine Calmly.gf_tt (fun _ _ => ?_) | with_reducible refine Calmly.gf_ff (fun _ _ => ?_) | with_reducible refine Calmly.gf_tf (kept_of hk) (fun _ _ => ?_) | with_reducible refine Calmly.gf_ft (kept_of hk) (fun _ _ => ?_)) | ((with_reducible refine Calmly.is_tail ?_); first | refine Calmly.mix_tail_nil ?_ | refine Calmly.mix_tail rfl (fun _ _ => ?_)) | ((with_reducible refine Calmly.is_kept ?_); refine ⟨kept_of hk, ?_⟩) | (with_reducible refine Calmly.mix_alt ?_ ?_))
  refine (exps_any p1 qa _ ta qn qc ln lc tn tc qs t V g1 g2 g3 HL.out hq HT.out hqs).mono ?_
  rintro e w1 ⟨rfl, hb⟩
  dsimp only
  replace hk := step_of hk hb
  obtain ⟨A, hA⟩ : ∃ A, (exS qs t).1 = A := ⟨_, rfl⟩
  obtain ⟨B, hB⟩ : ∃ B, (exS qs t).2.1 = B := ⟨_, rfl⟩
  obtain ⟨C, hC⟩ : ∃ C, (exS qs t).2.2 = C := ⟨_, rfl⟩
  have hABC : exS qs t = (A, B, C) := by rw [← hA, ← hB, ← hC]
  rw [hA, hB, hC]
  have HABC := Lib.hid hABC
  clear hA hB hC hABC hb
  go_wp2_with (first | ((with_reducible refine Calmly.is_fl ?_); refine Calmly.mix_fl rfl ?_ (fun _ _ => ?_); (first | exact .move _ | exact .load _ _ | exact .fieldAddr _ _ _ (by kernel_rfl) | exact .assign _ | exact .binOp _ _ _ _ _ rfl | exact .indexAddr _ _ _ | exact .len _ _ (by kernel_rfl) | exact .field _ _ _ | exact .extract _ _ | exact .pick _ _ _ | exact .build _ _ | exact .slice _ _ _ _ _ | exact .unOp _ _ _ rfl | exact .index _ _ _ | exact .max _ _ _ rfl rfl | exact .min _ _ _ rfl rfl | exact .nilCheck _ _ rfl)) | ((with_reducible refine Calmly.is_gl ?_); refine Calmly.mix_gl rfl rfl rfl ?_; first | ((first | with_reducible refine Calmly.gl_tt ?_ (fun _ _ => ?_) | with_reducible refine Calmly.gl_ff ?_ (fun _ _ => ?_)); (first | exact .move _ | exact .load _ _ | exact .fieldAddr _ _ _ (by kernel_rfl) | exact .assign _ | exact .binOp _ _ _ _ _ rfl | exact .indexAddr _ _ _ | exact .len _ _ (by kernel_rfl) | exact .field _ _ _ | exact .extract _ _ | exact .pick _ _ _ | exact .build _ _ | exact .slice _ _ _ _ _ | exact .unOp _ _ _ rfl | exact .index _ _ _ | exact .max _ _ _ rfl rfl | exact .min _ _ _ rfl rfl | exact .nilCheck _ _ rfl)) | with_reducible refine Calmly.gl_tf (fun _ _ => ?_) | with_reducible refine Calmly.gl_ft (fun _ _ => ?_)) | ((with_reducible refine Calmly.is_eff ?_); refine Calmly.mix_eff rfl (fun _ _ => ?_)) | ((with_reducible refine Calmly.is_gf ?_); refine Calmly.mix_gf rfl rfl rfl ?_; first | with_reducible refine Calmly.gf_tt (fun _ _ => ?_) | with_reducible refine Calmly.gf_ff (fun _ _ => ?_) | with_reducible refine Calmly.gf_tf (kept_of hk) (fun _ _ => ?_) | with_reducible refine Calmly.gf_ft (kept_of hk) (fun _ _ => ?_)) | ((with_reducible refine Calmly.is_tail ?_); first | refine Calmly.mix_tail_nil ?_ | refine Calmly.mix_tail rfl (fun _ _ => ?_)) | ((with_reducible refine Calmly.is_kept ?_); refine ⟨kept_of hk, ?_⟩) | (with_reducible refine Calmly.mix_alt ?_ ?_))
  refine (exps_any p1 qa _ u1 qn qc ln lc u2 u3 qs _ w1 (blk_keep g1 hk) (hs0.keep hk) (g3.keep hk) (by rw [HU.out, HL0.out]) hq HT0.out hqs).mono ?_
  rintro e w2 ⟨rfl, hb2⟩
  dsimp only
  replace hk := step_of hk hb2
  obtain ⟨A', hA⟩ : ∃ A, (exS qs (ts[0]?.getD [])).1 = A := ⟨_, rfl⟩
  obtain ⟨B', hB⟩ : ∃ B, (exS qs (ts[0]?.getD [])).2.1 = B := ⟨_, rfl⟩
  obtain ⟨C', hC⟩ : ∃ C, (exS qs (ts[0]?.getD [])).2.2 = C := ⟨_, rfl⟩
  have hABC : exS qs (ts[0]?.getD []) = (A', B', C') := by rw [← hA, ← hB, ← hC]
  rw [hA, hB, hC]
  have hRR : R = decide ((A, B, C) = (A', B', C')) := by rw [← HR.out]; simp only [HABC.out, hABC]
  have HRR := Lib.hid hRR
  have BB := BD.trans (hk.mono BD.size)
  clear hA hB hC hABC hRR f0 f2 z0
  by_cases e1 : A = A'
  · subst e1
    by_cases e2 : B = B'
    · subst e2
      by_cases e3 : C = C'
      · subst e3
        go_wp2_with (first | ((with_reducible refine Calmly.is_fl ?_); refine Calmly.mix_fl rfl ?_ (fun _ _ => ?_); (first | exact .move _ | exact .load _ _ | exact .fieldAddr _ _ _ (by kernel_rfl) | exact .assign _ | exact .binOp _ _ _ _ _ rfl | exact .indexAddr _ _ _ | exact .len _ _ (by kernel_rfl) | exact .field _ _ _ | exact .extract _ _ | exact .pick _ _ _ | exact .build _ _ | exact .slice _ _ _ _ _ | exact .unOp _ _ _ rfl | exact .index _ _ _ | exact .max _ _ _ rfl rfl | exact .min _ _ _ rfl rfl | exact .nilCheck _ _ rfl)) | ((with_reducible refine Calmly.is_gl ?_); refine Calmly.mix_gl rfl rfl rfl ?_; first | ((first | with_reducible refine Calmly.gl_tt ?_ (fun _ _ => ?_) | with_reducible refine Calmly.gl_ff ?_ (fun _ _ => ?_)); (first | exact .move _ | exact .load _ _ | exact .fieldAddr _ _ _ (by kernel_rfl) | exact .assign _ | exact .binOp _ _ _ _ _ rfl | exact .indexAddr _ _ _ | exact .len _ _ (by kernel_rfl) | exact .field _ _ _ | exact .extract _ _ | exact .pick _ _ _ | exact .build _ _ | exact .slice _ _ _ _ _ | exact .unOp _ _ _ rfl | exact .index _ _ _ | exact .max _ _ _ rfl rfl | exact .min _ _ _ rfl rfl | exact .nilCheck _ _ rfl)) | with_reducible refine Calmly.gl_tf (fun _ _ => ?_) | with_reducible refine Calmly.gl_ft (fun _ _ => ?_)) | ((with_reducible refine Calmly.is_eff ?_); refine Calmly.mix_eff rfl (fun _ _ => ?_)) | ((with_reducible refine Calmly.is_gf ?_); refine Calmly.mix_gf rfl rfl rfl ?_; first | with_reducible refine Calmly.gf_tt (fun _ _ => ?_) | with_reducible refine Calmly.gf_ff (fun _ _ => ?_) | with_reducible refine Calmly.gf_tf (kept_of hk) (fun _ _ => ?_) | with_reducible refine Calmly.gf_ft (kept_of hk) (fun _ _ => ?_)) | ((with_reducible refine Calmly.is_tail ?_); first | refine Calmly.mix_tail_nil ?_ | refine Calmly.mix_tail rfl (fun _ _ => ?_)) | ((with_reducible refine Calmly.is_kept ?_); refine ⟨kept_of hk, ?_⟩) | (with_reducible refine Calmly.mix_alt ?_ ?_))
        refine (dUnless_any _ 13 _).mono ?_
        rintro e w3 ⟨rfl, rfl⟩
        go_wp2_with (first | ((with_reducible refine Calmly.is_fl ?_); refine Calmly.mix_fl rfl ?_ (fun _ _ => ?_); (first | exact .move _ | exact .load _ _ | exact .fieldAddr _ _ _ (by kernel_rfl) | exact .assign _ | exact .binOp _ _ _ _ _ rfl | exact .indexAddr _ _ _ | exact .len _ _ (by kernel_rfl) | exact .field _ _ _ | exact .extract _ _ | exact .pick _ _ _ | exact .build _ _ | exact .slice _ _ _ _ _ | exact .unOp _ _ _ rfl | exact .index _ _ _ | exact .max _ _ _ rfl rfl | exact .min _ _ _ rfl rfl | exact .nilCheck _ _ rfl)) | ((with_reducible refine Calmly.is_gl ?_); refine Calmly.mix_gl rfl rfl rfl ?_; first | ((first | with_reducible refine Calmly.gl_tt ?_ (fun _ _ => ?_) | with_reducible refine Calmly.gl_ff ?_ (fun _ _ => ?_)); (first | exact .move _ | exact .load _ _ | exact .fieldAddr _ _ _ (by kernel_rfl) | exact .assign _ | exact .binOp _ _ _ _ _ rfl | exact .indexAddr _ _ _ | exact .len _ _ (by kernel_rfl) | exact .field _ _ _ | exact .extract _ _ | exact .pick _ _ _ | exact .build _ _ | exact .slice _ _ _ _ _ | exact .unOp _ _ _ rfl | exact .index _ _ _ | exact .max _ _ _ rfl rfl | exact .min _ _ _ rfl rfl | exact .nilCheck _ _ rfl)) | with_reducible refine Calmly.gl_tf (fun _ _ => ?_) | with_reducible refine Calmly.gl_ft (fun _ _ => ?_)) | ((with_reducible refine Calmly.is_eff ?_); refine Calmly.mix_eff rfl (fun _ _ => ?_)) | ((with_reducible refine Calmly.is_gf ?_); refine Calmly.mix_gf rfl rfl rfl ?_; first | with_reducible refine Calmly.gf_tt (fun _ _ => ?_) | with_reducible refine Calmly.gf_ff (fun _ _ => ?_) | with_reducible refine Calmly.gf_tf (kept_of hk) (fun _ _ => ?_) | with_reducible refine Calmly.gf_ft (kept_of hk) (fun _ _ => ?_)) | ((with_reducible refine Calmly.is_tail ?_); first | refine Calmly.mix_tail_nil ?_ | refine Calmly.mix_tail rfl (fun _ _ => ?_)) | ((with_reducible refine Calmly.is_kept ?_); refine ⟨kept_of hk, ?_⟩) | (with_reducible refine Calmly.mix_alt ?_ ?_))
        go_ret
        exact ⟨ret_int (by rw [HRR.out]; simp), BB⟩
      · have d1 : (C == C') = false := by simpa using e3
        have E := Lib.hid e3
        clear e3
        go_wp2_with (first | ((with_reducible refine Calmly.is_fl ?_); refine Calmly.mix_fl rfl ?_ (fun _ _ => ?_); (first | exact .move _ | exact .load _ _ | exact .fieldAddr _ _ _ (by kernel_rfl) | exact .assign _ | exact .binOp _ _ _ _ _ rfl | exact .indexAddr _ _ _ | exact .len _ _ (by kernel_rfl) | exact .field _ _ _ | exact .extract _ _ | exact .pick _ _ _ | exact .build _ _ | exact .slice _ _ _ _ _ | exact .unOp _ _ _ rfl | exact .index _ _ _ | exact .max _ _ _ rfl rfl | exact .min _ _ _ rfl rfl | exact .nilCheck _ _ rfl)) | ((with_reducible refine Calmly.is_gl ?_); refine Calmly.mix_gl rfl rfl rfl ?_; first | ((first | with_reducible refine Calmly.gl_tt ?_ (fun _ _ => ?_) | with_reducible refine Calmly.gl_ff ?_ (fun _ _ => ?_)); (first | exact .move _ | exact .load _ _ | exact .fieldAddr _ _ _ (by kernel_rfl) | exact .assign _ | exact .binOp _ _ _ _ _ rfl | exact .indexAddr _ _ _ | exact .len _ _ (by kernel_rfl) | exact .field _ _ _ | exact .extract _ _ | exact .pick _ _ _ | exact .build _ _ | exact .slice _ _ _ _ _ | exact .unOp _ _ _ rfl | exact .index _ _ _ | exact .max _ _ _ rfl rfl | exact .min _ _ _ rfl rfl | exact .nilCheck _ _ rfl)) | with_reducible refine Calmly.gl_tf (fun _ _ => ?_) | with_reducible refine Calmly.gl_ft (fun _ _ => ?_)) | ((with_reducible refine Calmly.is_eff ?_); refine Calmly.mix_eff rfl (fun _ _ => ?_)) | ((with_reducible refine Calmly.is_gf ?_); refine Calmly.mix_gf rfl rfl rfl ?_; first | with_reducible refine Calmly.gf_tt (fun _ _ => ?_) | with_reducible refine Calmly.gf_ff (fun _ _ => ?_) | with_reducible refine Calmly.gf_tf (kept_of hk) (fun _ _ => ?_) | with_reducible refine Calmly.gf_ft (kept_of hk) (fun _ _ => ?_)) | ((with_reducible refine Calmly.is_tail ?_); first | refine Calmly.mix_tail_nil ?_ | refine Calmly.mix_tail rfl (fun _ _ => ?_)) | ((with_reducible refine Calmly.is_kept ?_); refine ⟨kept_of hk, ?_⟩) | (with_reducible refine Calmly.mix_alt ?_ ?_))
        refine (dUnless_any _ 13 _).mono ?_
        rintro e w3 ⟨rfl, rfl⟩
        go_wp2_with (first | ((with_reducible refine Calmly.is_fl ?_); refine Calmly.mix_fl rfl ?_ (fun _ _ => ?_); (first | exact .move _ | exact .load _ _ | exact .fieldAddr _ _ _ (by kernel_rfl) | exact .assign _ | exact .binOp _ _ _ _ _ rfl | exact .indexAddr _ _ _ | exact .len _ _ (by kernel_rfl) | exact .field _ _ _ | exact .extract _ _ | exact .pick _ _ _ | exact .build _ _ | exact .slice _ _ _ _ _ | exact .unOp _ _ _ rfl | exact .index _ _ _ | exact .max _ _ _ rfl rfl | exact .min _ _ _ rfl rfl | exact .nilCheck _ _ rfl)) | ((with_reducible refine Calmly.is_gl ?_); refine Calmly.mix_gl rfl rfl rfl ?_; first | ((first | with_reducible refine Calmly.gl_tt ?_ (fun _ _ => ?_) | with_reducible refine Calmly.gl_ff ?_ (fun _ _ => ?_)); (first | exact .move _ | exact .load _ _ | exact .fieldAddr _ _ _ (by kernel_rfl) | exact .assign _ | exact .binOp _ _ _ _ _ rfl | exact .indexAddr _ _ _ | exact .len _ _ (by kernel_rfl) | exact .field _ _ _ | exact .extract _ _ | exact .pick _ _ _ | exact .build _ _ | exact .slice _ _ _ _ _ | exact .unOp _ _ _ rfl | exact .index _ _ _ | exact .max _ _ _ rfl rfl | exact .min _ _ _ rfl rfl | exact .nilCheck _ _ rfl)) | with_reducible refine Calmly.gl_tf (fun _ _ => ?_) | with_reducible refine Calmly.gl_ft (fun _ _ => ?_)) | ((with_reducible refine Calmly.is_eff ?_); refine Calmly.mix_eff rfl (fun _ _ => ?_)) | ((with_reducible refine Calmly.is_gf ?_); refine Calmly.mix_gf rfl rfl rfl ?_; first | with_reducible refine Calmly.gf_tt (fun _ _ => ?_) | with_reducible refine Calmly.gf_ff (fun _ _ => ?_) | with_reducible refine Calmly.gf_tf (kept_of hk) (fun _ _ => ?_) | with_reducible refine Calmly.gf_ft (kept_of hk) (fun _ _ => ?_)) | ((with_reducible refine Calmly.is_tail ?_); first | refine Calmly.mix_tail_nil ?_ | refine Calmly.mix_tail rfl (fun _ _ => ?_)) | ((with_reducible refine Calmly.is_kept ?_); refine ⟨kept_of hk, ?_⟩) | (with_reducible refine Calmly.mix_alt ?_ ?_))
        go_ret
        exact ⟨ret_int (by rw [HRR.out]; simp [E.out]), BB⟩
    · have d1 : (B == B') = false := by simpa using e2
      have E := Lib.hid e2
      clear e2
      go_wp2_with (first | ((with_reducible refine Calmly.is_fl ?_); refine Calmly.mix_fl rfl ?_ (fun _ _ => ?_); (first | exact .move _ | exact .load _ _ | exact .fieldAddr _ _ _ (by kernel_rfl) | exact .assign _ | exact .binOp _ _ _ _ _ rfl | exact .indexAddr _ _ _ | exact .len _ _ (by kernel_rfl) | exact .field _ _ _ | exact .extract _ _ | exact .pick _ _ _ | exact .build _ _ | exact .slice _ _ _ _ _ | exact .unOp _ _ _ rfl | exact .index _ _ _ | exact .max _ _ _ rfl rfl | exact .min _ _ _ rfl rfl | exact .nilCheck _ _ rfl)) | ((with_reducible refine Calmly.is_gl ?_); refine Calmly.mix_gl rfl rfl rfl ?_; first | ((first | with_reducible refine Calmly.gl_tt ?_ (fun _ _ => ?_) | with_reducible refine Calmly.gl_ff ?_ (fun _ _ => ?_)); (first | exact .move _ | exact .load _ _ | exact .fieldAddr _ _ _ (by kernel_rfl) | exact .assign _ | exact .binOp _ _ _ _ _ rfl | exact .indexAddr _ _ _ | exact .len _ _ (by kernel_rfl) | exact .field _ _ _ | exact .extract _ _ | exact .pick _ _ _ | exact .build _ _ | exact .slice _ _ _ _ _ | exact .unOp _ _ _ rfl | exact .index _ _ _ | exact .max _ _ _ rfl rfl | exact .min _ _ _ rfl rfl | exact .nilCheck _ _ rfl)) | with_reducible refine Calmly.gl_tf (fun _ _ => ?_) | with_reducible refine Calmly.gl_ft (fun _ _ => ?_)) | ((with_reducible refine Calmly.is_eff ?_); refine Calmly.mix_eff rfl (fun _ _ => ?_)) | ((with_reducible refine Calmly.is_gf ?_); refine Calmly.mix_gf rfl rfl rfl ?_; first | with_reducible refine Calmly.gf_tt (fun _ _ => ?_) | with_reducible refine Calmly.gf_ff (fun _ _ => ?_) | with_reducible refine Calmly.gf_tf (kept_of hk) (fun _ _ => ?_) | with_reducible refine Calmly.gf_ft (kept_of hk) (fun _ _ => ?_)) | ((with_reducible refine Calmly.is_tail ?_); first | refine Calmly.mix_tail_nil ?_ | refine Calmly.mix_tail rfl (fun _ _ => ?_)) | ((with_reducible refine Calmly.is_kept ?_); refine ⟨kept_of hk, ?_⟩) | (with_reducible refine Calmly.mix_alt ?_ ?_))
      refine (dUnless_any _ 13 _).mono ?_
      rintro e w3 ⟨rfl, rfl⟩
      go_wp2_with (first | ((with_reducible refine Calmly.is_fl ?_); refine Calmly.mix_fl rfl ?_ (fun _ _ => ?_); (first | exact .move _ | exact .load _ _ | exact .fieldAddr _ _ _ (by kernel_rfl) | exact .assign _ | exact .binOp _ _ _ _ _ rfl | exact .indexAddr _ _ _ | exact .len _ _ (by kernel_rfl) | exact .field _ _ _ | exact .extract _ _ | exact .pick _ _ _ | exact .build _ _ | exact .slice _ _ _ _ _ | exact .unOp _ _ _ rfl | exact .index _ _ _ | exact .max _ _ _ rfl rfl | exact .min _ _ _ rfl rfl | exact .nilCheck _ _ rfl)) | ((with_reducible refine Calmly.is_gl ?_); refine Calmly.mix_gl rfl rfl rfl ?_; first | ((first | with_reducible refine Calmly.gl_tt ?_ (fun _ _ => ?_) | with_reducible refine Calmly.gl_ff ?_ (fun _ _ => ?_)); (first | exact .move _ | exact .load _ _ | exact .fieldAddr _ _ _ (by kernel_rfl) | exact .assign _ | exact .binOp _ _ _ _ _ rfl | exact .indexAddr _ _ _ | exact .len _ _ (by kernel_rfl) | exact .field _ _ _ | exact .extract _ _ | exact .pick _ _ _ | exact .build _ _ | exact .slice _ _ _ _ _ | exact .unOp _ _ _ rfl | exact .index _ _ _ | exact .max _ _ _ rfl rfl | exact .min _ _ _ rfl rfl | exact .nilCheck _ _ rfl)) | with_reducible refine Calmly.gl_tf (fun _ _ => ?_) | with_reducible refine Calmly.gl_ft (fun _ _ => ?_)) | ((with_reducible refine Calmly.is_eff ?_); refine Calmly.mix_eff rfl (fun _ _ => ?_)) | ((with_reducible refine Calmly.is_gf ?_); refine Calmly.mix_gf rfl rfl rfl ?_; first | with_reducible refine Calmly.gf_tt (fun _ _ => ?_) | with_reducible refine Calmly.gf_ff (fun _ _ => ?_) | with_reducible refine Calmly.gf_tf (kept_of hk) (fun _ _ => ?_) | with_reducible refine Calmly.gf_ft (kept_of hk) (fun _ _ => ?_)) | ((with_reducible refine Calmly.is_tail ?_); first | refine Calmly.mix_tail_nil ?_ | refine Calmly.mix_tail rfl (fun _ _ => ?_)) | ((with_reducible refine Calmly.is_kept ?_); refine ⟨kept_of hk, ?_⟩) | (with_reducible refine Calmly.mix_alt ?_ ?_))
      go_ret
      exact ⟨ret_int (by rw [HRR.out]; simp [E.out]), BB⟩
  · have d1 : (A == A') = false := by simpa using e1
    have E := Lib.hid e1
    clear e1
    go_wp2_with (first | ((with_reducible refine Calmly.is_fl ?_); refine Calmly.mix_fl rfl ?_ (fun _ _ => ?_); (first | exact .move _ | exact .load _ _ | exact .fieldAddr _ _ _ (by kernel_rfl) | exact .assign _ | exact .binOp _ _ _ _ _ rfl | exact .indexAddr _ _ _ | exact .len _ _ (by kernel_rfl) | exact .field _ _ _ | exact .extract _ _ | exact .pick _ _ _ | exact .build _ _ | exact .slice _ _ _ _ _ | exact .unOp _ _ _ rfl | exact .index _ _ _ | exact .max _ _ _ rfl rfl | exact .min _ _ _ rfl rfl | exact .nilCheck _ _ rfl)) | ((with_reducible refine Calmly.is_gl ?_); refine Calmly.mix_gl rfl rfl rfl ?_; first | ((first | with_reducible refine Calmly.gl_tt ?_ (fun _ _ => ?_) | with_reducible refine Calmly.gl_ff ?_ (fun _ _ => ?_)); (first | exact .move _ | exact .load _ _ | exact .fieldAddr _ _ _ (by kernel_rfl) | exact .assign _ | exact .binOp _ _ _ _ _ rfl | exact .indexAddr _ _ _ | exact .len _ _ (by kernel_rfl) | exact .field _ _ _ | exact .extract _ _ | exact .pick _ _ _ | exact .build _ _ | exact .slice _ _ _ _ _ | exact .unOp _ _ _ rfl | exact .index _ _ _ | exact .max _ _ _ rfl rfl | exact .min _ _ _ rfl rfl | exact .nilCheck _ _ rfl)) | with_reducible refine Calmly.gl_tf (fun _ _ => ?_) | with_reducible refine Calmly.gl_ft (fun _ _ => ?_)) | ((with_reducible refine Calmly.is_eff ?_); refine Calmly.mix_eff rfl (fun _ _ => ?_)) | ((with_reducible refine Calmly.is_gf ?_); refine Calmly.mix_gf rfl rfl rfl ?_; first | with_reducible refine Calmly.gf_tt (fun _ _ => ?_) | with_reducible refine Calmly.gf_ff (fun _ _ => ?_) | with_reducible refine Calmly.gf_tf (kept_of hk) (fun _ _ => ?_) | with_reducible refine Calmly.gf_ft (kept_of hk) (fun _ _ => ?_)) | ((with_reducible refine Calmly.is_tail ?_); first | refine Calmly.mix_tail_nil ?_ | refine Calmly.mix_tail rfl (fun _ _ => ?_)) | ((with_reducible refine Calmly.is_kept ?_); refine ⟨kept_of hk, ?_⟩) | (with_reducible refine Calmly.mix_alt ?_ ?_))
    refine (dUnless_any _ 13 _).mono ?_
    rintro e w3 ⟨rfl, rfl⟩
    go_wp2_with (first | ((with_reducible refine Calmly.is_fl ?_); refine Calmly.mix_fl rfl ?_ (fun _ _ => ?_); (first | exact .move _ | exact .load _ _ | exact .fieldAddr _ _ _ (by kernel_rfl) | exact .assign _ | exact .binOp _ _ _ _ _ rfl | exact .indexAddr _ _ _ | exact .len _ _ (by kernel_rfl) | exact .field _ _ _ | exact .extract _ _ | exact .pick _ _ _ | exact .build _ _ | exact .slice _ _ _ _ _ | exact .unOp _ _ _ rfl | exact .index _ _ _ | exact .max _ _ _ rfl rfl | exact .min _ _ _ rfl rfl | exact .nilCheck _ _ rfl)) | ((with_reducible refine Calmly.is_gl ?_); refine Calmly.mix_gl rfl rfl rfl ?_; first | ((first | with_reducible refine Calmly.gl_tt ?_ (fun _ _ => ?_) | with_reducible refine Calmly.gl_ff ?_ (fun _ _ => ?_)); (first | exact .move _ | exact .load _ _ | exact .fieldAddr _ _ _ (by kernel_rfl) | exact .assign _ | exact .binOp _ _ _ _ _ rfl | exact .indexAddr _ _ _ | exact .len _ _ (by kernel_rfl) | exact .field _ _ _ | exact .extract _ _ | exact .pick _ _ _ | exact .build _ _ | exact .slice _ _ _ _ _ | exact .unOp _ _ _ rfl | exact .index _ _ _ | exact .max _ _ _ rfl rfl | exact .min _ _ _ rfl rfl | exact .nilCheck _ _ rfl)) | with_reducible refine Calmly.gl_tf (fun _ _ => ?_) | with_reducible refine Calmly.gl_ft (fun _ _ => ?_)) | ((with_reducible refine Calmly.is_eff ?_); refine Calmly.mix_eff rfl (fun _ _ => ?_)) | ((with_reducible refine Calmly.is_gf ?_); refine Calmly.mix_gf rfl rfl rfl ?_; first | with_reducible refine Calmly.gf_tt (fun _ _ => ?_) | with_reducible refine Calmly.gf_ff (fun _ _ => ?_) | with_reducible refine Calmly.gf_tf (kept_of hk) (fun _ _ => ?_) | with_reducible refine Calmly.gf_ft (kept_of hk) (fun _ _ => ?_)) | ((with_reducible refine Calmly.is_tail ?_); first | refine Calmly.mix_tail_nil ?_ | refine Calmly.mix_tail rfl (fun _ _ => ?_)) | ((with_reducible refine Calmly.is_kept ?_); refine ⟨kept_of hk, ?_⟩) | (with_reducible refine Calmly.mix_alt ?_ ?_))
    go_ret
    exact ⟨ret_int (by rw [HRR.out]; simp [E.out]), BB⟩
/-- Index and error of a law. -/
def lwH (m : Nat) : Int := firstE [unlessE (decide (0 < m)) 10, unlessE (decide ((m : Int) ≤ 8)) 8]
def tsE (qn : Nat) (ts : List (List Int)) : Int × Int := eaF (fun i => teE qn (ts[i]?.getD [])) 0 ts.length
def clE (qs : List QuR) (ts : List (List Int)) : Int × Int := eaF (fun i => unlessE (decide (exS qs (ts[i]?.getD []) = exS qs (ts[0]?.getD []))) 13) 0 ts.length
def lawE (qs : List QuR) (ts : List (List Int)) : Int × Int :=
  if 8 < qs.length then (0, 8) else if (qsE qs).2 ≠ 0 then qsE qs else if lwH ts.length ≠ 0 then (0, lwH ts.length) else if (tsE qs.length ts).2 ≠ 0 then tsE qs.length ts else clE qs ts
end Go.Proofs.YtaiikekgckjdeaaGreat
