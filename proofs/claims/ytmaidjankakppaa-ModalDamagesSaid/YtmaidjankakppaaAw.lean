/- The examples of chapter 6 hold. -/
import Derived.Test.YtmaidjankakppaaEc
import Derived.Test.YtmaidjankakppaaMe
namespace Go.Proofs.Ytmaidjankakppaa
open Go.RowKit
open Calmly (Kept)

theorem ex_check : checkF [1, 1] [2, 1] = (0, 0) := by kernel_rfl
theorem ex_poly : polyF [1, 1] [2, 1] = [2, -4, 1] := by kernel_rfl
theorem ex_encErr : encErr [1, 1] [2, 1] 1 10 = 0 := by kernel_rfl
theorem ex_enc : encF [1, 1] [2, 1] 1 10 = (34, 35) := by kernel_rfl
theorem ex_after : afterE [1, 1] [2, 1] 10 [(3, 4), (26, 28)] = 0 := by kernel_rfl
theorem ex_expl : exF [1, 1] [2, 1] 10 [(3, 4), (26, 28)] = ((0, 1), true) := by kernel_rfl
theorem ex_perE : periodE [-3, 5, 8, 4, -6, -2, 3, 5, -4, -1, 4] 2 = 0 := by kernel_rfl
theorem ex_per : periodF [-3, 5, 8, 4, -6, -2, 3, 5, -4, -1, 4] 2 = ((7, 2), (5, 1)) := by kernel_rfl

theorem SI.lit (w : World) (xs : List Int) (e : TypeId) {r n : Nat} (hr : r = w.heap.size) (hn : n = xs.length) (hm : n ≤ 1000) : SI (w.alloc (.cells (xs.map (Value.int .i64)).toArray e)) (some ⟨r, 0, none⟩) n n xs := by
  subst hr hn
  refine ⟨by simp, Nat.le_refl _, by unfold maxLen; omega, .inr ⟨_, 0, rfl, fun i hi => ?_⟩⟩
  rw [Nat.zero_add, cell_block (alloc_new _ _)]
  simp

set_option maxRecDepth 100000 in
set_option maxHeartbeats 1000000 in
theorem lFrame_any (w : World) : Calls Try.prog 89 #[] w fun e w' => ∃ a b, e = .returned (.agg #[.slice a 2 2, .slice b 2 2]) ∧ SI w' a 2 2 [1, 1] ∧ SI w' b 2 2 [2, 1] ∧ Below w.heap.size w w' := by
  go_enter Try.func89, Try.ntmps89
  go_wp2_with fail
  have h1 := (SI.two (w.alloc (.cells #[.slice (some ⟨w.heap.size + 1, 0, none⟩) 2 2, .slice (some ⟨w.heap.size + 1 + 1, 0, none⟩) 2 2] 24)) 1 1 3 (r := w.heap.size + 1) (by simp)).keep ((Below.refl _ _).alloc (Nat.le_refl _) (.cells #[.int .i64 2, .int .i64 1] 3))
  have h2 := SI.two ((w.alloc (.cells #[.slice (some ⟨w.heap.size + 1, 0, none⟩) 2 2, .slice (some ⟨w.heap.size + 1 + 1, 0, none⟩) 2 2] 24)).alloc (.cells #[.int .i64 1, .int .i64 1] 3)) 2 1 3 (r := w.heap.size + 1 + 1) (by simp)
  refine bodyPost_ret (v := .agg #[.slice (some ⟨w.heap.size + 1, 0, none⟩) 2 2, .slice (some ⟨w.heap.size + 1 + 1, 0, none⟩) 2 2]) (by simp [results, Try.results89, go_sem]) rfl ⟨_, _, rfl, h1, h2, ?_⟩
  exact (((Below.refl _ _).alloc (Nat.le_refl _) _).alloc (by simp) _).alloc (by simp; omega) _
set_option maxRecDepth 100000 in
set_option maxHeartbeats 1000000 in
theorem lDecay_any (w : World) : Calls Try.prog 90 #[] w fun e w' => ∃ a, e = .returned (.agg #[.slice a 11 11, .int .i64 2]) ∧ SI w' a 11 11 [-3, 5, 8, 4, -6, -2, 3, 5, -4, -1, 4] ∧ Below w.heap.size w w' := by
  go_enter Try.func90, Try.ntmps90
  go_wp2_with fail
  have h1 := SI.lit (w.alloc (.cells #[.slice (some ⟨w.heap.size + 1, 0, none⟩) 11 11, .int .i64 2] 87)) [-3, 5, 8, 4, -6, -2, 3, 5, -4, -1, 4] 3 (r := w.heap.size + 1) (n := 11) (by simp) rfl (by omega)
  refine bodyPost_ret (v := .agg #[.slice (some ⟨w.heap.size + 1, 0, none⟩) 11 11, .int .i64 2]) (by simp [results, Try.results90, go_sem]) rfl ⟨_, rfl, h1, ?_⟩
  exact ((Below.refl _ _).alloc (Nat.le_refl _) _).alloc (by simp) _

theorem SR.two (w : World) (x y z u : Int) (e : TypeId) {r : Nat} (hr : r = w.heap.size) : SR (w.alloc (.cells #[.int .i64 x, .int .i64 y, .int .i64 z, .int .i64 u] e)) (some ⟨r, 0, none⟩) 2 2 [(x, y), (z, u)] := by
  subst hr
  refine ⟨rfl, Nat.le_refl _, by unfold maxLen; omega, .inr ⟨_, 0, rfl, fun i hi => ?_⟩⟩
  rw [Nat.zero_add, cell_block (alloc_new _ _)]
  simp [rv]

set_option maxRecDepth 100000 in
set_option maxHeartbeats 4000000 in
theorem awake_any (w : World) : Calls Try.prog 15 #[] w fun e w' => e = .returned (.bool true) ∧ Below w.heap.size w w' := by
  go_enter Try.func15, Try.ntmps15
  go_wp2_with fail
  refine (lFrame_any _).mono ?_
  rintro e w1 ⟨a1, b1, rfl, fa1, fb1, hb1⟩
  go_wp2_with fail
  refine (PolynomialOf_ok a1 b1 2 2 2 2 [1, 1] [2, 1] _ fa1 fb1 (by rw [ex_check])).mono ?_
  rintro e w2 ⟨ap, cp, rfl, op, hb2⟩
  rw [ex_poly] at op
  have B2 := hb1.trans (hb2.mono hb1.size)
  go_wp2_with fail
  refine (lFrame_any _).mono ?_
  rintro e w3 ⟨a3, b3, rfl, fa3, fb3, hb3⟩
  have B3 := B2.trans (hb3.mono B2.size)
  have op3 := op.keep hb3
  go_wp2_with fail
  refine (EnclosureOf_any a3 b3 2 2 2 2 [1, 1] [2, 1] 1 10 _ fa3 fb3 0 34 35 ex_encErr (fun _ => ex_enc) (fun h => absurd rfl h)).mono ?_
  rintro e w4 ⟨rfl, hb4⟩
  have B4 := B3.trans (hb4.mono B3.size)
  have op4 := op3.keep hb4
  go_wp2_with fail
  refine (lDecay_any _).mono ?_
  rintro e w5 ⟨a5, rfl, fa5, hb5⟩
  have hA : ∀ (A : World) (o : Obj), Below A.heap.size A (A.alloc o) := fun A o => (Below.refl _ _).alloc (Nat.le_refl _) _
  have B5 := B4.trans (((hA w4 (.cells #[.int .i64 34, .int .i64 35] 63)).trans (hb5.mono (by simp))).mono B4.size)
  have op5 := (op4.keep (hA w4 (.cells #[.int .i64 34, .int .i64 35] 63))).keep hb5
  have r5 := blk_keep (alloc_new w4 (.cells #[.int .i64 34, .int .i64 35] 63)) hb5
  go_wp2_with fail
  refine (PeriodIn_any a5 11 11 _ 2 0 7 2 5 1 _ fa5 ex_perE (fun h => absurd rfl h) (fun _ => ex_per)).mono ?_
  rintro e w6 ⟨rfl, hb6⟩
  have B6 := B5.trans (hb6.mono B5.size)
  have op6 := op5.keep hb6
  have r6 := blk_keep r5 hb6
  go_wp2_with fail
  refine (lFrame_any _).mono ?_
  rintro e w7 ⟨a7, b7, rfl, fa7, fb7, hb7⟩
  have B7 := B6.trans (((hA w6 (.cells #[.int .i64 7, .int .i64 2, .int .i64 5, .int .i64 1] 93)).trans (hb7.mono (by simp))).mono B6.size)
  have op7 := (op6.keep (hA w6 (.cells #[.int .i64 7, .int .i64 2, .int .i64 5, .int .i64 1] 93))).keep hb7
  have r7 := blk_keep (blk_keep r6 (hA w6 (.cells #[.int .i64 7, .int .i64 2, .int .i64 5, .int .i64 1] 93))) hb7
  have s7 := blk_keep (alloc_new w6 (.cells #[.int .i64 7, .int .i64 2, .int .i64 5, .int .i64 1] 93)) hb7
  have q7 := SR.two w7 3 4 26 28 63 rfl
  go_wp2_with fail
  refine (ExplainedBy_ok a7 b7 (some ⟨w7.heap.size, 0, none⟩) 2 2 2 2 2 [1, 1] [2, 1] [(3, 4), (26, 28)] 10 _ (fa7.keep (hA _ _)) (fb7.keep (hA _ _)) q7 ex_after (by rw [ex_check]) (by omega) (by omega) (by omega) 0 1 true ex_expl).mono ?_
  rintro e w8 ⟨rfl, hb8⟩
  have B8 := B7.trans (((hA w7 (.cells #[.int .i64 3, .int .i64 4, .int .i64 26, .int .i64 28] 63)).trans (hb8.mono (by simp))).mono B7.size)
  have op8 := (op7.keep (hA w7 (.cells #[.int .i64 3, .int .i64 4, .int .i64 26, .int .i64 28] 63))).keep hb8
  have r8 := blk_keep (blk_keep r7 (hA w7 (.cells #[.int .i64 3, .int .i64 4, .int .i64 26, .int .i64 28] 63))) hb8
  have s8 := blk_keep (blk_keep s7 (hA w7 (.cells #[.int .i64 3, .int .i64 4, .int .i64 26, .int .i64 28] 63))) hb8
  have g0 : w8.cell? ⟨w4.heap.size, 0, none⟩ = some (.int .i64 34) := cell_block r8 0
  have g1 : w8.cell? ⟨w4.heap.size, 1, none⟩ = some (.int .i64 35) := cell_block r8 1
  have g2 : w8.cell? ⟨w6.heap.size, 0, none⟩ = some (.int .i64 7) := cell_block s8 0
  have g3 : w8.cell? ⟨w6.heap.size, 1, none⟩ = some (.int .i64 2) := cell_block s8 1
  have g4 : w8.cell? ⟨w6.heap.size, 2, none⟩ = some (.int .i64 5) := cell_block s8 2
  have g5 : w8.cell? ⟨w6.heap.size, 3, none⟩ = some (.int .i64 1) := cell_block s8 3
  have hu : unlessE true 12 = 0 := rfl
  rw [hu]
  clear B2 B3 B4 B5 B6 B7 op3 op4 op5 op6 op7 op r5 r6 r7 s7 hb1 hb2 hb3 hb4 hb5 hb6 hb7 hb8 fa1 fb1 fa3 fb3 fa5 fa7 fb7 q7
  go_wp2_with fail
  have hlt4 := blk_lt r8
  have hlt6 := blk_lt s8
  have hp : SI ((w8.alloc (.cells #[.int .i64 0, .int .i64 1] 46)).alloc (.cells #[.int .i64 2, .int .i64 (-4), .int .i64 1] 3)) ap 3 cp [2, -4, 1] := (op8.si.keep (hA _ _)).keep (hA _ _)
  refine (ints_any ap (some ⟨w8.heap.size + 1, 0, none⟩) 3 3 cp 3 [2, -4, 1] [2, -4, 1] _ hp (SI.three _ _ _ _ _ (by simp))).mono ?_
  rintro e w9 ⟨rfl, nd, rfl⟩
  have hdt : decide (([2, -4, 1] : List Int) = [2, -4, 1]) = true := by decide
  rw [hdt]
  clear op8 hp hdt
  go_wp2_with fail
  go_ret
  exact ⟨rfl, below_drewN (B8.trans (((hA _ _).trans ((hA _ _).mono (by simp))).mono B8.size)) nd⟩
end Go.Proofs.Ytmaidjankakppaa
