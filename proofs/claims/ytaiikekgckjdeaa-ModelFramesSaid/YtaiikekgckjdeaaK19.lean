/- The examples of chapter 5 hold. The arguments of a law of chapter 5, opened: numbers, fractions, arrays. The arguments of a law of chapter 5, opened: a pair of quantities, a number. The arguments of a law of chapter 5, opened: springs, holds. The reference's springs: their errors, copies. Appends of any records within a plan; the reference's copies of holds, its force and energy. -/
import Derived.Test.YtaiikekgckjdeaaK18
import Derived.ProofKit
import Derived.OpenShut
namespace Go.Proofs.Ytaiikekgckjdeaa
open Go.RowKit
open Calmly (Kept)
set_option maxHeartbeats 400000 in
theorem lScales_any (w : World) : Calls Try.prog 77 #[] w fun e w' => e = .returned (.agg #[.int .i64 1, .int .i64 4, .int .i64 1, .int .i64 2, .int .i64 1, .int .i64 16]) ∧ Below w.heap.size w w' := by
  go_enter Try.func77, Try.ntmps77
  go_wp2_with fail
  have y0 := alloc_new w (.cells #[.int .i64 1, .int .i64 4, .int .i64 1, .int .i64 2, .int .i64 1, .int .i64 16] 78)
  have BW := (Below.refl w.heap.size w).alloc (Nat.le_refl _) (.cells #[.int .i64 1, .int .i64 4, .int .i64 1, .int .i64 2, .int .i64 1, .int .i64 16] 78)
  have e0 := cell_block y0 0
  have e1 := cell_block y0 1
  have e2 := cell_block y0 2
  have e3 := cell_block y0 3
  have e4 := cell_block y0 4
  have e5 := cell_block y0 5
  refine bodyPost_ret (v := .agg #[.int .i64 1, .int .i64 4, .int .i64 1, .int .i64 2, .int .i64 1, .int .i64 16]) (by simp [results, Try.results77, go_sem, e0, e1, e2, e3, e4, e5]) rfl ⟨rfl, BW⟩
set_option maxHeartbeats 400000 in
theorem rMass_any (w : World) : Calls Try.prog 78 #[] w fun e w' => e = .returned (.agg #[.int .i64 (-1), .int .i64 2, .int .i64 1]) ∧ Below w.heap.size w w' := by
  go_enter Try.func78, Try.ntmps78
  go_wp2_with fail
  have y0 := alloc_new w (.cells #[.int .i64 (-1), .int .i64 2, .int .i64 1] 79)
  have BW := (Below.refl w.heap.size w).alloc (Nat.le_refl _) (.cells #[.int .i64 (-1), .int .i64 2, .int .i64 1] 79)
  have e0 := cell_block y0 0
  have e1 := cell_block y0 1
  have e2 := cell_block y0 2
  refine bodyPost_ret (v := .agg #[.int .i64 (-1), .int .i64 2, .int .i64 1]) (by simp [results, Try.results78, go_sem, e0, e1, e2]) rfl ⟨rfl, BW⟩
def exSp : List El := [(10, 2, false), (5, 4, true)]
theorem SEl.two {w : World} {r : Nat} {e : TypeId} {k1 y1 k2 y2 : Int} {b1 b2 : Bool} (h : w.heap[r]? = some (.cells #[.int .i64 k1, .int .i64 y1, .bool b1, .int .i64 k2, .int .i64 y2, .bool b2] e)) : SEl w (some ⟨r, 0, none⟩) 2 2 [(k1, y1, b1), (k2, y2, b2)] := by
  refine ⟨rfl, by omega, by unfold maxLen; omega, .inr ⟨r, 0, rfl, fun i hi => ?_⟩⟩
  rw [cell_block h]
  rcases i with _ | _ | _ | _ | _ | _ | i
  all_goals first | rfl | omega
theorem SEl.one {w : World} {r : Nat} {e : TypeId} {k1 y1 : Int} {b1 : Bool} (h : w.heap[r]? = some (.cells #[.int .i64 k1, .int .i64 y1, .bool b1] e)) : SEl w (some ⟨r, 0, none⟩) 1 1 [(k1, y1, b1)] := by
  refine ⟨rfl, by omega, by unfold maxLen; omega, .inr ⟨r, 0, rfl, fun i hi => ?_⟩⟩
  rw [cell_block h]
  rcases i with _ | _ | _ | i
  all_goals first | rfl | omega
theorem SSp.two {w : World} {r : Nat} {e : TypeId} {k1 k2 : Int} {b1 b2 : Bool} (h : w.heap[r]? = some (.cells #[.int .i64 k1, .bool b1, .int .i64 k2, .bool b2] e)) : SSp w (some ⟨r, 0, none⟩) 2 2 [(k1, b1), (k2, b2)] := by
  refine ⟨rfl, by omega, by unfold maxLen; omega, .inr ⟨r, 0, rfl, fun i hi => ?_⟩⟩
  rw [cell_block h]
  rcases i with _ | _ | _ | _ | i
  all_goals first | rfl | omega
set_option maxHeartbeats 400000 in
theorem lSpring_any (w : World) : Calls Try.prog 79 #[] w fun e w' => ∃ a, e = .returned (.slice a 2 2) ∧ SEl w' a 2 2 exSp ∧ Below w.heap.size w w' := by
  go_enter Try.func79, Try.ntmps79
  go_wp2_with fail
  go_ret
  exact ⟨_, rfl, SEl.two (alloc_new w _), (Below.refl _ _).alloc (Nat.le_refl _) _⟩
def exFr : List Fl := [(2, 20, [(4, 10, false)]), (1, 20, [(2, 10, false)])]
set_option maxHeartbeats 400000 in
theorem lFrame_any (w : World) : Calls Try.prog 80 #[] w fun e w' => ∃ a raw, e = .returned (.agg #[.slice a 2 2]) ∧ FrV w' a 2 2 raw exFr ∧ Below w.heap.size w w' := by
  go_enter Try.func80, Try.ntmps80
  go_wp2_with fail
  have BE := (Below.refl w.heap.size w).alloc (Nat.le_refl _) (.cells #[.slice (some ⟨w.heap.size + 1 + 1 + 1, 0, none⟩) 2 2] 24)
  have x0 := alloc_new w (.cells #[.slice (some ⟨w.heap.size + 1 + 1 + 1, 0, none⟩) 2 2] 24)
  have hs1 : (w.alloc (.cells #[.slice (some ⟨w.heap.size + 1 + 1 + 1, 0, none⟩) 2 2] 24)).heap.size = w.heap.size + 1 := by simp
  generalize w.alloc (.cells #[.slice (some ⟨w.heap.size + 1 + 1 + 1, 0, none⟩) 2 2] 24) = W1 at *
  have x1 := alloc_new W1 (.cells #[.int .i64 4, .int .i64 10, .bool false] 152)
  have B1 := (Below.refl W1.heap.size W1).alloc (Nat.le_refl _) (.cells #[.int .i64 4, .int .i64 10, .bool false] 152)
  have hs2 : (W1.alloc (.cells #[.int .i64 4, .int .i64 10, .bool false] 152)).heap.size = w.heap.size + 1 + 1 := by simp [hs1]
  generalize W1.alloc (.cells #[.int .i64 4, .int .i64 10, .bool false] 152) = W2 at *
  have x2 := alloc_new W2 (.cells #[.int .i64 2, .int .i64 10, .bool false] 152)
  have B2 := (Below.refl W2.heap.size W2).alloc (Nat.le_refl _) (.cells #[.int .i64 2, .int .i64 10, .bool false] 152)
  have hs3 : (W2.alloc (.cells #[.int .i64 2, .int .i64 10, .bool false] 152)).heap.size = w.heap.size + 1 + 1 + 1 := by simp [hs2]
  generalize W2.alloc (.cells #[.int .i64 2, .int .i64 10, .bool false] 152) = W3 at *
  have x3 := alloc_new W3 (.cells #[.int .i64 2, .int .i64 20, .slice (some ⟨w.heap.size + 1, 0, none⟩) 1 1, .int .i64 1, .int .i64 20, .slice (some ⟨w.heap.size + 1 + 1, 0, none⟩) 1 1] 130)
  have B3 := (Below.refl W3.heap.size W3).alloc (Nat.le_refl _) (.cells #[.int .i64 2, .int .i64 20, .slice (some ⟨w.heap.size + 1, 0, none⟩) 1 1, .int .i64 1, .int .i64 20, .slice (some ⟨w.heap.size + 1 + 1, 0, none⟩) 1 1] 130)
  generalize W3.alloc (.cells #[.int .i64 2, .int .i64 20, .slice (some ⟨w.heap.size + 1, 0, none⟩) 1 1, .int .i64 1, .int .i64 20, .slice (some ⟨w.heap.size + 1 + 1, 0, none⟩) 1 1] 130) = W4 at *
  replace x0 := blk_keep (blk_keep (blk_keep x0 B1) B2) B3
  replace x1 := blk_keep (blk_keep x1 B2) B3
  replace x2 := blk_keep x2 B3
  rw [hs1] at x1
  rw [hs2] at x2
  rw [hs3] at x3
  have e0 := cell_block x0 0
  refine bodyPost_ret (v := .agg #[.slice (some ⟨w.heap.size + 1 + 1 + 1, 0, none⟩) 2 2]) (by simp [results, Try.results80, go_sem, e0]) rfl ⟨_, [(2, 20, (some ⟨w.heap.size + 1, 0, none⟩, 1, 1)), (1, 20, (some ⟨w.heap.size + 1 + 1, 0, none⟩, 1, 1))], rfl, ⟨?_, rfl, ?_⟩, ?_⟩
  · refine ⟨rfl, by omega, by unfold maxLen; omega, .inr ⟨w.heap.size + 1 + 1 + 1, 0, rfl, fun i hi => ?_⟩⟩
    rw [cell_block x3]
    rcases i with _ | _ | _ | _ | _ | _ | i
    all_goals first | rfl | omega
  · intro i hi
    have hi2 : i < 2 := hi
    rcases i with _ | _ | i
    · exact ⟨rfl, rfl, SEl.one x1⟩
    · exact ⟨rfl, rfl, SEl.one x2⟩
    · omega
  · exact ((BE.trans (B1.mono (by omega))).trans (B2.mono (by omega))).trans (B3.mono (by omega))
theorem ex_facE : facE 1 4 1 2 1 16 (-1) 2 1 = 0 := by decide +kernel
theorem ex_facV : facV 1 4 1 2 1 16 (-1) 2 1 = 1 / 16 := by decide +kernel
theorem ex_opnE : opnE exSp 0 (List.replicate 2 sp0) 3 = 0 := by decide +kernel
theorem ex_mvd : mvdS exSp (List.replicate 2 sp0) 3 = [(1, false), (0, false)] := by decide +kernel
theorem ex_wrk : wrkS exSp (List.replicate 2 sp0) 0 3 = 125 := by decide +kernel
theorem ex_los : losS exSp (List.replicate 2 sp0) 3 = 40 := by decide +kernel
theorem ex_run : runE exFr [-3, 0, 0] = 0 := by decide +kernel
theorem ex_pk : pkS (List.replicate exFr.length 0) (bgSt exFr :: (runS exFr (bgSt exFr) [-3, 0, 0]).1) = [3, 6] := by decide +kernel
set_option maxRecDepth 100000 in
set_option maxHeartbeats 2000000 in
theorem awake_any (w : World) : Calls Try.prog 11 #[] w fun e w' => e = .returned (.bool true) ∧ Below w.heap.size w w' := by
  have hA : ∀ (A : World) (o : Obj), Below A.heap.size A (A.alloc o) := fun A o => (Below.refl _ _).alloc (Nat.le_refl _) _
  go_enter Try.func11, Try.ntmps11
  go_wp2_with fail
  refine (lScales_any _).mono ?_
  rintro e w1 ⟨rfl, B1⟩
  go_wp2_with fail
  refine (rMass_any _).mono ?_
  rintro e w2 ⟨rfl, hs⟩
  replace B1 := B1.trans (hs.mono B1.size)
  clear hs
  go_wp2_with fail
  refine (FactorOf_any 1 4 1 2 1 16 (-1) 2 1 _ (by unfold F64; omega) (by unfold F64; omega) (by unfold F64; omega)).mono ?_
  rintro e w3 ⟨rfl, hs⟩
  replace B1 := B1.trans (hs.mono B1.size)
  clear hs
  rw [ex_facE, ex_facV, show qN 0 (1 / 16) = 1 by decide +kernel, show qD 0 (1 / 16) = 16 by decide +kernel]
  have x1 := alloc_new w3 (.cells #[.int .i64 1, .int .i64 16] 77)
  have hk := hA w3 (.cells #[.int .i64 1, .int .i64 16] 77)
  replace B1 := B1.trans (hk.mono B1.size)
  clear hk
  go_wp2_with fail
  obtain ⟨q1, hq1⟩ : ∃ q, w3.heap.size = q := ⟨_, rfl⟩
  rw [hq1] at x1 ⊢
  generalize w3.alloc (.cells #[.int .i64 1, .int .i64 16] 77) = W3 at *
  refine (lSpring_any _).mono ?_
  rintro e w4 ⟨a1, rfl, s1, hs⟩
  replace B1 := B1.trans (hs.mono B1.size)
  replace x1 := blk_keep x1 hs
  clear hs
  go_wp2_with fail
  refine (lSpring_any _).mono ?_
  rintro e w5 ⟨a2, rfl, s2, hs⟩
  replace B1 := B1.trans (hs.mono B1.size)
  replace x1 := blk_keep x1 hs
  replace s1 := s1.keep hs
  clear hs
  go_wp2_with fail
  refine (rBegin_any a2 2 2 exSp _ s2 (by omega)).mono ?_
  rintro e w6 ⟨av, rfl, ho, hs⟩
  replace B1 := B1.trans (hs.mono B1.size)
  replace x1 := blk_keep x1 hs
  replace s1 := s1.keep hs
  clear hs s2
  go_wp2_with fail
  refine (MovedTo_any a1 av 2 2 2 2 exSp 0 3 (List.replicate 2 sp0) _ s1 ho.ss).mono ?_
  rintro e w7 ⟨a3, n3, c3, rfl, ho3, hs⟩
  replace B1 := B1.trans (hs.mono B1.size)
  replace x1 := blk_keep x1 hs
  rw [ex_opnE, if_pos rfl, ex_mvd] at ho3
  rw [ex_opnE, if_pos rfl]
  have s3 := ho3.ss
  clear hs s1 ho ho3
  have x3 := alloc_new w7 (.cells #[.int .i64 3, .slice a3 n3 c3] 49)
  have hk := hA w7 (.cells #[.int .i64 3, .slice a3 n3 c3] 49)
  replace B1 := B1.trans (hk.mono B1.size)
  replace x1 := blk_keep x1 hk
  replace s3 := s3.keep hk
  clear hk
  go_wp2_with fail
  obtain ⟨q3, hq3⟩ : ∃ q, w7.heap.size = q := ⟨_, rfl⟩
  rw [hq3] at x3 ⊢
  generalize w7.alloc (.cells #[.int .i64 3, .slice a3 n3 c3] 49) = W7 at *
  refine (lSpring_any _).mono ?_
  rintro e w8 ⟨a4, rfl, s4, hs⟩
  replace B1 := B1.trans (hs.mono B1.size)
  replace x1 := blk_keep x1 hs
  replace x3 := blk_keep x3 hs
  replace s3 := s3.keep hs
  clear hs
  go_wp2_with fail
  refine (lSpring_any _).mono ?_
  rintro e w9 ⟨a5, rfl, s5, hs⟩
  replace B1 := B1.trans (hs.mono B1.size)
  replace x1 := blk_keep x1 hs
  replace x3 := blk_keep x3 hs
  replace s3 := s3.keep hs
  replace s4 := s4.keep hs
  clear hs
  go_wp2_with fail
  refine (rBegin_any a5 2 2 exSp _ s5 (by omega)).mono ?_
  rintro e w10 ⟨av2, rfl, ho, hs⟩
  replace B1 := B1.trans (hs.mono B1.size)
  replace x1 := blk_keep x1 hs
  replace x3 := blk_keep x3 hs
  replace s3 := s3.keep hs
  replace s4 := s4.keep hs
  clear hs s5
  go_wp2_with fail
  refine (WorkTo_any a4 av2 2 2 2 2 exSp 0 3 (List.replicate 2 sp0) _ s4 ho.ss).mono ?_
  rintro e w11 ⟨rfl, hs⟩
  replace B1 := B1.trans (hs.mono B1.size)
  replace x1 := blk_keep x1 hs
  replace x3 := blk_keep x3 hs
  replace s3 := s3.keep hs
  rw [ex_opnE, if_pos rfl, if_pos rfl, ex_wrk, ex_los]
  clear hs s4 ho
  have x5 := alloc_new w11 (.cells #[.int .i64 125, .int .i64 40] 59)
  have hk := hA w11 (.cells #[.int .i64 125, .int .i64 40] 59)
  replace B1 := B1.trans (hk.mono B1.size)
  replace x1 := blk_keep x1 hk
  replace x3 := blk_keep x3 hk
  replace s3 := s3.keep hk
  clear hk
  go_wp2_with fail
  obtain ⟨q5, hq5⟩ : ∃ q, w11.heap.size = q := ⟨_, rfl⟩
  rw [hq5] at x5 ⊢
  generalize w11.alloc (.cells #[.int .i64 125, .int .i64 40] 59) = W11 at *
  refine (lFrame_any _).mono ?_
  rintro e w12 ⟨a6, raw, rfl, hf, hs⟩
  replace B1 := B1.trans (hs.mono B1.size)
  replace x1 := blk_keep x1 hs
  replace x3 := blk_keep x3 hs
  replace x5 := blk_keep x5 hs
  replace s3 := s3.keep hs
  clear hs
  have hm := SI.three w12 (-3) 0 0 3 rfl
  have hk := hA w12 (.cells #[.int .i64 (-3), .int .i64 0, .int .i64 0] 3)
  replace B1 := B1.trans (hk.mono B1.size)
  replace x1 := blk_keep x1 hk
  replace x3 := blk_keep x3 hk
  replace x5 := blk_keep x5 hk
  replace s3 := s3.keep hk
  replace hf := hf.keep hk
  clear hk
  go_wp2_with fail
  generalize w12.alloc (.cells #[.int .i64 (-3), .int .i64 0, .int .i64 0] 3) = W12 at *
  refine (PeaksOf_any a6 _ 2 2 3 3 raw exFr [-3, 0, 0] _ hf hm).mono ?_
  rintro e w13 ⟨a7, n7, c7, rfl, hp, hs⟩
  replace B1 := B1.trans (hs.mono B1.size)
  replace x1 := blk_keep x1 hs
  replace x3 := blk_keep x3 hs
  replace x5 := blk_keep x5 hs
  replace s3 := s3.keep hs
  have hP := (hp.peaks ex_run).si
  rw [ex_pk] at hP
  rw [ex_run]
  clear hs hp hf hm
  have f0 := cell_block x1 0
  have f1 := cell_block x1 1
  have g0 := cell_block x3 0
  have g1 := cell_block x3 1
  have hs7 := alloc_new w13 (.cells #[.int .i64 1, .bool false, .int .i64 0, .bool false] 64)
  have hk := hA w13 (.cells #[.int .i64 1, .bool false, .int .i64 0, .bool false] 64)
  replace B1 := B1.trans (hk.mono B1.size)
  replace x5 := blk_keep x5 hk
  replace s3 := s3.keep hk
  replace hP := hP.keep hk
  clear hk
  have hS2 := SSp.two hs7
  go_wp2_with fail
  generalize w13.alloc (.cells #[.int .i64 1, .bool false, .int .i64 0, .bool false] 64) = W13 at *
  refine (sameHold_any 3 3 a3 _ n3 2 c3 2 [(1, false), (0, false)] [(1, false), (0, false)] _ s3 hS2).mono ?_
  rintro e w14 ⟨rfl, hs⟩
  rw [show decide ((3 : Int) = 3 ∧ [((1 : Int), false), (0, false)] = [(1, false), (0, false)]) = true by decide]
  replace B1 := B1.trans (hs.mono B1.size)
  replace x5 := blk_keep x5 hs
  replace hP := hP.keep hs
  clear hs s3 hS2 hs7 x3
  have h0 := cell_block x5 0
  have h1 := cell_block x5 1
  have hI2 := SI.two w14 3 6 3 rfl
  have hk := hA w14 (.cells #[.int .i64 3, .int .i64 6] 3)
  replace B1 := B1.trans (hk.mono B1.size)
  replace hP := hP.keep hk
  clear hk
  go_wp2_with fail
  refine (ints_any a7 _ n7 2 c7 2 [3, 6] [3, 6] _ hP hI2).mono ?_
  rintro e w15 ⟨rfl, k, rfl⟩
  go_wp2_with fail
  go_ret
  exact ⟨ret_bool (by simp), below_drewN B1 k⟩
end Go.Proofs.Ytaiikekgckjdeaa

namespace Go.Proofs.Ytaiikekgckjdeaa
set_option maxRecDepth 100000
open Go.ChangeShapes Go.WideShapes Go.ChangeAt Go.RowKit

theorem okWide_spot {P : Program} {w : World} {base : Nat} {t e : TypeId} {a : Addr} {n c : Nat} (ht : P.underlying t = some (.slice e)) (h : Value.okWide P w .any base t (.slice (some a) n c)) : a.spot = none := by
  simp only [Value.okWide, ht, Cell.okWide, Cell.ok, World.has] at h
  exact h.2.2.2.1
theorem add_none (b off i : Nat) : Addr.add ⟨b, off, none⟩ i = ⟨b, off + i, none⟩ := by
  unfold Addr.add
  split
  · simp_all
  · rfl
theorem Try.own' : ownKnob Try.prog.godebug = none := by kernel_rfl
theorem Try.laidOut' : laidOutB Try.prog = true := by kernel_rfl
theorem open_nums {H : Type} {enc : TypeId × Value → H} {w : World} {base : Nat} {v : Value} {d : DataW H} {p : List MemPlace}
    (hok : Value.okWide Try.prog w .any base 25 v) (h : DataW.Trod enc Try.prog w 0 (fun _ => true) true 25 v d p) :
    ∃ a n c l, v = .slice a n c ∧ SI w a n c l ∧ ∀ q ∈ l, (Lit.int .i64 q).wf = true := by
  obtain ⟨a, n, c, rfl⟩ := okWide_slice Try.underlying25 hok
  obtain ⟨fuel, hf⟩ := h
  rcases open_ints Try.underlying25 Try.underlying3 (by kernel_rfl) hf with ⟨hcs, _⟩ | ⟨x, l, c', zs, hcs, _, hl, hm, hz, _, hcell, hwz⟩
  · simp [Value.cells] at hcs
    obtain ⟨rfl, rfl, rfl⟩ := hcs
    exact ⟨none, 0, 0, [], rfl, Sl.nil w 1, by simp⟩
  · simp [Value.cells] at hcs
    obtain ⟨rfl, rfl, rfl⟩ := hcs
    have hs : x.spot = none := okWide_spot Try.underlying25 hok
    have hz' : zs.length = c := by simpa using hz
    refine ⟨some x, n, c, zs.take n, rfl, ⟨by simp; omega, hl, hm, .inr ?_⟩, fun q hq => hwz q (List.mem_of_mem_take hq)⟩
    obtain ⟨b, off, spot⟩ := x
    cases hs
    refine ⟨b, off, rfl, fun i hi => ?_⟩
    have := hcell i (by omega)
    rw [add_none] at this
    rw [this, List.getElem?_map, List.getElem?_take_of_lt (by omega), List.getElem?_eq_getElem (by omega)]
    simp [List.getD_eq_getElem?_getD, List.getElem?_eq_getElem (show i < zs.length by omega)]
theorem open_struct {H : Type} {enc : TypeId × Value → H} {P : Program} {w : World} {base : Nat} {t : TypeId} {fs : Array Field} {ts : List TypeId} {v : Value} {d : DataW H} {p : List MemPlace}
    (ht : P.underlying t = some (.struct fs)) (hts : P.cellTypes P.depth t = some ts) (hok : Value.okWide P w .any base t v) (h : DataW.Trod enc P w 0 (fun _ => true) true t v d p) :
    ∃ cs : Array Value, v = .agg cs ∧ cs.size = P.cellsOf t ∧ (∀ (i : Nat) (u : Value), cs[i]? = some u → ∃ ty, ts[i % ts.length]? = some ty ∧ Cell.okWide P w .any base ty u) ∧
      ∀ (i : Nat) (f : Field), fs[i]? = some f → ∃ fuel x, DataW.trod enc P w 0 (fun _ => true) true fuel f.type ((cs.toList.drop f.offset).take (P.cellsOf f.type)) = some x := by
  simp only [Value.okWide, ht] at hok
  obtain ⟨cs, rfl, hsz, ts', hts', _, hall⟩ := hok
  rw [hts] at hts'
  cases hts'
  obtain ⟨fuel, hf⟩ := h
  obtain ⟨xs, n, _, _, _, hxl, hx⟩ := DataW.trod_struct ht hf
  refine ⟨cs, rfl, hsz, hall, fun i f hfi => ?_⟩
  have := hx i f hfi
  have hlt : i < xs.length := by
    have := (Array.getElem?_eq_some_iff.1 hfi).1
    omega
  rw [List.getElem?_eq_getElem hlt] at this
  exact ⟨n, _, this⟩
theorem cell_of_int {H : Type} {enc : TypeId × Value → H} {P : Program} {w : World} {fuel : Nat} {t : TypeId} {k : IntKind} {u : Value} {x : DataW H × List MemPlace} (ht : P.underlying t = some (.int k))
    (h : DataW.trod enc P w 0 (fun _ => true) true fuel t [u] = some x) : ∃ n, u = .int k n ∧ (Lit.int k n).wf = true := by
  obtain ⟨n, hn, _, hw⟩ := DataW.trod_int ht h
  cases hn
  exact ⟨n, rfl, hw⟩
theorem cell_of_slice {H : Type} {enc : TypeId × Value → H} {P : Program} {w : World} {base fuel : Nat} {t e : TypeId} {u : Value} {x : DataW H × List MemPlace} (ht : P.underlying t = some (.slice e)) (hok : Cell.okWide P w .any base t u)
    (h : DataW.trod enc P w 0 (fun _ => true) true fuel t [u] = some x) : Value.okWide P w .any base t u ∧ ∃ d p, DataW.Trod enc P w 0 (fun _ => true) true t u d p := by
  have h1 : Value.okWide P w .any base t u := by
    simp only [Value.okWide, ht]
    exact hok
  obtain ⟨a, n, c, rfl⟩ := okWide_slice ht h1
  exact ⟨h1, x.1, x.2, fuel, by simpa [Value.cells] using h⟩
theorem two_cells {cs : Array Value} (h : cs.size = 2) : ∃ x y, cs = #[x, y] := by
  obtain ⟨l⟩ := cs
  match l, h with
  | [x, y], _ => exact ⟨x, y, rfl⟩
theorem open_frac {H : Type} {enc : TypeId × Value → H} {w : World} {base : Nat} {v : Value} {d : DataW H} {p : List MemPlace}
    (hok : Value.okWide Try.prog w .any base 77 v) (h : DataW.Trod enc Try.prog w 0 (fun _ => true) true 77 v d p) :
    ∃ x y, v = .agg #[.int .i64 x, .int .i64 y] ∧ (Lit.int .i64 x).wf = true ∧ (Lit.int .i64 y).wf = true := by
  obtain ⟨cs, rfl, hsz, hall, hf⟩ := open_struct (ts := [3, 3]) Try.underlying77 (by kernel_rfl) hok h
  obtain ⟨x, y, rfl⟩ := two_cells (hsz.trans (by kernel_rfl))
  obtain ⟨m0, x0, h0⟩ := hf 0 _ rfl
  obtain ⟨m1, x1, h1⟩ := hf 1 _ rfl
  simp only at h0 h1
  obtain ⟨n, rfl, hw⟩ := cell_of_int Try.underlying3 h0
  obtain ⟨m, rfl, hw'⟩ := cell_of_int Try.underlying3 h1
  exact ⟨n, m, rfl, hw, hw'⟩
theorem wf_i64 {x : Int} (h : (Lit.int .i64 x).wf = true) : -9223372036854775808 ≤ x ∧ x ≤ 9223372036854775807 := by
  unfold Lit.wf at h
  rw [Bool.and_eq_true] at h
  exact ⟨of_decide_eq_true h.1, of_decide_eq_true h.2⟩

theorem trod_frac {H : Type} {enc : TypeId × Value → H} {w : World} {fuel : Nat} {cs : List Value} {x : DataW H × List MemPlace} (h : DataW.trod enc Try.prog w 0 (fun _ => true) true fuel 77 cs = some x) :
    ∃ a b, cs = [.int .i64 a, .int .i64 b] ∧ F64 a b := by
  obtain ⟨xs, n, _, _, hl, hxl, hx⟩ := DataW.trod_struct Try.underlying77 h
  have c2 : Try.prog.cellsOf 77 = 2 := by kernel_rfl
  rw [c2] at hl
  match cs, hl with
  | [p, q], _ =>
    have h0 := hx 0 _ rfl
    have h1 := hx 1 _ rfl
    rw [List.getElem?_eq_getElem (by simp at hxl; omega)] at h0 h1
    obtain ⟨n, rfl, hw⟩ := cell_of_int Try.underlying3 h0
    obtain ⟨m, rfl, hw'⟩ := cell_of_int Try.underlying3 h1
    exact ⟨n, m, rfl, wf_i64 hw, wf_i64 hw'⟩
/-- Three fractions that came in. -/
theorem open_fracs3 {H : Type} {enc : TypeId × Value → H} {w : World} {base : Nat} {v : Value} {d : DataW H} {p : List MemPlace}
    (hok : Value.okWide Try.prog w .any base 78 v) (h : DataW.Trod enc Try.prog w 0 (fun _ => true) true 78 v d p) :
    ∃ n1 d1 n2 d2 n3 d3, v = .agg #[.int .i64 n1, .int .i64 d1, .int .i64 n2, .int .i64 d2, .int .i64 n3, .int .i64 d3] ∧ F64 n1 d1 ∧ F64 n2 d2 ∧ F64 n3 d3 := by
  simp only [Value.okWide, Try.underlying78] at hok
  obtain ⟨cs, rfl, hsz, _⟩ := hok
  obtain ⟨fuel, hf⟩ := h
  obtain ⟨xs, n, _, _, _, hxl, hx⟩ := DataW.trod_array Try.underlying78 hf
  have c2 : Try.prog.cellsOf 77 = 2 := by kernel_rfl
  have c6 : cs.size = 6 := hsz.trans (by kernel_rfl)
  have h0 := hx 0 (by omega)
  have h1 := hx 1 (by omega)
  have h2 := hx 2 (by omega)
  simp only [c2] at h0 h1 h2
  rw [List.getElem?_eq_getElem (by omega)] at h0 h1 h2
  obtain ⟨n1, d1, e1, f1⟩ := trod_frac h0
  obtain ⟨n2, d2, e2, f2⟩ := trod_frac h1
  obtain ⟨n3, d3, e3, f3⟩ := trod_frac h2
  obtain ⟨l⟩ := cs
  match l, c6 with
  | [a, b, c, d, e, f], _ =>
    simp [Value.cells] at e1 e2 e3
    obtain ⟨rfl, rfl⟩ := e1
    obtain ⟨rfl, rfl⟩ := e2
    obtain ⟨rfl, rfl⟩ := e3
    exact ⟨n1, d1, n2, d2, n3, d3, rfl, f1, f2, f3⟩
theorem trod_ints3 {H : Type} {enc : TypeId × Value → H} {w : World} {fuel : Nat} {cs : List Value} {x : DataW H × List MemPlace} (h : DataW.trod enc Try.prog w 0 (fun _ => true) true fuel 79 cs = some x) :
    ∃ a b c, cs = [.int .i64 a, .int .i64 b, .int .i64 c] ∧ ((Lit.int .i64 a).wf = true ∧ (Lit.int .i64 b).wf = true ∧ (Lit.int .i64 c).wf = true) := by
  obtain ⟨xs, n, _, _, hl, hxl, hx⟩ := DataW.trod_array Try.underlying79 h
  have c2 : Try.prog.cellsOf 79 = 3 := by kernel_rfl
  have c3 : Try.prog.cellsOf 3 = 1 := by kernel_rfl
  rw [c2] at hl
  match cs, hl with
  | [p, q, r], _ =>
    have h0 := hx 0 (by omega)
    have h1 := hx 1 (by omega)
    have h2 := hx 2 (by omega)
    simp only [c3] at h0 h1 h2
    rw [List.getElem?_eq_getElem (by omega)] at h0 h1 h2
    obtain ⟨n, rfl, hw⟩ := cell_of_int Try.underlying3 h0
    obtain ⟨m, rfl, hw'⟩ := cell_of_int Try.underlying3 h1
    obtain ⟨k, rfl, hw''⟩ := cell_of_int Try.underlying3 h2
    exact ⟨n, m, k, rfl, hw, hw', hw''⟩
/-- Three exponents that came in. -/
theorem open_ints3 {H : Type} {enc : TypeId × Value → H} {w : World} {base : Nat} {v : Value} {d : DataW H} {p : List MemPlace}
    (hok : Value.okWide Try.prog w .any base 79 v) (h : DataW.Trod enc Try.prog w 0 (fun _ => true) true 79 v d p) :
    ∃ a b c, v = .agg #[.int .i64 a, .int .i64 b, .int .i64 c] ∧ (Lit.int .i64 a).wf = true ∧ (Lit.int .i64 b).wf = true ∧ (Lit.int .i64 c).wf = true := by
  simp only [Value.okWide, Try.underlying79] at hok
  obtain ⟨cs, rfl, hsz, _⟩ := hok
  obtain ⟨fuel, hf⟩ := h
  obtain ⟨a, b, c, e, hw⟩ := trod_ints3 hf
  obtain ⟨l⟩ := cs
  have e' : l = [.int .i64 a, .int .i64 b, .int .i64 c] := by simpa [Value.cells] using e
  subst e'
  exact ⟨a, b, c, rfl, hw⟩
end Go.Proofs.Ytaiikekgckjdeaa

namespace Go.Proofs.Ytaiikekgckjdeaa
set_option maxRecDepth 100000
open Go.ChangeShapes Go.WideShapes Go.ChangeAt Go.RowKit

/-- A number that came in. -/
theorem open_num {H : Type} {enc : TypeId × Value → H} {w : World} {base : Nat} {v : Value} {d : DataW H} {p : List MemPlace}
    (hok : Value.okWide Try.prog w .any base 3 v) (h : DataW.Trod enc Try.prog w 0 (fun _ => true) true 3 v d p) : ∃ x, v = .int .i64 x ∧ (Lit.int .i64 x).wf = true := by
  obtain ⟨n, rfl⟩ := okWide_int Try.underlying3 hok
  obtain ⟨fuel, hf⟩ := h
  obtain ⟨z, hz, hw⟩ := cell_of_int (u := .int .i64 n) Try.underlying3 (by simpa [Value.cells] using hf)
  cases hz
  exact ⟨n, rfl, hw⟩
/-- Two quantities that came in. -/
theorem open_qpair {H : Type} {enc : TypeId × Value → H} {w : World} {base : Nat} {v : Value} {d : DataW H} {p : List MemPlace}
    (hok : Value.okWide Try.prog w .any base 92 v) (h : DataW.Trod enc Try.prog w 0 (fun _ => true) true 92 v d p) :
    ∃ a b c x y z, v = .agg #[.int .i64 a, .int .i64 b, .int .i64 c, .int .i64 x, .int .i64 y, .int .i64 z] ∧ ((Lit.int .i64 a).wf = true ∧ (Lit.int .i64 b).wf = true ∧ (Lit.int .i64 c).wf = true) ∧ ((Lit.int .i64 x).wf = true ∧ (Lit.int .i64 y).wf = true ∧ (Lit.int .i64 z).wf = true) := by
  simp only [Value.okWide, Try.underlying92] at hok
  obtain ⟨cs, rfl, hsz, _⟩ := hok
  obtain ⟨fuel, hf⟩ := h
  obtain ⟨xs, n, _, _, _, hxl, hx⟩ := DataW.trod_struct Try.underlying92 hf
  have c2 : Try.prog.cellsOf 79 = 3 := by kernel_rfl
  have c6 : cs.size = 6 := hsz.trans (by kernel_rfl)
  have h0 := hx 0 _ rfl
  have h1 := hx 1 _ rfl
  rw [List.getElem?_eq_getElem (by simp at hxl; omega)] at h0 h1
  obtain ⟨a, b, c, e1, f1⟩ := trod_ints3 h0
  obtain ⟨x, y, z, e2, f2⟩ := trod_ints3 h1
  obtain ⟨l⟩ := cs
  match l, c6 with
  | [a', b', c', d', e', f'], _ =>
    simp [Value.cells, c2] at e1 e2
    obtain ⟨rfl, rfl, rfl⟩ := e1
    obtain ⟨rfl, rfl, rfl⟩ := e2
    exact ⟨_, _, _, _, _, _, rfl, f1, f2⟩
end Go.Proofs.Ytaiikekgckjdeaa

namespace Go.Proofs.Ytaiikekgckjdeaa
set_option maxRecDepth 100000
open Go.ChangeShapes Go.WideShapes Go.ChangeAt Go.RowKit

/-- A slice of records that came in. -/
theorem open_enc {H : Type} {enc : TypeId × Value → H} {P : Program} {w : World} {base : Nat} {t e k : Nat} {v : Value} {d : DataW H} {p : List MemPlace} {α : Type} (en : α → List Value) (hen : ∀ x, (en x).length = k) (x0 : α) (Q : α → Prop)
    (ht : P.underlying t = some (.slice e)) (hk : P.cellsOf e = k) (k0 : 0 < k)
    (hrec : ∀ m cs x, DataW.trod enc P w 0 (fun _ => true) true m e cs = some x → ∃ y : α, cs = en y ∧ Q y)
    (hok : Value.okWide P w .any base t v) (h : DataW.Trod enc P w 0 (fun _ => true) true t v d p) :
    ∃ (a : Option Addr) (n c : Nat) (l : List α), v = .slice a n c ∧ Sl w k a n c (l.flatMap en) ∧ ∀ y ∈ l, Q y := by
  obtain ⟨a, n, c, rfl⟩ := okWide_slice ht hok
  obtain ⟨fuel, hf⟩ := h
  rcases DataW.trod_slice ht hf with ⟨hcs, _⟩ | ⟨a', len, cap, elems, rest, m, _, hcs, _, hb, hl, hm, hlen, hel, _, _⟩
  · simp [Value.cells] at hcs
    obtain ⟨rfl, rfl, rfl⟩ := hcs
    exact ⟨none, 0, 0, [], rfl, Sl.nil w k, by simp⟩
  · simp [Value.cells] at hcs
    obtain ⟨rfl, rfl, rfl⟩ := hcs
    have hs : a'.spot = none := okWide_spot ht hok
    obtain ⟨b, off, spot⟩ := a'
    cases hs
    simp only [add_none] at hel
    have each : ∀ i, ∃ y : α, i < n → (∀ j, j < k → w.cell? ⟨b, off + i * k + j, none⟩ = (en y)[j]?) ∧ Q y := by
      intro i
      by_cases hi : i < n
      · have h1 := hel i hi
        obtain ⟨y, hy⟩ : ∃ y, elems[i]? = some y := ⟨elems[i], List.getElem?_eq_getElem (by omega)⟩
        rw [hy, hk, Option.bind_eq_some_iff] at h1
        obtain ⟨cs', hc', ht'⟩ := h1
        obtain ⟨z, hz, hq⟩ := hrec _ _ _ ht'
        refine ⟨z, fun _ => ⟨fun j hj => ?_, hq⟩⟩
        have h4 := (World.cells?_some hc').2.2 j hj
        rw [add_none] at h4
        rw [← hz]
        first | exact h4 | exact h4.symm
      · exact ⟨x0, fun h => absurd h hi⟩
    obtain ⟨g, hg⟩ := Classical.axiomOfChoice each
    have hget : ∀ i, i < n → ((List.range n).map g)[i]?.getD x0 = g i := fun i hi => by simp [hi]
    refine ⟨some ⟨b, off, none⟩, n, c, (List.range n).map g, rfl, ⟨?_, hl, hm, .inr ⟨b, off, rfl, fun i hi => ?_⟩⟩, ?_⟩
    · rw [fm_len hen]
      simp
    · have hq : i / k < n := (Nat.div_lt_iff_lt_mul k0).2 hi
      have hr : i % k < k := Nat.mod_lt _ k0
      have h7 : i / k * k + i % k = i := by rw [Nat.mul_comm]; exact Nat.div_add_mod i k
      have h8 := (hg (i / k) hq).1 (i % k) hr
      rw [Nat.add_assoc, h7] at h8
      rw [h8]
      have h9 := fm_get hen ((List.range n).map g) x0 (i / k) (by simpa using hq) (i % k) hr
      rw [h7, hget _ hq] at h9
      exact h9.symm
    · intro y hy
      obtain ⟨i, hi, rfl⟩ := List.mem_map.1 hy
      exact (hg i (by simpa using hi)).2
theorem trod_el {H : Type} {enc : TypeId × Value → H} {w : World} {m : Nat} {cs : List Value} {x : DataW H × List MemPlace} (h : DataW.trod enc Try.prog w 0 (fun _ => true) true m 152 cs = some x) :
    ∃ y : El, cs = encE y ∧ ((Lit.int .i64 y.1).wf = true ∧ (Lit.int .i64 y.2.1).wf = true) := by
  obtain ⟨xs, n, _, _, hl, hxl, hx⟩ := DataW.trod_struct Try.underlying152 h
  have c2 : Try.prog.cellsOf 152 = 3 := by kernel_rfl
  rw [c2] at hl
  match cs, hl with
  | [p, q, r], _ =>
    have h0 := hx 0 _ rfl
    have h1 := hx 1 _ rfl
    have h2 := hx 2 _ rfl
    rw [List.getElem?_eq_getElem (by simp at hxl; omega)] at h0 h1 h2
    obtain ⟨n, rfl, hw⟩ := cell_of_int Try.underlying3 h0
    obtain ⟨m, rfl, hw'⟩ := cell_of_int Try.underlying3 h1
    obtain ⟨b, hb, _⟩ := DataW.trod_bool Try.underlying4 h2
    have hb' : [r] = [Value.bool b] := hb
    injection hb' with hb'
    subst hb'
    exact ⟨(n, m, b), rfl, hw, hw'⟩
theorem trod_sp {H : Type} {enc : TypeId × Value → H} {w : World} {m : Nat} {cs : List Value} {x : DataW H × List MemPlace} (h : DataW.trod enc Try.prog w 0 (fun _ => true) true m 64 cs = some x) :
    ∃ y : Sp, cs = encS y ∧ (Lit.int .i64 y.1).wf = true := by
  obtain ⟨xs, n, _, _, hl, hxl, hx⟩ := DataW.trod_struct Try.underlying64 h
  have c2 : Try.prog.cellsOf 64 = 2 := by kernel_rfl
  rw [c2] at hl
  match cs, hl with
  | [p, q], _ =>
    have h0 := hx 0 _ rfl
    have h1 := hx 1 _ rfl
    rw [List.getElem?_eq_getElem (by simp at hxl; omega)] at h0 h1
    obtain ⟨n, rfl, hw⟩ := cell_of_int Try.underlying3 h0
    obtain ⟨b, hb, _⟩ := DataW.trod_bool Try.underlying4 h1
    have hb' : [q] = [Value.bool b] := hb
    injection hb' with hb'
    subst hb'
    exact ⟨(n, b), rfl, hw⟩
/-- A spring that came in. -/
theorem open_spring {H : Type} {enc : TypeId × Value → H} {w : World} {base : Nat} {v : Value} {d : DataW H} {p : List MemPlace}
    (hok : Value.okWide Try.prog w .any base 44 v) (h : DataW.Trod enc Try.prog w 0 (fun _ => true) true 44 v d p) :
    ∃ a n c l, v = .slice a n c ∧ SEl w a n c l ∧ ∀ y ∈ l, ((Lit.int .i64 y.1).wf = true ∧ (Lit.int .i64 y.2.1).wf = true) :=
  open_enc encE encE_len el0 (fun y => (Lit.int .i64 y.1).wf = true ∧ (Lit.int .i64 y.2.1).wf = true) Try.underlying44 (by kernel_rfl) (by decide) (fun _ _ _ => trod_el) hok h
/-- Slips that came in. -/
theorem open_slips {H : Type} {enc : TypeId × Value → H} {w : World} {base : Nat} {v : Value} {d : DataW H} {p : List MemPlace}
    (hok : Value.okWide Try.prog w .any base 47 v) (h : DataW.Trod enc Try.prog w 0 (fun _ => true) true 47 v d p) :
    ∃ a n c l, v = .slice a n c ∧ SSp w a n c l ∧ ∀ y ∈ l, (Lit.int .i64 y.1).wf = true :=
  open_enc encS encS_len sp0 (fun y => (Lit.int .i64 y.1).wf = true) Try.underlying47 (by kernel_rfl) (by decide) (fun _ _ _ => trod_sp) hok h
/-- A hold that came in. -/
theorem open_hold {H : Type} {enc : TypeId × Value → H} {w : World} {base : Nat} {v : Value} {d : DataW H} {p : List MemPlace}
    (hok : Value.okWide Try.prog w .any base 49 v) (h : DataW.Trod enc Try.prog w 0 (fun _ => true) true 49 v d p) :
    ∃ s a n c l, v = .agg #[.int .i64 s, .slice a n c] ∧ (Lit.int .i64 s).wf = true ∧ SSp w a n c l ∧ ∀ y ∈ l, (Lit.int .i64 y.1).wf = true := by
  obtain ⟨cs, rfl, hsz, hall, hf⟩ := open_struct (ts := [3, 47]) Try.underlying49 (by kernel_rfl) hok h
  obtain ⟨x, y, rfl⟩ := two_cells (hsz.trans (by kernel_rfl))
  obtain ⟨m0, x0, h0⟩ := hf 0 _ rfl
  obtain ⟨m1, x1, h1⟩ := hf 1 _ rfl

  simp only at h0 h1
  obtain ⟨s, rfl, hw⟩ := cell_of_int Try.underlying3 h0
  obtain ⟨ty, hty, ho⟩ := hall 1 y rfl
  cases hty
  obtain ⟨k1, d', p', k2⟩ := cell_of_slice Try.underlying47 ho h1
  obtain ⟨a, n, c, l, rfl, hs, hwl⟩ := open_slips k1 k2
  exact ⟨s, a, n, c, l, rfl, hw, hs, hwl⟩
end Go.Proofs.Ytaiikekgckjdeaa

namespace Go.Proofs.Ytaiikekgckjdeaa
open Go.RowKit
open Calmly (Kept)
set_option maxRecDepth 100000 in
theorem rPlaceErr_any (n : Int) (w : World) :
    Calls Try.prog 26 #[.int .i64 n] w fun e w' => e = .returned (.int .i64 (unlessE (plc n) 2)) ∧ w = w' := by
  rw [show plc n = wIn n (-10000) 10000 from rfl]
  go_enter Try.func26, Try.ntmps26
  go_wp2_with fail
  refine (within_any n (-10000) 10000 _).mono ?_
  rintro e w1 ⟨rfl, rfl⟩
  cases hx : wIn n (-10000) 10000
  · go_wp2_with fail
    go_ret
    exact ⟨ret_int (by rw [hx]; rfl), rfl⟩
  · go_wp2_with fail
    go_ret
    exact ⟨ret_int (by rw [hx]; rfl), rfl⟩
set_option maxRecDepth 100000 in
theorem rGroundErr_any (n : Int) (w : World) :
    Calls Try.prog 61 #[.int .i64 n] w fun e w' => e = .returned (.int .i64 (unlessE (grd n) 2)) ∧ w = w' := by
  rw [show grd n = wIn n (-100) 100 from rfl]
  go_enter Try.func61, Try.ntmps61
  go_wp2_with fail
  refine (within_any n (-100) 100 _).mono ?_
  rintro e w1 ⟨rfl, rfl⟩
  cases hx : wIn n (-100) 100
  · go_wp2_with fail
    go_ret
    exact ⟨ret_int (by rw [hx]; rfl), rfl⟩
  · go_wp2_with fail
    go_ret
    exact ⟨ret_int (by rw [hx]; rfl), rfl⟩
set_option maxRecDepth 100000 in
set_option maxHeartbeats 1000000 in
theorem rCheckSpring_any (a : Option Addr) (n c : Nat) (l : List El) (w : World) (h1 : SEl w a n c l) :
    Calls Try.prog 39 #[.slice a n c] w fun e w' => e = .returned (.tuple #[.int .i64 (sprE l).1, .int .i64 (sprE l).2]) ∧ Below w.heap.size w w' := by
  obtain ⟨l1, l2⟩ : n ≤ l.length ∧ l.length ≤ n := by have := h1.len; omega
  have m1 := h1.max
  have c1 := h1.cap
  have hS : sprE l = if sprH n = 0 then eaF (fun i => elErr (l[i]?.getD el0)) 0 n else (0, sprH n) := by rw [sprE, show l.length = n by omega]
  by_cases h0 : n = 0
  · have hR : sprE l = (0, 10) := by rw [hS, h0]; rfl
    rw [hR]
    have b1 : ((n : Int) == 0) = true := by simp; omega
    clear hS hR h0
    go_enter Try.func39, Try.ntmps39
    go_wp2_with fail
    refine bodyPost_ret (v := .tuple #[.int .i64 0, .int .i64 10]) (by simp [results, Try.results39]) rfl ⟨rfl, Below.refl _ _⟩
  have b1 : ((n : Int) == 0) = false := by simp; omega
  have d1 : decide (0 < n) = true := by rw [decide_eq_true_eq]; omega
  by_cases h4 : 4 < n
  · have d2 : decide ((n : Int) ≤ 4) = false := by rw [decide_eq_false_iff_not]; omega
    have hR : sprE l = (0, 8) := by
      have h5 : sprH n = 8 := by rw [sprH, d1, d2]; rfl
      rw [hS, h5]
      rfl
    rw [hR]
    have b2 : (4 : Int) < (n : Int) := by omega
    clear hS hR h0 h4 d1 d2
    go_enter Try.func39, Try.ntmps39
    go_wp2_with fail
    refine bodyPost_ret (v := .tuple #[.int .i64 0, .int .i64 8]) (by simp [results, Try.results39]) rfl ⟨rfl, Below.refl _ _⟩
  have d2 : decide ((n : Int) ≤ 4) = true := by rw [decide_eq_true_eq]; omega
  have hE : sprE l = eaF (fun i => elErr (l[i]?.getD el0)) 0 n := by
    have h5 : sprH n = 0 := by rw [sprH, d1, d2]; rfl
    rw [hS, if_pos h5]
  obtain ⟨I, E, hR⟩ : ∃ I E, sprE l = (I, E) := ⟨_, _, rfl⟩
  rw [hR]
  have HR := Lib.hid (show eaF (fun i => elErr (l[i]?.getD el0)) 0 (n - 0) = (I, E) from hE.symm.trans hR)
  have b2 : ¬ (4 : Int) < (n : Int) := by omega
  clear hS hR hE h0 h4 d1 d2
  go_enter Try.func39, Try.ntmps39
  go_wp2_with fail
  go_loopw [4] (fun i wr => ∃ k : Nat, k ≤ n ∧ i = .int .i64 k ∧ eaF (fun i => elErr (l[i]?.getD el0)) k (n - k) = (I, E) ∧ Below w.heap.size w wr) (fun i _ => n - (intOf i).toNat)
  case atStart => exact ⟨0, by omega, rfl, HR.out, Below.refl _ _⟩
  case round =>
    obtain ⟨k, hk, rfl, ht, hb⟩ := hrel
    have HT := Lib.hid ht
    clear ht
    by_cases hlt : k < n
    · obtain ⟨b1', o1, rfl, hc1⟩ := (h1.keep hb).at_ (by omega)
      obtain ⟨p0, p1, p2⟩ := hc1 k hlt
      have hi : (k : Int) < (n : Int) := by omega
      have hi0 : (0 : Int) ≤ (k : Int) := by omega
      obtain ⟨xx, hxx⟩ : ∃ x, l[k]?.getD el0 = x := ⟨_, rfl⟩
      obtain ⟨x, y, z⟩ := xx
      rw [hxx] at p0 p1 p2
      dsimp only at p0 p1 p2
      have HX := Lib.hid hxx
      clear hc1 hxx
      go_wp2_with fail
      refine (within_any x 1 1000 _).mono ?_
      rintro e w1 ⟨rfl, rfl⟩
      have bad : elErr (x, y, z) = 2 → (I, E) = ((k : Int), 2) := fun h => by
        have hsc : elErr (l[k]?.getD el0) = 2 := by rw [HX.out]; exact h
        rw [← HT.out, eaF_bad hlt (by show elErr _ ≠ 0; rw [hsc]; decide), hsc]
      cases hx : wIn x 1 1000
      · have hbad := bad (by rw [elErr]; show unlessE (wIn x 1 1000 && _) 2 = 2; rw [hx]; rfl)
        injection hbad with e1 e2
        have E1 := Lib.hid e1
        have E2 := Lib.hid e2
        clear e1 e2 bad
        go_wp2_with fail
        refine bodyPost_ret (v := .tuple #[.int .i64 (k : Int), .int .i64 2]) (by simp [results, Try.results39]) rfl ⟨by rw [E1.out, E2.out], hb⟩
      · go_wp2_with fail
        refine (within_any y 1 1000 _).mono ?_
        rintro e w1 ⟨rfl, rfl⟩
        cases hy : wIn y 1 1000
        · have hbad := bad (by show unlessE (wIn x 1 1000 && wIn y 1 1000) 2 = 2; rw [hx, hy]; rfl)
          injection hbad with e1 e2
          have E1 := Lib.hid e1
          have E2 := Lib.hid e2
          clear e1 e2 bad
          go_wp2_with fail
          refine bodyPost_ret (v := .tuple #[.int .i64 (k : Int), .int .i64 2]) (by simp [results, Try.results39]) rfl ⟨by rw [E1.out, E2.out], hb⟩
        · have good : elErr (x, y, z) = 0 := by show unlessE (wIn x 1 1000 && wIn y 1 1000) 2 = 0; rw [hx, hy]; rfl
          have HG := Lib.hid good
          clear good bad
          go_wp2_with fail
          go_roundw
          case rel => exact ⟨k + 1, by omega, by go_num, (eaF_ok (err := fun i => elErr (l[i]?.getD el0)) hlt (by show elErr _ = 0; rw [HX.out, HG.out])).symm.trans HT.out, hb⟩
          case measure => simp [intOf]; omega
    · have hle : (n : Int) ≤ (k : Int) := by omega
      have hR0 : (I, E) = (0, 0) := by rw [← HT.out, eaF_end (by omega)]
      injection hR0 with e1 e2
      subst e1 e2
      go_wp2_with fail
      refine bodyPost_ret (v := .tuple #[.int .i64 0, .int .i64 0]) (by simp [results, Try.results39]) rfl ⟨rfl, hb⟩
set_option maxRecDepth 100000 in
theorem rSpringErr_any (a : Option Addr) (n c : Nat) (l : List El) (w : World) (h1 : SEl w a n c l) :
    Calls Try.prog 23 #[.slice a n c] w fun e w' => e = .returned (.int .i64 (sprE l).2) ∧ Below w.heap.size w w' := by
  go_enter Try.func23, Try.ntmps23
  go_wp2_with fail
  refine (rCheckSpring_any a n c l _ h1).mono ?_
  rintro e w1 ⟨rfl, hb⟩
  go_wp2_with fail
  go_ret
  exact ⟨rfl, hb⟩
set_option maxRecDepth 100000 in
theorem CopySpring_any (a : Option Addr) (n c : Nat) (l : List El) (w : World) (h1 : SEl w a n c l) (hn : n ≤ 1099511627776) :
    Calls Try.prog 28 #[.slice a n c] w fun e w' => ∃ a' c', e = .returned (.slice a' n c') ∧ OwE w' w.heap.size a' n c' l ∧ Below w.heap.size w w' := by
  go_enter Try.func28, Try.ntmps28
  go_wp2_with (refine copyE w rfl rfl _ _ rfl h1 rfl rfl hn (fun a' c' w' ho hb => ?_))
  go_ret
  exact ⟨_, _, rfl, ho, hb⟩
end Go.Proofs.Ytaiikekgckjdeaa

namespace Go.Proofs.Ytaiikekgckjdeaa
open Go.RowKit
open Calmly (Kept)
theorem run_appS {P : Program} {w : World} (t ty : TypeId) (B : Nat) (e : TypeId) (i : TypeInfo) (z : Value) (k bytes : Nat) (ht : P.underlying t = some (.slice e)) (hi : P.info? e = some i) (hz : i.zero = some z)
    (hsize : i.size = k) (hby : i.bytes = bytes) (hzs : z.cells.size = k) (hsz : 0 < k)
    (av : Option Addr) (n c : Nat) (xs : List Value) (hown : w.ownsRow B e k (.slice av n c) n xs)
    (lv : Option Addr) (m lc : Nat) (vs : List Value) (hl : Sl w k lv m lc vs) (hone : ∀ u ∈ vs, u.oneCell' = true)
    (hb1 : n + m ≤ 140737488355328) (hb : (n + m) * bytes ≤ 140737488355328) (hB : B ≤ w.heap.size) :
    ∃ a' c' w', (Builtin.append_ #[t, t] ty #[.slice av n c, .slice lv m lc]).run P w = .ok (.slice a' (n + m) c') w' ∧ w'.ownsRow B e k (.slice a' (n + m) c') (n + m) (xs ++ vs) ∧ Below B w w' := by
  obtain ⟨g1, g2, g3, g4⟩ := hl
  have hrow : ∀ j, (Value.slice av n c).ownBlock = some j → B ≤ j := fun j hj => (hown.lt j hj).1
  rcases g4 with rfl | ⟨b, off, rfl, hc⟩
  · obtain rfl : m = 0 := by omega
    obtain rfl : vs = [] := by cases vs with | nil => rfl | cons _ _ => simp at g1
    cases lv with
    | none => exact ⟨av, c, w, run_append_owned_none (P := P) (w := w) B t ty e i k ht hi _ n xs hown, by simpa using hown, Below.refl _ _⟩
    | some p =>
      obtain ⟨v', w1, hrun, ho1, hg, _⟩ := run_append_own (P := P) w B t ty e i z k bytes ht hi hz hsize hby hzs hsz _ n xs hown p 0 0 [] g1 (by simp) hone (by unfold maxLen; omega) hb hB
      obtain ⟨a', c', rfl⟩ := owns_slice ho1
      exact ⟨a', c', w1, hrun, ho1, grown_below hg hB hrow⟩
  · obtain ⟨v', w1, hrun, ho1, hg, _⟩ := run_append_own (P := P) w B t ty e i z k bytes ht hi hz hsize hby hzs hsz _ n xs hown ⟨b, off, none⟩ m lc vs g1 (by
      intro j u hj
      have hjl : j < vs.length := (List.getElem?_eq_some_iff.1 hj).1
      rw [show ((⟨b, off, none⟩ : Addr).add j) = ⟨b, off + j, none⟩ by
        unfold Addr.add
        split
        · rename_i h0; subst h0; rfl
        · rfl, hc j (by omega)]
      exact hj) hone (by unfold maxLen; omega) hb hB
    obtain ⟨a', c', rfl⟩ := owns_slice ho1
    exact ⟨a', c', w1, hrun, ho1, grown_below hg hB hrow⟩
/-- A copy of slips, within a plan. -/
theorem mix_copyS (i : Nat) {w0 Wx : World} {k : Calmly.Plan} {dst : Option Tmp} {s x : Operand} {ty : TypeId} {pos : String} {after : Array Edge} {a : Act} {W0 : World} {ops : Array Oper} {Q : Exit → Act → World → Prop} {lv : Option Addr} {m lc : Nat} {l : List Sp}
    (hW : Wx = w0.alloc (.cells #[] 64)) (hi : ops[i]? = some ⟨dst, .call { callee := .builtin .append, args := #[s, x], argTypes := #[47, 47] }, ty, pos, after, none⟩)
    (hl : SSp w0 lv m lc l) (hs : a.eval s = .slice (some ⟨w0.heap.size, 0, none⟩) 0 0) (hx : a.eval x = .slice lv m lc) (hb1 : m ≤ 1099511627776)
    (h : ∀ a' c' w', OwS w' w0.heap.size a' m c' l → Below w0.heap.size w0 w' → Kept W0 w' ∧ Calmly.WpMix Try.prog ops Q W0 k (a.put dst (.slice a' m c')) w') :
    Calmly.WpMix Try.prog ops Q W0 (.eff i k) a Wx := by
  subst hW
  refine Calmly.mix_eff hi (fun K hK => ?_)
  have hA : Below w0.heap.size w0 (w0.alloc (.cells #[] 64)) := (Below.refl _ _).alloc (Nat.le_refl _) _
  obtain ⟨i0, hi0, hz0, hz1, hz2⟩ := info_parts Try.info_sp
  obtain ⟨a', c', w1, hrun, h1, h2⟩ := run_appS (P := Try.prog) 47 ty w0.heap.size _ i0 _ 2 16 Try.underlying47 hi0 hz0 hz1 hz2 rfl (by decide) _ 0 0 [] ⟨by simp, .inr ⟨w0.heap.size, 0, #[], rfl, Nat.le_refl _, alloc_new _ _, by simp, by simp, by simp, by simp⟩⟩ lv m lc _ (Sl.keep hl hA) (oneCell_S l) (by omega) (by omega) (by simp)
  rw [Nat.zero_add] at hrun h1
  unfold Oper.wp
  simp [execOp, resolve, invoke, builtin, hs, hx, hrun, Result.andThen]
  exact hK _ _ (h a' c' w1 (by unfold OwS; simpa using h1) (hA.trans h2))
set_option maxRecDepth 100000 in
theorem CopyHold_any (at' : Int) (a : Option Addr) (n c : Nat) (l : List Sp) (w : World) (h1 : SSp w a n c l) (hn : n ≤ 1099511627776) :
    Calls Try.prog 29 #[.agg #[.int .i64 at', .slice a n c]] w fun e w' => ∃ a' c', e = .returned (.agg #[.int .i64 at', .slice a' n c']) ∧ OwS w' w.heap.size a' n c' l ∧ Below w.heap.size w w' := by
  have y0 := blk_keep (alloc_new w (.cells #[.int .i64 at', .slice a n c] 49)) ((Below.refl _ _).alloc (Nat.le_refl _) (.cells #[.int .i64 0, .slice none 0 0] 49))
  have y1 := alloc_new (w.alloc (.cells #[.int .i64 at', .slice a n c] 49)) (.cells #[.int .i64 0, .slice none 0 0] 49)
  have BW : Below w.heap.size w ((w.alloc (.cells #[.int .i64 at', .slice a n c] 49)).alloc (.cells #[.int .i64 0, .slice none 0 0] 49)) := ((Below.refl _ _).alloc (Nat.le_refl _) _).alloc (by simp) _
  have hsz : ((w.alloc (.cells #[.int .i64 at', .slice a n c] 49)).alloc (.cells #[.int .i64 0, .slice none 0 0] 49)).heap.size = w.heap.size + 1 + 1 := by simp
  have HS := Lib.hid hsz
  clear hsz
  simp only [World.size_alloc] at y1
  go_enter Try.func29, Try.ntmps29
  go_wp2_with fail
  refine Calmly.wp_region_mix 6 (.fl 0 <| .fl 1 <| .fl 3 <| .fl 4 <| .eff 2 <| .eff 5 <| .tail [6, 7]) (by kernel_rfl) (by kernel_rfl) ?_
  replace y0 := blk_keep y0 (Below.refl _ _).drew
  replace y1 := blk_keep y1 (Below.refl _ _).drew
  have hs' := (h1.keep BW).keep (Below.refl _ _).drew
  replace BW := BW.drew
  have hz2 : (((w.alloc (.cells #[.int .i64 at', .slice a n c] 49)).alloc (.cells #[.int .i64 0, .slice none 0 0] 49)).drew).heap.size = w.heap.size + 1 + 1 := HS.out
  have HS2 := Lib.hid hz2
  clear HS hz2
  generalize ((w.alloc (.cells #[.int .i64 at', .slice a n c] 49)).alloc (.cells #[.int .i64 0, .slice none 0 0] 49)).drew = V at *
  have f0 := cell_block y0 0
  have f1 := cell_block y0 1
  have hk := Below.refl V.heap.size V
  go_wp2_with (first | (refine mix_copyS (w0 := V) 5 rfl rfl hs' rfl rfl hn (fun a' c' w9 ho hb => ?_); replace hk := hb; refine ⟨kept_of hb, ?_⟩; have q1 := blk_keep y1 hb; have e0 := cell_block q1 0; have e1 := cell_block q1 1; have g0 := frozen_block q1 0; have g1 := frozen_block q1 1) | ((with_reducible refine Calmly.is_fl ?_); refine Calmly.mix_fl rfl ?_ (fun _ _ => ?_); (first | exact .move _ | exact .load _ _ | exact .fieldAddr _ _ _ (by kernel_rfl) | exact .assign _ | exact .binOp _ _ _ _ _ rfl | exact .indexAddr _ _ _ | exact .len _ _ (by kernel_rfl) | exact .field _ _ _ | exact .extract _ _ | exact .pick _ _ _ | exact .build _ _ | exact .slice _ _ _ _ _ | exact .unOp _ _ _ rfl | exact .index _ _ _ | exact .max _ _ _ rfl rfl | exact .min _ _ _ rfl rfl | exact .nilCheck _ _ rfl)) | ((with_reducible refine Calmly.is_gl ?_); refine Calmly.mix_gl rfl rfl rfl ?_; first | ((first | with_reducible refine Calmly.gl_tt ?_ (fun _ _ => ?_) | with_reducible refine Calmly.gl_ff ?_ (fun _ _ => ?_)); (first | exact .move _ | exact .load _ _ | exact .fieldAddr _ _ _ (by kernel_rfl) | exact .assign _ | exact .binOp _ _ _ _ _ rfl | exact .indexAddr _ _ _ | exact .len _ _ (by kernel_rfl) | exact .field _ _ _ | exact .extract _ _ | exact .pick _ _ _ | exact .build _ _ | exact .slice _ _ _ _ _ | exact .unOp _ _ _ rfl | exact .index _ _ _ | exact .max _ _ _ rfl rfl | exact .min _ _ _ rfl rfl | exact .nilCheck _ _ rfl)) | with_reducible refine Calmly.gl_tf (fun _ _ => ?_) | with_reducible refine Calmly.gl_ft (fun _ _ => ?_)) | ((with_reducible refine Calmly.is_eff ?_); refine Calmly.mix_eff rfl (fun _ _ => ?_)) | ((with_reducible refine Calmly.is_gf ?_); refine Calmly.mix_gf rfl rfl rfl ?_; first | with_reducible refine Calmly.gf_tt (fun _ _ => ?_) | with_reducible refine Calmly.gf_ff (fun _ _ => ?_) | with_reducible refine Calmly.gf_tf (kept_of hk) (fun _ _ => ?_) | with_reducible refine Calmly.gf_ft (kept_of hk) (fun _ _ => ?_)) | ((with_reducible refine Calmly.is_tail ?_); first | refine Calmly.mix_tail_nil ?_ | refine Calmly.mix_tail rfl (fun _ _ => ?_)) | ((with_reducible refine Calmly.is_kept ?_); refine ⟨kept_of hk, ?_⟩) | (with_reducible refine Calmly.mix_alt ?_ ?_) | (refine kept_alloc hk (fun hk' hblk hge => ?_); replace hk := hk'; clear hk'))
  have hne2 : ∀ b, b ≠ w.heap.size + 1 → ((w9.setCell ⟨w.heap.size + 1, 0, none⟩ (.int .i64 at')).setCell ⟨w.heap.size + 1, 1, none⟩ (.slice a' n c')).heap[b]? = w9.heap[b]? := fun b hb => by
    rw [Below.heap_setCell _ _ _ _ hb, Below.heap_setCell _ _ _ _ hb]
  have q0 := setBlk (setBlk q1 0 (.int .i64 at')) 1 (.slice a' n c')
  simp at q0
  have r0 := cell_block q0 0
  have r1 := cell_block q0 1
  have BF : Below w.heap.size w ((w9.setCell ⟨w.heap.size + 1, 0, none⟩ (.int .i64 at')).setCell ⟨w.heap.size + 1, 1, none⟩ (.slice a' n c')) := ((BW.trans (hb.mono BW.size)).setCell (by show w.heap.size ≤ w.heap.size + 1; omega) _).setCell (by show w.heap.size ≤ w.heap.size + 1; omega) _
  have ho2 : OwS ((w9.setCell ⟨w.heap.size + 1, 0, none⟩ (.int .i64 at')).setCell ⟨w.heap.size + 1, 1, none⟩ (.slice a' n c')) w.heap.size a' n c' l := by
    rw [HS2.out] at ho
    exact owns_lower (owns_apart ho hne2 (by omega)) (by omega)
  refine bodyPost_ret (v := .agg #[.int .i64 at', .slice a' n c']) (by simp [results, Try.results29, go_sem, r0, r1]) rfl ⟨_, _, rfl, ho2, BF⟩
end Go.Proofs.Ytaiikekgckjdeaa
