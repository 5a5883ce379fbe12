/- The examples of chapter 5 hold. The reference's errors of scales, quantities and values. Arrays of exponents: plain. The reference's array of exponents: times. -/
import Derived.Test.YtaiikekgckjdeaaK18
import Derived.Deep.WholeRow
import Derived.Laws.CopyOwn
namespace Go.Proofs.Ytaiikekgckjdeaa
open Go.RowKit
open Calmly (Kept)
set_option maxHeartbeats 400000 in
theorem lScales_any (w : World) : Calls Try.prog 77 #[] w fun e w' => e = .returned (.agg #[.int .i64 1, .int .i64 4, .int .i64 1, .int .i64 2, .int .i64 1, .int .i64 16]) ∧ Below w.heap.size w w' := by
  go_enter Try.func77, Try.ntmps77
  go_wp2_with fail
  have y0 := alloc_new w (.cells #[.int .i64 1, .int .i64 4, .int .i64 1, .int .i64 2, .int .i64 1, .int .i64 16] 78)
  have BW := (Below.refl w.heap.size w).alloc (Nat.le_refl _) (.cells #[.int .i64 1, .int .i64 4, .int .i64 1, .int .i64 2, .int .i64 1, .int .i64 16] 78)
  have e0 := cell_block y0 0
  have e1 := cell_block y0 1
  have e2 := cell_block y0 2
  have e3 := cell_block y0 3
  have e4 := cell_block y0 4
  have e5 := cell_block y0 5
  refine bodyPost_ret (v := .agg #[.int .i64 1, .int .i64 4, .int .i64 1, .int .i64 2, .int .i64 1, .int .i64 16]) (by simp [results, Try.results77, go_sem, e0, e1, e2, e3, e4, e5]) rfl ⟨rfl, BW⟩
set_option maxHeartbeats 400000 in
theorem rMass_any (w : World) : Calls Try.prog 78 #[] w fun e w' => e = .returned (.agg #[.int .i64 (-1), .int .i64 2, .int .i64 1]) ∧ Below w.heap.size w w' := by
  go_enter Try.func78, Try.ntmps78
  go_wp2_with fail
  have y0 := alloc_new w (.cells #[.int .i64 (-1), .int .i64 2, .int .i64 1] 79)
  have BW := (Below.refl w.heap.size w).alloc (Nat.le_refl _) (.cells #[.int .i64 (-1), .int .i64 2, .int .i64 1] 79)
  have e0 := cell_block y0 0
  have e1 := cell_block y0 1
  have e2 := cell_block y0 2
  refine bodyPost_ret (v := .agg #[.int .i64 (-1), .int .i64 2, .int .i64 1]) (by simp [results, Try.results78, go_sem, e0, e1, e2]) rfl ⟨rfl, BW⟩
def exSp : List El := [(10, 2, false), (5, 4, true)]
theorem SEl.two {w : World} {r : Nat} {e : TypeId} {k1 y1 k2 y2 : Int} {b1 b2 : Bool} (h : w.heap[r]? = some (.cells #[.int .i64 k1, .int .i64 y1, .bool b1, .int .i64 k2, .int .i64 y2, .bool b2] e)) : SEl w (some ⟨r, 0, none⟩) 2 2 [(k1, y1, b1), (k2, y2, b2)] := by
  refine ⟨rfl, by omega, by unfold maxLen; omega, .inr ⟨r, 0, rfl, fun i hi => ?_⟩⟩
  rw [cell_block h]
  rcases i with _ | _ | _ | _ | _ | _ | i
  all_goals first | rfl | omega
theorem SEl.one {w : World} {r : Nat} {e : TypeId} {k1 y1 : Int} {b1 : Bool} (h : w.heap[r]? = some (.cells #[.int .i64 k1, .int .i64 y1, .bool b1] e)) : SEl w (some ⟨r, 0, none⟩) 1 1 [(k1, y1, b1)] := by
  refine ⟨rfl, by omega, by unfold maxLen; omega, .inr ⟨r, 0, rfl, fun i hi => ?_⟩⟩
  rw [cell_block h]
  rcases i with _ | _ | _ | i
  all_goals first | rfl | omega
theorem SSp.two {w : World} {r : Nat} {e : TypeId} {k1 k2 : Int} {b1 b2 : Bool} (h : w.heap[r]? = some (.cells #[.int .i64 k1, .bool b1, .int .i64 k2, .bool b2] e)) : SSp w (some ⟨r, 0, none⟩) 2 2 [(k1, b1), (k2, b2)] := by
  refine ⟨rfl, by omega, by unfold maxLen; omega, .inr ⟨r, 0, rfl, fun i hi => ?_⟩⟩
  rw [cell_block h]
  rcases i with _ | _ | _ | _ | i
  all_goals first | rfl | omega
set_option maxHeartbeats 400000 in
theorem lSpring_any (w : World) : Calls Try.prog 79 #[] w fun e w' => ∃ a, e = .returned (.slice a 2 2) ∧ SEl w' a 2 2 exSp ∧ Below w.heap.size w w' := by
  go_enter Try.func79, Try.ntmps79
  go_wp2_with fail
  go_ret
  exact ⟨_, rfl, SEl.two (alloc_new w _), (Below.refl _ _).alloc (Nat.le_refl _) _⟩
def exFr : List Fl := [(2, 20, [(4, 10, false)]), (1, 20, [(2, 10, false)])]
set_option maxHeartbeats 400000 in
theorem lFrame_any (w : World) : Calls Try.prog 80 #[] w fun e w' => ∃ a raw, e = .returned (.agg #[.slice a 2 2]) ∧ FrV w' a 2 2 raw exFr ∧ Below w.heap.size w w' := by
  go_enter Try.func80, Try.ntmps80
  go_wp2_with fail
  have BE := (Below.refl w.heap.size w).alloc (Nat.le_refl _) (.cells #[.slice (some ⟨w.heap.size + 1 + 1 + 1, 0, none⟩) 2 2] 24)
  have x0 := alloc_new w (.cells #[.slice (some ⟨w.heap.size + 1 + 1 + 1, 0, none⟩) 2 2] 24)
  have hs1 : (w.alloc (.cells #[.slice (some ⟨w.heap.size + 1 + 1 + 1, 0, none⟩) 2 2] 24)).heap.size = w.heap.size + 1 := by simp
  generalize w.alloc (.cells #[.slice (some ⟨w.heap.size + 1 + 1 + 1, 0, none⟩) 2 2] 24) = W1 at *
  have x1 := alloc_new W1 (.cells #[.int .i64 4, .int .i64 10, .bool false] 152)
  have B1 := (Below.refl W1.heap.size W1).alloc (Nat.le_refl _) (.cells #[.int .i64 4, .int .i64 10, .bool false] 152)
  have hs2 : (W1.alloc (.cells #[.int .i64 4, .int .i64 10, .bool false] 152)).heap.size = w.heap.size + 1 + 1 := by simp [hs1]
  generalize W1.alloc (.cells #[.int .i64 4, .int .i64 10, .bool false] 152) = W2 at *
  have x2 := alloc_new W2 (.cells #[.int .i64 2, .int .i64 10, .bool false] 152)
  have B2 := (Below.refl W2.heap.size W2).alloc (Nat.le_refl _) (.cells #[.int .i64 2, .int .i64 10, .bool false] 152)
  have hs3 : (W2.alloc (.cells #[.int .i64 2, .int .i64 10, .bool false] 152)).heap.size = w.heap.size + 1 + 1 + 1 := by simp [hs2]
  generalize W2.alloc (.cells #[.int .i64 2, .int .i64 10, .bool false] 152) = W3 at *
  have x3 := alloc_new W3 (.cells #[.int .i64 2, .int .i64 20, .slice (some ⟨w.heap.size + 1, 0, none⟩) 1 1, .int .i64 1, .int .i64 20, .slice (some ⟨w.heap.size + 1 + 1, 0, none⟩) 1 1] 130)
  have B3 := (Below.refl W3.heap.size W3).alloc (Nat.le_refl _) (.cells #[.int .i64 2, .int .i64 20, .slice (some ⟨w.heap.size + 1, 0, none⟩) 1 1, .int .i64 1, .int .i64 20, .slice (some ⟨w.heap.size + 1 + 1, 0, none⟩) 1 1] 130)
  generalize W3.alloc (.cells #[.int .i64 2, .int .i64 20, .slice (some ⟨w.heap.size + 1, 0, none⟩) 1 1, .int .i64 1, .int .i64 20, .slice (some ⟨w.heap.size + 1 + 1, 0, none⟩) 1 1] 130) = W4 at *
  replace x0 := blk_keep (blk_keep (blk_keep x0 B1) B2) B3
  replace x1 := blk_keep (blk_keep x1 B2) B3
  replace x2 := blk_keep x2 B3
  rw [hs1] at x1
  rw [hs2] at x2
  rw [hs3] at x3
  have e0 := cell_block x0 0
  refine bodyPost_ret (v := .agg #[.slice (some ⟨w.heap.size + 1 + 1 + 1, 0, none⟩) 2 2]) (by simp [results, Try.results80, go_sem, e0]) rfl ⟨_, [(2, 20, (some ⟨w.heap.size + 1, 0, none⟩, 1, 1)), (1, 20, (some ⟨w.heap.size + 1 + 1, 0, none⟩, 1, 1))], rfl, ⟨?_, rfl, ?_⟩, ?_⟩
  · refine ⟨rfl, by omega, by unfold maxLen; omega, .inr ⟨w.heap.size + 1 + 1 + 1, 0, rfl, fun i hi => ?_⟩⟩
    rw [cell_block x3]
    rcases i with _ | _ | _ | _ | _ | _ | i
    all_goals first | rfl | omega
  · intro i hi
    have hi2 : i < 2 := hi
    rcases i with _ | _ | i
    · exact ⟨rfl, rfl, SEl.one x1⟩
    · exact ⟨rfl, rfl, SEl.one x2⟩
    · omega
  · exact ((BE.trans (B1.mono (by omega))).trans (B2.mono (by omega))).trans (B3.mono (by omega))
theorem ex_facE : facE 1 4 1 2 1 16 (-1) 2 1 = 0 := by decide +kernel
theorem ex_facV : facV 1 4 1 2 1 16 (-1) 2 1 = 1 / 16 := by decide +kernel
theorem ex_opnE : opnE exSp 0 (List.replicate 2 sp0) 3 = 0 := by decide +kernel
theorem ex_mvd : mvdS exSp (List.replicate 2 sp0) 3 = [(1, false), (0, false)] := by decide +kernel
theorem ex_wrk : wrkS exSp (List.replicate 2 sp0) 0 3 = 125 := by decide +kernel
theorem ex_los : losS exSp (List.replicate 2 sp0) 3 = 40 := by decide +kernel
theorem ex_run : runE exFr [-3, 0, 0] = 0 := by decide +kernel
theorem ex_pk : pkS (List.replicate exFr.length 0) (bgSt exFr :: (runS exFr (bgSt exFr) [-3, 0, 0]).1) = [3, 6] := by decide +kernel
set_option maxRecDepth 100000 in
set_option maxHeartbeats 2000000 in
theorem awake_any (w : World) : Calls Try.prog 11 #[] w fun e w' => e = .returned (.bool true) ∧ Below w.heap.size w w' := by
  have hA : ∀ (A : World) (o : Obj), Below A.heap.size A (A.alloc o) := fun A o => (Below.refl _ _).alloc (Nat.le_refl _) _
  go_enter Try.func11, Try.ntmps11
  go_wp2_with fail
  refine (lScales_any _).mono ?_
  rintro e w1 ⟨rfl, B1⟩
  go_wp2_with fail
  refine (rMass_any _).mono ?_
  rintro e w2 ⟨rfl, hs⟩
  replace B1 := B1.trans (hs.mono B1.size)
  clear hs
  go_wp2_with fail
  refine (FactorOf_any 1 4 1 2 1 16 (-1) 2 1 _ (by unfold F64; omega) (by unfold F64; omega) (by unfold F64; omega)).mono ?_
  rintro e w3 ⟨rfl, hs⟩
  replace B1 := B1.trans (hs.mono B1.size)
  clear hs
  rw [ex_facE, ex_facV, show qN 0 (1 / 16) = 1 by decide +kernel, show qD 0 (1 / 16) = 16 by decide +kernel]
  have x1 := alloc_new w3 (.cells #[.int .i64 1, .int .i64 16] 77)
  have hk := hA w3 (.cells #[.int .i64 1, .int .i64 16] 77)
  replace B1 := B1.trans (hk.mono B1.size)
  clear hk
  go_wp2_with fail
  obtain ⟨q1, hq1⟩ : ∃ q, w3.heap.size = q := ⟨_, rfl⟩
  rw [hq1] at x1 ⊢
  generalize w3.alloc (.cells #[.int .i64 1, .int .i64 16] 77) = W3 at *
  refine (lSpring_any _).mono ?_
  rintro e w4 ⟨a1, rfl, s1, hs⟩
  replace B1 := B1.trans (hs.mono B1.size)
  replace x1 := blk_keep x1 hs
  clear hs
  go_wp2_with fail
  refine (lSpring_any _).mono ?_
  rintro e w5 ⟨a2, rfl, s2, hs⟩
  replace B1 := B1.trans (hs.mono B1.size)
  replace x1 := blk_keep x1 hs
  replace s1 := s1.keep hs
  clear hs
  go_wp2_with fail
  refine (rBegin_any a2 2 2 exSp _ s2 (by omega)).mono ?_
  rintro e w6 ⟨av, rfl, ho, hs⟩
  replace B1 := B1.trans (hs.mono B1.size)
  replace x1 := blk_keep x1 hs
  replace s1 := s1.keep hs
  clear hs s2
  go_wp2_with fail
  refine (MovedTo_any a1 av 2 2 2 2 exSp 0 3 (List.replicate 2 sp0) _ s1 ho.ss).mono ?_
  rintro e w7 ⟨a3, n3, c3, rfl, ho3, hs⟩
  replace B1 := B1.trans (hs.mono B1.size)
  replace x1 := blk_keep x1 hs
  rw [ex_opnE, if_pos rfl, ex_mvd] at ho3
  rw [ex_opnE, if_pos rfl]
  have s3 := ho3.ss
  clear hs s1 ho ho3
  have x3 := alloc_new w7 (.cells #[.int .i64 3, .slice a3 n3 c3] 49)
  have hk := hA w7 (.cells #[.int .i64 3, .slice a3 n3 c3] 49)
  replace B1 := B1.trans (hk.mono B1.size)
  replace x1 := blk_keep x1 hk
  replace s3 := s3.keep hk
  clear hk
  go_wp2_with fail
  obtain ⟨q3, hq3⟩ : ∃ q, w7.heap.size = q := ⟨_, rfl⟩
  rw [hq3] at x3 ⊢
  generalize w7.alloc (.cells #[.int .i64 3, .slice a3 n3 c3] 49) = W7 at *
  refine (lSpring_any _).mono ?_
  rintro e w8 ⟨a4, rfl, s4, hs⟩
  replace B1 := B1.trans (hs.mono B1.size)
  replace x1 := blk_keep x1 hs
  replace x3 := blk_keep x3 hs
  replace s3 := s3.keep hs
  clear hs
  go_wp2_with fail
  refine (lSpring_any _).mono ?_
  rintro e w9 ⟨a5, rfl, s5, hs⟩
  replace B1 := B1.trans (hs.mono B1.size)
  replace x1 := blk_keep x1 hs
  replace x3 := blk_keep x3 hs
  replace s3 := s3.keep hs
  replace s4 := s4.keep hs
  clear hs
  go_wp2_with fail
  refine (rBegin_any a5 2 2 exSp _ s5 (by omega)).mono ?_
  rintro e w10 ⟨av2, rfl, ho, hs⟩
  replace B1 := B1.trans (hs.mono B1.size)
  replace x1 := blk_keep x1 hs
  replace x3 := blk_keep x3 hs
  replace s3 := s3.keep hs
  replace s4 := s4.keep hs
  clear hs s5
  go_wp2_with fail
  refine (WorkTo_any a4 av2 2 2 2 2 exSp 0 3 (List.replicate 2 sp0) _ s4 ho.ss).mono ?_
  rintro e w11 ⟨rfl, hs⟩
  replace B1 := B1.trans (hs.mono B1.size)
  replace x1 := blk_keep x1 hs
  replace x3 := blk_keep x3 hs
  replace s3 := s3.keep hs
  rw [ex_opnE, if_pos rfl, if_pos rfl, ex_wrk, ex_los]
  clear hs s4 ho
  have x5 := alloc_new w11 (.cells #[.int .i64 125, .int .i64 40] 59)
  have hk := hA w11 (.cells #[.int .i64 125, .int .i64 40] 59)
  replace B1 := B1.trans (hk.mono B1.size)
  replace x1 := blk_keep x1 hk
  replace x3 := blk_keep x3 hk
  replace s3 := s3.keep hk
  clear hk
  go_wp2_with fail
  obtain ⟨q5, hq5⟩ : ∃ q, w11.heap.size = q := ⟨_, rfl⟩
  rw [hq5] at x5 ⊢
  generalize w11.alloc (.cells #[.int .i64 125, .int .i64 40] 59) = W11 at *
  refine (lFrame_any _).mono ?_
  rintro e w12 ⟨a6, raw, rfl, hf, hs⟩
  replace B1 := B1.trans (hs.mono B1.size)
  replace x1 := blk_keep x1 hs
  replace x3 := blk_keep x3 hs
  replace x5 := blk_keep x5 hs
  replace s3 := s3.keep hs
  clear hs
  have hm := SI.three w12 (-3) 0 0 3 rfl
  have hk := hA w12 (.cells #[.int .i64 (-3), .int .i64 0, .int .i64 0] 3)
  replace B1 := B1.trans (hk.mono B1.size)
  replace x1 := blk_keep x1 hk
  replace x3 := blk_keep x3 hk
  replace x5 := blk_keep x5 hk
  replace s3 := s3.keep hk
  replace hf := hf.keep hk
  clear hk
  go_wp2_with fail
  generalize w12.alloc (.cells #[.int .i64 (-3), .int .i64 0, .int .i64 0] 3) = W12 at *
  refine (PeaksOf_any a6 _ 2 2 3 3 raw exFr [-3, 0, 0] _ hf hm).mono ?_
  rintro e w13 ⟨a7, n7, c7, rfl, hp, hs⟩
  replace B1 := B1.trans (hs.mono B1.size)
  replace x1 := blk_keep x1 hs
  replace x3 := blk_keep x3 hs
  replace x5 := blk_keep x5 hs
  replace s3 := s3.keep hs
  have hP := (hp.peaks ex_run).si
  rw [ex_pk] at hP
  rw [ex_run]
  clear hs hp hf hm
  have f0 := cell_block x1 0
  have f1 := cell_block x1 1
  have g0 := cell_block x3 0
  have g1 := cell_block x3 1
  have hs7 := alloc_new w13 (.cells #[.int .i64 1, .bool false, .int .i64 0, .bool false] 64)
  have hk := hA w13 (.cells #[.int .i64 1, .bool false, .int .i64 0, .bool false] 64)
  replace B1 := B1.trans (hk.mono B1.size)
  replace x5 := blk_keep x5 hk
  replace s3 := s3.keep hk
  replace hP := hP.keep hk
  clear hk
  have hS2 := SSp.two hs7
  go_wp2_with fail
  generalize w13.alloc (.cells #[.int .i64 1, .bool false, .int .i64 0, .bool false] 64) = W13 at *
  refine (sameHold_any 3 3 a3 _ n3 2 c3 2 [(1, false), (0, false)] [(1, false), (0, false)] _ s3 hS2).mono ?_
  rintro e w14 ⟨rfl, hs⟩
  rw [show decide ((3 : Int) = 3 ∧ [((1 : Int), false), (0, false)] = [(1, false), (0, false)]) = true by decide]
  replace B1 := B1.trans (hs.mono B1.size)
  replace x5 := blk_keep x5 hs
  replace hP := hP.keep hs
  clear hs s3 hS2 hs7 x3
  have h0 := cell_block x5 0
  have h1 := cell_block x5 1
  have hI2 := SI.two w14 3 6 3 rfl
  have hk := hA w14 (.cells #[.int .i64 3, .int .i64 6] 3)
  replace B1 := B1.trans (hk.mono B1.size)
  replace hP := hP.keep hk
  clear hk
  go_wp2_with fail
  refine (ints_any a7 _ n7 2 c7 2 [3, 6] [3, 6] _ hP hI2).mono ?_
  rintro e w15 ⟨rfl, k, rfl⟩
  go_wp2_with fail
  go_ret
  exact ⟨ret_bool (by simp), below_drewN B1 k⟩
end Go.Proofs.Ytaiikekgckjdeaa

namespace Go.Proofs.Ytaiikekgckjdeaa
open Go.RowKit
open Calmly (Kept)
set_option maxRecDepth 100000 in
set_option maxHeartbeats 1000000 in
theorem gcd_minB (a b : Int) (w : World) (ha1 : -9223372036854775808 ≤ a) (ha2 : a ≤ 9223372036854775807) (hb0 : 0 < b) (hb2 : b ≤ 9223372036854775807) :
    Calls Try.prog 129 #[.int .i64 a, .int .i64 b] w fun e w' => e = .returned (.int .i64 (Int.gcd a b)) ∧ ∃ n, w' = w.drewN n := by
  go_enter Try.func129, Try.ntmps129
  go_wp2
  go_loopw [0, 1] (fun x y wr => ∃ p q : Int, x = .int .i64 p ∧ y = .int .i64 q ∧ Int.gcd p q = Int.gcd a b ∧ (q = 0 → -9223372036854775807 ≤ p) ∧ -9223372036854775808 ≤ p ∧ p ≤ 9223372036854775807 ∧ -9223372036854775807 ≤ q ∧ q ≤ 9223372036854775807 ∧ ∃ n, wr = w.drewN n) (fun _ y _ => (intOf y).natAbs)
  case atStart => exact ⟨a, b, rfl, rfl, rfl, by omega, ha1, ha2, by omega, hb2, 0, rfl⟩
  case round =>
    obtain ⟨p, q, rfl, rfl, hg, hp0, hp1, hp2, hq1, hq2, n, rfl⟩ := hrel
    have HG := Lib.hid hg
    clear hg
    by_cases hz : q = 0
    · have hb : (q != 0) = false := by simp [hz]
      have hp1' := hp0 hz
      have Hz := Lib.hid hz
      clear hz hp0
      go_wp2_with (first | (go_at_call 92; refine (size_any _ _ hp1' hp2).mono ?_; rintro e w' ⟨rfl, rfl⟩))
      go_ret
      refine ⟨ret_int ?_, n, rfl⟩
      have := HG.out
      rw [Hz.out] at this
      simp at this
      omega
    · have hb : (q != 0) = true := by simpa using hz
      have h1 := tmod_bd (a := p) hz hq1 hq2
      have h2 := tmod_lt (a := p) hz
      have hc : (q == 0) = false := by simpa using hz
      clear hp0
      go_wp2_with fail
      refine Calmly.wp_region_mix 5 (.fl 0 <| .fl 1 <| .fl 2 <| .fl 3 <| .fl 4 <| .tail [5]) (by kernel_rfl) (by kernel_rfl) ?_
      go_wp2_with (first | ((with_reducible refine Calmly.is_fl ?_); refine Calmly.mix_fl rfl ?_ (fun _ _ => ?_); (first | exact .move _ | exact .load _ _ | exact .fieldAddr _ _ _ (by kernel_rfl) | exact .assign _ | exact .binOp _ _ _ _ _ rfl | exact .indexAddr _ _ _ | exact .len _ _ (by kernel_rfl) | exact .field _ _ _ | exact .extract _ _ | exact .pick _ _ _ | exact .build _ _ | exact .slice _ _ _ _ _ | exact .unOp _ _ _ rfl | exact .index _ _ _ | exact .max _ _ _ rfl rfl | exact .min _ _ _ rfl rfl | exact .nilCheck _ _ rfl)) | ((with_reducible refine Calmly.is_gl ?_); refine Calmly.mix_gl rfl rfl rfl ?_; first | ((first | with_reducible refine Calmly.gl_tt ?_ (fun _ _ => ?_) | with_reducible refine Calmly.gl_ff ?_ (fun _ _ => ?_)); (first | exact .move _ | exact .load _ _ | exact .fieldAddr _ _ _ (by kernel_rfl) | exact .assign _ | exact .binOp _ _ _ _ _ rfl | exact .indexAddr _ _ _ | exact .len _ _ (by kernel_rfl) | exact .field _ _ _ | exact .extract _ _ | exact .pick _ _ _ | exact .build _ _ | exact .slice _ _ _ _ _ | exact .unOp _ _ _ rfl | exact .index _ _ _ | exact .max _ _ _ rfl rfl | exact .min _ _ _ rfl rfl | exact .nilCheck _ _ rfl)) | with_reducible refine Calmly.gl_tf (fun _ _ => ?_) | with_reducible refine Calmly.gl_ft (fun _ _ => ?_)) | ((with_reducible refine Calmly.is_eff ?_); refine Calmly.mix_eff rfl (fun _ _ => ?_)) | ((with_reducible refine Calmly.is_gf ?_); refine Calmly.mix_gf rfl rfl rfl ?_; first | with_reducible refine Calmly.gf_tt (fun _ _ => ?_) | with_reducible refine Calmly.gf_ff (fun _ _ => ?_) | with_reducible refine Calmly.gf_tf (kept_of hk) (fun _ _ => ?_) | with_reducible refine Calmly.gf_ft (kept_of hk) (fun _ _ => ?_)) | ((with_reducible refine Calmly.is_tail ?_); first | refine Calmly.mix_tail_nil ?_ | refine Calmly.mix_tail rfl (fun _ _ => ?_)) | ((with_reducible refine Calmly.is_kept ?_); refine ⟨kept_of hk, ?_⟩) | (with_reducible refine Calmly.mix_alt ?_ ?_))
      go_roundw
      case rel => exact ⟨q, p.tmod q, rfl, rfl, by rw [gcd_step]; exact HG.out, by omega, by omega, hq2, h1.1, h1.2, n + 1, rfl⟩
      case measure => simpa [intOf] using h2

set_option maxRecDepth 100000 in
set_option maxHeartbeats 1000000 in
theorem isLowest_minB (x y : Int) (w : World) (h : F64 x y) :
    Calls Try.prog 113 #[.agg #[.int .i64 x, .int .i64 y]] w fun e w' => e = .returned (.bool (isLow x y)) ∧ Below w.heap.size w w' := by
  obtain ⟨⟨hx1, hx2⟩, hy1, hy2⟩ := h
  have hb : ∀ o, Below w.heap.size w (w.alloc o) := fun o => (Below.refl _ _).alloc (Nat.le_refl _) _
  by_cases h : 0 < y
  · go_enter Try.func113, Try.ntmps113
    go_wp2_with fail
    refine (gcd_minB x y _ hx1 hx2 h hy2).mono ?_
    rintro e w1 ⟨rfl, k, rfl⟩
    go_wp2_with fail
    go_ret
    refine ⟨ret_bool ?_, below_drewN (hb _) k⟩
    unfold isLow
    rw [decide_eq_true h]
    rfl
  · have h' : y ≤ 0 := by omega
    go_enter Try.func113, Try.ntmps113
    go_wp2_with fail
    go_ret
    refine ⟨ret_bool ?_, hb _⟩
    unfold isLow
    rw [decide_eq_false (by omega)]
    rfl
set_option maxRecDepth 100000 in
set_option maxHeartbeats 1000000 in
theorem rScaleErr_any (x y : Int) (w : World) (hf : F64 x y) : Calls Try.prog 110 #[.agg #[.int .i64 x, .int .i64 y]] w fun e w' => e = .returned (.int .i64 (sclErr (x, y))) ∧ Below w.heap.size w w' := by
  have y0 := alloc_new w (.cells #[.int .i64 x, .int .i64 y] 77)
  have BW : Below w.heap.size w (w.alloc (.cells #[.int .i64 x, .int .i64 y] 77)) := (Below.refl _ _).alloc (Nat.le_refl _) _
  have HE := Lib.hid (show sclErr (x, y) = firstE [unlessE (isLow x y) 3, unlessE (wIn x 1 100 && decide (y ≤ 100)) 2] from rfl)
  obtain ⟨E, hE⟩ : ∃ E, sclErr (x, y) = E := ⟨_, rfl⟩
  have hEE := HE.out
  rw [hE] at hEE ⊢
  replace HE := Lib.hid hEE
  clear hE hEE
  go_enter Try.func110, Try.ntmps110
  go_wp2_with fail
  generalize w.alloc (.cells #[.int .i64 x, .int .i64 y] 77) = W at *
  refine (isLowest_minB x y _ hf).mono ?_
  rintro e w1 ⟨rfl, hs⟩
  replace y0 := blk_keep y0 hs
  replace BW := BW.trans (hs.mono BW.size)
  have f0 := cell_block y0 0
  have f1 := cell_block y0 1
  cases h1 : isLow x y
  · go_wp2_with fail
    go_ret
    exact ⟨ret_int (by rw [HE.out, h1]; rfl), BW⟩
  · go_wp2_with fail
    refine (within_any x 1 100 _).mono ?_
    rintro e w1 ⟨rfl, rfl⟩
    cases h2 : wIn x 1 100
    · go_wp2_with fail
      go_ret
      exact ⟨ret_int (by rw [HE.out, h1]; simp [firstE, unlessE, h2]), BW⟩
    · by_cases h3 : y ≤ 100
      · have b3 : ¬ 100 < y := by omega
        go_wp2_with fail
        go_ret
        exact ⟨ret_int (by rw [HE.out, h1]; simp [firstE, unlessE, h2, h3]), BW⟩
      · have b3 : 100 < y := by omega
        go_wp2_with fail
        go_ret
        exact ⟨ret_int (by rw [HE.out, h1]; simp [firstE, unlessE, h2, h3]), BW⟩
set_option maxRecDepth 100000 in
set_option maxHeartbeats 1000000 in
theorem rValueErr_any (x y : Int) (w : World) (hf : F64 x y) : Calls Try.prog 52 #[.agg #[.int .i64 x, .int .i64 y]] w fun e w' => e = .returned (.int .i64 (valE x y)) ∧ Below w.heap.size w w' := by
  have y0 := alloc_new w (.cells #[.int .i64 x, .int .i64 y] 77)
  have BW : Below w.heap.size w (w.alloc (.cells #[.int .i64 x, .int .i64 y] 77)) := (Below.refl _ _).alloc (Nat.le_refl _) _
  have HE := Lib.hid (show valE x y = firstE [unlessE (isLow x y) 3, unlessE (szd x 1000000000 && decide (y ≤ 1000000000)) 2] from rfl)
  obtain ⟨E, hE⟩ : ∃ E, valE x y = E := ⟨_, rfl⟩
  have hEE := HE.out
  rw [hE] at hEE ⊢
  replace HE := Lib.hid hEE
  clear hE hEE
  go_enter Try.func52, Try.ntmps52
  go_wp2_with fail
  generalize w.alloc (.cells #[.int .i64 x, .int .i64 y] 77) = W at *
  refine (isLowest_minB x y _ hf).mono ?_
  rintro e w1 ⟨rfl, hs⟩
  replace y0 := blk_keep y0 hs
  replace BW := BW.trans (hs.mono BW.size)
  have f0 := cell_block y0 0
  have f1 := cell_block y0 1
  cases h1 : isLow x y
  · go_wp2_with fail
    go_ret
    exact ⟨ret_int (by rw [HE.out, h1]; rfl), BW⟩
  · go_wp2_with fail
    refine (within_any x (-1000000000) 1000000000 _).mono ?_
    rintro e w1 ⟨rfl, rfl⟩
    cases h2 : wIn x (-1000000000) 1000000000
    · go_wp2_with fail
      go_ret
      exact ⟨ret_int (by rw [HE.out, h1]; simp [firstE, unlessE, szd, h2]), BW⟩
    · by_cases h3 : y ≤ 1000000000
      · have b3 : ¬ 1000000000 < y := by omega
        go_wp2_with fail
        go_ret
        exact ⟨ret_int (by rw [HE.out, h1]; simp [firstE, unlessE, szd, h2, h3]), BW⟩
      · have b3 : 1000000000 < y := by omega
        go_wp2_with fail
        go_ret
        exact ⟨ret_int (by rw [HE.out, h1]; simp [firstE, unlessE, szd, h2, h3]), BW⟩
set_option maxHeartbeats 400000 in
theorem rIsExp_any (n : Int) (w : World) : Calls Try.prog 114 #[.int .i64 n] w fun e w' => e = .returned (.bool (szd n 4)) ∧ w = w' := by
  go_enter Try.func114, Try.ntmps114
  go_wp2_with fail
  refine (within_any n (-4) 4 _).mono ?_
  rintro e w1 ⟨rfl, rfl⟩
  go_wp2_with fail
  go_ret
  exact ⟨rfl, rfl⟩
set_option maxRecDepth 100000 in
set_option maxHeartbeats 1000000 in
theorem rQuantityErr_any (a b c : Int) (w : World) : Calls Try.prog 54 #[.agg #[.int .i64 a, .int .i64 b, .int .i64 c]] w fun e w' => e = .returned (.int .i64 (qtyE a b c)) ∧ Below w.heap.size w w' := by
  have y0 := alloc_new w (.cells #[.int .i64 a, .int .i64 b, .int .i64 c] 79)
  have BW : Below w.heap.size w (w.alloc (.cells #[.int .i64 a, .int .i64 b, .int .i64 c] 79)) := (Below.refl _ _).alloc (Nat.le_refl _) _
  have HE := Lib.hid (show qtyE a b c = unlessE (true && szd a 4 && szd b 4 && szd c 4) 2 from rfl)
  have f0 := cell_block y0 0
  have f1 := cell_block y0 1
  have f2 := cell_block y0 2
  go_enter Try.func54, Try.ntmps54
  go_wp2_with fail
  generalize w.alloc (.cells #[.int .i64 a, .int .i64 b, .int .i64 c] 79) = W at *
  refine (rIsExp_any a _).mono ?_
  rintro e w1 ⟨rfl, rfl⟩
  cases ha : szd a 4
  · go_wp2_with fail
    go_ret
    exact ⟨ret_int (by rw [HE.out, ha]; rfl), BW⟩
  · go_wp2_with fail
    refine (rIsExp_any b _).mono ?_
    rintro e w1 ⟨rfl, rfl⟩
    cases hb : szd b 4
    · go_wp2_with fail
      go_ret
      exact ⟨ret_int (by rw [HE.out, ha, hb]; rfl), BW⟩
    · go_wp2_with fail
      refine (rIsExp_any c _).mono ?_
      rintro e w1 ⟨rfl, rfl⟩
      cases hc : szd c 4
      · go_wp2_with fail
        go_ret
        exact ⟨ret_int (by rw [HE.out, ha, hb, hc]; rfl), BW⟩
      · go_wp2_with fail
        go_ret
        exact ⟨ret_int (by rw [HE.out, ha, hb, hc]; rfl), BW⟩
set_option maxRecDepth 100000 in
set_option maxHeartbeats 1000000 in
theorem rCheckScales_any (n1 d1 n2 d2 n3 d3 : Int) (w : World) (h1 : F64 n1 d1) (h2 : F64 n2 d2) (h3 : F64 n3 d3) :
    Calls Try.prog 49 #[.agg #[.int .i64 n1, .int .i64 d1, .int .i64 n2, .int .i64 d2, .int .i64 n3, .int .i64 d3]] w fun e w' => e = .returned (.tuple #[.int .i64 (sclE (fs3 n1 d1 n2 d2 n3 d3)).1, .int .i64 (sclE (fs3 n1 d1 n2 d2 n3 d3)).2]) ∧ Below w.heap.size w w' := by
  have y0 := alloc_new w (.cells #[.int .i64 n1, .int .i64 d1, .int .i64 n2, .int .i64 d2, .int .i64 n3, .int .i64 d3] 78)
  have BW : Below w.heap.size w (w.alloc (.cells #[.int .i64 n1, .int .i64 d1, .int .i64 n2, .int .i64 d2, .int .i64 n3, .int .i64 d3] 78)) := (Below.refl _ _).alloc (Nat.le_refl _) _
  obtain ⟨I, E, hR⟩ : ∃ I E, sclE (fs3 n1 d1 n2 d2 n3 d3) = (I, E) := ⟨_, _, rfl⟩
  rw [hR]
  have HR := Lib.hid (show eaF (fun i => sclErr ((fs3 n1 d1 n2 d2 n3 d3)[i]?.getD fr0)) 0 (3 - 0) = (I, E) from hR)
  clear hR
  have hF : ∀ i, i < 3 → F64 ((fs3 n1 d1 n2 d2 n3 d3)[i]?.getD fr0).1 ((fs3 n1 d1 n2 d2 n3 d3)[i]?.getD fr0).2 := by
    intro i hi
    rcases i with _ | _ | _ | i
    · exact h1
    · exact h2
    · exact h3
    · omega
  have HF := Lib.hid hF
  have hC : ∀ i, i < 3 → ∀ w', Below w.heap.size w w' → w'.heap[w.heap.size]? = some (.cells #[.int .i64 n1, .int .i64 d1, .int .i64 n2, .int .i64 d2, .int .i64 n3, .int .i64 d3] 78) → w'.cell? ⟨w.heap.size, i * 2, none⟩ = some (.int .i64 ((fs3 n1 d1 n2 d2 n3 d3)[i]?.getD fr0).1) ∧ w'.cell? ⟨w.heap.size, i * 2 + 1, none⟩ = some (.int .i64 ((fs3 n1 d1 n2 d2 n3 d3)[i]?.getD fr0).2) := by
    intro i hi w' _ h
    rw [cell_block h, cell_block h]
    rcases i with _ | _ | _ | i
    · exact ⟨rfl, rfl⟩
    · exact ⟨rfl, rfl⟩
    · exact ⟨rfl, rfl⟩
    · omega
  have HC := Lib.hid hC
  clear hF hC
  go_enter Try.func49, Try.ntmps49
  go_wp2_with fail
  generalize w.alloc (.cells #[.int .i64 n1, .int .i64 d1, .int .i64 n2, .int .i64 d2, .int .i64 n3, .int .i64 d3] 78) = W at *
  go_loopw [4] (fun i wr => ∃ k : Nat, k ≤ 3 ∧ i = .int .i64 k ∧ eaF (fun i => sclErr ((fs3 n1 d1 n2 d2 n3 d3)[i]?.getD fr0)) k (3 - k) = (I, E) ∧ Below W.heap.size W wr) (fun i _ => 3 - (intOf i).toNat)
  case atStart => exact ⟨0, by omega, rfl, HR.out, Below.refl _ _⟩
  case round =>
    obtain ⟨k, hk3, rfl, ht, hb⟩ := hrel
    have HT := Lib.hid ht
    clear ht
    by_cases hlt : k < 3
    · obtain ⟨p0, p1⟩ := HC.out k hlt wr (BW.trans (hb.mono BW.size)) (blk_keep y0 hb)
      have hf := HF.out k hlt
      have hs : sclErr ((fs3 n1 d1 n2 d2 n3 d3)[k]?.getD fr0) = sclErr (((fs3 n1 d1 n2 d2 n3 d3)[k]?.getD fr0).1, ((fs3 n1 d1 n2 d2 n3 d3)[k]?.getD fr0).2) := rfl
      obtain ⟨xx, hxx⟩ : ∃ x, (fs3 n1 d1 n2 d2 n3 d3)[k]?.getD fr0 = x := ⟨_, rfl⟩
      obtain ⟨x, y⟩ := xx
      rw [hxx] at p0 p1 hf hs
      dsimp only at p0 p1 hf
      have HX := Lib.hid hxx
      have hi : (k : Int) < 3 := by omega
      have hi0 : (0 : Int) ≤ (k : Int) := by omega
      clear hs hxx
      go_wp2_with fail
      refine (rScaleErr_any x y _ hf).mono ?_
      rintro e w1 ⟨rfl, hs1⟩
      obtain ⟨R, hR⟩ : ∃ R, sclErr (x, y) = R := ⟨_, rfl⟩
      rw [hR]
      have HRR := Lib.hid hR
      clear hR p0 p1
      by_cases hz : R = 0
      · have b1 : (R != 0) = false := by rw [hz]; rfl
        have HZ := Lib.hid hz
        clear hz
        go_wp2_with fail
        go_roundw
        case rel => exact ⟨k + 1, by omega, by go_num, (eaF_ok (err := fun i => sclErr ((fs3 n1 d1 n2 d2 n3 d3)[i]?.getD fr0)) hlt (by show sclErr _ = 0; rw [HX.out, HRR.out, HZ.out])).symm.trans HT.out, hb.trans (hs1.mono hb.size)⟩
        case measure => simp [intOf]; omega
      · have b1 : (R != 0) = true := by simpa using hz
        have hRE : (I, E) = ((k : Int), R) := by
          have hsc : sclErr ((fs3 n1 d1 n2 d2 n3 d3)[k]?.getD fr0) = R := by rw [HX.out, HRR.out]
          rw [← HT.out, eaF_bad hlt (by show sclErr _ ≠ 0; rw [hsc]; exact hz), hsc]
        injection hRE with e1 e2
        have E1 := Lib.hid e1
        have E2 := Lib.hid e2
        clear e1 e2 hz
        go_wp2_with fail
        refine bodyPost_ret (v := .tuple #[.int .i64 (k : Int), .int .i64 R]) (by simp [results, Try.results49]) rfl ⟨by rw [E1.out, E2.out], BW.trans ((hb.trans (hs1.mono hb.size)).mono BW.size)⟩
    · have hle : (3 : Int) ≤ (k : Int) := by omega
      have hR0 : (I, E) = (0, 0) := by rw [← HT.out, eaF_end (by omega)]
      injection hR0 with e1 e2
      subst e1 e2
      go_wp2_with fail
      refine bodyPost_ret (v := .tuple #[.int .i64 0, .int .i64 0]) (by simp [results, Try.results49]) rfl ⟨rfl, BW.trans (hb.mono BW.size)⟩
end Go.Proofs.Ytaiikekgckjdeaa

namespace Go.Proofs.Ytaiikekgckjdeaa
open Go.RowKit Go.Maps
def fA (xs : List Int) : Array Value := (xs.map (Value.int .i64)).toArray
theorem fA_size (xs : List Int) : (fA xs).size = xs.length := by simp [fA]
theorem fA_one (xs : List Int) : (fA xs).all (·.oneCell') = true := by
  rw [Array.all_eq_true_iff_forall_mem]
  intro v hv
  simp [fA] at hv
  obtain ⟨x, _, rfl⟩ := hv
  rfl
theorem fA_get (xs : List Int) {i : Nat} (h : i < xs.length) : (fA xs)[i]? = some (.int .i64 (xs[i]?.getD 0)) := by
  simp [fA, h]
theorem fA_set (xs : List Int) (i : Nat) (v : Int) : (fA xs).setIfInBounds i (.int .i64 v) = fA (xs.set i v) := by
  simp [fA, List.map_set]
/-- The number at a place. -/
def xa (xs : List Int) (p : Nat) : Int := xs[p]?.getD 0
theorem xa_set_same {xs : List Int} {p : Nat} (h : p < xs.length) (v : Int) : xa (xs.set p v) p = v := by simp [xa, h]
theorem xa_set_other {xs : List Int} {p q : Nat} (h : p ≠ q) (v : Int) : xa (xs.set p v) q = xa xs q := by simp [xa, h]
/-- The array holds powers of primes alone, up to M in size. -/
structure PrA (M : Int) (xs : List Int) : Prop where
  len : xs.length = 101
  prm : ∀ p, xa xs p ≠ 0 → Prm p
  bd : ∀ p, -M ≤ xa xs p ∧ xa xs p ≤ M
/-- The product of so many. -/
def vaA (xs : List Int) : Nat → Rat
  | 0 => 1
  | k + 1 => vaA xs k * (k : Rat) ^ (xa xs k)
def upA (xs : List Int) : Nat → Nat
  | 0 => 1
  | k + 1 => upA xs k * k ^ (xa xs k).toNat
def dnA (xs : List Int) : Nat → Nat
  | 0 => 1
  | k + 1 => dnA xs k * k ^ (-(xa xs k)).toNat
def lA (xs : List Int) : Nat → List (Nat × Int)
  | 0 => []
  | k + 1 => if xa xs k = 0 then lA xs k else (k, xa xs k) :: lA xs k
theorem lA_lt {xs : List Int} : ∀ {k : Nat}, ∀ x ∈ lA xs k, x.1 < k ∧ x.2 = xa xs x.1 ∧ xa xs x.1 ≠ 0
  | 0, x, h => by cases h
  | k + 1, x, h => by
    rw [lA] at h
    split at h
    · have := lA_lt x h
      exact ⟨by omega, this.2⟩
    · rename_i hk
      rcases List.mem_cons.1 h with rfl | h
      · exact ⟨by dsimp only; omega, rfl, hk⟩
      · have := lA_lt x h
        exact ⟨by omega, this.2⟩
theorem lA_prms {M : Int} {xs : List Int} (h : PrA M xs) : ∀ k, Prms (lA xs k)
  | 0 => ⟨List.Pairwise.nil, fun _ h => by cases h⟩
  | k + 1 => by
    rw [lA]
    split
    · exact lA_prms h k
    · rename_i hk
      have ih := lA_prms h k
      refine ⟨List.pairwise_cons.2 ⟨fun y hy => by have := (lA_lt y hy).1; dsimp only; omega, ih.1⟩, fun y hy => ?_⟩
      rcases List.mem_cons.1 hy with rfl | hy
      · exact h.prm _ hk
      · exact ih.2 y hy
theorem lA_va (xs : List Int) : ∀ k, valQ (lA xs k) = vaA xs k
  | 0 => rfl
  | k + 1 => by
    rw [lA, vaA]
    split
    · rename_i hk
      rw [hk, Rat.zpow_zero, Rat.mul_one]
      exact lA_va xs k
    · rw [valQ, lA_va xs k, Rat.mul_comm]
theorem lA_up (xs : List Int) : ∀ k, upN (lA xs k) = upA xs k
  | 0 => rfl
  | k + 1 => by
    rw [lA, upA]
    split
    · rename_i hk
      rw [hk, show (0 : Int).toNat = 0 from rfl, Nat.pow_zero, Nat.mul_one]
      exact lA_up xs k
    · rw [upN, lA_up xs k, Nat.mul_comm]
theorem lA_dn (xs : List Int) : ∀ k, dnN (lA xs k) = dnA xs k
  | 0 => rfl
  | k + 1 => by
    rw [lA, dnA]
    split
    · rename_i hk
      rw [hk, show (-(0 : Int)).toNat = 0 from rfl, Nat.pow_zero, Nat.mul_one]
      exact lA_dn xs k
    · rw [dnN, lA_dn xs k, Nat.mul_comm]
theorem vaA_num {M : Int} {xs : List Int} (h : PrA M xs) (k : Nat) : (vaA xs k).num = (upA xs k : Int) ∧ (vaA xs k).den = dnA xs k := by
  have := valQ_num (lA_prms h k)
  rw [lA_va, lA_up, lA_dn] at this
  exact this
theorem fac_pos {M : Int} {xs : List Int} (h : PrA M xs) (p : Nat) : 0 < p ^ (xa xs p).toNat ∧ 0 < p ^ (-(xa xs p)).toNat := by
  by_cases h0 : xa xs p = 0
  · rw [h0]
    exact ⟨Nat.one_pos, Nat.one_pos⟩
  · have := (h.prm p h0).1
    exact ⟨Nat.pow_pos (by omega), Nat.pow_pos (by omega)⟩
theorem upA_mono {M : Int} {xs : List Int} (h : PrA M xs) (k d : Nat) : upA xs k ≤ upA xs (k + d) ∧ dnA xs k ≤ dnA xs (k + d) := by
  induction d with
  | zero => exact ⟨Nat.le_refl _, Nat.le_refl _⟩
  | succ d ih =>
    have hp := fac_pos h (k + d)
    exact ⟨Nat.le_trans ih.1 (Nat.le_mul_of_pos_right _ hp.1), Nat.le_trans ih.2 (Nat.le_mul_of_pos_right _ hp.2)⟩
theorem vaA_same {xs ys : List Int} : ∀ {k : Nat}, (∀ p, p < k → xa xs p = xa ys p) → vaA xs k = vaA ys k
  | 0, _ => rfl
  | k + 1, h => by rw [vaA, vaA, vaA_same (fun p hp => h p (by omega)), h k (by omega)]
theorem vaA_set {xs : List Int} {p : Nat} (hp : 2 ≤ p) (hl : p < xs.length) (c : Int) : ∀ {k : Nat}, p < k → vaA (xs.set p (xa xs p + c)) k = vaA xs k * (p : Rat) ^ c
  | 0, h => by omega
  | k + 1, h => by
    have hp0 : (p : Rat) ≠ 0 := by
      intro e
      have : p = 0 := by exact_mod_cast e
      omega
    rw [vaA, vaA]
    by_cases e : p = k
    · subst e
      rw [vaA_same (ys := xs) (fun q hq => xa_set_other (by omega) _), xa_set_same hl, Rat.zpow_add hp0]
      grind
    · rw [vaA_set hp hl c (by omega), xa_set_other e]
      grind
theorem PrA.put {M M' : Int} {xs : List Int} (h : PrA M xs) {p : Nat} (hp : Prm p) (hp9 : p ≤ 100) {c : Int} (hM : M ≤ M') (hc : -M' ≤ xa xs p + c ∧ xa xs p + c ≤ M') : PrA M' (xs.set p (xa xs p + c)) ∧ vaA (xs.set p (xa xs p + c)) 101 = vaA xs 101 * (p : Rat) ^ c := by
  have hl : p < xs.length := by rw [h.len]; omega
  refine ⟨⟨by rw [List.length_set]; exact h.len, fun q hq => ?_, fun q => ?_⟩, vaA_set hp.1 hl c (by omega)⟩
  · by_cases e : p = q
    · subst e; exact hp
    · rw [xa_set_other e] at hq
      exact h.prm q hq
  · by_cases e : p = q
    · subst e
      rw [xa_set_same hl]
      exact hc
    · rw [xa_set_other e]
      have := h.bd q
      omega
theorem PrA.mono {M M' : Int} {xs : List Int} (h : PrA M xs) (hM : M ≤ M') : PrA M' xs := ⟨h.len, h.prm, fun p => by have := h.bd p; omega⟩
def z101 : List Int := List.replicate 101 0
theorem xa_zeros (p : Nat) : xa z101 p = 0 := by
  simp only [xa, z101, List.getElem?_replicate]
  split <;> rfl
theorem PrA.zero : PrA 0 z101 := ⟨by simp [z101], fun p h => absurd (xa_zeros p) h, fun p => by rw [xa_zeros]; omega⟩
theorem vaA_zero : ∀ k, vaA z101 k = 1
  | 0 => rfl
  | k + 1 => by rw [vaA, vaA_zero k, xa_zeros, Rat.zpow_zero, Rat.mul_one]
end Go.Proofs.Ytaiikekgckjdeaa

namespace Go.Proofs.Ytaiikekgckjdeaa
open Go.RowKit Go.Maps
open Calmly (Kept)
theorem Try.info_fac : (Try.prog.info? 170).map (fun i => (i.zero, i.size)) = some (some (.agg (fA z101)), 101) := by kernel_rfl
theorem fac_size : (Try.prog.info? 170).map (·.size) = some 101 := (zero_of_info Try.info_fac).2
theorem fac_zero (w : World) : (zeroValue 170).run Try.prog w = .ok (.agg (fA z101)) w := (zero_of_info Try.info_fac).1 w
/-- A whole array is loaded. -/
theorem loadA {ops : Array Oper} {rest : List Oper} {o : Oper} {a : Act} {w : World} {Q : Exit → Act → World → Prop} {g : Nat} {xs : List Int} (hg : w.heap[g]? = some (.cells (fA xs) 170)) (hl : xs.length = 101) (hgd : o.guard = none) (x : Operand) (ho : o.op = .load 170 x)
    (hx : a.eval x = .pointer (some ⟨g, 0, none⟩)) (h : wpList Try.prog ops Q rest (a.put o.dst (.agg (fA xs))) w) : wpList Try.prog ops Q (o :: rest) a w := by
  exact wpList_load_row hgd 170 x ho g hx _ _ _ _ hg Try.underlying170 rfl (by rw [fac_size, fA_size, hl]) h
/-- A whole array is stored. -/
theorem storeA {ops : Array Oper} {rest : List Oper} {o : Oper} {a : Act} {w : World} {Q : Exit → Act → World → Prop} {g : Nat} {xs ys : List Int} (hg : w.heap[g]? = some (.cells (fA xs) 170)) (hl : xs.length = 101) (hl2 : ys.length = 101) (hgd : o.guard = none) (x y : Operand) (ho : o.op = .store 170 x y)
    (hx : a.eval x = .pointer (some ⟨g, 0, none⟩)) (hy : a.eval y = .agg (fA ys))
    (h : ∀ w', w'.heap[g]? = some (.cells (fA ys) 170) → (∀ b, b ≠ g → w'.heap[b]? = w.heap[b]?) → w'.heap.size = w.heap.size → (∀ B, B ≤ g → Below B w w') → wpList Try.prog ops Q rest (a.put o.dst undef) w') : wpList Try.prog ops Q (o :: rest) a w := by
  refine wpList_plain hgd fun K hK => wp_store_row 170 x y ho g (fA ys) hx hy _ (fA xs) hg (by rw [fac_size, fA_size, hl2]) (by rw [fA_size, fA_size, hl, hl2]) (fA_one ys) ?_
  refine hK _ _ (h _ (setRow_heap w g (fA xs) (fA ys) _ _ hg) (fun b hb => setRow_other w g b _ (by omega)) (by simp) (fun B hB => below_setRow (Below.refl _ _) hB _))
/-- What lies between two rounds. -/
structure TaI (w : World) (M : Int) (v0 : Rat) (n0 : Nat) (pw : Int) (N c : Nat) (xs : List Int) (wr : World) : Prop where
  t0 : wr.heap[w.heap.size]? = some (.cells (fA xs) 170)
  t1 : wr.heap[w.heap.size + 1]? = some (.cells (fA z101) 170)
  pr : PrA (M + 4 * (c : Int)) xs
  va : vaA xs 101 * (N : Rat) ^ pw = v0 * (n0 : Rat) ^ pw
  le : N * 2 ^ c ≤ n0
  pos : 1 ≤ N
  bel : Below w.heap.size w wr
theorem TaI.nle {w : World} {M : Int} {v0 : Rat} {n0 : Nat} {pw : Int} {N c : Nat} {xs : List Int} {wr : World} (h : TaI w M v0 n0 pw N c xs wr) : N ≤ n0 := Nat.le_trans (Nat.le_mul_of_pos_right _ (Nat.pow_pos (by omega))) h.le
theorem TaI.cle {w : World} {M : Int} {v0 : Rat} {n0 : Nat} {pw : Int} {N c : Nat} {xs : List Int} {wr : World} (h : TaI w M v0 n0 pw N c xs wr) (hn : n0 ≤ 100) : c ≤ 6 := by
  rcases Nat.lt_or_ge c 7 with h1 | h1
  · omega
  · exfalso
    have h2 : 2 ^ 7 ≤ 2 ^ c := Nat.pow_le_pow_right (by omega) h1
    have h3 := h.le
    have h4 := h.pos
    have h5 : 1 * 2 ^ 7 ≤ N * 2 ^ c := Nat.mul_le_mul h4 h2
    omega
theorem TaI.step {w : World} {M : Int} {v0 : Rat} {n0 : Nat} {pw : Int} {N c p : Nat} {xs : List Int} {wr : World} (h : TaI w M v0 n0 pw N c xs wr) (hp : p ∣ N) (hprm : Prm p) (hp9 : p ≤ 100) (hpw : -4 ≤ pw ∧ pw ≤ 4) :
    TaI w M v0 n0 pw (N / p) (c + 1) (xs.set p (xa xs p + pw)) (wr.setCell ⟨w.heap.size, p, none⟩ (.int .i64 (xa xs p + pw))) := by
  have hp2 := hprm.1
  have hbd := h.pr.bd p
  obtain ⟨k1, k2⟩ := h.pr.put (M' := M + 4 * ((c + 1 : Nat) : Int)) hprm hp9 (c := pw) (by omega) (by omega)
  obtain ⟨k, hk⟩ := hp
  have hkd : N / p = k := by rw [hk, Nat.mul_div_cancel_left _ (by omega)]
  have hpos := h.pos
  have hk0 : k ≠ 0 := by rintro rfl; simp at hk; omega
  have q0 := setBlk h.t0 p (.int .i64 (xa xs p + pw))
  rw [fA_set] at q0
  rw [hkd]
  refine ⟨q0, (Below.heap_setCell _ _ _ _ (by show w.heap.size + 1 ≠ w.heap.size; omega)).trans h.t1, k1, ?_, ?_, by omega, h.bel.setCell (Nat.le_refl _) _⟩
  · rw [k2, ← h.va, hk, Rat.natCast_mul, rat_mul_zpow]
    grind
  · have := h.le
    rw [hk] at this
    refine Nat.le_trans ?_ this
    rw [Nat.pow_succ]
    have : k * (2 ^ c * 2) ≤ k * (2 ^ c * p) := Nat.mul_le_mul_left _ (Nat.mul_le_mul_left _ hp2)
    refine Nat.le_trans this (Nat.le_of_eq ?_)
    rw [Nat.mul_comm p k, Nat.mul_assoc, Nat.mul_comm p]
set_option maxRecDepth 100000 in
set_option maxHeartbeats 2000000 in
theorem rTimes_any (n : Nat) (pw M : Int) (xs : List Int) (w : World) (h : PrA M xs) (hn : 1 ≤ n ∧ n ≤ 100) (hp : -4 ≤ pw ∧ pw ≤ 4) (hM : 0 ≤ M ∧ M ≤ 100000) :
    Calls Try.prog 111 #[.agg (fA xs), .int .i64 (n : Int), .int .i64 pw] w fun e w' => ∃ ys, e = .returned (.agg (fA ys)) ∧ PrA (M + 24) ys ∧ vaA ys 101 = vaA xs 101 * (n : Rat) ^ pw ∧ Below w.heap.size w w' := by
  have hz := fac_zero
  obtain ⟨v0, hv0⟩ : ∃ v, vaA xs 101 = v := ⟨_, rfl⟩
  rw [hv0]
  have HV0 := Lib.hid hv0
  clear hv0
  have y0 := blk_keep (alloc_new w (.cells (fA xs) 170)) ((Below.refl _ _).alloc (Nat.le_refl _) (.cells (fA z101) 170))
  have y1 := alloc_new (w.alloc (.cells (fA xs) 170)) (.cells (fA z101) 170)
  have BW : Below w.heap.size w ((w.alloc (.cells (fA xs) 170)).alloc (.cells (fA z101) 170)) := ((Below.refl _ _).alloc (Nat.le_refl _) _).alloc (by simp) _
  simp only [World.size_alloc] at y1
  go_enter Try.func111, Try.ntmps111
  go_wp2_with fail
  have hI : TaI w M (vaA xs 101) n pw n 0 xs ((w.alloc (.cells (fA xs) 170)).alloc (.cells (fA z101) 170)) := ⟨y0, y1, by simpa using h, rfl, by simp, hn.1, BW⟩
  generalize (w.alloc (.cells (fA xs) 170)).alloc (.cells (fA z101) 170) = W at *
  rw [HV0.out] at hI
  go_loopw [1, 7] (fun x i wr => ∃ (N p c : Nat) (ys : List Int), x = .int .i64 (N : Int) ∧ i = .int .i64 (p : Int) ∧ 2 ≤ p ∧ p ≤ 101 ∧ NoD N p ∧ TaI w M v0 n pw N c ys wr) (fun _ i _ => 101 - (intOf i).toNat)
  case atStart => exact ⟨n, 2, 0, xs, rfl, rfl, by omega, by omega, fun d h1 h2 => by omega, hI⟩
  case round =>
    clear hI y0 y1 BW
    obtain ⟨N, p, c, ys, rfl, rfl, hp2, hp4, hnd, hT⟩ := hrel
    have hNn := hT.nle
    by_cases hq : p ≤ 100
    · have hi1 : (p : Int) ≤ 100 := by omega
      have HND := Lib.hid hnd
      have HT := Lib.hid hT
      clear hnd hT
      go_wp2_with fail
      go_loopw [1] (fun x wr => ∃ (N' c' : Nat) (zs : List Int), x = .int .i64 (N' : Int) ∧ NoD N' p ∧ TaI w M v0 n pw N' c' zs wr) (fun x _ => (intOf x).toNat)
      case atStart => exact ⟨N, c, ys, rfl, HND.out, HT.out⟩
      case round =>
        obtain ⟨N', c', zs, rfl, hnd, hT⟩ := hrel
        have hNn' := hT.nle
        have hN1 := hT.pos
        have hc9 := hT.cle hn.2
        have hp0 : (p : Int) ≠ 0 := by omega
        by_cases hd : p ∣ N'
        · have t1 : (N' : Int).tmod (p : Int) = 0 := by
            have h0 : (N' : Int).tmod (p : Int) = ((N' % p : Nat) : Int) := rfl
            rw [h0, Nat.mod_eq_zero_of_dvd hd]
            rfl
          have hdl : (N' : Int).tdiv (p : Int) = ((N' / p : Nat) : Int) := rfl
          have hdb : N' / p < N' := Nat.div_lt_self (by omega) (by omega)
          have HDL := Lib.hid hdl
          have HND' := Lib.hid hnd
          have hbd := hT.pr.bd p
          have hzl := hT.pr.len
          have g0 := cell_block hT.t0 p
          rw [fA_get zs (by rw [hzl]; omega)] at g0
          have g1 := frozen_block hT.t0 p
          have HSx := Lib.hid (hT.step hd (prm_of_least hp2 hnd hd) (by omega) hp)
          have he : zs[p]?.getD 0 = xa zs p := rfl
          rw [he] at g0
          obtain ⟨v, hv⟩ : ∃ v, xa zs p = v := ⟨_, rfl⟩
          rw [hv] at g0 hbd
          have HVV := Lib.hid hv
          have hi0 : (0 : Int) ≤ (p : Int) := by omega
          have hi101 : (p : Int) < 101 := by omega
          obtain ⟨q, hq2⟩ : ∃ q, (N' : Int).tdiv (p : Int) = q := ⟨_, rfl⟩
          have hq3 : 0 ≤ q ∧ q < N' := by rw [← hq2, hdl]; exact ⟨Int.natCast_nonneg _, Int.ofNat_lt.2 hdb⟩
          have HZL := Lib.hid hzl
          clear hnd hT hdl he hv hzl
          go_wp2_with fail
          refine ⟨⟨N' / p, c' + 1, zs.set p (xa zs p + pw), by rw [← hq2, HDL.out], HND'.out.div hd, by rw [← HVV.out]; exact HSx.out⟩, ?_⟩
          simp only [intOf]
          omega
        · have t1 : (N' : Int).tmod (p : Int) ≠ 0 := by
            have h0 : (N' : Int).tmod (p : Int) = ((N' % p : Nat) : Int) := rfl
            rw [h0]
            intro h1
            exact hd (Nat.dvd_of_mod_eq_zero (by omega))
          have HND' := Lib.hid hnd
          have HT' := Lib.hid hT
          clear hnd hT
          go_wp2_with fail
          go_roundw
          case rel =>
            refine ⟨N', p + 1, c', zs, rfl, by go_num, by omega, by omega, fun d h1 h2 => ?_, HT'.out⟩
            rcases Nat.lt_or_ge d p with h3 | h3
            · exact HND'.out d h1 h3
            · obtain rfl : d = p := by omega
              exact hd
          case measure => simp [intOf]; omega
    · have hi1 : (100 : Int) < (p : Int) := by omega
      have hN1 : N = 1 := by
        have h1 := hT.pos
        by_cases h2 : N = 1
        · exact h2
        · exact absurd (Nat.dvd_refl N) (hnd N (by omega) (by omega))
      have hc9 := hT.cle hn.2
      have hyl := hT.pr.len
      have y0 := hT.t0
      have y1 := hT.t1
      have HT := Lib.hid hT
      clear hT hnd
      go_wp2_with (first | (refine loadA y0 hyl rfl _ rfl rfl ?_) | (refine storeA y1 (by simp [z101]) hyl rfl _ _ rfl rfl rfl (fun w' k1 k2 k3 k4 => ?_)))
      refine bodyPost_ret (v := .agg (fA ys)) (results_cell_row Try.results111 _ w' (w.heap.size + 1) _ (fA ys) _ _ rfl k1 Try.underlying170 rfl (by rw [fac_size, fA_size, hyl])) rfl ⟨ys, rfl, HT.out.pr.mono (by omega), ?_, HT.out.bel.trans (k4 _ (by omega))⟩
      have := HT.out.va
      rw [hN1, show ((1 : Nat) : Rat) = 1 from rfl, one_zpow', Rat.mul_one] at this
      exact this
end Go.Proofs.Ytaiikekgckjdeaa
