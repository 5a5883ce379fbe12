/- The law ModalFrames, walked. -/
import Derived.Test.YtmaidjankakppaaPa
import Derived.Test.YtmaidjankakppaaPc
import Derived.Test.YtmaidjankakppaaAw
namespace Go.Proofs.Ytmaidjankakppaa
open Go.RowKit
open Calmly (Kept)

set_option maxRecDepth 100000 in
set_option maxHeartbeats 8000000 in
theorem ModalFrames_walk (a b : Option Addr) (n c m d : Nat) (ms ks : List Int) (w : World) (h1 : SI w a n c ms) (h2 : SI w b m d ks) :
    Calls Try.prog 3 #[.agg #[.slice a n c, .slice b m d]] w fun e w' => e = .returned (.bool true) ∧ Below w.heap.size w w' := by
  have m1 := h1.max
  have c1 := h1.cap
  have m2 := h2.max
  have c2 := h2.cap
  have hA : ∀ (A : World) (o : Obj), Below A.heap.size A (A.alloc o) := fun A o => (Below.refl _ _).alloc (Nat.le_refl _) _
  obtain ⟨I, C, hI⟩ : ∃ I C, checkF ms ks = (I, C) := ⟨_, _, rfl⟩
  obtain ⟨P, Q, hP, hP0⟩ : ∃ P Q, (C = 0 → (sumQ ms ks ms.length).num = P ∧ ((sumQ ms ks ms.length).den : Int) = Q) ∧ (C ≠ 0 → P = 0 ∧ Q = 0) := by
    by_cases h : C = 0
    · exact ⟨_, _, fun _ => ⟨rfl, rfl⟩, fun h' => absurd h h'⟩
    · exact ⟨0, 0, fun h' => absurd h' h, fun _ => ⟨rfl, rfl⟩⟩
  have HI := Lib.hid hI
  have HC : Hid ((checkF ms ks).2 = C) := Lib.hid (by rw [hI])
  have HP := Lib.hid hP
  have HP0 := Lib.hid hP0
  clear hI hP hP0
  go_enter Try.func3, Try.ntmps3
  go_wp2_with fail
  refine (awake_any _).mono ?_
  rintro e w1 ⟨rfl, hs⟩
  have x1 := box1 (w := w) hs
  have BW := (hA w (.cells #[.slice a n c, .slice b m d] 24)).trans (hs.mono (hA w (.cells #[.slice a n c, .slice b m d] 24)).size)
  have f0 := cell_block x1 0
  have f1 := cell_block x1 1
  clear hs
  go_wp2_with fail
  refine (few_any a b n c m d _ (by omega) (by omega)).mono ?_
  rintro e w2 ⟨rfl, hs⟩
  replace BW := BW.trans (hs.mono BW.size)
  replace x1 := blk_keep x1 hs
  clear hs f0 f1
  have f0 := cell_block x1 0
  have f1 := cell_block x1 1
  obtain ⟨Q', hQ⟩ : ∃ Q, (decide (n ≤ 6) && decide (m ≤ 6)) = Q := ⟨_, rfl⟩
  rw [hQ]
  have HQ := Lib.hid hQ
  clear hQ
  cases Q'
  case false =>
    go_wp2_with fail
    go_ret
    exact ⟨rfl, BW⟩
  have hnm : n ≤ 6 ∧ m ≤ 6 := by
    have := HQ.out
    simpa using this
  clear HQ
  go_wp2_with fail
  refine (Copy_any a b n c m d ms ks _ (h1.keep BW) (h2.keep BW) (by omega) (by omega)).mono ?_
  rintro e w3 ⟨a1, c1', b1, d1', BB, rfl, oA1, oB1, hB, hgB, hs⟩
  replace BW := BW.trans (hs.mono BW.size)
  replace x1 := blk_keep x1 hs
  clear hs hgB f0 f1
  go_wp2_with fail
  refine (mCheckFrame_any _ _ n _ m _ ms ks _ oA1.si oB1.si).mono ?_
  rintro e w4 ⟨rfl, hs⟩
  rw [HI.out]
  replace BW := BW.trans (hs.mono BW.size)
  replace x1 := blk_keep x1 hs
  clear hs oA1 oB1 hB
  have f0 := cell_block x1 0
  have f1 := cell_block x1 1
  go_wp2_with fail
  refine (Copy_any a b n c m d ms ks _ (h1.keep BW) (h2.keep BW) (by omega) (by omega)).mono ?_
  rintro e w5 ⟨a2, c2', b2, d2', BB2, rfl, oA1, oB1, hB, hgB, hs⟩
  replace BW := BW.trans (hs.mono BW.size)
  replace x1 := blk_keep x1 hs
  clear hs hgB f0 f1
  by_cases hz : C = 0
  case neg =>
    have hz1 : (C != 0) = true := by simpa using hz
    have hz2 := Lib.hid (show (checkF ms ks).2 ≠ 0 by rw [HC.out]; exact hz)
    obtain ⟨rfl, rfl⟩ := HP0.out hz
    clear hz
    go_wp2_with fail
    refine (PolynomialOf_err _ _ n _ m _ ms ks _ oA1.si oB1.si hz2.out).mono ?_
    rintro e w6 ⟨rfl, hs⟩
    rw [HC.out]
    replace BW := BW.trans (hs.mono BW.size)
    replace x1 := blk_keep x1 hs
    clear hs oA1 oB1 hB
    have f0 := cell_block x1 0
    have f1 := cell_block x1 1
    go_wp2_with fail
    refine (Copy_any a b n c m d ms ks _ (h1.keep BW) (h2.keep BW) (by omega) (by omega)).mono ?_
    rintro e w7 ⟨a3, c3', b3, d3', BB3, rfl, oA1, oB1, hB, hgB, hs⟩
    replace BW := BW.trans (hs.mono BW.size)
    replace x1 := blk_keep x1 hs
    clear hs hgB f0 f1
    go_wp2_with fail
    refine (SumOf_any _ _ n _ m _ ms ks _ oA1.si oB1.si C 0 0 HC.out HP.out (fun _ => ⟨rfl, rfl⟩)).mono ?_
    rintro e w8 ⟨rfl, hs⟩
    replace BW := BW.trans (hs.mono BW.size)
    replace x1 := blk_keep x1 hs
    clear hs oA1 oB1 hB
    have hk := hA w8 (.cells #[.int .i64 0, .int .i64 0] 34)
    have x7 := alloc_new w8 (.cells #[.int .i64 0, .int .i64 0] 34)
    replace x1 := blk_keep x1 hk
    replace BW := BW.trans (hk.mono BW.size)
    have f0 := cell_block x1 0
    have f1 := cell_block x1 1
    have hlt : w.heap.size < w8.heap.size + 1 := by have := blk_lt x1; simpa using this
    clear hk
    go_wp2_with fail
    refine (rCheckFrame_any a b n c m d ms ks _ (h1.keep BW) (h2.keep BW)).mono ?_
    rintro e w9 ⟨rfl, hs⟩
    rw [HI.out]
    replace BW := BW.trans (hs.mono BW.size)
    replace x7 := blk_keep x7 hs
    clear hs f0 f1 hlt
    have g0 := cell_block x7 0
    have g1 := cell_block x7 1
    go_wp2_with fail
    go_ret
    exact ⟨rfl, BW⟩
  case pos =>
  subst hz
  have hf := fr_of HC.out
  obtain ⟨l1, l2⟩ : n ≤ ms.length ∧ ms.length ≤ n := by have := h1.len; omega
  obtain rfl : n = m := by have := h2.len; have := hf.len; omega
  go_wp2_with fail
  refine (PolynomialOf_ok _ _ n _ n _ ms ks _ oA1.si oB1.si HC.out).mono ?_
  rintro e w6 ⟨pa, pc, rfl, oP, hs⟩
  replace BW := BW.trans (hs.mono BW.size)
  replace x1 := blk_keep x1 hs
  clear hs oA1 oB1 hB
  have f0 := cell_block x1 0
  have f1 := cell_block x1 1
  have pP := oP.si
  clear oP
  go_wp2_with fail
  refine (Copy_any a b n c n d ms ks _ (h1.keep BW) (h2.keep BW) (by omega) (by omega)).mono ?_
  rintro e w7 ⟨a3, c3', b3, d3', BB3, rfl, oA1, oB1, hB, hgB, hs⟩
  replace BW := BW.trans (hs.mono BW.size)
  replace x1 := blk_keep x1 hs
  replace pP := pP.keep hs
  clear hs hgB f0 f1
  go_wp2_with fail
  refine (SumOf_any _ _ n _ n _ ms ks _ oA1.si oB1.si 0 P Q HC.out (fun _ => HP.out (by trivial)) (fun h => absurd rfl h)).mono ?_
  rintro e w8 ⟨rfl, hs⟩
  replace BW := BW.trans (hs.mono BW.size)
  replace x1 := blk_keep x1 hs
  replace pP := pP.keep hs
  clear hs oA1 oB1 hB
  have hk := hA w8 (.cells #[.int .i64 P, .int .i64 Q] 34)
  have x7 := alloc_new w8 (.cells #[.int .i64 P, .int .i64 Q] 34)
  replace x1 := blk_keep x1 hk
  replace BW := BW.trans (hk.mono BW.size)
  replace pP := pP.keep hk
  have f0 := cell_block x1 0
  have f1 := cell_block x1 1
  have hlt : w.heap.size < w8.heap.size + 1 := by have := blk_lt x1; simpa using this
  clear hk
  go_wp2_with fail
  refine (rCheckFrame_any a b n c n d ms ks _ (h1.keep BW) (h2.keep BW)).mono ?_
  rintro e w9 ⟨rfl, hs⟩
  rw [HI.out]
  replace BW := BW.trans (hs.mono BW.size)
  replace x7 := blk_keep x7 hs
  replace x1 := blk_keep x1 hs
  replace pP := pP.keep hs
  clear hs f0 f1 hlt
  have f0 := cell_block x1 0
  have f1 := cell_block x1 1
  have g0 := cell_block x7 0
  have g1 := cell_block x7 1
  have hPQ := Lib.hid (HP.out (by trivial))
  go_wp2_with fail
  refine Calmly.wp_region_mix 17 (.fl 0 <| .fl 1 <| .fl 2 <| .gl 3 <| .gl 4 <| .gf 5 <| .gf 6 <| .fl 7 <| .fl 8 <| .gl 9 <| .gl 10 <| .fl 11 <| .fl 12 <| .gl 13 <| .gl 14 <| .gf 15 <| .gf 16 <| .tail [17, 18]) (by kernel_rfl) (by kernel_rfl) ?_
  replace x1 : w9.drew.heap[w.heap.size]? = some (.cells #[.slice a n c, .slice b n d] 24) := x1
  obtain ⟨b7, hb7⟩ : ∃ b, w8.heap.size = b := ⟨_, rfl⟩
  rw [hb7] at x7 ⊢
  clear hb7 f0 f1 g0 g1
  replace x7 : w9.drew.heap[b7]? = some (.cells #[.int .i64 P, .int .i64 Q] 34) := x7
  replace BW := BW.drew
  replace pP := pP.drew
  generalize w9.drew = V at x1 x7 BW pP ⊢
  have f0 := cell_block x1 0
  have f1 := cell_block x1 1
  have g0 := cell_block x7 0
  have g1 := cell_block x7 1
  have hk := Below.refl V.heap.size V
  go_wp2_with (first | ((with_reducible refine Calmly.is_fl ?_); refine Calmly.mix_fl rfl ?_ (fun _ _ => ?_); (first | exact .move _ | exact .load _ _ | exact .fieldAddr _ _ _ (by kernel_rfl) | exact .assign _ | exact .binOp _ _ _ _ _ rfl | exact .indexAddr _ _ _ | exact .len _ _ (by kernel_rfl) | exact .field _ _ _ | exact .extract _ _ | exact .pick _ _ _ | exact .build _ _ | exact .slice _ _ _ _ _ | exact .unOp _ _ _ rfl | exact .index _ _ _ | exact .max _ _ _ rfl rfl | exact .min _ _ _ rfl rfl)) | ((with_reducible refine Calmly.is_gl ?_); refine Calmly.mix_gl rfl rfl rfl ?_; first | ((first | with_reducible refine Calmly.gl_tt ?_ (fun _ _ => ?_) | with_reducible refine Calmly.gl_ff ?_ (fun _ _ => ?_)); (first | exact .move _ | exact .load _ _ | exact .fieldAddr _ _ _ (by kernel_rfl) | exact .assign _ | exact .binOp _ _ _ _ _ rfl | exact .indexAddr _ _ _ | exact .len _ _ (by kernel_rfl) | exact .field _ _ _ | exact .extract _ _ | exact .pick _ _ _ | exact .build _ _ | exact .slice _ _ _ _ _ | exact .unOp _ _ _ rfl | exact .index _ _ _ | exact .max _ _ _ rfl rfl | exact .min _ _ _ rfl rfl)) | with_reducible refine Calmly.gl_tf (fun _ _ => ?_) | with_reducible refine Calmly.gl_ft (fun _ _ => ?_)) | ((with_reducible refine Calmly.is_eff ?_); refine Calmly.mix_eff rfl (fun _ _ => ?_)) | ((with_reducible refine Calmly.is_gf ?_); refine Calmly.mix_gf rfl rfl rfl ?_; first | with_reducible refine Calmly.gf_tt (fun _ _ => ?_) | with_reducible refine Calmly.gf_ff (fun _ _ => ?_) | with_reducible refine Calmly.gf_tf (kept_of hk) (fun _ _ => ?_) | with_reducible refine Calmly.gf_ft (kept_of hk) (fun _ _ => ?_)) | ((with_reducible refine Calmly.is_tail ?_); first | refine Calmly.mix_tail_nil ?_ | refine Calmly.mix_tail rfl (fun _ _ => ?_)) | ((with_reducible refine Calmly.is_kept ?_); refine ⟨kept_of hk, ?_⟩) | (with_reducible refine Calmly.mix_alt ?_ ?_) | (go_at_call 23; refine (rPolynomial_ok a b n c n d ms ks _ ((h1.keep BW).keep hk) ((h2.keep BW).keep hk) HC.out).mono ?_; rintro e w10 ⟨qa, qc, rfl, oQ, hs⟩; replace hk := step_of hk hs; clear hs) | (go_at_call 22; refine (ints_any _ _ _ _ _ _ _ _ _ (pP.keep hk) oQ.si).mono ?_; rintro e w11 ⟨rfl, q11, rfl⟩; rw [decide_eq_true rfl]; have hs := below_drewN (Below.refl w10.heap.size w10) q11; replace hk := step_of hk hs; clear hs) | (go_at_call 24; refine (rSum_any a b n c n d ms ks _ ((h1.keep BW).keep hk) ((h2.keep BW).keep hk) hf).mono ?_; rintro e w12 ⟨rfl, hs⟩; rw [hPQ.out.1, hPQ.out.2]; replace hk := step_of hk hs; clear hs))
  go_ret
  exact ⟨rfl, BW.trans (hk.mono BW.size)⟩
end Go.Proofs.Ytmaidjankakppaa
