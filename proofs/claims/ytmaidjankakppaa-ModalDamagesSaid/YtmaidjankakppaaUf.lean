/- The law ModalDamages, walked. -/
import Derived.Test.YtmaidjankakppaaUe
import Derived.Test.YtmaidjankakppaaAw
namespace Go.Proofs.Ytmaidjankakppaa
open Go.RowKit
open Calmly (Kept)

theorem kept_setW {W w : World} {b : Nat} {x y u0 u1 : Value} {t : TypeId} {G : Prop} (h : Below W.heap.size W w) (hb : W.heap.size ≤ b) (p : w.heap[b]? = some (.cells #[u0, u1] t))
    (k : Below W.heap.size W ((w.setCell ⟨b, 0, none⟩ x).setCell ⟨b, 1, none⟩ y) → ((w.setCell ⟨b, 0, none⟩ x).setCell ⟨b, 1, none⟩ y).heap[b]? = some (.cells #[x, y] t) → G) :
    Kept W ((w.setCell ⟨b, 0, none⟩ x).setCell ⟨b, 1, none⟩ y) ∧ G := by
  have h2 := (h.setCell (p := ⟨b, 0, none⟩) hb x).setCell (p := ⟨b, 1, none⟩) hb y
  exact ⟨kept_of h2, k h2 (blkSet (blkSet p 0 _) 1 _)⟩

theorem exIn_none (ms ks : List Int) (den : Int) (sq : List (Int × Int)) (i : Nat) (k : Int) (f : Nat) (left : Int) (st : (Int × Int) × Bool) (h : (exIn ms ks den sq i k f left st).2 = false) : exIn ms ks den sq i k f left st = st := by
  induction f generalizing left with
  | zero => rfl
  | succ f ih =>
    rw [exIn] at h ⊢
    split
    · rename_i h1
      rw [if_pos h1] at h
      split
      · rfl
      · rename_i h2
        rw [if_neg h2] at h
        split
        · rename_i h3
          rw [if_pos h3] at h
          cases h
        · rename_i h3
          rw [if_neg h3] at h
          exact ih _ h
    · rfl
theorem exTo_none (ms ks : List Int) (den : Int) (sq : List (Int × Int)) (n : Nat) (h : (exTo ms ks den sq n).2 = false) : exTo ms ks den sq n = ((0, 0), false) := by
  induction n with
  | zero => rfl
  | succ n ih =>
    rw [exTo] at h ⊢
    have e := exIn_none _ _ _ _ _ _ _ _ _ h
    rw [e] at h ⊢
    exact ih h

set_option maxRecDepth 100000 in
set_option maxHeartbeats 8000000 in
theorem ModalDamages_walk (a b sa : Option Addr) (n c m d sn sc : Nat) (ms ks : List Int) (sq : List (Int × Int)) (den st left : Int) (w : World) (h1 : SI w a n c ms) (h2 : SI w b m d ks) (h3 : SR w sa sn sc sq) :
    Calls Try.prog 4 #[.agg #[.slice a n c, .slice b m d], .agg #[.int .i64 den, .slice sa sn sc], .agg #[.int .i64 st, .int .i64 left]] w fun e w' => e = .returned (.bool true) ∧ Below w.heap.size w w' := by
  have m1 := h1.max
  have c1 := h1.cap
  have m2 := h2.max
  have c2 := h2.cap
  have c3 := h3.cap
  have hA : ∀ (A : World) (o : Obj), Below A.heap.size A (A.alloc o) := fun A o => (Below.refl _ _).alloc (Nat.le_refl _) _
  have BW : Below w.heap.size w (((w.alloc (.cells #[.slice a n c, .slice b m d] 24)).alloc (.cells #[.int .i64 den, .slice sa sn sc] 44)).alloc (.cells #[.int .i64 st, .int .i64 left] 46)) := (((Below.refl _ _).alloc (Nat.le_refl _) _).alloc (by simp) _).alloc (by simp <;> omega) _
  go_enter Try.func4, Try.ntmps4
  go_wp2_with fail
  refine (awake_any _).mono ?_
  rintro e w1 ⟨rfl, hs⟩
  obtain ⟨x1, x2, x3⟩ := box3 (w := w) (o := .cells #[.slice a n c, .slice b m d] 24) (o' := .cells #[.int .i64 den, .slice sa sn sc] 44) (o'' := .cells #[.int .i64 st, .int .i64 left] 46) hs
  replace BW := BW.trans (hs.mono BW.size)
  have f0 := cell_block x1 0
  have f1 := cell_block x1 1
  clear hs
  go_wp2_with fail
  refine (few_any a b n c m d _ (by omega) (by omega)).mono ?_
  rintro e w2 ⟨rfl, hs⟩
  replace BW := BW.trans (hs.mono BW.size)
  replace x1 := blk_keep x1 hs
  replace x2 := blk_keep x2 hs
  replace x3 := blk_keep x3 hs
  clear hs f0 f1
  obtain ⟨Q, hQ⟩ : ∃ Q, (decide (n ≤ 6) && decide (m ≤ 6)) = Q := ⟨_, rfl⟩
  rw [hQ]
  have HQ := Lib.hid hQ
  clear hQ
  have f0 := cell_block x1 0
  have f1 := cell_block x1 1
  have f2 := cell_block x2 0
  have f3 := cell_block x2 1
  have f4 := cell_block x3 0
  have f5 := cell_block x3 1
  have hlt := blk_lt x3
  cases Q
  case false =>
    go_wp2_with fail
    go_ret
    exact ⟨rfl, BW⟩
  have hnm : n ≤ 6 ∧ m ≤ 6 := by
    have := HQ.out
    simpa using this
  clear HQ
  by_cases hn4 : n = 4
  · have hb4 : ((n : Int) == 4) = true := by rw [hn4]; rfl
    have hcast : (n : Int) = 4 := by omega
    go_wp2_with fail
    all_goals first | (exfalso; omega) | skip
    all_goals
      go_ret
      exact ⟨rfl, BW⟩
  have hb4 : ((n : Int) == 4) = false := by
    rw [beq_eq_false_iff_ne]
    omega
  by_cases hs6 : 6 < sn
  · have hcast : (6 : Int) < (sn : Int) := by omega
    go_wp2_with fail
    all_goals first | (exfalso; omega) | skip
    all_goals
      go_ret
      exact ⟨rfl, BW⟩
  have hcast : (sn : Int) ≤ 6 := by omega
  have hn4' : Hid (n ≠ 4) := Lib.hid hn4
  clear hn4 hs6
  obtain ⟨l1, l2⟩ : n ≤ ms.length ∧ ms.length ≤ n := by have := h1.len; omega
  obtain ⟨k1, k2⟩ : m ≤ ks.length ∧ ks.length ≤ m := by have := h2.len; omega
  obtain ⟨g1, g2⟩ : sn ≤ sq.length ∧ sq.length ≤ sn := by have := h3.len; omega
  obtain ⟨E, hE⟩ : ∃ E, afterE ms ks den sq = E := ⟨_, rfl⟩
  obtain ⟨Y1, Y2, EE, hY, hY0, hY1⟩ := exBy ms ks sq den n m sn (by omega) (by omega) (by omega) (by omega) (by omega) E hE
  obtain ⟨I, G, hI, hI0, hI1, hI2⟩ := ckD ms ks sq den st left n m sn (by omega) (by omega) (by omega) (by omega) (by omega) E hE
  obtain ⟨C, hC⟩ : ∃ C, (checkF ms ks).2 = C := ⟨_, rfl⟩
  have HE := Lib.hid hE
  have HC := Lib.hid hC
  have HY := Lib.hid hY
  have HY0 := Lib.hid hY0
  have HY1 := Lib.hid hY1
  have HI := Lib.hid hI
  have HI0 := Lib.hid hI0
  have HI1 := Lib.hid hI1
  have HI2 := Lib.hid hI2
  clear hE hC hY hY0 hY1 hI hI0 hI1 hI2
  go_wp2_with fail
  refine Calmly.wp_region_mix 10 (.fl 0 <| .fl 2 <| .alt 1 (.alt 3 (.alt 4 (.fl 5 <| .fl 6 <| .fl 7 <| .eff 8 <| .eff 9 <| .tail [10]) (.eff 8 (.eff 4 <| .fl 5 <| .fl 6 <| .fl 7 <| .eff 9 <| .tail [10]))) (.eff 8 (.eff 3 <| .eff 4 <| .fl 5 <| .fl 6 <| .fl 7 <| .eff 9 <| .tail [10]))) (.eff 8 (.eff 1 <| .eff 3 <| .eff 4 <| .fl 5 <| .fl 6 <| .fl 7 <| .eff 9 <| .tail [10]))) (by kernel_rfl) (by kernel_rfl) ?_
  rename_i K hK
  have hK' := fun a w (h : Stop _) => hK a w h.out
  clear hK
  replace x1 : w2.drew.heap[w.heap.size]? = some (.cells #[.slice a n c, .slice b m d] 24) := x1
  replace x2 : w2.drew.heap[w.heap.size + 1]? = some (.cells #[.int .i64 den, .slice sa sn sc] 44) := x2
  replace x3 : w2.drew.heap[w.heap.size + 1 + 1]? = some (.cells #[.int .i64 st, .int .i64 left] 46) := x3
  replace BW := BW.drew
  clear f0 f1 f2 f3 f4 f5 hlt
  generalize w2.drew = U at x1 x2 x3 BW ⊢
  have f0 := cell_block x1 0
  have f1 := cell_block x1 1
  have f2 := cell_block x2 0
  have f3 := cell_block x2 1
  have hlt := blk_lt x3
  have hk := Below.refl U.heap.size U
  have HKK : ∀ (b7 : Nat) (y15 y16 y17 y18 y19 y20 y21 y22 y23 y24 y25 y26 y27 y28 y29 y30 y31 y32 y33 y34 y35 y36 y37 y38 y39 : Value) (v : World), U.heap.size ≤ b7 → Below U.heap.size U v → v.heap[b7]? = some (.cells #[.int .i64 Y1, .int .i64 Y2] 46) → K { tmps := #[Value.agg #[Value.slice a n c, Value.slice b m d], Value.agg #[Value.int IntKind.i64 den, Value.slice sa sn sc], Value.agg #[Value.int IntKind.i64 st, Value.int IntKind.i64 left], Value.pointer (some ⟨w.heap.size, 0, none⟩), Value.pointer (some ⟨w.heap.size + 1, 0, none⟩), Value.pointer (some ⟨w.heap.size + 1 + 1, 0, none⟩), Value.bool false, Value.pointer (some ⟨b7, 0, none⟩), Value.int IntKind.i64 EE, undef, undef, undef, undef, undef, undef, y15, y16, y17, y18, y19, y20, y21, y22, y23, y24, y25, y26, y27, y28, y29, y30, y31, y32, y33, y34, y35, y36, y37, y38, y39, undef, undef, undef, undef, undef, undef, undef, undef, undef, undef, undef, undef, undef, undef, undef, undef, undef, undef, undef, undef, undef, undef, undef, undef, undef, undef, undef, undef, undef, undef, undef, undef, undef, undef, undef, undef, undef, undef, undef, undef, undef, undef, undef, undef, undef, undef, undef, undef, undef, undef, undef, undef, undef, undef, undef, undef, undef, undef, undef, undef, undef, undef, undef, undef, undef, undef, undef, undef, undef, undef, undef, undef, undef, undef, undef, undef, undef, undef, undef, undef, undef, undef, undef, undef, undef, undef, undef, undef, undef, undef, undef, undef, undef, undef, undef, undef], defers := [] } v := by
    intro b7 y15 y16 y17 y18 y19 y20 y21 y22 y23 y24 y25 y26 y27 y28 y29 y30 y31 y32 y33 y34 y35 y36 y37 y38 y39 v hb7 hv X7
    refine hK' _ _ ⟨?_⟩
    clear hK' K f0 f1 f2 f3 hk hlt
    replace x1 := blk_keep x1 hv
    replace x2 := blk_keep x2 hv
    replace x3 := blk_keep x3 hv
    replace BW := BW.trans (hv.mono BW.size)
    clear hv hb7
    go_wp2_with fail
    refine Calmly.wp_region_mix 10 (.fl 0 <| .fl 2 <| .fl 4 <| .eff 1 <| .eff 3 <| .eff 5 <| .fl 6 <| .fl 7 <| .fl 8 <| .fl 9 <| .tail [10]) (by kernel_rfl) (by kernel_rfl) ?_
    replace x1 : v.drew.heap[w.heap.size]? = some (.cells #[.slice a n c, .slice b m d] 24) := x1
    replace x2 : v.drew.heap[w.heap.size + 1]? = some (.cells #[.int .i64 den, .slice sa sn sc] 44) := x2
    replace x3 : v.drew.heap[w.heap.size + 1 + 1]? = some (.cells #[.int .i64 st, .int .i64 left] 46) := x3
    replace X7 : v.drew.heap[b7]? = some (.cells #[.int .i64 Y1, .int .i64 Y2] 46) := X7
    replace BW := BW.drew
    generalize v.drew = V at x1 x2 x3 X7 BW ⊢
    have f0 := cell_block x1 0
    have f1 := cell_block x1 1
    have f2 := cell_block x2 0
    have f3 := cell_block x2 1
    have f4 := cell_block x3 0
    have f5 := cell_block x3 1
    have f6 := cell_block X7 0
    have f7 := cell_block X7 1
    have hlt := blk_lt x3
    have hk := Below.refl V.heap.size V
    go_wp2_with (first | ((with_reducible refine Calmly.is_fl ?_); refine Calmly.mix_fl rfl ?_ (fun _ _ => ?_); (first | exact .move _ | exact .load _ _ | exact .fieldAddr _ _ _ (by kernel_rfl) | exact .assign _ | exact .binOp _ _ _ _ _ rfl | exact .indexAddr _ _ _ | exact .len _ _ (by kernel_rfl) | exact .field _ _ _ | exact .extract _ _ | exact .pick _ _ _ | exact .build _ _ | exact .slice _ _ _ _ _ | exact .unOp _ _ _ rfl | exact .index _ _ _ | exact .max _ _ _ rfl rfl | exact .min _ _ _ rfl rfl)) | ((with_reducible refine Calmly.is_gl ?_); refine Calmly.mix_gl rfl rfl rfl ?_; first | ((first | with_reducible refine Calmly.gl_tt ?_ (fun _ _ => ?_) | with_reducible refine Calmly.gl_ff ?_ (fun _ _ => ?_)); (first | exact .move _ | exact .load _ _ | exact .fieldAddr _ _ _ (by kernel_rfl) | exact .assign _ | exact .binOp _ _ _ _ _ rfl | exact .indexAddr _ _ _ | exact .len _ _ (by kernel_rfl) | exact .field _ _ _ | exact .extract _ _ | exact .pick _ _ _ | exact .build _ _ | exact .slice _ _ _ _ _ | exact .unOp _ _ _ rfl | exact .index _ _ _ | exact .max _ _ _ rfl rfl | exact .min _ _ _ rfl rfl)) | with_reducible refine Calmly.gl_tf (fun _ _ => ?_) | with_reducible refine Calmly.gl_ft (fun _ _ => ?_)) | ((with_reducible refine Calmly.is_eff ?_); refine Calmly.mix_eff rfl (fun _ _ => ?_)) | ((with_reducible refine Calmly.is_gf ?_); refine Calmly.mix_gf rfl rfl rfl ?_; first | with_reducible refine Calmly.gf_tt (fun _ _ => ?_) | with_reducible refine Calmly.gf_ff (fun _ _ => ?_) | with_reducible refine Calmly.gf_tf (kept_of hk) (fun _ _ => ?_) | with_reducible refine Calmly.gf_ft (kept_of hk) (fun _ _ => ?_)) | ((with_reducible refine Calmly.is_tail ?_); first | refine Calmly.mix_tail_nil ?_ | refine Calmly.mix_tail rfl (fun _ _ => ?_)) | ((with_reducible refine Calmly.is_kept ?_); refine ⟨kept_of hk, ?_⟩) | (with_reducible refine Calmly.mix_alt ?_ ?_) | (go_at_call 18; (refine (Copy_any a b n c m d ms ks _ ((h1.keep BW).keep hk) ((h2.keep BW).keep hk) (by omega) (by omega)).mono ?_; rintro e w7 ⟨a1, c1', b1, d1', BB, rfl, oA1, oB1, hB, hgB, hs⟩; replace hk := step_of hk hs; replace oA1 := oA1.si; replace oB1 := oB1.si; clear hgB hs hB)) | (go_at_call 26; (refine (CopyAfter_any sa sn sc sq den _ ((h3.keep BW).keep hk) (by omega)).mono ?_; rintro e w8 ⟨a2, c2', rfl, oC1, hs⟩; replace hk := step_of hk hs; replace oA1 := oA1.keep hs; replace oB1 := oB1.keep hs; clear hs)) | (go_at_call 27; (refine (HI.out _ _ _ _ _ _ _ oA1 oB1 oC1).mono ?_; rintro e w9 ⟨rfl, hs⟩; replace hk := step_of hk hs; clear hs oA1 oB1 oC1; have z1 := blk_keep x1 hk; have j0 := cell_block z1 0; have j1 := cell_block z1 1)))
    replace BW := BW.trans (hk.mono BW.size)
    replace x1 := blk_keep x1 hk
    replace x2 := blk_keep x2 hk
    replace x3 := blk_keep x3 hk
    replace X7 := blk_keep X7 hk
    clear f0 f1 f2 f3 f4 f5 f6 f7 hlt
    clear hk z1 j0 j1
    refine (FrameErr_any a b n c m d ms ks _ (h1.keep BW) (h2.keep BW)).mono ?_
    rintro e v1 ⟨rfl, hs⟩
    rw [HC.out]
    replace BW := BW.trans (hs.mono BW.size)
    replace x1 := blk_keep x1 hs
    replace x2 := blk_keep x2 hs
    replace x3 := blk_keep x3 hs
    replace X7 := blk_keep X7 hs
    clear hs
    have f0 := cell_block x1 0
    have f1 := cell_block x1 1
    have f2 := cell_block x2 0
    have f3 := cell_block x2 1
    have f4 := cell_block x3 0
    have f5 := cell_block x3 1
    have f6 := cell_block X7 0
    have f7 := cell_block X7 1
    have hlt := blk_lt x3
    have hER := HE.out
    rw [afterE_ref, HC.out] at hER
    by_cases hz : C = 0
    case neg =>
      rw [if_neg hz] at hER
      subst hER
      obtain ⟨rfl, rfl, rfl⟩ := HY0.out hz
      obtain ⟨rfl, rfl⟩ := HI0.out hz
      have hz1 : (G == 0) = false := by simpa using hz
      have hz2 : (G != 0) = true := by simpa using hz
      clear hz
      go_wp2_with fail
      all_goals first | (exfalso; omega) | skip
      all_goals
        go_ret
        exact ⟨rfl, BW⟩
    subst hz
    rw [if_pos rfl] at hER
    have HER := Lib.hid hER
    clear hER
    go_wp2_with fail
    refine (rAfterErr_any a b sa n c m d sn sc ms sq den _ (h1.keep BW) (h3.keep BW)).mono ?_
    rintro e v2 ⟨rfl, hs⟩
    rw [HER.out]
    replace BW := BW.trans (hs.mono BW.size)
    replace x1 := blk_keep x1 hs
    replace x2 := blk_keep x2 hs
    replace x3 := blk_keep x3 hs
    replace X7 := blk_keep X7 hs
    clear hs
    clear f0 f1 f2 f3 f4 f5 f6 f7 hlt
    have f0 := cell_block x1 0
    have f1 := cell_block x1 1
    have f2 := cell_block x2 0
    have f3 := cell_block x2 1
    have f4 := cell_block x3 0
    have f5 := cell_block x3 1
    have f6 := cell_block X7 0
    have f7 := cell_block X7 1
    have hlt := blk_lt x3
    by_cases hz : E = 0
    case neg =>
      obtain ⟨rfl, rfl, rfl⟩ := HY0.out hz
      obtain ⟨rfl, rfl⟩ := HI0.out hz
      have hz2 : (G != 0) = true := by simpa using hz
      clear hz
      go_wp2_with fail
      all_goals first | (exfalso; omega) | skip
      all_goals
        go_ret
        exact ⟨rfl, BW⟩
    subst hz
    obtain ⟨q1, q2, q3, q4, q5⟩ := after_ok HE.out
    have hf := fr_of q1
    obtain rfl : n = m := by have := hf.len; omega
    obtain rfl : sn = n := by omega
    have HO := Lib.hid (afR_ok q5)
    obtain ⟨r3, hx, rfl⟩ := HY1.out rfl
    have hx2 : rTo ms ks den sq ms.length = ((Y1, Y2), r3) := by rw [rTo_ex ms ks den sq (fun j => (hf.k0 j).1)]; exact hx
    have hnone : Hid (r3 = false → Y1 = 0 ∧ Y2 = 0) := Lib.hid (fun h => by
      have h2 := exTo_none ms ks den sq ms.length (by show (exF ms ks den sq).2 = false; rw [hx]; exact h)
      have h3 : exF ms ks den sq = ((0, 0), false) := h2
      rw [hx] at h3
      cases h3
      exact ⟨rfl, rfl⟩)
    have HX2 := Lib.hid hx2
    clear hx hx2 q4 q5
    go_wp2_with fail
    refine (rExplained_any a b sa sn c d sc ms ks sq den _ (h1.keep BW) (h2.keep BW) (h3.keep BW) q1 q2 q3 HO.out Y1 Y2 r3 HX2.out).mono ?_
    rintro e v3 ⟨rfl, hs⟩
    replace BW := BW.trans (hs.mono BW.size)
    replace x1 := blk_keep x1 hs
    replace x2 := blk_keep x2 hs
    replace x3 := blk_keep x3 hs
    replace X7 := blk_keep X7 hs
    clear hs
    clear f0 f1 f2 f3 f4 f5 f6 f7 hlt
    have hs := hA v3 (.cells #[.int .i64 Y1, .int .i64 Y2] 46)
    have X12 := alloc_new v3 (.cells #[.int .i64 Y1, .int .i64 Y2] 46)
    replace BW := BW.trans (hs.mono BW.size)
    replace x1 := blk_keep x1 hs
    replace x2 := blk_keep x2 hs
    replace x3 := blk_keep x3 hs
    replace X7 := blk_keep X7 hs
    clear hs
    have f0 := cell_block x1 0
    have f1 := cell_block x1 1
    have f2 := cell_block x2 0
    have f3 := cell_block x2 1
    have f4 := cell_block x3 0
    have f5 := cell_block x3 1
    have f6 := cell_block X7 0
    have f7 := cell_block X7 1
    have hlt := blk_lt x3
    have f8 := cell_block X12 0
    have f9 := cell_block X12 1
    obtain ⟨E2, hE2⟩ : ∃ v, damageE ks st left = v := ⟨_, rfl⟩
    have HE2 := Lib.hid hE2
    clear hE2
    cases r3
    case' false =>
      obtain ⟨rfl, rfl⟩ := hnone.out rfl
    all_goals
      go_wp2_with fail
      refine (DamageErr_any a b sn c sn d ms ks st left _ (h1.keep BW) (h2.keep BW) E2 HE2.out).mono ?_
      rintro e v4 ⟨rfl, hs⟩
      replace BW := BW.trans (hs.mono BW.size)
      replace x1 := blk_keep x1 hs
      replace x2 := blk_keep x2 hs
      replace x3 := blk_keep x3 hs
      replace X7 := blk_keep X7 hs
      clear hs
      clear f0 f1 f2 f3 f4 f5 f6 f7 hlt
      have f0 := cell_block x1 0
      have f1 := cell_block x1 1
      have f2 := cell_block x2 0
      have f3 := cell_block x2 1
      have f4 := cell_block x3 0
      have f5 := cell_block x3 1
      have f6 := cell_block X7 0
      have f7 := cell_block X7 1
      have hlt := blk_lt x3
      by_cases hz : E2 = 0
      case neg =>
        obtain ⟨rfl, rfl⟩ := HI1.out (by trivial) (by rw [HE2.out]; exact hz)
        rw [HE2.out]
        have hz2 : (E2 != 0) = true := by simpa using hz
        clear hz
        go_wp2_with fail
        all_goals first | (exfalso; omega) | skip
        all_goals
          go_ret
          exact ⟨rfl, BW⟩
      subst hz
      obtain ⟨o2, ho, rfl⟩ := HI2.out (by trivial) HE2.out
      obtain ⟨u1, u2, u3, u4⟩ := damageE_ok HE2.out
      obtain ⟨s, rfl⟩ : ∃ s : Nat, st = s := ⟨st.toNat, by omega⟩
      rw [Int.toNat_natCast] at ho u4
      have hkb := hf.k s (by omega)
      have hcs := checkF_set q1 s left (by omega) (by omega)
      have hfe := failF_eq ho
      have hon := oddF_nonneg ms (ks.set s left) den 0 sq
      have hoz := oddF_zero ms (ks.set s left) den 0 sq
      rw [ho] at hon hoz
      dsimp only at hfe hon hoz
      have HFE := Lib.hid hfe
      have HCS := Lib.hid hcs
      have HOZ := Lib.hid hoz
      clear ho hfe hcs hoz
      go_wp2_with fail
      refine Calmly.wp_region_mix 5 (.fl 0 <| .fl 1 <| .fl 3 <| .eff 2 <| .eff 4 <| .tail [5]) (by kernel_rfl) (by kernel_rfl) ?_
      replace x1 : v4.drew.heap[w.heap.size]? = some (.cells #[.slice a sn c, .slice b sn d] 24) := x1
      replace x2 : v4.drew.heap[w.heap.size + 1]? = some (.cells #[.int .i64 den, .slice sa sn sc] 44) := x2
      replace x3 : v4.drew.heap[w.heap.size + 1 + 1]? = some (.cells #[.int .i64 (s : Int), .int .i64 left] 46) := x3
      replace BW := BW.drew
      clear f0 f1 f2 f3 f4 f5 f6 f7 f8 f9 hlt X7 X12
      generalize v4.drew = V4 at x1 x2 x3 BW ⊢
      have f0 := cell_block x1 0
      have f1 := cell_block x1 1
      have f2 := cell_block x2 0
      have f3 := cell_block x2 1
      have f4 := cell_block x3 0
      have f5 := cell_block x3 1
      have hk := Below.refl V4.heap.size V4
      cases o2
      case' true =>
        have hfa : failF ms (ks.set s left) den sq = I := by rw [HFE.out, if_pos rfl]
        have HFA := Lib.hid hfa
        clear hfa HFE HOZ
        simp only [show unlessE (!true) 19 = 19 from rfl]
      case' false =>
        have hfa : failF ms (ks.set s left) den sq = -1 := by rw [HFE.out, if_neg (by simp)]
        have HFA := Lib.hid hfa
        obtain rfl : I = 0 := HOZ.out rfl
        clear hfa HFE hon HOZ
        simp only [show unlessE (!false) 19 = 0 from rfl]
      all_goals
        go_wp2_with (first | ((with_reducible refine Calmly.is_fl ?_); refine Calmly.mix_fl rfl ?_ (fun _ _ => ?_); (first | exact .move _ | exact .load _ _ | exact .fieldAddr _ _ _ (by kernel_rfl) | exact .assign _ | exact .binOp _ _ _ _ _ rfl | exact .indexAddr _ _ _ | exact .len _ _ (by kernel_rfl) | exact .field _ _ _ | exact .extract _ _ | exact .pick _ _ _ | exact .build _ _ | exact .slice _ _ _ _ _ | exact .unOp _ _ _ rfl | exact .index _ _ _ | exact .max _ _ _ rfl rfl | exact .min _ _ _ rfl rfl)) | ((with_reducible refine Calmly.is_gl ?_); refine Calmly.mix_gl rfl rfl rfl ?_; first | ((first | with_reducible refine Calmly.gl_tt ?_ (fun _ _ => ?_) | with_reducible refine Calmly.gl_ff ?_ (fun _ _ => ?_)); (first | exact .move _ | exact .load _ _ | exact .fieldAddr _ _ _ (by kernel_rfl) | exact .assign _ | exact .binOp _ _ _ _ _ rfl | exact .indexAddr _ _ _ | exact .len _ _ (by kernel_rfl) | exact .field _ _ _ | exact .extract _ _ | exact .pick _ _ _ | exact .build _ _ | exact .slice _ _ _ _ _ | exact .unOp _ _ _ rfl | exact .index _ _ _ | exact .max _ _ _ rfl rfl | exact .min _ _ _ rfl rfl)) | with_reducible refine Calmly.gl_tf (fun _ _ => ?_) | with_reducible refine Calmly.gl_ft (fun _ _ => ?_)) | ((with_reducible refine Calmly.is_eff ?_); refine Calmly.mix_eff rfl (fun _ _ => ?_)) | ((with_reducible refine Calmly.is_gf ?_); refine Calmly.mix_gf rfl rfl rfl ?_; first | with_reducible refine Calmly.gf_tt (fun _ _ => ?_) | with_reducible refine Calmly.gf_ff (fun _ _ => ?_) | with_reducible refine Calmly.gf_tf (kept_of hk) (fun _ _ => ?_) | with_reducible refine Calmly.gf_ft (kept_of hk) (fun _ _ => ?_)) | ((with_reducible refine Calmly.is_tail ?_); first | refine Calmly.mix_tail_nil ?_ | refine Calmly.mix_tail rfl (fun _ _ => ?_)) | ((with_reducible refine Calmly.is_kept ?_); refine ⟨kept_of hk, ?_⟩) | (with_reducible refine Calmly.mix_alt ?_ ?_) | (go_at_call 33; refine (With_any a _ sn c sn d ms ks s left _ ((h1.keep BW).keep hk) ((h2.keep BW).keep hk) (by omega) (by omega) (by omega) (by omega)).mono ?_; rintro e v5 ⟨a5, c5', b5, d5', rfl, oA, oB, hs⟩; replace hk := step_of hk hs; clear hs) | (go_at_call 32; refine (rFailing_any _ _ _ sn _ _ sc ms (ks.set s left) sq den _ oA oB ((h3.keep BW).keep hk) HCS.out q2 q3 HO.out).mono ?_; rintro e v6 ⟨rfl, hs⟩; rw [HFA.out]; replace hk := step_of hk hs; clear hs oA oB))
        all_goals first | (exfalso; omega) | skip
        all_goals
          go_ret
          exact ⟨rfl, BW.trans (hk.mono BW.size)⟩
  have HK2 := Lib.hid HKK
  clear HKK hK'
  go_wp2_with (first | ((with_reducible refine Calmly.is_fl ?_); refine Calmly.mix_fl rfl ?_ (fun _ _ => ?_); (first | exact .move _ | exact .load _ _ | exact .fieldAddr _ _ _ (by kernel_rfl) | exact .assign _ | exact .binOp _ _ _ _ _ rfl | exact .indexAddr _ _ _ | exact .len _ _ (by kernel_rfl) | exact .field _ _ _ | exact .extract _ _ | exact .pick _ _ _ | exact .build _ _ | exact .slice _ _ _ _ _ | exact .unOp _ _ _ rfl | exact .index _ _ _ | exact .max _ _ _ rfl rfl | exact .min _ _ _ rfl rfl)) | ((with_reducible refine Calmly.is_gl ?_); refine Calmly.mix_gl rfl rfl rfl ?_; first | ((first | with_reducible refine Calmly.gl_tt ?_ (fun _ _ => ?_) | with_reducible refine Calmly.gl_ff ?_ (fun _ _ => ?_)); (first | exact .move _ | exact .load _ _ | exact .fieldAddr _ _ _ (by kernel_rfl) | exact .assign _ | exact .binOp _ _ _ _ _ rfl | exact .indexAddr _ _ _ | exact .len _ _ (by kernel_rfl) | exact .field _ _ _ | exact .extract _ _ | exact .pick _ _ _ | exact .build _ _ | exact .slice _ _ _ _ _ | exact .unOp _ _ _ rfl | exact .index _ _ _ | exact .max _ _ _ rfl rfl | exact .min _ _ _ rfl rfl)) | with_reducible refine Calmly.gl_tf (fun _ _ => ?_) | with_reducible refine Calmly.gl_ft (fun _ _ => ?_)) | ((with_reducible refine Calmly.is_eff ?_); refine Calmly.mix_eff rfl (fun _ _ => ?_)) | ((with_reducible refine Calmly.is_gf ?_); refine Calmly.mix_gf rfl rfl rfl ?_; first | with_reducible refine Calmly.gf_tt (fun _ _ => ?_) | with_reducible refine Calmly.gf_ff (fun _ _ => ?_) | with_reducible refine Calmly.gf_tf (kept_of hk) (fun _ _ => ?_) | with_reducible refine Calmly.gf_ft (kept_of hk) (fun _ _ => ?_)) | ((with_reducible refine Calmly.is_kept ?_); refine ⟨kept_of hk, ?_⟩) | (with_reducible refine Calmly.mix_alt ?_ ?_) | (go_at_call 18; (refine (Copy_any a b n c m d ms ks _ ((h1.keep BW).keep hk) ((h2.keep BW).keep hk) (by omega) (by omega)).mono ?_; rintro e w7 ⟨a1, c1', b1, d1', BB, rfl, oA1, oB1, hB, hgB, hs⟩; replace hk := step_of hk hs; (try replace pA := blk_keep pA hs); (try replace oA1 := oA1.si); (try replace oB1 := oB1.si); clear hgB hs hB)) | (go_at_call 26; (refine (CopyAfter_any sa sn sc sq den _ ((h3.keep BW).keep hk) (by omega)).mono ?_; rintro e w8 ⟨a2, c2', rfl, oC1, hs⟩; replace hk := step_of hk hs; (try replace pA := blk_keep pA hs); replace oA1 := oA1.keep hs; replace oB1 := oB1.keep hs; clear hs)) | (go_at_call 25; (refine (HY.out _ _ _ _ _ _ _ oA1 oB1 oC1).mono ?_; rintro e w9 ⟨rfl, hs⟩; replace hk := step_of hk hs; (try replace pA := blk_keep pA hs); clear hs oA1 oB1 oC1; (try have zA0 := cell_block pA 0); (try have zA1 := cell_block pA 1); (try have zA2 := frozen_block pA 0); (try have zA3 := frozen_block pA 1))) | (refine kept_setW hk hAge pA (fun hk' h1' => ?_); replace hk := hk'; replace pA := h1'; clear hk' h1' zA0 zA1 zA2 zA3; generalize World.setCell (World.setCell _ _ _) _ _ = W' at hk pA ⊢) | (have hAge := hk.size; refine kept_allocB hk (fun hs hk' hblk => ?_); (try replace oA1 := oA1.keep hs); (try replace oB1 := oB1.keep hs); (try replace oC1 := oC1.keep hs); (first | generalize World.alloc _ _ = W' at hs hk' hblk oA1 oB1 oC1 ⊢ | generalize World.alloc _ _ = W' at hs hk' hblk oA1 oB1 ⊢ | generalize World.alloc _ _ = W' at hs hk' hblk ⊢); replace hk := hk'; clear hk'; have pA := hblk; clear hs hblk; have zA0 := cell_block pA 0; have zA1 := cell_block pA 1; have zA2 := frozen_block pA 0; have zA3 := frozen_block pA 1))
  go_wp2_with (first | ((with_reducible refine Calmly.is_fl ?_); refine Calmly.mix_fl rfl ?_ (fun _ _ => ?_); (first | exact .move _ | exact .load _ _ | exact .fieldAddr _ _ _ (by kernel_rfl) | exact .assign _ | exact .binOp _ _ _ _ _ rfl | exact .indexAddr _ _ _ | exact .len _ _ (by kernel_rfl) | exact .field _ _ _ | exact .extract _ _ | exact .pick _ _ _ | exact .build _ _ | exact .slice _ _ _ _ _ | exact .unOp _ _ _ rfl | exact .index _ _ _ | exact .max _ _ _ rfl rfl | exact .min _ _ _ rfl rfl)) | ((with_reducible refine Calmly.is_gl ?_); refine Calmly.mix_gl rfl rfl rfl ?_; first | ((first | with_reducible refine Calmly.gl_tt ?_ (fun _ _ => ?_) | with_reducible refine Calmly.gl_ff ?_ (fun _ _ => ?_)); (first | exact .move _ | exact .load _ _ | exact .fieldAddr _ _ _ (by kernel_rfl) | exact .assign _ | exact .binOp _ _ _ _ _ rfl | exact .indexAddr _ _ _ | exact .len _ _ (by kernel_rfl) | exact .field _ _ _ | exact .extract _ _ | exact .pick _ _ _ | exact .build _ _ | exact .slice _ _ _ _ _ | exact .unOp _ _ _ rfl | exact .index _ _ _ | exact .max _ _ _ rfl rfl | exact .min _ _ _ rfl rfl)) | with_reducible refine Calmly.gl_tf (fun _ _ => ?_) | with_reducible refine Calmly.gl_ft (fun _ _ => ?_)) | ((with_reducible refine Calmly.is_eff ?_); refine Calmly.mix_eff rfl (fun _ _ => ?_)) | ((with_reducible refine Calmly.is_gf ?_); refine Calmly.mix_gf rfl rfl rfl ?_; first | with_reducible refine Calmly.gf_tt (fun _ _ => ?_) | with_reducible refine Calmly.gf_ff (fun _ _ => ?_) | with_reducible refine Calmly.gf_tf (kept_of hk) (fun _ _ => ?_) | with_reducible refine Calmly.gf_ft (kept_of hk) (fun _ _ => ?_)) | ((with_reducible refine Calmly.is_tail ?_); first | refine Calmly.mix_tail_nil ?_ | refine Calmly.mix_tail rfl (fun _ _ => ?_)) | ((with_reducible refine Calmly.is_kept ?_); refine ⟨kept_of hk, ?_⟩) | (with_reducible refine Calmly.mix_alt ?_ ?_))
  all_goals first
    | exact HK2.out _ _ _ _ _ _ _ _ _ _ _ _ _ _ _ _ _ _ _ _ _ _ _ _ _ _ _ hAge hk pA
    | exact HK2.out _ _ _ _ _ _ _ _ _ _ _ _ _ _ _ _ _ _ _ _ _ _ _ _ _ _ _ hAge (below2 hk hAge) (blkSet (blkSet pA 0 _) 1 _)
end Go.Proofs.Ytmaidjankakppaa
