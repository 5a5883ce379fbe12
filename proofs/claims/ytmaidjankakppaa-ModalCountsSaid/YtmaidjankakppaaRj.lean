/- The law ModalCounts, walked. -/
import Derived.Test.YtmaidjankakppaaRi
import Derived.Test.YtmaidjankakppaaAw
namespace Go.Proofs.Ytmaidjankakppaa
open Go.RowKit
open Calmly (Kept)

theorem kept_setU {W w : World} {b : Nat} {x y u0 u1 : Value} {t : TypeId} {G : Prop} (h : Below W.heap.size W w) (hb : W.heap.size ≤ b) (p : w.heap[b]? = some (.cells #[u0, u1] t))
    (k : Below W.heap.size W ((w.setCell ⟨b, 0, none⟩ x).setCell ⟨b, 1, none⟩ y) → ((w.setCell ⟨b, 0, none⟩ x).setCell ⟨b, 1, none⟩ y).heap[b]? = some (.cells #[x, y] t) → G) :
    Kept W ((w.setCell ⟨b, 0, none⟩ x).setCell ⟨b, 1, none⟩ y) ∧ G := by
  have h2 := (h.setCell (p := ⟨b, 0, none⟩) hb x).setCell (p := ⟨b, 1, none⟩) hb y
  exact ⟨kept_of h2, k h2 (blkSet (blkSet p 0 _) 1 _)⟩

set_option maxRecDepth 100000 in
set_option maxHeartbeats 8000000 in
theorem ModalCounts_walk (a b : Option Addr) (n c m d : Nat) (ms ks : List Int) (x y p q : Int) (w : World) (h1 : SI w a n c ms) (h2 : SI w b m d ks) (hx1 : -9223372036854775808 ≤ x) (hx2 : x ≤ 9223372036854775807) (hy2 : y ≤ 9223372036854775807) :
    Calls Try.prog 6 #[.agg #[.slice a n c, .slice b m d], .agg #[.int .i64 x, .int .i64 y], .agg #[.int .i64 p, .int .i64 q]] w fun e w' => e = .returned (.bool true) ∧ Below w.heap.size w w' := by
  have m1 := h1.max
  have c1 := h1.cap
  have m2 := h2.max
  have c2 := h2.cap
  have hA : ∀ (A : World) (o : Obj), Below A.heap.size A (A.alloc o) := fun A o => (Below.refl _ _).alloc (Nat.le_refl _) _
  have hb3 : Below w.heap.size w (((w.alloc (.cells #[.slice a n c, .slice b m d] 24)).alloc (.cells #[.int .i64 x, .int .i64 y] 34)).alloc (.cells #[.int .i64 p, .int .i64 q] 58)) := (((Below.refl _ _).alloc (Nat.le_refl _) _).alloc (by simp) _).alloc (by simp; omega) _
  go_enter Try.func6, Try.ntmps6
  go_wp2_with fail
  refine (awake_any _).mono ?_
  rintro e w1 ⟨rfl, hb1⟩
  obtain ⟨x1, x2, x3⟩ := box3 (w := w) (o := .cells #[.slice a n c, .slice b m d] 24) (o' := .cells #[.int .i64 x, .int .i64 y] 34) (o'' := .cells #[.int .i64 p, .int .i64 q] 58) hb1
  have B1 := hb3.trans (hb1.mono hb3.size)
  have f0 : w1.cell? ⟨w.heap.size, 0, none⟩ = some (.slice a n c) := cell_block x1 0
  have f1 : w1.cell? ⟨w.heap.size, 1, none⟩ = some (.slice b m d) := cell_block x1 1
  clear hb1 hb3
  go_wp2_with fail
  refine (few_any a b n c m d _ (by omega) (by omega)).mono ?_
  rintro e w2 ⟨rfl, hb2⟩
  have B2 := B1.trans (hb2.mono B1.size)
  replace x1 := blk_keep x1 hb2
  replace x2 := blk_keep x2 hb2
  replace x3 := blk_keep x3 hb2
  clear hb2 B1 f0 f1
  obtain ⟨Q, hQ⟩ : ∃ Q, (decide (n ≤ 6) && decide (m ≤ 6)) = Q := ⟨_, rfl⟩
  rw [hQ]
  have HQ := Lib.hid hQ
  clear hQ
  cases Q
  case false =>
    go_wp2_with fail
    go_ret
    exact ⟨rfl, B2⟩
  have hnm : n ≤ 6 ∧ m ≤ 6 := by
    have := HQ.out
    simpa using this
  clear HQ
  have f0 := cell_block x1 0
  have f1 := cell_block x1 1
  have f2 := cell_block x2 0
  have f3 := cell_block x2 1
  have f4 := cell_block x3 0
  have f5 := cell_block x3 1
  have s3 := blk_lt x3
  obtain ⟨C, hC⟩ : ∃ C, (checkF ms ks).2 = C := ⟨_, rfl⟩
  obtain ⟨D, hD⟩ : ∃ D, squareE x y = D := ⟨_, rfl⟩
  obtain ⟨E, hE⟩ : ∃ E, (if (checkF ms ks).2 = 0 then squareE x y else (checkF ms ks).2) = E := ⟨_, rfl⟩
  obtain ⟨R, hR, hR0⟩ : ∃ R, (E = 0 → belowF ms ks x y = R) ∧ (E ≠ 0 → R = 0) := by
    by_cases h : E = 0
    · exact ⟨_, fun _ => rfl, fun h' => absurd h h'⟩
    · exact ⟨0, fun h' => absurd h' h, fun _ => rfl⟩
  obtain ⟨M, hM, hM0⟩ : ∃ M, (E = 0 → modeF ms ks x y = M) ∧ (E ≠ 0 → M = false) := by
    by_cases h : E = 0
    · exact ⟨_, fun _ => rfl, fun h' => absurd h h'⟩
    · exact ⟨false, fun h' => absurd h' h, fun _ => rfl⟩
  obtain ⟨F, lo, hi, hF, hF1, hF0⟩ : ∃ F lo hi, encErr ms ks p q = F ∧ (F = 0 → encF ms ks p q = (lo, hi)) ∧ (F ≠ 0 → lo = 0 ∧ hi = 0) := by
    by_cases h : encErr ms ks p q = 0
    · exact ⟨_, _, _, rfl, fun _ => rfl, fun h' => absurd h h'⟩
    · exact ⟨_, 0, 0, rfl, fun h' => absurd h' h, fun _ => ⟨rfl, rfl⟩⟩
  have HC := Lib.hid hC
  have HD := Lib.hid hD
  have HE := Lib.hid hE
  have HR := Lib.hid hR
  have HR0 := Lib.hid hR0
  have HM := Lib.hid hM
  have HM0 := Lib.hid hM0
  have HF := Lib.hid hF
  have HF1 := Lib.hid hF1
  have HF0 := Lib.hid hF0
  clear hC hD hE hR hR0 hM hM0 hF hF1 hF0
  go_wp2_with fail
  refine Calmly.wp_region_mix 8 (.fl 0 <| .fl 2 <| .eff 1 <| .eff 3 <| .fl 4 <| .fl 5 <| .fl 6 <| .fl 7 <| .tail [8]) (by kernel_rfl) (by kernel_rfl) ?_
  have hk := Below.refl w2.drew.heap.size w2.drew
  go_wp2_with (first | ((with_reducible refine Calmly.is_fl ?_); refine Calmly.mix_fl rfl ?_ (fun _ _ => ?_); (first | exact .move _ | exact .load _ _ | exact .fieldAddr _ _ _ (by kernel_rfl) | exact .assign _ | exact .binOp _ _ _ _ _ rfl | exact .indexAddr _ _ _ | exact .len _ _ (by kernel_rfl) | exact .field _ _ _ | exact .extract _ _ | exact .pick _ _ _ | exact .build _ _ | exact .slice _ _ _ _ _ | exact .unOp _ _ _ rfl | exact .index _ _ _ | exact .max _ _ _ rfl rfl | exact .min _ _ _ rfl rfl)) | ((with_reducible refine Calmly.is_gl ?_); refine Calmly.mix_gl rfl rfl rfl ?_; first | ((first | with_reducible refine Calmly.gl_tt ?_ (fun _ _ => ?_) | with_reducible refine Calmly.gl_ff ?_ (fun _ _ => ?_)); (first | exact .move _ | exact .load _ _ | exact .fieldAddr _ _ _ (by kernel_rfl) | exact .assign _ | exact .binOp _ _ _ _ _ rfl | exact .indexAddr _ _ _ | exact .len _ _ (by kernel_rfl) | exact .field _ _ _ | exact .extract _ _ | exact .pick _ _ _ | exact .build _ _ | exact .slice _ _ _ _ _ | exact .unOp _ _ _ rfl | exact .index _ _ _ | exact .max _ _ _ rfl rfl | exact .min _ _ _ rfl rfl)) | with_reducible refine Calmly.gl_tf (fun _ _ => ?_) | with_reducible refine Calmly.gl_ft (fun _ _ => ?_)) | ((with_reducible refine Calmly.is_eff ?_); refine Calmly.mix_eff rfl (fun _ _ => ?_)) | ((with_reducible refine Calmly.is_gf ?_); refine Calmly.mix_gf rfl rfl rfl ?_; first | with_reducible refine Calmly.gf_tt (fun _ _ => ?_) | with_reducible refine Calmly.gf_ff (fun _ _ => ?_) | with_reducible refine Calmly.gf_tf (kept_of hk) (fun _ _ => ?_) | with_reducible refine Calmly.gf_ft (kept_of hk) (fun _ _ => ?_)) | ((with_reducible refine Calmly.is_tail ?_); first | refine Calmly.mix_tail_nil ?_ | refine Calmly.mix_tail rfl (fun _ _ => ?_)) | ((with_reducible refine Calmly.is_kept ?_); refine ⟨kept_of hk, ?_⟩) | (with_reducible refine Calmly.mix_alt ?_ ?_) | (go_at_call 18; refine (Copy_any a b n c m d ms ks _ ((h1.keep B2.drew).keep hk) ((h2.keep B2.drew).keep hk) (by omega) (by omega)).mono ?_; rintro e w' ⟨a1, c1', b1, d1', BB, rfl, oA1, oB1, hB, hgB, hs⟩; replace hk := step_of hk hs; clear hgB hs) | (go_at_call 36; refine (CountBelow_any _ _ n _ m _ ms ks x y _ oA1.si oB1.si hx1 hx2 hy2 E R HE.out HR.out HR0.out).mono ?_; rintro e w' ⟨rfl, hs⟩; replace hk := step_of hk hs; clear hs oA1 oB1))
  have B3 := B2.drew.trans (hk.mono B2.drew.size)
  replace x1 := blk_keep (show w2.drew.heap[w.heap.size]? = _ from x1) hk
  replace x2 := blk_keep (show w2.drew.heap[w.heap.size + 1]? = _ from x2) hk
  replace x3 := blk_keep (show w2.drew.heap[w.heap.size + 1 + 1]? = _ from x3) hk
  clear hk B2 f0 f1 f2 f3 f4 f5 s3
  have f0 := cell_block x1 0
  have f1 := cell_block x1 1
  have f2 := cell_block x2 0
  have f3 := cell_block x2 1
  go_wp2_with fail
  refine Calmly.wp_region_mix 8 (.fl 0 <| .fl 2 <| .eff 1 <| .eff 3 <| .fl 4 <| .fl 5 <| .fl 6 <| .fl 7 <| .tail [8]) (by kernel_rfl) (by kernel_rfl) ?_
  have hk := Below.refl w'.drew.heap.size w'.drew
  go_wp2_with (first | ((with_reducible refine Calmly.is_fl ?_); refine Calmly.mix_fl rfl ?_ (fun _ _ => ?_); (first | exact .move _ | exact .load _ _ | exact .fieldAddr _ _ _ (by kernel_rfl) | exact .assign _ | exact .binOp _ _ _ _ _ rfl | exact .indexAddr _ _ _ | exact .len _ _ (by kernel_rfl) | exact .field _ _ _ | exact .extract _ _ | exact .pick _ _ _ | exact .build _ _ | exact .slice _ _ _ _ _ | exact .unOp _ _ _ rfl | exact .index _ _ _ | exact .max _ _ _ rfl rfl | exact .min _ _ _ rfl rfl)) | ((with_reducible refine Calmly.is_gl ?_); refine Calmly.mix_gl rfl rfl rfl ?_; first | ((first | with_reducible refine Calmly.gl_tt ?_ (fun _ _ => ?_) | with_reducible refine Calmly.gl_ff ?_ (fun _ _ => ?_)); (first | exact .move _ | exact .load _ _ | exact .fieldAddr _ _ _ (by kernel_rfl) | exact .assign _ | exact .binOp _ _ _ _ _ rfl | exact .indexAddr _ _ _ | exact .len _ _ (by kernel_rfl) | exact .field _ _ _ | exact .extract _ _ | exact .pick _ _ _ | exact .build _ _ | exact .slice _ _ _ _ _ | exact .unOp _ _ _ rfl | exact .index _ _ _ | exact .max _ _ _ rfl rfl | exact .min _ _ _ rfl rfl)) | with_reducible refine Calmly.gl_tf (fun _ _ => ?_) | with_reducible refine Calmly.gl_ft (fun _ _ => ?_)) | ((with_reducible refine Calmly.is_eff ?_); refine Calmly.mix_eff rfl (fun _ _ => ?_)) | ((with_reducible refine Calmly.is_gf ?_); refine Calmly.mix_gf rfl rfl rfl ?_; first | with_reducible refine Calmly.gf_tt (fun _ _ => ?_) | with_reducible refine Calmly.gf_ff (fun _ _ => ?_) | with_reducible refine Calmly.gf_tf (kept_of hk) (fun _ _ => ?_) | with_reducible refine Calmly.gf_ft (kept_of hk) (fun _ _ => ?_)) | ((with_reducible refine Calmly.is_tail ?_); first | refine Calmly.mix_tail_nil ?_ | refine Calmly.mix_tail rfl (fun _ _ => ?_)) | ((with_reducible refine Calmly.is_kept ?_); refine ⟨kept_of hk, ?_⟩) | (with_reducible refine Calmly.mix_alt ?_ ?_) | (go_at_call 18; refine (Copy_any a b n c m d ms ks _ ((h1.keep B3.drew).keep hk) ((h2.keep B3.drew).keep hk) (by omega) (by omega)).mono ?_; rintro e w5 ⟨a1, c1', b1, d1', BB, rfl, oA1, oB1, hB, hgB, hs⟩; replace hk := step_of hk hs; clear hgB hs) | (go_at_call 38; refine (IsMode_any _ _ n _ m _ ms ks x y _ oA1.si oB1.si hx1 hx2 hy2 E M HE.out HM.out HM0.out).mono ?_; rintro e w6 ⟨rfl, hs⟩; replace hk := step_of hk hs; clear hs oA1 oB1))
  have B4 := B3.drew.trans (hk.mono B3.drew.size)
  replace x1 := blk_keep (show w'.drew.heap[w.heap.size]? = _ from x1) hk
  replace x2 := blk_keep (show w'.drew.heap[w.heap.size + 1]? = _ from x2) hk
  replace x3 := blk_keep (show w'.drew.heap[w.heap.size + 1 + 1]? = _ from x3) hk
  clear hk B3 f0 f1 f2 f3
  have f0 := cell_block x1 0
  have f1 := cell_block x1 1
  have f4 := cell_block x3 0
  have f5 := cell_block x3 1
  go_wp2_with fail
  refine Calmly.wp_region_mix 12 (.fl 0 <| .fl 2 <| .fl 3 <| .fl 4 <| .fl 5 <| .alt 1 (.alt 6 (.fl 7 <| .fl 8 <| .fl 9 <| .eff 10 <| .eff 11 <| .tail [12]) (.eff 10 (.eff 6 <| .fl 7 <| .fl 8 <| .fl 9 <| .eff 11 <| .tail [12]))) (.eff 10 (.eff 1 <| .eff 6 <| .fl 7 <| .fl 8 <| .fl 9 <| .eff 11 <| .tail [12]))) (by kernel_rfl) (by kernel_rfl) ?_
  rename_i K hK
  have hK' := fun a w (h : Stop _) => hK a w h.out
  clear hK
  replace x1 : w6.drew.heap[w.heap.size]? = some (.cells #[.slice a n c, .slice b m d] 24) := x1
  replace x2 : w6.drew.heap[w.heap.size + 1]? = some (.cells #[.int .i64 x, .int .i64 y] 34) := x2
  replace x3 : w6.drew.heap[w.heap.size + 1 + 1]? = some (.cells #[.int .i64 p, .int .i64 q] 58) := x3
  replace B4 := B4.drew
  clear f0 f1 f4 f5
  generalize w6.drew = U at x1 x2 x3 B4 ⊢
  have f0 := cell_block x1 0
  have f1 := cell_block x1 1
  have f4 := cell_block x3 0
  have f5 := cell_block x3 1
  have hk := Below.refl U.heap.size U
  have HKK : ∀ (b11 : Nat) (y16 y17 y18 y19 y20 y21 y22 y23 y24 y25 y26 y27 y28 y29 y30 y31 y32 y33 y34 y35 y36 y37 y38 y39 y40 y41 y42 y43 y44 : Value) (v : World), U.heap.size ≤ b11 → Below U.heap.size U v → v.heap[b11]? = some (.cells #[.int .i64 lo, .int .i64 hi] 63) → K { tmps := #[Value.agg #[Value.slice a n c, Value.slice b m d], Value.agg #[Value.int IntKind.i64 x, Value.int IntKind.i64 y], Value.agg #[Value.int IntKind.i64 p, Value.int IntKind.i64 q], Value.pointer (some ⟨w.heap.size, 0, none⟩), Value.pointer (some ⟨w.heap.size + 1, 0, none⟩), Value.pointer (some ⟨w.heap.size + 1 + 1, 0, none⟩), Value.bool false, Value.int IntKind.i64 R, Value.int IntKind.i64 E, Value.bool M, Value.int IntKind.i64 E, Value.pointer (some ⟨b11, 0, none⟩), Value.int IntKind.i64 F, undef, undef, undef, y16, y17, y18, y19, y20, y21, y22, y23, y24, y25, y26, y27, y28, y29, y30, y31, y32, y33, y34, y35, y36, y37, y38, y39, y40, y41, y42, y43, y44, undef, undef, undef, undef, undef, undef, undef, undef, undef, undef, undef, undef, undef, undef, undef, undef, undef, undef, undef, undef, undef, undef, undef, undef, undef, undef, undef, undef, undef, undef, undef, undef, undef, undef, undef, undef, undef, undef, undef, undef, undef, undef, undef, undef, undef, undef, undef, undef, undef, undef, undef, undef, undef, undef, undef, undef, undef, undef, undef, undef, undef, undef, undef, undef, undef, undef, undef, undef, undef, undef, undef, undef, undef, undef, undef, undef, undef, undef, undef, undef, undef, undef, undef, undef], defers := [] } v := by
    intro b11 y16 y17 y18 y19 y20 y21 y22 y23 y24 y25 y26 y27 y28 y29 y30 y31 y32 y33 y34 y35 y36 y37 y38 y39 y40 y41 y42 y43 y44 v hb11 hv X11
    refine hK' _ _ ⟨?_⟩
    clear hK' K f0 f1 f4 f5 hk
    have X1 := blk_keep x1 hv
    have X2 := blk_keep x2 hv
    have X3 := blk_keep x3 hv
    have BW := B4.trans (hv.mono B4.size)
    have HE' : Hid ((if C = 0 then D else C) = E) := by have := HE.out; rw [HC.out, HD.out] at this; exact Lib.hid this
    clear x1 x2 x3 B4 hv hb11
    have f0 := cell_block X1 0
    have f1 := cell_block X1 1
    go_wp2_with fail
    refine (FrameErr_any a b n c m d ms ks _ (h1.keep BW) (h2.keep BW)).mono ?_
    rintro e v1 ⟨rfl, hs⟩
    rw [HC.out]
    replace X1 := blk_keep X1 hs
    replace X2 := blk_keep X2 hs
    replace X3 := blk_keep X3 hs
    replace X11 := blk_keep X11 hs
    replace BW := BW.trans (hs.mono BW.size)
    clear f0 f1 hs
    have f0 := cell_block X2 0
    have f1 := cell_block X2 1
    go_wp2_with fail
    refine (rSquareErr_any x y _ hx1 hx2 hy2).mono ?_
    rintro e v2 ⟨rfl, hs⟩
    rw [HD.out]
    replace X1 := blk_keep X1 hs
    replace X2 := blk_keep X2 hs
    replace X3 := blk_keep X3 hs
    replace X11 := blk_keep X11 hs
    replace BW := BW.trans (hs.mono BW.size)
    clear f0 f1 hs
    go_wp2_with fail
    refine (lawBoth_any C D _).mono ?_
    rintro e v2 ⟨rfl, rfl⟩
    rw [HE'.out]
    have f0 := cell_block X1 0
    have f1 := cell_block X1 1
    have f2 := cell_block X2 0
    have f3 := cell_block X2 1
    have f4 := cell_block X3 0
    have f5 := cell_block X3 1
    have g0 := cell_block X11 0
    have g1 := cell_block X11 1
    by_cases hz : C = 0
    case neg =>
      have hz1 : (C == 0) = false := by simpa using hz
      have hz2 : (C != 0) = true := by simpa using hz
      obtain rfl : C = E := by have := HE'.out; rwa [if_neg hz] at this
      obtain rfl : R = 0 := HR0.out hz
      obtain rfl : M = false := HM0.out hz
      obtain rfl : F = C := by
        have := HF.out
        unfold encErr at this
        rw [firstE_three, HC.out, if_neg hz] at this
        exact this.symm
      obtain ⟨rfl, rfl⟩ := HF0.out hz
      clear hz
      go_wp2_with fail
      go_ret
      exact ⟨rfl, BW⟩
    subst hz
    obtain rfl : D = E := by have := HE'.out; rwa [if_pos rfl] at this
    have hfr := fr_of HC.out
    obtain ⟨l1, l2⟩ : n ≤ ms.length ∧ ms.length ≤ n := by have := h1.len; omega
    obtain rfl : n = m := by have := h2.len; have := hfr.len; omega
    obtain ⟨G1, hG1⟩ : ∃ G, wIn p 0 ((n : Int) - 1) = G := ⟨_, rfl⟩
    obtain ⟨G2, hG2⟩ : ∃ G, wIn q 1 50 = G := ⟨_, rfl⟩
    have hF' : (if unlessE G1 6 = 0 then unlessE G2 2 else unlessE G1 6) = F := by
      have := HF.out
      unfold encErr at this
      rwa [firstE_three, HC.out, if_pos rfl, show ((ms.length : Nat) : Int) = (n : Int) by omega, hG1, hG2] at this
    have HF' := Lib.hid hF'
    have HG1 := Lib.hid hG1
    have HG2 := Lib.hid hG2
    clear hF' hG1 hG2
    by_cases hd : D = 0
    case neg =>
      have hd1 : (D != 0) = true := by simpa using hd
      obtain rfl : R = 0 := HR0.out hd
      obtain rfl : M = false := HM0.out hd
      clear hd
      go_wp2_with fail
      refine (lawIsMode_any a b _ c _ d p _ (by omega)).mono ?_
      rintro e v6 ⟨rfl, hs⟩
      rw [HG1.out]
      replace X1 := blk_keep X1 hs
      replace X3 := blk_keep X3 hs
      replace X11 := blk_keep X11 hs
      replace BW := BW.trans (hs.mono BW.size)
      clear hs f0 f1 f4 f5 g0 g1
      have f0 := cell_block X1 0
      have f1 := cell_block X1 1
      have f4 := cell_block X3 0
      have f5 := cell_block X3 1
      have g0 := cell_block X11 0
      have g1 := cell_block X11 1
      cases G1
      · obtain rfl : F = 6 := HF'.out.symm
        obtain ⟨rfl, rfl⟩ := HF0.out (by decide)
        go_wp2_with fail
        go_ret
        exact ⟨rfl, BW⟩
      go_wp2_with fail
      refine (within_any _ _ _ _).mono ?_
      rintro e v7 ⟨rfl, rfl⟩
      rw [HG2.out]
      cases G2
      · obtain rfl : F = 2 := HF'.out.symm
        obtain ⟨rfl, rfl⟩ := HF0.out (by decide)
        go_wp2_with fail
        go_ret
        exact ⟨rfl, BW⟩
      obtain rfl : F = 0 := HF'.out.symm
      have hF1 := Lib.hid (HF1.out rfl)
      have hp := wIn_iff.1 HG1.out
      have hq := wIn_iff.1 HG2.out
      go_wp2_with fail
      refine Calmly.wp_region_mix 11 (.fl 0 <| .fl 1 <| .fl 2 <| .gl 3 <| .gl 4 <| .gl 5 <| .gl 6 <| .gl 7 <| .gl 8 <| .gf 9 <| .gf 10 <| .tail [11, 12]) (by kernel_rfl) (by kernel_rfl) ?_
      replace X1 : v6.drew.heap[w.heap.size]? = some (.cells #[.slice a n c, .slice b n d] 24) := X1
      replace X3 : v6.drew.heap[w.heap.size + 1 + 1]? = some (.cells #[.int .i64 p, .int .i64 q] 58) := X3
      replace X11 : v6.drew.heap[b11]? = some (.cells #[.int .i64 lo, .int .i64 hi] 63) := X11
      replace BW := BW.drew
      clear f0 f1 f4 f5 g0 g1
      generalize v6.drew = V6 at X1 X3 X11 BW ⊢
      have f0 := cell_block X1 0
      have f1 := cell_block X1 1
      have f4 := cell_block X3 0
      have f5 := cell_block X3 1
      have g0 := cell_block X11 0
      have g1 := cell_block X11 1
      have hk := Below.refl V6.heap.size V6
      go_wp2_with (first | ((with_reducible refine Calmly.is_fl ?_); refine Calmly.mix_fl rfl ?_ (fun _ _ => ?_); (first | exact .move _ | exact .load _ _ | exact .fieldAddr _ _ _ (by kernel_rfl) | exact .assign _ | exact .binOp _ _ _ _ _ rfl | exact .indexAddr _ _ _ | exact .len _ _ (by kernel_rfl) | exact .field _ _ _ | exact .extract _ _ | exact .pick _ _ _ | exact .build _ _ | exact .slice _ _ _ _ _ | exact .unOp _ _ _ rfl | exact .index _ _ _ | exact .max _ _ _ rfl rfl | exact .min _ _ _ rfl rfl)) | ((with_reducible refine Calmly.is_gl ?_); refine Calmly.mix_gl rfl rfl rfl ?_; first | ((first | with_reducible refine Calmly.gl_tt ?_ (fun _ _ => ?_) | with_reducible refine Calmly.gl_ff ?_ (fun _ _ => ?_)); (first | exact .move _ | exact .load _ _ | exact .fieldAddr _ _ _ (by kernel_rfl) | exact .assign _ | exact .binOp _ _ _ _ _ rfl | exact .indexAddr _ _ _ | exact .len _ _ (by kernel_rfl) | exact .field _ _ _ | exact .extract _ _ | exact .pick _ _ _ | exact .build _ _ | exact .slice _ _ _ _ _ | exact .unOp _ _ _ rfl | exact .index _ _ _ | exact .max _ _ _ rfl rfl | exact .min _ _ _ rfl rfl)) | with_reducible refine Calmly.gl_tf (fun _ _ => ?_) | with_reducible refine Calmly.gl_ft (fun _ _ => ?_)) | ((with_reducible refine Calmly.is_eff ?_); refine Calmly.mix_eff rfl (fun _ _ => ?_)) | ((with_reducible refine Calmly.is_gf ?_); refine Calmly.mix_gf rfl rfl rfl ?_; first | with_reducible refine Calmly.gf_tt (fun _ _ => ?_) | with_reducible refine Calmly.gf_ff (fun _ _ => ?_) | with_reducible refine Calmly.gf_tf (kept_of hk) (fun _ _ => ?_) | with_reducible refine Calmly.gf_ft (kept_of hk) (fun _ _ => ?_)) | ((with_reducible refine Calmly.is_tail ?_); first | refine Calmly.mix_tail_nil ?_ | refine Calmly.mix_tail rfl (fun _ _ => ?_)) | ((with_reducible refine Calmly.is_kept ?_); refine ⟨kept_of hk, ?_⟩) | (with_reducible refine Calmly.mix_alt ?_ ?_) | (go_at_call 45; (refine (rEnclosure_any a b _ c d ms ks p q _ ((h1.keep BW).keep hk) ((h2.keep BW).keep hk) HC.out (by omega) (by omega) (by omega) (by omega)).mono ?_; rintro e v8 ⟨rfl, hs⟩; rw [hF1.out]; replace hk := step_of hk hs; clear hs)))
      go_ret
      exact ⟨rfl, BW.trans (hk.mono BW.size)⟩
    case pos =>
      subst hd
      obtain ⟨_, hy0, hy100, hx0, hx100⟩ := squareE_ok HD.out
      go_wp2_with fail
      refine (RatioFrom_any x y _ (by omega) (by omega) (by omega) (by omega) (by omega)).mono ?_
      rintro e v3 ⟨⟨gs, ga, gn, gc, gs', ga', gn', gc', rfl, gh, gh', gV⟩, hs⟩
      replace X1 := blk_keep X1 hs
      replace X3 := blk_keep X3 hs
      replace X11 := blk_keep X11 hs
      replace BW := BW.trans (hs.mono BW.size)
      clear f0 f1 f2 f3 f4 f5 g0 g1 hs X2
      have hB := hA v3 (.cells #[.int .i64 gs, .slice ga gn gc, .int .i64 gs', .slice ga' gn' gc'] 72)
      replace X1 := blk_keep X1 hB
      replace X3 := blk_keep X3 hB
      replace X11 := blk_keep X11 hB
      have X15 := alloc_new v3 (.cells #[.int .i64 gs, .slice ga gn gc, .int .i64 gs', .slice ga' gn' gc'] 72)
      replace BW := BW.trans (hB.mono BW.size)
      replace gV := gV.keep hB
      have z0 := cell_block X15 0
      have z1 := cell_block X15 1
      have z2 := cell_block X15 2
      have z3 := cell_block X15 3
      have f0 := cell_block X1 0
      have f1 := cell_block X1 1
      have hlt5 : w.heap.size < v3.heap.size + 1 := by have := blk_lt X1; simpa using this
      clear hB
      go_wp2_with fail
      refine (rBelow_any a b _ c _ d ms ks _ _ _ _ _ _ _ _ _ _ (h1.keep BW) (h2.keep BW) hfr gV gh gh').mono ?_
      rintro e v4 ⟨rfl, hs⟩
      rw [belowQ_F _ _ _ _ hy0, HR.out (by trivial)]
      replace X1 := blk_keep X1 hs
      replace X3 := blk_keep X3 hs
      replace X11 := blk_keep X11 hs
      replace X15 := blk_keep X15 hs
      replace BW := BW.trans (hs.mono BW.size)
      replace gV := gV.keep hs
      clear hs z0 z1 z2 z3 f0 f1 hlt5
      have z0 := cell_block X15 0
      have z1 := cell_block X15 1
      have z2 := cell_block X15 2
      have z3 := cell_block X15 3
      have f0 := cell_block X1 0
      have f1 := cell_block X1 1
      go_wp2_with fail
      refine (rIsMode_any a b _ c _ d ms ks _ _ _ _ _ _ _ _ _ _ (h1.keep BW) (h2.keep BW) hfr gV gh gh').mono ?_
      rintro e v5 ⟨rfl, hs⟩
      rw [modeQ_F hfr _ _ hy0, HM.out (by trivial)]
      replace X1 := blk_keep X1 hs
      replace X3 := blk_keep X3 hs
      replace X11 := blk_keep X11 hs
      replace BW := BW.trans (hs.mono BW.size)
      clear hs z0 z1 z2 z3 f0 f1 X15 gV
      have f0 := cell_block X1 0
      have f1 := cell_block X1 1
      have f4 := cell_block X3 0
      have f5 := cell_block X3 1
      have g0 := cell_block X11 0
      have g1 := cell_block X11 1
      go_wp2_with fail
      refine (lawIsMode_any a b _ c _ d p _ (by omega)).mono ?_
      rintro e v6 ⟨rfl, hs⟩
      rw [HG1.out]
      replace X1 := blk_keep X1 hs
      replace X3 := blk_keep X3 hs
      replace X11 := blk_keep X11 hs
      replace BW := BW.trans (hs.mono BW.size)
      clear hs f0 f1 f4 f5 g0 g1
      have f0 := cell_block X1 0
      have f1 := cell_block X1 1
      have f4 := cell_block X3 0
      have f5 := cell_block X3 1
      have g0 := cell_block X11 0
      have g1 := cell_block X11 1
      cases G1
      · obtain rfl : F = 6 := HF'.out.symm
        obtain ⟨rfl, rfl⟩ := HF0.out (by decide)
        go_wp2_with fail
        go_ret
        exact ⟨rfl, BW⟩
      go_wp2_with fail
      refine (within_any _ _ _ _).mono ?_
      rintro e v7 ⟨rfl, rfl⟩
      rw [HG2.out]
      cases G2
      · obtain rfl : F = 2 := HF'.out.symm
        obtain ⟨rfl, rfl⟩ := HF0.out (by decide)
        go_wp2_with fail
        go_ret
        exact ⟨rfl, BW⟩
      obtain rfl : F = 0 := HF'.out.symm
      have hF1 := Lib.hid (HF1.out rfl)
      have hp := wIn_iff.1 HG1.out
      have hq := wIn_iff.1 HG2.out
      go_wp2_with fail
      refine Calmly.wp_region_mix 11 (.fl 0 <| .fl 1 <| .fl 2 <| .gl 3 <| .gl 4 <| .gl 5 <| .gl 6 <| .gl 7 <| .gl 8 <| .gf 9 <| .gf 10 <| .tail [11, 12]) (by kernel_rfl) (by kernel_rfl) ?_
      replace X1 : v6.drew.heap[w.heap.size]? = some (.cells #[.slice a n c, .slice b n d] 24) := X1
      replace X3 : v6.drew.heap[w.heap.size + 1 + 1]? = some (.cells #[.int .i64 p, .int .i64 q] 58) := X3
      replace X11 : v6.drew.heap[b11]? = some (.cells #[.int .i64 lo, .int .i64 hi] 63) := X11
      replace BW := BW.drew
      clear f0 f1 f4 f5 g0 g1
      generalize v6.drew = V6 at X1 X3 X11 BW ⊢
      have f0 := cell_block X1 0
      have f1 := cell_block X1 1
      have f4 := cell_block X3 0
      have f5 := cell_block X3 1
      have g0 := cell_block X11 0
      have g1 := cell_block X11 1
      have hk := Below.refl V6.heap.size V6
      go_wp2_with (first | ((with_reducible refine Calmly.is_fl ?_); refine Calmly.mix_fl rfl ?_ (fun _ _ => ?_); (first | exact .move _ | exact .load _ _ | exact .fieldAddr _ _ _ (by kernel_rfl) | exact .assign _ | exact .binOp _ _ _ _ _ rfl | exact .indexAddr _ _ _ | exact .len _ _ (by kernel_rfl) | exact .field _ _ _ | exact .extract _ _ | exact .pick _ _ _ | exact .build _ _ | exact .slice _ _ _ _ _ | exact .unOp _ _ _ rfl | exact .index _ _ _ | exact .max _ _ _ rfl rfl | exact .min _ _ _ rfl rfl)) | ((with_reducible refine Calmly.is_gl ?_); refine Calmly.mix_gl rfl rfl rfl ?_; first | ((first | with_reducible refine Calmly.gl_tt ?_ (fun _ _ => ?_) | with_reducible refine Calmly.gl_ff ?_ (fun _ _ => ?_)); (first | exact .move _ | exact .load _ _ | exact .fieldAddr _ _ _ (by kernel_rfl) | exact .assign _ | exact .binOp _ _ _ _ _ rfl | exact .indexAddr _ _ _ | exact .len _ _ (by kernel_rfl) | exact .field _ _ _ | exact .extract _ _ | exact .pick _ _ _ | exact .build _ _ | exact .slice _ _ _ _ _ | exact .unOp _ _ _ rfl | exact .index _ _ _ | exact .max _ _ _ rfl rfl | exact .min _ _ _ rfl rfl)) | with_reducible refine Calmly.gl_tf (fun _ _ => ?_) | with_reducible refine Calmly.gl_ft (fun _ _ => ?_)) | ((with_reducible refine Calmly.is_eff ?_); refine Calmly.mix_eff rfl (fun _ _ => ?_)) | ((with_reducible refine Calmly.is_gf ?_); refine Calmly.mix_gf rfl rfl rfl ?_; first | with_reducible refine Calmly.gf_tt (fun _ _ => ?_) | with_reducible refine Calmly.gf_ff (fun _ _ => ?_) | with_reducible refine Calmly.gf_tf (kept_of hk) (fun _ _ => ?_) | with_reducible refine Calmly.gf_ft (kept_of hk) (fun _ _ => ?_)) | ((with_reducible refine Calmly.is_tail ?_); first | refine Calmly.mix_tail_nil ?_ | refine Calmly.mix_tail rfl (fun _ _ => ?_)) | ((with_reducible refine Calmly.is_kept ?_); refine ⟨kept_of hk, ?_⟩) | (with_reducible refine Calmly.mix_alt ?_ ?_) | (go_at_call 45; (refine (rEnclosure_any a b _ c d ms ks p q _ ((h1.keep BW).keep hk) ((h2.keep BW).keep hk) HC.out (by omega) (by omega) (by omega) (by omega)).mono ?_; rintro e v8 ⟨rfl, hs⟩; rw [hF1.out]; replace hk := step_of hk hs; clear hs)))
      go_ret
      exact ⟨rfl, BW.trans (hk.mono BW.size)⟩
  have HK2 := Lib.hid HKK
  clear HKK hK'
  go_wp2_with (first | ((with_reducible refine Calmly.is_fl ?_); refine Calmly.mix_fl rfl ?_ (fun _ _ => ?_); (first | exact .move _ | exact .load _ _ | exact .fieldAddr _ _ _ (by kernel_rfl) | exact .assign _ | exact .binOp _ _ _ _ _ rfl | exact .indexAddr _ _ _ | exact .len _ _ (by kernel_rfl) | exact .field _ _ _ | exact .extract _ _ | exact .pick _ _ _ | exact .build _ _ | exact .slice _ _ _ _ _ | exact .unOp _ _ _ rfl | exact .index _ _ _ | exact .max _ _ _ rfl rfl | exact .min _ _ _ rfl rfl)) | ((with_reducible refine Calmly.is_gl ?_); refine Calmly.mix_gl rfl rfl rfl ?_; first | ((first | with_reducible refine Calmly.gl_tt ?_ (fun _ _ => ?_) | with_reducible refine Calmly.gl_ff ?_ (fun _ _ => ?_)); (first | exact .move _ | exact .load _ _ | exact .fieldAddr _ _ _ (by kernel_rfl) | exact .assign _ | exact .binOp _ _ _ _ _ rfl | exact .indexAddr _ _ _ | exact .len _ _ (by kernel_rfl) | exact .field _ _ _ | exact .extract _ _ | exact .pick _ _ _ | exact .build _ _ | exact .slice _ _ _ _ _ | exact .unOp _ _ _ rfl | exact .index _ _ _ | exact .max _ _ _ rfl rfl | exact .min _ _ _ rfl rfl)) | with_reducible refine Calmly.gl_tf (fun _ _ => ?_) | with_reducible refine Calmly.gl_ft (fun _ _ => ?_)) | ((with_reducible refine Calmly.is_eff ?_); refine Calmly.mix_eff rfl (fun _ _ => ?_)) | ((with_reducible refine Calmly.is_gf ?_); refine Calmly.mix_gf rfl rfl rfl ?_; first | with_reducible refine Calmly.gf_tt (fun _ _ => ?_) | with_reducible refine Calmly.gf_ff (fun _ _ => ?_) | with_reducible refine Calmly.gf_tf (kept_of hk) (fun _ _ => ?_) | with_reducible refine Calmly.gf_ft (kept_of hk) (fun _ _ => ?_)) | ((with_reducible refine Calmly.is_kept ?_); refine ⟨kept_of hk, ?_⟩) | (with_reducible refine Calmly.mix_alt ?_ ?_) | (go_at_call 18; (refine (Copy_any a b n c m d ms ks _ ((h1.keep B4).keep hk) ((h2.keep B4).keep hk) (by omega) (by omega)).mono ?_; rintro e w7 ⟨a1, c1', b1, d1', BB, rfl, oA1, oB1, hB, hgB, hs⟩; replace hk := step_of hk hs; (try replace pA := blk_keep pA hs); clear hgB hs)) | (go_at_call 37; (refine (EnclosureOf_any _ _ n _ m _ ms ks p q _ oA1.si oB1.si F lo hi HF.out HF1.out HF0.out).mono ?_; rintro e w8 ⟨rfl, hs⟩; replace hk := step_of hk hs; (try replace pA := blk_keep pA hs); clear hs oA1 oB1; (try have zA0 := cell_block pA 0); (try have zA1 := cell_block pA 1); (try have zA2 := frozen_block pA 0); (try have zA3 := frozen_block pA 1))) | (refine kept_setU hk hAge pA (fun hk' h1' => ?_); replace hk := hk'; replace pA := h1'; clear hk' h1' zA0 zA1 zA2 zA3; generalize World.setCell (World.setCell _ _ _) _ _ = W' at hk pA ⊢) | (have hAge := hk.size; refine kept_allocB hk (fun hs hk' hblk => ?_); (try replace oA1 := oA1.keep hs); (try replace oB1 := oB1.keep hs); (first | generalize World.alloc _ _ = W' at hs hk' hblk oA1 oB1 ⊢ | generalize World.alloc _ _ = W' at hs hk' hblk ⊢); replace hk := hk'; clear hk'; have pA := hblk; clear hs hblk; have zA0 := cell_block pA 0; have zA1 := cell_block pA 1; have zA2 := frozen_block pA 0; have zA3 := frozen_block pA 1))
  go_wp2_with (first | ((with_reducible refine Calmly.is_fl ?_); refine Calmly.mix_fl rfl ?_ (fun _ _ => ?_); (first | exact .move _ | exact .load _ _ | exact .fieldAddr _ _ _ (by kernel_rfl) | exact .assign _ | exact .binOp _ _ _ _ _ rfl | exact .indexAddr _ _ _ | exact .len _ _ (by kernel_rfl) | exact .field _ _ _ | exact .extract _ _ | exact .pick _ _ _ | exact .build _ _ | exact .slice _ _ _ _ _ | exact .unOp _ _ _ rfl | exact .index _ _ _ | exact .max _ _ _ rfl rfl | exact .min _ _ _ rfl rfl)) | ((with_reducible refine Calmly.is_gl ?_); refine Calmly.mix_gl rfl rfl rfl ?_; first | ((first | with_reducible refine Calmly.gl_tt ?_ (fun _ _ => ?_) | with_reducible refine Calmly.gl_ff ?_ (fun _ _ => ?_)); (first | exact .move _ | exact .load _ _ | exact .fieldAddr _ _ _ (by kernel_rfl) | exact .assign _ | exact .binOp _ _ _ _ _ rfl | exact .indexAddr _ _ _ | exact .len _ _ (by kernel_rfl) | exact .field _ _ _ | exact .extract _ _ | exact .pick _ _ _ | exact .build _ _ | exact .slice _ _ _ _ _ | exact .unOp _ _ _ rfl | exact .index _ _ _ | exact .max _ _ _ rfl rfl | exact .min _ _ _ rfl rfl)) | with_reducible refine Calmly.gl_tf (fun _ _ => ?_) | with_reducible refine Calmly.gl_ft (fun _ _ => ?_)) | ((with_reducible refine Calmly.is_eff ?_); refine Calmly.mix_eff rfl (fun _ _ => ?_)) | ((with_reducible refine Calmly.is_gf ?_); refine Calmly.mix_gf rfl rfl rfl ?_; first | with_reducible refine Calmly.gf_tt (fun _ _ => ?_) | with_reducible refine Calmly.gf_ff (fun _ _ => ?_) | with_reducible refine Calmly.gf_tf (kept_of hk) (fun _ _ => ?_) | with_reducible refine Calmly.gf_ft (kept_of hk) (fun _ _ => ?_)) | ((with_reducible refine Calmly.is_tail ?_); first | refine Calmly.mix_tail_nil ?_ | refine Calmly.mix_tail rfl (fun _ _ => ?_)) | ((with_reducible refine Calmly.is_kept ?_); refine ⟨kept_of hk, ?_⟩) | (with_reducible refine Calmly.mix_alt ?_ ?_))
  all_goals first
    | exact HK2.out _ _ _ _ _ _ _ _ _ _ _ _ _ _ _ _ _ _ _ _ _ _ _ _ _ _ _ _ _ _ _ hAge hk pA
    | exact HK2.out _ _ _ _ _ _ _ _ _ _ _ _ _ _ _ _ _ _ _ _ _ _ _ _ _ _ _ _ _ _ _ hAge (below2 hk hAge) (blkSet (blkSet pA 0 _) 1 _)
end Go.Proofs.Ytmaidjankakppaa
