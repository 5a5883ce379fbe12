/- The law ModalNodes, walked. -/
import Derived.Test.YtmaidjankakppaaK26
namespace Go.Proofs.Ytmaidjankakppaa
open Go.RowKit Go.Wides
open Calmly (Kept)

set_option maxRecDepth 100000 in
set_option maxHeartbeats 8000000 in
theorem ModalNodes_walk (a b u z : Option Addr) (n c m d k e' l f' : Nat) (ms ks ls ns : List Int) (x y : Int) (w : World) (h1 : SI w a n c ms) (h2 : SI w b m d ks) (h3 : SI w u k e' ls) (h4 : SI w z l f' ns) (hx1 : -9223372036854775808 ≤ x) (hx2 : x ≤ 9223372036854775807) (hy2 : y ≤ 9223372036854775807) :
    Calls Try.prog 14 #[.agg #[.slice a n c, .slice b m d], .agg #[.int .i64 x, .int .i64 y], .agg #[.slice u k e', .slice z l f']] w fun e w' => e = .returned (.bool true) ∧ Below w.heap.size w w' := by
  have m1 := h1.max
  have c1 := h1.cap
  have m2 := h2.max
  have c2 := h2.cap
  have m3 := h3.max
  have c3 := h3.cap
  have m4 := h4.max
  have c4 := h4.cap
  have hA : ∀ (A : World) (o : Obj), Below A.heap.size A (A.alloc o) := fun A o => (Below.refl _ _).alloc (Nat.le_refl _) _
  have BW : Below w.heap.size w (((w.alloc (.cells #[.slice a n c, .slice b m d] 24)).alloc (.cells #[.int .i64 x, .int .i64 y] 34)).alloc (.cells #[.slice u k e', .slice z l f'] 131)) := (((Below.refl _ _).alloc (Nat.le_refl _) _).alloc (by simp) _).alloc (by simp; omega) _
  obtain ⟨l1, l2⟩ : n ≤ ms.length ∧ ms.length ≤ n := by have := h1.len; omega
  obtain ⟨g1, g2⟩ : k ≤ ls.length ∧ ls.length ≤ k := by have := h3.len; omega
  obtain ⟨g3, g4⟩ : l ≤ ns.length ∧ ns.length ≤ l := by have := h4.len; omega
  obtain ⟨C, hC⟩ : ∃ C, (checkF ms ks).2 = C := ⟨_, rfl⟩
  obtain ⟨Q, hQ⟩ : ∃ E, squareE x y = E := ⟨_, rfl⟩
  obtain ⟨E1, hE1⟩ : ∃ E, loadsE n ls = E := ⟨_, rfl⟩
  obtain ⟨E2, hE2⟩ : ∃ E, loadsE n ns = E := ⟨_, rfl⟩
  have HC := Lib.hid hC
  have HQ := Lib.hid hQ
  have HE1 := Lib.hid hE1
  have HE2 := Lib.hid hE2
  clear hC hQ hE1 hE2
  go_enter Try.func14, Try.ntmps14
  go_wp2_with fail
  refine (awake_any _).mono ?_
  rintro e w1 ⟨rfl, hs⟩
  obtain ⟨x1, x2, x3⟩ := box3r (w := w) (o := .cells #[.slice a n c, .slice b m d] 24) (o' := .cells #[.int .i64 x, .int .i64 y] 34) (o'' := .cells #[.slice u k e', .slice z l f'] 131) hs
  replace BW := BW.trans (hs.mono BW.size)
  clear hs
  have f0 := cell_block x1 0; have f1 := cell_block x1 1; have f2 := cell_block x2 0; have f3 := cell_block x2 1; have f4 := cell_block x3 0; have f5 := cell_block x3 1
  go_wp2_with fail
  refine (FrameErr_any a b n c m d ms ks _ (h1.keep BW) (h2.keep BW)).mono ?_
  rintro e w2 ⟨rfl, hs⟩
  rw [HC.out]
  replace BW := BW.trans (hs.mono BW.size); replace x1 := blk_keep x1 hs; replace x2 := blk_keep x2 hs; replace x3 := blk_keep x3 hs
  clear hs
  clear f0 f1 f2 f3 f4 f5
  have f0 := cell_block x1 0; have f1 := cell_block x1 1; have f2 := cell_block x2 0; have f3 := cell_block x2 1; have f4 := cell_block x3 0; have f5 := cell_block x3 1
  by_cases hz : C = 0
  case neg =>
    have b1 : (C != 0) = true := by simpa using hz
    clear hz
    go_wp2_with fail; go_ret; exact ⟨rfl, BW⟩
  subst hz
  go_wp2_with fail
  refine (rSquareErr_any x y _ hx1 hx2 hy2).mono ?_
  rintro e w3 ⟨rfl, hs⟩
  rw [HQ.out]
  replace BW := BW.trans (hs.mono BW.size); replace x1 := blk_keep x1 hs; replace x2 := blk_keep x2 hs; replace x3 := blk_keep x3 hs
  clear hs
  clear f0 f1 f2 f3 f4 f5
  have f0 := cell_block x1 0; have f1 := cell_block x1 1; have f2 := cell_block x2 0; have f3 := cell_block x2 1; have f4 := cell_block x3 0; have f5 := cell_block x3 1
  by_cases hz : Q = 0
  case neg =>
    have b1 : (Q != 0) = true := by simpa using hz
    clear hz
    go_wp2_with fail; go_ret; exact ⟨rfl, BW⟩
  subst hz
  go_wp2_with fail
  refine (LoadsErr_any a b u n c m d k e' ms ls _ (h1.keep BW) (h3.keep BW)).mono ?_
  rintro e w4 ⟨rfl, hs⟩
  rw [HE1.out]
  replace BW := BW.trans (hs.mono BW.size); replace x1 := blk_keep x1 hs; replace x2 := blk_keep x2 hs; replace x3 := blk_keep x3 hs
  clear hs
  clear f0 f1 f2 f3 f4 f5
  have f0 := cell_block x1 0; have f1 := cell_block x1 1; have f2 := cell_block x2 0; have f3 := cell_block x2 1; have f4 := cell_block x3 0; have f5 := cell_block x3 1
  by_cases hz : E1 = 0
  case neg =>
    have b1 : (E1 != 0) = true := by simpa using hz
    clear hz
    go_wp2_with fail; go_ret; exact ⟨rfl, BW⟩
  subst hz
  go_wp2_with fail
  refine (LoadsErr_any a b z n c m d l f' ms ns _ (h1.keep BW) (h4.keep BW)).mono ?_
  rintro e w5 ⟨rfl, hs⟩
  rw [HE2.out]
  replace BW := BW.trans (hs.mono BW.size); replace x1 := blk_keep x1 hs; replace x2 := blk_keep x2 hs; replace x3 := blk_keep x3 hs
  clear hs
  clear f0 f1 f2 f3 f4 f5
  have f0 := cell_block x1 0; have f1 := cell_block x1 1; have f2 := cell_block x2 0; have f3 := cell_block x2 1; have f4 := cell_block x3 0; have f5 := cell_block x3 1
  by_cases hz : E2 = 0
  case neg =>
    have b1 : (E2 != 0) = true := by simpa using hz
    clear hz
    go_wp2_with fail; go_ret; exact ⟨rfl, BW⟩
  subst hz
  have hf := fr_of HC.out
  have hnm : m ≤ n ∧ n ≤ m := by have := h2.len; have := hf.len; omega
  obtain ⟨nm1, nm2⟩ := hnm
  obtain ⟨n0, n4⟩ : 0 < n ∧ n ≤ 4 := by have := hf.pos; have := hf.few; omega
  obtain ⟨u1, u2⟩ := loadsE_ok HE1.out
  obtain ⟨v1, v2⟩ := loadsE_ok HE2.out
  obtain rfl : n = k := by omega
  obtain rfl : n = l := by omega
  obtain ⟨_, y0, y100, x0, x100⟩ := squareE_ok HQ.out
  have hEE : (if (checkF ms ks).2 = 0 then squareE x y else (checkF ms ks).2) = 0 := by rw [if_pos HC.out]; exact HQ.out
  obtain ⟨R0, xs0, S0, r1, r2, r3, r4, _, _, _, r5, r6, r7⟩ := shape_facts (n := n) (by omega) HC.out HQ.out
  obtain ⟨t1, t2, t3⟩ := nodes_law hf (by omega) y0 r1 r2 r3
  obtain ⟨M, hM⟩ : ∃ v, modeF ms ks x y = v := ⟨_, rfl⟩
  obtain ⟨BF, hBF⟩ : ∃ v, belowF ms ks x y = v := ⟨_, rfl⟩
  obtain ⟨RN, hRN⟩ : ∃ v, (ndTo xs0 n).1 = v := ⟨_, rfl⟩
  rw [hM] at t1 t2
  rw [hBF, hRN] at t2
  have HM := Lib.hid hM
  have HBF := Lib.hid hBF
  have HRN := Lib.hid hRN
  have HMS := Lib.hid t1
  have HND := Lib.hid t2
  have HX0 := Lib.hid t3
  have HEE := Lib.hid hEE
  have HR1 := Lib.hid r1
  have HR2 := Lib.hid r2
  have HR3 := Lib.hid r3
  have HR4 := Lib.hid r4
  have HU1 := Lib.hid u1
  have HU2 := Lib.hid u2
  have HV1 := Lib.hid v1
  have HV2 := Lib.hid v2
  have HF := Lib.hid hf
  clear hM hBF hRN t1 t2 t3 hEE r1 r2 r3 r4 u1 u2 v1 v2 hf r7
  go_wp2_with fail
  refine Calmly.wp_region_mix 11 (.fl 0 <| .fl 2 <| .alt 1 (.alt 3 (.fl 4 <| .fl 5 <| .fl 6 <| .fl 7 <| .eff 8 <| .eff 9 <| .fl 10 <| .tail [11]) (.eff 8 (.eff 3 <| .fl 4 <| .fl 5 <| .fl 6 <| .fl 7 <| .eff 9 <| .fl 10 <| .tail [11]))) (.eff 8 (.eff 1 <| .eff 3 <| .fl 4 <| .fl 5 <| .fl 6 <| .fl 7 <| .eff 9 <| .fl 10 <| .tail [11]))) (by kernel_rfl) (by kernel_rfl) ?_
  rename_i K hK
  have hK' := fun a w (h : Stop _) => hK a w h.out
  clear hK
  replace x1 := blk_keep x1 (Below.refl _ _).drew; replace x2 := blk_keep x2 (Below.refl _ _).drew; replace x3 := blk_keep x3 (Below.refl _ _).drew; replace BW := BW.drew
  clear f0 f1 f2 f3 f4 f5
  generalize World.drew _ = U at x1 x2 x3 BW ⊢
  have HKK : ∀ (b7 : Nat) (a7 : Option Addr) (c7 : Nat) (y30 y31 y32 y33 y34 y35 y36 y37 y38 y39 y40 y41 y42 y43 y44 y45 y46 y47 y48 y49 y50 y51 y52 y53 y54 y55 y56 y57 y58 y59 y60 y61 : Value) (v : World), U.heap.size ≤ b7 → Below U.heap.size U v → v.heap[b7]? = some (.cells #[.int .i64 R0, .slice a7 xs0.length c7] 117) → SI v a7 xs0.length c7 xs0 → K { tmps := #[Value.agg #[Value.slice a n c, Value.slice b m d], Value.agg #[Value.int IntKind.i64 x, Value.int IntKind.i64 y], Value.agg #[Value.slice u n e', Value.slice z n f'], Value.pointer (some ⟨w.heap.size, 0, none⟩), Value.pointer (some ⟨w.heap.size + 1, 0, none⟩), Value.pointer (some ⟨w.heap.size + 1 + 1, 0, none⟩), Value.bool false, Value.pointer (some ⟨b7, 0, none⟩), Value.int IntKind.i64 S0, Value.int IntKind.i64 0, undef, undef, undef, undef, undef, undef, undef, undef, undef, undef, undef, undef, undef, undef, undef, undef, undef, undef, undef, undef, y30, y31, y32, y33, y34, y35, y36, y37, y38, y39, y40, y41, y42, y43, y44, y45, y46, y47, y48, y49, y50, y51, y52, y53, y54, y55, y56, y57, y58, y59, y60, y61, undef, undef, undef, undef, undef, undef, undef, undef, undef, undef, undef, undef, undef, undef, undef, undef, undef, undef, undef, undef, undef, undef, undef, undef, undef, undef, undef, undef, undef, undef, undef, undef, undef, undef, undef, undef, undef, undef, undef, undef, undef, undef, undef, undef, undef, undef, undef, undef, undef, undef, undef, undef, undef, undef, undef, undef, undef, undef, undef, undef, undef, undef, undef, undef, undef, undef, undef, undef, undef, undef, undef, undef, undef, undef, undef, undef, undef, undef, undef, undef, undef, undef, undef, undef, undef, undef, undef, undef, undef, undef, undef, undef, undef, undef, undef, undef, undef, undef, undef, undef, undef, undef, undef, undef, undef, undef, undef, undef, undef, undef, undef, undef, undef, undef, undef, undef, undef, undef, undef, undef, undef, undef, undef, undef, undef, undef, undef, undef, undef, undef, undef, undef, undef, undef, undef, undef, undef, undef, undef, undef, undef, undef, undef, undef, undef, undef, undef, undef, undef, undef, undef, undef, undef, undef, undef, undef, undef, undef, undef, undef, undef, undef, undef, undef, undef, undef, undef, undef, undef, undef, undef, undef, undef, undef, undef, undef, undef, undef, undef, undef, undef, undef, undef, undef, undef, undef, undef, undef, undef, undef, undef, undef, undef, undef, undef, undef, undef, undef, undef, undef, undef, undef, undef, undef, undef, undef, undef, undef, undef, undef, undef, undef, undef, undef, undef, undef, undef, undef, undef, undef, undef, undef, undef, undef, undef, undef, undef, undef, undef, undef, undef, undef, undef, undef, undef, undef, undef, undef, undef, undef, undef, undef, undef, undef, undef, undef, undef, undef, undef, undef, undef, undef, undef, undef, undef, undef, undef, undef, undef, undef, undef, undef, undef, undef, undef, undef, undef, undef, undef], defers := [] } v := by
    intro b7 a7 c7 y30 y31 y32 y33 y34 y35 y36 y37 y38 y39 y40 y41 y42 y43 y44 y45 y46 y47 y48 y49 y50 y51 y52 y53 y54 y55 y56 y57 y58 y59 y60 y61 v hb7 hv X7 s7
    refine hK' _ _ ⟨?_⟩
    clear hK' K
    rw [HR4.out] at X7 s7
    replace x1 := blk_keep x1 hv
    replace x2 := blk_keep x2 hv
    replace x3 := blk_keep x3 hv
    replace BW := BW.trans (hv.mono BW.size)
    clear hv hb7
    have hb7 := blk_lt X7
    have f6 := cell_block X7 0
    have f7 := cell_block X7 1
    have f0 := cell_block x1 0; have f1 := cell_block x1 1; have f2 := cell_block x2 0; have f3 := cell_block x2 1; have f4 := cell_block x3 0; have f5 := cell_block x3 1
    have hlt := blk_lt x3
    go_wp2_with fail
    refine Calmly.wp_region_mix 8 (.fl 0 <| .fl 2 <| .eff 1 <| .eff 3 <| .fl 4 <| .fl 5 <| .fl 6 <| .fl 7 <| .tail [8]) (by kernel_rfl) (by kernel_rfl) ?_
    replace x1 := blk_keep x1 (Below.refl _ _).drew; replace x2 := blk_keep x2 (Below.refl _ _).drew; replace x3 := blk_keep x3 (Below.refl _ _).drew; replace BW := BW.drew
    replace X7 := blk_keep X7 (Below.refl _ _).drew
    replace s7 := s7.keep (Below.refl _ _).drew
    clear f0 f1 f2 f3 f4 f5
    clear f6 f7 hb7
    generalize World.drew _ = V at x1 x2 x3 BW X7 s7 ⊢
    have f0 := cell_block x1 0; have f1 := cell_block x1 1; have f2 := cell_block x2 0; have f3 := cell_block x2 1; have f4 := cell_block x3 0; have f5 := cell_block x3 1
    have hk := Below.refl V.heap.size V
    go_wp2_with (first | ((with_reducible refine Calmly.is_fl ?_); refine Calmly.mix_fl rfl ?_ (fun _ _ => ?_); (first | exact .move _ | exact .load _ _ | exact .fieldAddr _ _ _ (by kernel_rfl) | exact .assign _ | exact .binOp _ _ _ _ _ rfl | exact .indexAddr _ _ _ | exact .len _ _ (by kernel_rfl) | exact .field _ _ _ | exact .extract _ _ | exact .pick _ _ _ | exact .build _ _ | exact .slice _ _ _ _ _ | exact .unOp _ _ _ rfl | exact .index _ _ _ | exact .max _ _ _ rfl rfl | exact .min _ _ _ rfl rfl)) | ((with_reducible refine Calmly.is_gl ?_); refine Calmly.mix_gl rfl rfl rfl ?_; first | ((first | with_reducible refine Calmly.gl_tt ?_ (fun _ _ => ?_) | with_reducible refine Calmly.gl_ff ?_ (fun _ _ => ?_)); (first | exact .move _ | exact .load _ _ | exact .fieldAddr _ _ _ (by kernel_rfl) | exact .assign _ | exact .binOp _ _ _ _ _ rfl | exact .indexAddr _ _ _ | exact .len _ _ (by kernel_rfl) | exact .field _ _ _ | exact .extract _ _ | exact .pick _ _ _ | exact .build _ _ | exact .slice _ _ _ _ _ | exact .unOp _ _ _ rfl | exact .index _ _ _ | exact .max _ _ _ rfl rfl | exact .min _ _ _ rfl rfl)) | with_reducible refine Calmly.gl_tf (fun _ _ => ?_) | with_reducible refine Calmly.gl_ft (fun _ _ => ?_)) | ((with_reducible refine Calmly.is_eff ?_); refine Calmly.mix_eff rfl (fun _ _ => ?_)) | ((with_reducible refine Calmly.is_gf ?_); refine Calmly.mix_gf rfl rfl rfl ?_; first | with_reducible refine Calmly.gf_tt (fun _ _ => ?_) | with_reducible refine Calmly.gf_ff (fun _ _ => ?_) | with_reducible refine Calmly.gf_tf (kept_of hk) (fun _ _ => ?_) | with_reducible refine Calmly.gf_ft (kept_of hk) (fun _ _ => ?_)) | ((with_reducible refine Calmly.is_tail ?_); first | refine Calmly.mix_tail_nil ?_ | refine Calmly.mix_tail rfl (fun _ _ => ?_)) | ((with_reducible refine Calmly.is_kept ?_); refine ⟨kept_of hk, ?_⟩) | (with_reducible refine Calmly.mix_alt ?_ ?_) | (go_at_call 18; (refine (Copy_any a b n c m d ms ks _ ((h1.keep BW).keep hk) ((h2.keep BW).keep hk) (by omega) (by omega)).mono ?_; rintro e w7 ⟨a1, c1', b1, d1', BB, rfl, oA1, oB1, hB, hgB, hs⟩; replace hk := step_of hk hs; (try replace pA := blk_keep pA hs); replace oA1 := oA1.si; replace oB1 := oB1.si; clear hgB hs hB)) | (go_at_call 38; (refine (IsMode_any _ _ _ _ _ _ ms ks x y _ oA1 oB1 hx1 hx2 hy2 0 M HEE.out (fun _ => HM.out) (fun h => absurd rfl h)).mono ?_; rintro e w9 ⟨rfl, hs⟩; replace hk := step_of hk hs; clear hs oA1 oB1)))
    replace x1 := blk_keep x1 hk; replace x2 := blk_keep x2 hk; replace x3 := blk_keep x3 hk; replace X7 := blk_keep X7 hk; replace s7 := s7.keep hk; replace BW := BW.trans (hk.mono BW.size); clear f0 f1 f2 f3 f4 f5; clear hk
    go_wp2_with fail
    refine Calmly.wp_region_mix 8 (.fl 0 <| .fl 2 <| .eff 1 <| .eff 3 <| .fl 4 <| .fl 5 <| .fl 6 <| .fl 7 <| .tail [8]) (by kernel_rfl) (by kernel_rfl) ?_
    replace x1 := blk_keep x1 (Below.refl _ _).drew; replace x2 := blk_keep x2 (Below.refl _ _).drew; replace x3 := blk_keep x3 (Below.refl _ _).drew; replace BW := BW.drew
    replace X7 := blk_keep X7 (Below.refl _ _).drew
    replace s7 := s7.keep (Below.refl _ _).drew
    generalize World.drew _ = V2 at x1 x2 x3 BW X7 s7 ⊢
    have f0 := cell_block x1 0; have f1 := cell_block x1 1; have f2 := cell_block x2 0; have f3 := cell_block x2 1; have f4 := cell_block x3 0; have f5 := cell_block x3 1
    have hk := Below.refl V2.heap.size V2
    go_wp2_with (first | ((with_reducible refine Calmly.is_fl ?_); refine Calmly.mix_fl rfl ?_ (fun _ _ => ?_); (first | exact .move _ | exact .load _ _ | exact .fieldAddr _ _ _ (by kernel_rfl) | exact .assign _ | exact .binOp _ _ _ _ _ rfl | exact .indexAddr _ _ _ | exact .len _ _ (by kernel_rfl) | exact .field _ _ _ | exact .extract _ _ | exact .pick _ _ _ | exact .build _ _ | exact .slice _ _ _ _ _ | exact .unOp _ _ _ rfl | exact .index _ _ _ | exact .max _ _ _ rfl rfl | exact .min _ _ _ rfl rfl)) | ((with_reducible refine Calmly.is_gl ?_); refine Calmly.mix_gl rfl rfl rfl ?_; first | ((first | with_reducible refine Calmly.gl_tt ?_ (fun _ _ => ?_) | with_reducible refine Calmly.gl_ff ?_ (fun _ _ => ?_)); (first | exact .move _ | exact .load _ _ | exact .fieldAddr _ _ _ (by kernel_rfl) | exact .assign _ | exact .binOp _ _ _ _ _ rfl | exact .indexAddr _ _ _ | exact .len _ _ (by kernel_rfl) | exact .field _ _ _ | exact .extract _ _ | exact .pick _ _ _ | exact .build _ _ | exact .slice _ _ _ _ _ | exact .unOp _ _ _ rfl | exact .index _ _ _ | exact .max _ _ _ rfl rfl | exact .min _ _ _ rfl rfl)) | with_reducible refine Calmly.gl_tf (fun _ _ => ?_) | with_reducible refine Calmly.gl_ft (fun _ _ => ?_)) | ((with_reducible refine Calmly.is_eff ?_); refine Calmly.mix_eff rfl (fun _ _ => ?_)) | ((with_reducible refine Calmly.is_gf ?_); refine Calmly.mix_gf rfl rfl rfl ?_; first | with_reducible refine Calmly.gf_tt (fun _ _ => ?_) | with_reducible refine Calmly.gf_ff (fun _ _ => ?_) | with_reducible refine Calmly.gf_tf (kept_of hk) (fun _ _ => ?_) | with_reducible refine Calmly.gf_ft (kept_of hk) (fun _ _ => ?_)) | ((with_reducible refine Calmly.is_tail ?_); first | refine Calmly.mix_tail_nil ?_ | refine Calmly.mix_tail rfl (fun _ _ => ?_)) | ((with_reducible refine Calmly.is_kept ?_); refine ⟨kept_of hk, ?_⟩) | (with_reducible refine Calmly.mix_alt ?_ ?_) | (go_at_call 18; (refine (Copy_any a b n c m d ms ks _ ((h1.keep BW).keep hk) ((h2.keep BW).keep hk) (by omega) (by omega)).mono ?_; rintro e w7 ⟨a1, c1', b1, d1', BB, rfl, oA1, oB1, hB, hgB, hs⟩; replace hk := step_of hk hs; (try replace pA := blk_keep pA hs); replace oA1 := oA1.si; replace oB1 := oB1.si; clear hgB hs hB)) | (go_at_call 36; (refine (CountBelow_any _ _ _ _ _ _ ms ks x y _ oA1 oB1 hx1 hx2 hy2 0 BF HEE.out (fun _ => HBF.out) (fun h => absurd rfl h)).mono ?_; rintro e w9 ⟨rfl, hs⟩; replace hk := step_of hk hs; clear hs oA1 oB1; replace x1 := blk_keep x1 hk; replace x2 := blk_keep x2 hk; replace x3 := blk_keep x3 hk; replace X7 := blk_keep X7 hk; replace s7 := s7.keep hk; replace BW := BW.trans (hk.mono BW.size); clear f0 f1 f2 f3 f4 f5; have f0 := cell_block x1 0; have f1 := cell_block x1 1; have f2 := cell_block x2 0; have f3 := cell_block x2 1; have f4 := cell_block x3 0; have f5 := cell_block x3 1; have f6 := cell_block X7 0; have f7 := cell_block X7 1)))
    clear hk
    refine (copyInts_any a7 n c7 xs0 _ s7 (by omega)).mono ?_
    rintro e w3 ⟨az, cz, rfl, oz, hs⟩
    replace BW := BW.trans (hs.mono BW.size); replace x1 := blk_keep x1 hs; replace x2 := blk_keep x2 hs; replace x3 := blk_keep x3 hs
    replace X7 := blk_keep X7 hs
    replace s7 := s7.keep hs
    clear hs
    clear f0 f1 f2 f3 f4 f5
    clear f6 f7
    have sz := oz.si
    clear oz
    go_wp2_with fail
    refine (NodesOf_any az n cz xs0 _ sz 0 RN (if_pos (by omega)) (by rw [if_pos (by omega)]; exact HRN.out)).mono ?_
    rintro e w4 ⟨rfl, hs⟩
    replace BW := BW.trans (hs.mono BW.size); replace x1 := blk_keep x1 hs; replace x2 := blk_keep x2 hs; replace x3 := blk_keep x3 hs
    replace X7 := blk_keep X7 hs
    replace s7 := s7.keep hs
    clear hs sz
    obtain ⟨ba, oa, rfl, hca⟩ := s7.at_ n0
    have ea := hca 0 n0
    rw [HX0.out, Nat.add_zero] at ea
    have hna : 0 < n := n0
    have b5 : decide (R0 < 1) = false := decide_eq_false (by omega)
    have b6 : (n : Int) > 0 := by omega
    clear hca
    go_wp2_with fail
    refine Calmly.wp_region_mix 51 (.fl 0 <| .fl 1 <| .fl 2 <| .gl 3 <| .gl 4 <| .fl 5 <| .fl 6 <| .gl 7 <| .gl 8 <| .fl 9 <| .fl 10 <| .gl 11 <| .gl 12 <| .fl 13 <| .fl 14 <| .gl 15 <| .gl 16 <| .gl 17 <| .gl 18 <| .gl 19 <| .gl 20 <| .gl 21 <| .fl 22 <| .fl 23 <| .gl 24 <| .gl 25 <| .gl 26 <| .fl 27 <| .fl 28 <| .gl 29 <| .gl 30 <| .gl 31 <| .gl 32 <| .gl 33 <| .gl 34 <| .gl 35 <| .fl 36 <| .fl 37 <| .gl 38 <| .gl 39 <| .gl 40 <| .gl 41 <| .fl 42 <| .fl 43 <| .gl 44 <| .gl 45 <| .gl 46 <| .gl 47 <| .gl 48 <| .gl 49 <| .fl 50 <| .tail []) (by kernel_rfl) (by kernel_rfl) ?_
    rename_i K hK
    have hK' := fun a w (h : Stop _) => hK a w h.out
    clear hK
    replace x1 := blk_keep x1 (Below.refl _ _).drew; replace x2 := blk_keep x2 (Below.refl _ _).drew; replace x3 := blk_keep x3 (Below.refl _ _).drew; replace BW := BW.drew
    replace X7 := blk_keep X7 (Below.refl _ _).drew
    replace s7 := s7.keep (Below.refl _ _).drew
    replace ea := cell_keep ea (Below.refl _ _).drew
    generalize World.drew _ = V3 at x1 x2 x3 BW X7 s7 ea ⊢
    have HKK : ∀ (y8 y10 y12 y14 y30 y31 y32 y33 y34 y35 y36 y37 y38 y39 y40 y41 y42 y43 y44 y45 y46 y47 y48 y49 y50 y51 y52 y53 y54 y55 y56 y57 y58 y59 y60 y61 y62 y63 y64 y65 y66 y67 y68 y69 y70 y71 y72 y73 y74 y75 y76 y77 y78 y79 y80 y81 y82 y83 y84 y85 y86 y87 y88 y89 y90 y91 y92 y93 y94 y95 y96 y97 y98 y99 y100 y101 y102 y103 y104 y105 y106 y107 y108 y109 y110 y111 y112 y113 y114 y115 y116 y117 y118 y119 y120 y121 y122 y123 y124 y125 y126 y127 y128 y129 y130 y131 y132 : Value), K { tmps := #[Value.agg #[Value.slice a n c, Value.slice b m d], Value.agg #[Value.int IntKind.i64 x, Value.int IntKind.i64 y], Value.agg #[Value.slice u n e', Value.slice z n f'], Value.pointer (some ⟨w.heap.size, 0, none⟩), Value.pointer (some ⟨w.heap.size + 1, 0, none⟩), Value.pointer (some ⟨w.heap.size + 1 + 1, 0, none⟩), Value.bool false, Value.pointer (some ⟨b7, 0, none⟩), y8, Value.int IntKind.i64 0, y10, Value.int IntKind.i64 0, y12, Value.int IntKind.i64 0, y14, Value.int IntKind.i64 0, undef, undef, undef, undef, undef, undef, undef, undef, undef, undef, undef, undef, undef, undef, y30, y31, y32, y33, y34, y35, y36, y37, y38, y39, y40, y41, y42, y43, y44, y45, y46, y47, y48, y49, y50, y51, y52, y53, y54, y55, y56, y57, y58, y59, y60, y61, y62, y63, y64, y65, y66, y67, y68, y69, y70, y71, y72, y73, y74, y75, y76, y77, y78, y79, y80, y81, y82, y83, y84, y85, y86, y87, y88, y89, y90, y91, y92, y93, y94, y95, y96, y97, y98, y99, y100, y101, y102, y103, y104, y105, y106, y107, y108, y109, y110, y111, y112, y113, y114, y115, y116, y117, y118, y119, y120, y121, y122, y123, y124, y125, y126, y127, y128, y129, y130, y131, y132, Value.bool false, undef, undef, undef, undef, undef, undef, undef, undef, undef, undef, undef, undef, undef, undef, undef, undef, undef, undef, undef, undef, undef, undef, undef, undef, undef, undef, undef, undef, undef, undef, undef, undef, undef, undef, undef, undef, undef, undef, undef, undef, undef, undef, undef, undef, undef, undef, undef, undef, undef, undef, undef, undef, undef, undef, undef, undef, undef, undef, undef, undef, undef, undef, undef, undef, undef, undef, undef, undef, undef, undef, undef, undef, undef, undef, undef, undef, undef, undef, undef, undef, undef, undef, undef, undef, undef, undef, undef, undef, undef, undef, undef, undef, undef, undef, undef, undef, undef, undef, undef, undef, undef, undef, undef, undef, undef, undef, undef, undef, undef, undef, undef, undef, undef, undef, undef, undef, undef, undef, undef, undef, undef, undef, undef, undef, undef, undef, undef, undef, undef, undef, undef, undef, undef, undef, undef, undef, undef, undef, undef, undef, undef, undef, undef, undef, undef, undef, undef, undef, undef, undef, undef, undef, undef, undef, undef, undef, undef, undef, undef, undef, undef, undef, undef, undef, undef, undef, undef, undef, undef, undef, undef, undef, undef, undef, undef, undef, undef, undef, undef, undef, undef, undef, undef, undef, undef, undef, undef, undef, undef, undef, undef, undef, undef, undef, undef, undef, undef], defers := [] } V3 := by
      intro y8 y10 y12 y14 y30 y31 y32 y33 y34 y35 y36 y37 y38 y39 y40 y41 y42 y43 y44 y45 y46 y47 y48 y49 y50 y51 y52 y53 y54 y55 y56 y57 y58 y59 y60 y61 y62 y63 y64 y65 y66 y67 y68 y69 y70 y71 y72 y73 y74 y75 y76 y77 y78 y79 y80 y81 y82 y83 y84 y85 y86 y87 y88 y89 y90 y91 y92 y93 y94 y95 y96 y97 y98 y99 y100 y101 y102 y103 y104 y105 y106 y107 y108 y109 y110 y111 y112 y113 y114 y115 y116 y117 y118 y119 y120 y121 y122 y123 y124 y125 y126 y127 y128 y129 y130 y131 y132
      refine hK' _ _ ⟨?_⟩
      clear hK' K b5 b6 ea s7 X7 HMS HND HX0 HRN HBF HM HR3 HR2 HR1
      have f0 := cell_block x1 0; have f1 := cell_block x1 1; have f2 := cell_block x2 0; have f3 := cell_block x2 1; have f4 := cell_block x3 0; have f5 := cell_block x3 1
      have hlt := blk_lt x3
      go_wp2_with fail
      go_loopw [16, 17] (fun v i wr => ∃ (j c7 : Nat) (a' : Option Addr), i = .int .i64 (j : Int) ∧ j ≤ n ∧ v = .slice a' j c7 ∧ OwI wr V3.heap.size a' j c7 (addL ls ns j) ∧ Below V3.heap.size V3 wr) (fun _ i _ => n - (intOf i).toNat)
      case atStart => exact ⟨0, 0, none, rfl, by omega, rfl, OwI.nil _ _, Below.refl _ _⟩
      case round =>
        obtain ⟨j, cj, aj, rfl, hj0, rfl, hown, hbj⟩ := hrel
        rename World => wj
        have hbjs := hbj.size
        replace x1 := blk_keep x1 hbj
        replace x2 := blk_keep x2 hbj
        replace x3 := blk_keep x3 hbj
        replace BW := BW.trans (hbj.mono BW.size)
        clear f0 f1 f2 f3 f4 f5
        by_cases hjl : j < n
        · have hj1 : (j : Int) < (n : Int) := by omega
          have hj2 : (0 : Int) ≤ (j : Int) := by omega
          obtain ⟨bu, ou, rfl, hcu⟩ := (h3.keep BW).at_ n0
          obtain ⟨bz, oz, rfl, hcz⟩ := (h4.keep BW).at_ n0
          have eu := hcu j hjl
          have ez := hcz j hjl
          have hu := HU2.out j
          have hv := HV2.out j
          have hsu := addL_succ ls ns j
          obtain ⟨uv, huv⟩ : ∃ q, ls[j]?.getD 0 = q := ⟨_, rfl⟩
          obtain ⟨zv, hzv⟩ : ∃ q, ns[j]?.getD 0 = q := ⟨_, rfl⟩
          rw [huv] at eu hu hsu
          rw [hzv] at ez hv hsu
          have HSU := Lib.hid hsu
          clear huv hzv hsu hcu hcz
          have f0 := cell_block x1 0; have f1 := cell_block x1 1; have f2 := cell_block x2 0; have f3 := cell_block x2 1; have f4 := cell_block x3 0; have f5 := cell_block x3 1
          go_wp2_with fail
          refine Calmly.wp_region_mix 13 (.fl 0 <| .fl 1 <| .fl 2 <| .fl 3 <| .fl 4 <| .fl 5 <| .fl 6 <| .fl 7 <| .fl 8 <| .fl 9 <| .fl 10 <| .fl 11 <| .eff 12 <| .tail [13, 14]) (by kernel_rfl) (by kernel_rfl) ?_
          replace x1 := blk_keep x1 (Below.refl _ _).drew; replace x2 := blk_keep x2 (Below.refl _ _).drew; replace x3 := blk_keep x3 (Below.refl _ _).drew; replace BW := BW.drew
          replace eu := cell_keep eu (Below.refl _ _).drew
          replace ez := cell_keep ez (Below.refl _ _).drew
          replace hown := hown.drew
          replace hbj := hbj.drew
          clear f0 f1 f2 f3 f4 f5
          generalize World.drew _ = V5 at x1 x2 x3 BW eu ez hown hbj ⊢
          have f0 := cell_block x1 0; have f1 := cell_block x1 1; have f2 := cell_block x2 0; have f3 := cell_block x2 1; have f4 := cell_block x3 0; have f5 := cell_block x3 1
          have hk := Below.refl V5.heap.size V5
          have hbjs2 := hbj.size
          go_wp2_with (first | ((with_reducible refine Calmly.is_tail ?_); refine Calmly.mix_tail_app rfl (fun rest hrest => ?_); refine appIw V5 rfl rfl _ _ rfl hown rfl rfl (by omega) (by omega) ?_; intro a2' c2' w5 ho5 hb5 hs5; refine hrest _ _ ?_) | ((with_reducible refine Calmly.is_fl ?_); refine Calmly.mix_fl rfl ?_ (fun _ _ => ?_); (first | exact .move _ | exact .load _ _ | exact .fieldAddr _ _ _ (by kernel_rfl) | exact .assign _ | exact .binOp _ _ _ _ _ rfl | exact .indexAddr _ _ _ | exact .len _ _ (by kernel_rfl) | exact .field _ _ _ | exact .extract _ _ | exact .pick _ _ _ | exact .build _ _ | exact .slice _ _ _ _ _ | exact .unOp _ _ _ rfl | exact .index _ _ _ | exact .max _ _ _ rfl rfl | exact .min _ _ _ rfl rfl)) | ((with_reducible refine Calmly.is_gl ?_); refine Calmly.mix_gl rfl rfl rfl ?_; first | ((first | with_reducible refine Calmly.gl_tt ?_ (fun _ _ => ?_) | with_reducible refine Calmly.gl_ff ?_ (fun _ _ => ?_)); (first | exact .move _ | exact .load _ _ | exact .fieldAddr _ _ _ (by kernel_rfl) | exact .assign _ | exact .binOp _ _ _ _ _ rfl | exact .indexAddr _ _ _ | exact .len _ _ (by kernel_rfl) | exact .field _ _ _ | exact .extract _ _ | exact .pick _ _ _ | exact .build _ _ | exact .slice _ _ _ _ _ | exact .unOp _ _ _ rfl | exact .index _ _ _ | exact .max _ _ _ rfl rfl | exact .min _ _ _ rfl rfl)) | with_reducible refine Calmly.gl_tf (fun _ _ => ?_) | with_reducible refine Calmly.gl_ft (fun _ _ => ?_)) | ((with_reducible refine Calmly.is_eff ?_); refine Calmly.mix_eff rfl (fun _ _ => ?_)) | ((with_reducible refine Calmly.is_gf ?_); refine Calmly.mix_gf rfl rfl rfl ?_; first | with_reducible refine Calmly.gf_tt (fun _ _ => ?_) | with_reducible refine Calmly.gf_ff (fun _ _ => ?_) | with_reducible refine Calmly.gf_tf (kept_of hk) (fun _ _ => ?_) | with_reducible refine Calmly.gf_ft (kept_of hk) (fun _ _ => ?_)) | ((with_reducible refine Calmly.is_tail ?_); first | refine Calmly.mix_tail_nil ?_ | refine Calmly.mix_tail rfl (fun _ _ => ?_)) | ((with_reducible refine Calmly.is_kept ?_); refine ⟨kept_of hk, ?_⟩) | (with_reducible refine Calmly.mix_alt ?_ ?_) | (refine kept_alloc hk (fun hk' hblk hge => ?_); replace hk := hk'; clear hk'))
          go_roundw
          case rel => exact ⟨j + 1, c2', a2', by go_num, by omega, rfl, by rw [HSU.out]; exact ho5, hbj.trans (hb5.mono (by omega))⟩
          case measure => simp [intOf]; omega
        · have hle : (n : Int) ≤ (j : Int) := by omega
          obtain rfl : n = j := by omega
          clear hjl hj0
          have hjn : ¬ (n : Int) < (n : Int) := by omega
          have s16 := hown.si
          clear hown
          have f0 := cell_block x1 0; have f1 := cell_block x1 1; have f2 := cell_block x2 0; have f3 := cell_block x2 1; have f4 := cell_block x3 0; have f5 := cell_block x3 1
          go_wp2_with fail
          obtain ⟨E3, hE3⟩ : ∃ E, loadsE n (addL ls ns n) = E := ⟨_, rfl⟩
          refine (LoadsErr_any a b aj n c m d n cj ms (addL ls ns n) _ (h1.keep BW) s16).mono ?_
          rintro e v1 ⟨rfl, hs⟩
          rw [hE3]
          have HE3 := Lib.hid hE3
          replace BW := BW.trans (hs.mono BW.size); replace x1 := blk_keep x1 hs; replace x2 := blk_keep x2 hs; replace x3 := blk_keep x3 hs
          replace s16 := s16.keep hs
          clear hs hE3
          clear f0 f1 f2 f3 f4 f5
          have f0 := cell_block x1 0; have f1 := cell_block x1 1; have f2 := cell_block x2 0; have f3 := cell_block x2 1; have f4 := cell_block x3 0; have f5 := cell_block x3 1
          by_cases hz : E3 = 0
          case neg =>
            have b1 : (E3 != 0) = true := by simpa using hz
            clear hz
            go_wp2_with fail; go_ret; exact ⟨rfl, BW⟩
          subst hz
          have hms : ms.length = n := by omega
          have hsw : ∀ L : List Int, loadsE n L = 0 → swayE ms ks L = 0 := by
            intro L hL
            unfold swayE
            rw [if_pos HC.out, hms]
            exact hL
          have hEA := hsw _ HE1.out
          have hEB := hsw _ HE2.out
          have hEC := hsw _ HE3.out
          obtain ⟨RA, xa, ra1, ra2, ra3, _, _, ra4, ra5, ra6⟩ := sway_facts hms hEA
          obtain ⟨RB, xb, rb1, rb2, rb3, _, _, rb4, rb5, rb6⟩ := sway_facts hms hEB
          obtain ⟨RC, xc, rc1, rc2, rc3, _, _, rc4, rc5, rc6⟩ := sway_facts hms hEC
          have FA := Lib.hid (force_law hms hEA ra1 ra2)
          have QA := Lib.hid (sway_rat hms hEA ra1 ra2)
          have QB := Lib.hid (sway_rat hms hEB rb1 rb2)
          have QC := Lib.hid (sway_rat hms hEC rc1 rc2)
          have RA1 := Lib.hid ra1
          have RA2 := Lib.hid ra2
          have RA3 := Lib.hid ra3
          have RA6 := Lib.hid ra6
          have RB1 := Lib.hid rb1
          have RB2 := Lib.hid rb2
          have RB3 := Lib.hid rb3
          have RB6 := Lib.hid rb6
          have RC1 := Lib.hid rc1
          have RC2 := Lib.hid rc2
          have RC3 := Lib.hid rc3
          have RC6 := Lib.hid rc6
          have HEA := Lib.hid hEA
          have HEB := Lib.hid hEB
          have HEC := Lib.hid hEC
          clear hms hsw hEA hEB hEC ra1 ra2 ra3 ra6 rb1 rb2 rb3 rb6 rc1 rc2 rc3 rc6
          go_wp2_with fail
          refine Calmly.wp_region_mix 11 (.fl 0 <| .fl 2 <| .fl 3 <| .alt 1 (.alt 4 (.alt 5 (.fl 6 <| .fl 7 <| .fl 8 <| .eff 9 <| .eff 10 <| .tail [11]) (.eff 9 (.eff 5 <| .fl 6 <| .fl 7 <| .fl 8 <| .eff 10 <| .tail [11]))) (.eff 9 (.eff 4 <| .eff 5 <| .fl 6 <| .fl 7 <| .fl 8 <| .eff 10 <| .tail [11]))) (.eff 9 (.eff 1 <| .eff 4 <| .eff 5 <| .fl 6 <| .fl 7 <| .fl 8 <| .eff 10 <| .tail [11]))) (by kernel_rfl) (by kernel_rfl) ?_
          rename_i K hK
          have hK' := fun a w (h : Stop _) => hK a w h.out
          clear hK
          replace x1 := blk_keep x1 (Below.refl _ _).drew; replace x2 := blk_keep x2 (Below.refl _ _).drew; replace x3 := blk_keep x3 (Below.refl _ _).drew; replace BW := BW.drew
          replace s16 := s16.keep (Below.refl _ _).drew
          clear f0 f1 f2 f3 f4 f5
          generalize World.drew _ = U2 at x1 x2 x3 BW s16 ⊢
          have HKK : ∀ (b8 : Nat) (a8 : Option Addr) (c8 : Nat) (y134 y135 y136 y137 y138 y139 y140 y141 y142 y143 y144 y145 y146 y147 y148 y149 y150 y151 y152 y153 y154 y155 y156 y157 y158 y159 y160 y161 y162 y163 y164 y165 y166 y167 : Value) (v : World), U2.heap.size ≤ b8 → Below U2.heap.size U2 v → v.heap[b8]? = some (.cells #[.int .i64 RA, .slice a8 xa.length c8] 117) → SI v a8 xa.length c8 xa → K { tmps := #[Value.agg #[Value.slice a n c, Value.slice b m d], Value.agg #[Value.int IntKind.i64 x, Value.int IntKind.i64 y], Value.agg #[Value.slice u n e', Value.slice z n f'], Value.pointer (some ⟨w.heap.size, 0, none⟩), Value.pointer (some ⟨w.heap.size + 1, 0, none⟩), Value.pointer (some ⟨w.heap.size + 1 + 1, 0, none⟩), Value.bool false, Value.pointer (some ⟨b7, 0, none⟩), y8, Value.int IntKind.i64 0, y10, Value.int IntKind.i64 0, y12, Value.int IntKind.i64 0, y14, Value.int IntKind.i64 0, Value.slice aj n cj, Value.int IntKind.i64 (n : Int), Value.pointer (some ⟨b8, 0, none⟩), Value.int IntKind.i64 0, undef, undef, undef, undef, undef, undef, undef, undef, undef, undef, y30, y31, y32, y33, y34, y35, y36, y37, y38, y39, y40, y41, y42, y43, y44, y45, y46, y47, y48, y49, y50, y51, y52, y53, y54, y55, y56, y57, y58, y59, y60, y61, y62, y63, y64, y65, y66, y67, y68, y69, y70, y71, y72, y73, y74, y75, y76, y77, y78, y79, y80, y81, y82, y83, y84, y85, y86, y87, y88, y89, y90, y91, y92, y93, y94, y95, y96, y97, y98, y99, y100, y101, y102, y103, y104, y105, y106, y107, y108, y109, y110, y111, y112, y113, y114, y115, y116, y117, y118, y119, y120, y121, y122, y123, y124, y125, y126, y127, y128, y129, y130, y131, y132, Value.bool false, y134, y135, y136, y137, y138, y139, y140, y141, y142, y143, y144, y145, y146, y147, y148, y149, y150, y151, y152, y153, y154, y155, y156, y157, y158, y159, y160, y161, y162, y163, y164, y165, y166, y167, undef, undef, undef, undef, undef, undef, undef, undef, undef, undef, undef, undef, undef, undef, undef, undef, undef, undef, undef, undef, undef, undef, undef, undef, undef, undef, undef, undef, undef, undef, undef, undef, undef, undef, undef, undef, undef, undef, undef, undef, undef, undef, undef, undef, undef, undef, undef, undef, undef, undef, undef, undef, undef, undef, undef, undef, undef, undef, undef, undef, undef, undef, undef, undef, undef, undef, undef, undef, undef, undef, undef, undef, undef, undef, undef, undef, undef, undef, undef, undef, undef, undef, undef, undef, undef, undef, undef, undef, undef, undef, undef, undef, undef, undef, undef, undef, undef, undef, undef, undef, undef, undef, undef, undef, undef, undef, undef, undef, undef, undef, undef, undef, undef, undef, undef, undef, undef, undef, undef, undef, undef, undef, undef, undef, undef, undef, undef, undef, undef, undef, undef, undef, undef, undef, undef, undef, undef, undef, undef, undef, undef, undef, undef, undef, undef, undef, undef, undef, undef, undef, undef, undef, undef, undef, undef, undef, undef, undef, undef, undef, undef, undef, undef], defers := [] } v := by
            intro b8 a8 c8 y134 y135 y136 y137 y138 y139 y140 y141 y142 y143 y144 y145 y146 y147 y148 y149 y150 y151 y152 y153 y154 y155 y156 y157 y158 y159 y160 y161 y162 y163 y164 y165 y166 y167 v hb8 hv X18 s18
            refine hK' _ _ ⟨?_⟩
            clear hK' K
            rw [RA3.out] at X18 s18
            replace x1 := blk_keep x1 hv
            replace x2 := blk_keep x2 hv
            replace x3 := blk_keep x3 hv
            replace s16 := s16.keep hv
            replace BW := BW.trans (hv.mono BW.size)
            clear hv hb8
            go_wp2_with fail
            refine Calmly.wp_region_mix 11 (.fl 0 <| .fl 2 <| .fl 3 <| .alt 1 (.alt 4 (.alt 5 (.fl 6 <| .fl 7 <| .fl 8 <| .eff 9 <| .eff 10 <| .tail [11]) (.eff 9 (.eff 5 <| .fl 6 <| .fl 7 <| .fl 8 <| .eff 10 <| .tail [11]))) (.eff 9 (.eff 4 <| .eff 5 <| .fl 6 <| .fl 7 <| .fl 8 <| .eff 10 <| .tail [11]))) (.eff 9 (.eff 1 <| .eff 4 <| .eff 5 <| .fl 6 <| .fl 7 <| .fl 8 <| .eff 10 <| .tail [11]))) (by kernel_rfl) (by kernel_rfl) ?_
            rename_i K hK
            have hK' := fun a w (h : Stop _) => hK a w h.out
            clear hK
            replace x1 := blk_keep x1 (Below.refl _ _).drew; replace x2 := blk_keep x2 (Below.refl _ _).drew; replace x3 := blk_keep x3 (Below.refl _ _).drew; replace BW := BW.drew
            replace s16 := s16.keep (Below.refl _ _).drew
            replace s18 := s18.keep (Below.refl _ _).drew
            replace X18 := blk_keep X18 (Below.refl _ _).drew
            generalize World.drew _ = U3 at x1 x2 x3 BW s16 s18 X18 ⊢
            have HKK : ∀ (b10 : Nat) (a10 : Option Addr) (c10 : Nat) (y168 y169 y170 y171 y172 y173 y174 y175 y176 : Value) (v : World), U3.heap.size ≤ b10 → Below U3.heap.size U3 v → v.heap[b10]? = some (.cells #[.int .i64 RB, .slice a10 xb.length c10] 117) → SI v a10 xb.length c10 xb → K { tmps := #[Value.agg #[Value.slice a n c, Value.slice b m d], Value.agg #[Value.int IntKind.i64 x, Value.int IntKind.i64 y], Value.agg #[Value.slice u n e', Value.slice z n f'], Value.pointer (some ⟨w.heap.size, 0, none⟩), Value.pointer (some ⟨w.heap.size + 1, 0, none⟩), Value.pointer (some ⟨w.heap.size + 1 + 1, 0, none⟩), Value.bool false, Value.pointer (some ⟨b7, 0, none⟩), y8, Value.int IntKind.i64 0, y10, Value.int IntKind.i64 0, y12, Value.int IntKind.i64 0, y14, Value.int IntKind.i64 0, Value.slice aj n cj, Value.int IntKind.i64 (n : Int), Value.pointer (some ⟨b8, 0, none⟩), Value.int IntKind.i64 0, Value.pointer (some ⟨b10, 0, none⟩), Value.int IntKind.i64 0, undef, undef, undef, undef, undef, undef, undef, undef, y30, y31, y32, y33, y34, y35, y36, y37, y38, y39, y40, y41, y42, y43, y44, y45, y46, y47, y48, y49, y50, y51, y52, y53, y54, y55, y56, y57, y58, y59, y60, y61, y62, y63, y64, y65, y66, y67, y68, y69, y70, y71, y72, y73, y74, y75, y76, y77, y78, y79, y80, y81, y82, y83, y84, y85, y86, y87, y88, y89, y90, y91, y92, y93, y94, y95, y96, y97, y98, y99, y100, y101, y102, y103, y104, y105, y106, y107, y108, y109, y110, y111, y112, y113, y114, y115, y116, y117, y118, y119, y120, y121, y122, y123, y124, y125, y126, y127, y128, y129, y130, y131, y132, Value.bool false, y134, y135, y136, y137, y138, y139, y140, y141, y142, y143, y144, y145, y146, y147, y148, y149, y150, y151, y152, y153, y154, y155, y156, y157, y158, y159, y160, y161, y162, y163, y164, y165, y166, y167, y168, y169, y170, y171, y172, y173, y174, y175, y176, undef, undef, undef, undef, undef, undef, undef, undef, undef, undef, undef, undef, undef, undef, undef, undef, undef, undef, undef, undef, undef, undef, undef, undef, undef, undef, undef, undef, undef, undef, undef, undef, undef, undef, undef, undef, undef, undef, undef, undef, undef, undef, undef, undef, undef, undef, undef, undef, undef, undef, undef, undef, undef, undef, undef, undef, undef, undef, undef, undef, undef, undef, undef, undef, undef, undef, undef, undef, undef, undef, undef, undef, undef, undef, undef, undef, undef, undef, undef, undef, undef, undef, undef, undef, undef, undef, undef, undef, undef, undef, undef, undef, undef, undef, undef, undef, undef, undef, undef, undef, undef, undef, undef, undef, undef, undef, undef, undef, undef, undef, undef, undef, undef, undef, undef, undef, undef, undef, undef, undef, undef, undef, undef, undef, undef, undef, undef, undef, undef, undef, undef, undef, undef, undef, undef, undef, undef, undef, undef, undef, undef, undef, undef, undef, undef, undef, undef, undef, undef, undef, undef, undef, undef, undef], defers := [] } v := by
              intro b10 a10 c10 y168 y169 y170 y171 y172 y173 y174 y175 y176 v hb10 hv X20 s20
              refine hK' _ _ ⟨?_⟩
              clear hK' K
              rw [RB3.out] at X20 s20
              have h18 := blk_lt X18
              have hne18 : b8 ≠ b10 := by omega
              replace x1 := blk_keep x1 hv
              replace x2 := blk_keep x2 hv
              replace x3 := blk_keep x3 hv
              replace s16 := s16.keep hv
              replace s18 := s18.keep hv
              replace X18 := blk_keep X18 hv
              replace BW := BW.trans (hv.mono BW.size)
              clear hv hb10 h18
              have f0 := cell_block x1 0
              have f1 := cell_block x1 1
              have hlt := blk_lt x3
              go_wp2_with fail
              refine (Copy_any a b n c m d ms ks _ (h1.keep BW) (h2.keep BW) (by omega) (by omega)).mono ?_
              rintro e w7 ⟨a1, c1', b1, d1', BB, rfl, oA1, oB1, hB, hgB, hs⟩
              replace BW := BW.trans (hs.mono BW.size); replace x1 := blk_keep x1 hs; replace x2 := blk_keep x2 hs; replace x3 := blk_keep x3 hs; replace s16 := s16.keep hs; replace s18 := s18.keep hs; replace s20 := s20.keep hs; replace X18 := blk_keep X18 hs; replace X20 := blk_keep X20 hs
              clear hs hgB hB f0 f1 hlt
              go_wp2_with fail
              refine (SwayOf_any _ _ _ _ _ _ _ _ _ ms ks (addL ls ns n) _ oA1.si oB1.si s16 0 RC xc HEC.out (fun h => absurd rfl h) (fun _ => ⟨RC1.out, RC2.out⟩)).mono ?_
              rintro e w9 ⟨a22, c22, B7, rfl, o22, hB7, hs⟩
              rw [RC3.out] at o22 ⊢
              replace BW := BW.trans (hs.mono BW.size); replace x1 := blk_keep x1 hs; replace x2 := blk_keep x2 hs; replace x3 := blk_keep x3 hs; replace s16 := s16.keep hs; replace s18 := s18.keep hs; replace s20 := s20.keep hs; replace X18 := blk_keep X18 hs; replace X20 := blk_keep X20 hs
              clear hs oA1 oB1 hB7
              have s22 := o22.si
              clear o22
              have hs := hA w9 (.cells #[.int .i64 RC, .slice a22 n c22] 117)
              have X22 := alloc_new w9 (.cells #[.int .i64 RC, .slice a22 n c22] 117)
              replace s22 := s22.keep hs
              replace BW := BW.trans (hs.mono BW.size); replace x1 := blk_keep x1 hs; replace x2 := blk_keep x2 hs; replace x3 := blk_keep x3 hs; replace s16 := s16.keep hs; replace s18 := s18.keep hs; replace s20 := s20.keep hs; replace X18 := blk_keep X18 hs; replace X20 := blk_keep X20 hs
              clear hs
              have f0 := cell_block x1 0; have f1 := cell_block x1 1; have f2 := cell_block x2 0; have f3 := cell_block x2 1; have f4 := cell_block x3 0; have f5 := cell_block x3 1; have g10 := cell_block X18 0; have g11 := cell_block X18 1; have g12 := cell_block X20 0; have g13 := cell_block X20 1; have g14 := cell_block X22 0; have g15 := cell_block X22 1
              go_wp2_with fail
              refine (isShape_ok RA a8 n c8 xa _ s18 (wIn_iff.2 ⟨by omega, by omega⟩) (fun i _ => wIn_iff.2 (by have := RA6.out i; omega))).mono ?_
              rintro e v1 ⟨rfl, hs⟩
              replace BW := BW.trans (hs.mono BW.size); replace x1 := blk_keep x1 hs; replace x2 := blk_keep x2 hs; replace x3 := blk_keep x3 hs; replace s16 := s16.keep hs; replace s18 := s18.keep hs; replace s20 := s20.keep hs; replace X18 := blk_keep X18 hs; replace X20 := blk_keep X20 hs; replace s22 := s22.keep hs; replace X22 := blk_keep X22 hs
              clear hs
              clear f0 f1 f2 f3 f4 f5 g10 g11 g12 g13 g14 g15
              have f0 := cell_block x1 0; have f1 := cell_block x1 1; have f2 := cell_block x2 0; have f3 := cell_block x2 1; have f4 := cell_block x3 0; have f5 := cell_block x3 1; have g10 := cell_block X18 0; have g11 := cell_block X18 1; have g12 := cell_block X20 0; have g13 := cell_block X20 1; have g14 := cell_block X22 0; have g15 := cell_block X22 1
              go_wp2_with fail
              refine (isShape_ok RB a10 n c10 xb _ s20 (wIn_iff.2 ⟨by omega, by omega⟩) (fun i _ => wIn_iff.2 (by have := RB6.out i; omega))).mono ?_
              rintro e v2 ⟨rfl, hs⟩
              replace BW := BW.trans (hs.mono BW.size); replace x1 := blk_keep x1 hs; replace x2 := blk_keep x2 hs; replace x3 := blk_keep x3 hs; replace s16 := s16.keep hs; replace s18 := s18.keep hs; replace s20 := s20.keep hs; replace X18 := blk_keep X18 hs; replace X20 := blk_keep X20 hs; replace s22 := s22.keep hs; replace X22 := blk_keep X22 hs
              clear hs
              clear f0 f1 f2 f3 f4 f5 g10 g11 g12 g13 g14 g15
              have f0 := cell_block x1 0; have f1 := cell_block x1 1; have f2 := cell_block x2 0; have f3 := cell_block x2 1; have f4 := cell_block x3 0; have f5 := cell_block x3 1; have g10 := cell_block X18 0; have g11 := cell_block X18 1; have g12 := cell_block X20 0; have g13 := cell_block X20 1; have g14 := cell_block X22 0; have g15 := cell_block X22 1
              go_wp2_with fail
              refine (isShape_ok RC a22 n c22 xc _ s22 (wIn_iff.2 ⟨by omega, by omega⟩) (fun i _ => wIn_iff.2 (by have := RC6.out i; omega))).mono ?_
              rintro e v3 ⟨rfl, hs⟩
              replace BW := BW.trans (hs.mono BW.size); replace x1 := blk_keep x1 hs; replace x2 := blk_keep x2 hs; replace x3 := blk_keep x3 hs; replace s16 := s16.keep hs; replace s18 := s18.keep hs; replace s20 := s20.keep hs; replace X18 := blk_keep X18 hs; replace X20 := blk_keep X20 hs; replace s22 := s22.keep hs; replace X22 := blk_keep X22 hs
              clear hs
              clear f0 f1 f2 f3 f4 f5 g10 g11 g12 g13 g14 g15
              go_wp2_with fail
              refine (RatioInt_any 0 _ (by omega) (by omega)).mono ?_
              rintro e v4 ⟨⟨gs, ga, gn, gc, gs', ga', gn', gc', rfl, gl1, gl2, gV⟩, hs⟩
              replace BW := BW.trans (hs.mono BW.size); replace x1 := blk_keep x1 hs; replace x2 := blk_keep x2 hs; replace x3 := blk_keep x3 hs; replace s16 := s16.keep hs; replace s18 := s18.keep hs; replace s20 := s20.keep hs; replace X18 := blk_keep X18 hs; replace X20 := blk_keep X20 hs; replace s22 := s22.keep hs; replace X22 := blk_keep X22 hs
              clear hs
              go_wp2_with fail
              refine (RatioInt_any 0 _ (by omega) (by omega)).mono ?_
              rintro e v5 ⟨⟨ps, qa, pn, qc, ps', qa', pn', qc', rfl, pl1, pl2, pV⟩, hs⟩
              replace BW := BW.trans (hs.mono BW.size); replace x1 := blk_keep x1 hs; replace x2 := blk_keep x2 hs; replace x3 := blk_keep x3 hs; replace s16 := s16.keep hs; replace s18 := s18.keep hs; replace s20 := s20.keep hs; replace X18 := blk_keep X18 hs; replace X20 := blk_keep X20 hs; replace s22 := s22.keep hs; replace X22 := blk_keep X22 hs
              replace gV := gV.keep hs
              clear hs
              go_wp2_with fail
              have hb0 : Below v5.heap.size v5 ((v5.alloc (.cells #[.int .i64 gs, .slice ga gn gc, .int .i64 gs', .slice ga' gn' gc'] 72)).alloc (.cells #[.int .i64 ps, .slice qa pn qc, .int .i64 ps', .slice qa' pn' qc'] 72)) := ((Below.refl _ _).alloc (Nat.le_refl _) _).alloc (by simp) _
              obtain ⟨X24, X25⟩ := box2 (w := v5) (o := .cells #[.int .i64 gs, .slice ga gn gc, .int .i64 gs', .slice ga' gn' gc'] 72) (o' := .cells #[.int .i64 ps, .slice qa pn qc, .int .i64 ps', .slice qa' pn' qc'] 72) (Below.refl _ ((v5.alloc (.cells #[.int .i64 gs, .slice ga gn gc, .int .i64 gs', .slice ga' gn' gc'] 72)).alloc (.cells #[.int .i64 ps, .slice qa pn qc, .int .i64 ps', .slice qa' pn' qc'] 72)))
              have gV1 := gV.keep hb0
              have pV1 := pV.keep hb0
              rw [Rat.intCast_zero] at gV1 pV1
              clear gV pV
              obtain ⟨ba8, oa8, rfl, _⟩ := s18.at_ n0
              obtain ⟨ba10, oa10, rfl, _⟩ := s20.at_ n0
              obtain ⟨ba22, oa22, rfl, _⟩ := s22.at_ n0
              obtain ⟨bu, ou, rfl, _⟩ := (h3.keep BW).at_ n0
              obtain ⟨bz, oz, rfl, _⟩ := (h4.keep BW).at_ n0
              obtain ⟨bs, os, rfl, _⟩ := (h2.keep BW).at_ (show 0 < m by omega)
              obtain ⟨b22, hb22⟩ : ∃ v, w9.heap.size = v := ⟨_, rfl⟩
              rw [hb22] at X22 ⊢
              clear hb22
              refine wp_act (fun b => ∃ (y177 y178 y179 y180 y181 y182 y183 y184 y185 y186 y187 y188 y189 y190 y191 y192 y193 y194 y195 y196 y197 y198 y199 y200 y201 y202 y203 y204 y205 y206 y207 y208 y209 y210 y211 y212 y213 y214 y215 y216 y217 y218 y219 : Value), b = { tmps := #[Value.agg #[Value.slice a n c, Value.slice (some ⟨bs, os, none⟩) m d], Value.agg #[Value.int IntKind.i64 x, Value.int IntKind.i64 y], Value.agg #[Value.slice (some ⟨bu, ou, none⟩) n e', Value.slice (some ⟨bz, oz, none⟩) n f'], Value.pointer (some ⟨w.heap.size, 0, none⟩), Value.pointer (some ⟨w.heap.size + 1, 0, none⟩), Value.pointer (some ⟨w.heap.size + 1 + 1, 0, none⟩), Value.bool false, Value.pointer (some ⟨b7, 0, none⟩), y8, Value.int IntKind.i64 0, y10, Value.int IntKind.i64 0, y12, Value.int IntKind.i64 0, y14, Value.int IntKind.i64 0, Value.slice aj n cj, Value.int IntKind.i64 (n : Int), Value.pointer (some ⟨b8, 0, none⟩), Value.int IntKind.i64 0, Value.pointer (some ⟨b10, 0, none⟩), Value.int IntKind.i64 0, Value.pointer (some ⟨b22, 0, none⟩), Value.int IntKind.i64 0, Value.pointer (some ⟨v5.heap.size, 0, none⟩), Value.pointer (some ⟨v5.heap.size + 1, 0, none⟩), Value.int IntKind.i64 0, undef, undef, undef, y30, y31, y32, y33, y34, y35, y36, y37, y38, y39, y40, y41, y42, y43, y44, y45, y46, y47, y48, y49, y50, y51, y52, y53, y54, y55, y56, y57, y58, y59, y60, y61, y62, y63, y64, y65, y66, y67, y68, y69, y70, y71, y72, y73, y74, y75, y76, y77, y78, y79, y80, y81, y82, y83, y84, y85, y86, y87, y88, y89, y90, y91, y92, y93, y94, y95, y96, y97, y98, y99, y100, y101, y102, y103, y104, y105, y106, y107, y108, y109, y110, y111, y112, y113, y114, y115, y116, y117, y118, y119, y120, y121, y122, y123, y124, y125, y126, y127, y128, y129, y130, y131, y132, Value.bool false, y134, y135, y136, y137, y138, y139, y140, y141, y142, y143, y144, y145, y146, y147, y148, y149, y150, y151, y152, y153, y154, y155, y156, y157, y158, y159, y160, y161, y162, y163, y164, y165, y166, y167, y168, y169, y170, y171, y172, y173, y174, y175, y176, y177, y178, y179, y180, y181, y182, y183, y184, y185, y186, y187, y188, y189, y190, y191, y192, y193, y194, y195, y196, y197, y198, y199, y200, y201, y202, y203, y204, y205, y206, y207, y208, y209, y210, y211, y212, y213, y214, y215, y216, y217, y218, y219, undef, undef, undef, undef, undef, undef, undef, undef, undef, undef, undef, undef, undef, undef, undef, undef, undef, undef, undef, undef, undef, undef, undef, undef, undef, undef, undef, undef, undef, undef, undef, undef, undef, undef, undef, undef, undef, undef, undef, undef, undef, undef, undef, undef, undef, undef, undef, undef, undef, undef, undef, undef, undef, undef, undef, undef, undef, undef, undef, undef, undef, undef, undef, undef, undef, undef, undef, undef, undef, undef, undef, undef, undef, undef, undef, undef, undef, undef, undef, undef, undef, undef, undef, undef, undef, undef, undef, undef, undef, undef, undef, undef, undef, undef, undef, undef, undef, undef, undef, undef, undef, undef, undef, undef, undef, undef, undef, undef, undef, undef, undef], defers := [] }) ⟨_, _, _, _, _, _, _, _, _, _, _, _, _, _, _, _, _, _, _, _, _, _, _, _, _, _, _, _, _, _, _, _, _, _, _, _, _, _, _, _, _, _, _, rfl⟩ ?_
              rintro _ ⟨y177, y178, y179, y180, y181, y182, y183, y184, y185, y186, y187, y188, y189, y190, y191, y192, y193, y194, y195, y196, y197, y198, y199, y200, y201, y202, y203, y204, y205, y206, y207, y208, y209, y210, y211, y212, y213, y214, y215, y216, y217, y218, y219, rfl⟩
              dsimp only
              generalize (v5.alloc _).alloc _ = W6 at hb0 X24 X25 gV1 pV1 ⊢
              go_loopw [26] (fun iv wr => ∃ (i : Nat) (s : Int) (sa : Option Addr) (sn sc : Nat) (s' : Int) (sa' : Option Addr) (sn' sc' : Nat) (t : Int) (ta : Option Addr) (tn tc : Nat) (t' : Int) (ta' : Option Addr) (tn' tc' : Nat), i ≤ n ∧ iv = .int .i64 (i : Int) ∧ Below v5.heap.size v5 wr ∧
                wr.heap[v5.heap.size]? = some (.cells #[.int .i64 s, .slice sa sn sc, .int .i64 s', .slice sa' sn' sc'] 72) ∧ wr.heap[v5.heap.size + 1]? = some (.cells #[.int .i64 t, .slice ta tn tc, .int .i64 t', .slice ta' tn' tc'] 72) ∧ RatV wr s sa sn sc s' sa' sn' sc' (beT ks ls ns n i) ∧ RatV wr t ta tn tc t' ta' tn' tc' (beT ks ns ls n i) ∧ sn ≤ oL i ∧ sn' ≤ oL i ∧ tn ≤ oL i ∧ tn' ≤ oL i) (fun iv _ => n - (intOf iv).toNat)
              case atStart => exact ⟨0, _, _, _, _, _, _, _, _, _, _, _, _, _, _, _, _, by omega, rfl, hb0, X24, X25, gV1, pV1, gl1, gl2, pl1, pl2⟩
              case round =>
                clear X24 X25 gV1 pV1 hb0
                obtain ⟨i, s, sa, sn, sc, s', sa', sn', sc', t, ta, tn, tc, t', ta', tn', tc', hi0, rfl, hbr, X24, X25, gV, pV, hl1, hl2, hl3, hl4⟩ := hrel
                rename World => wr
                have HO := Lib.hid (And.intro x1 (And.intro x2 (And.intro x3 (And.intro BW (And.intro s16 (And.intro s18 (And.intro s20 (And.intro s22 (And.intro X18 (And.intro X20 X22))))))))))
                have hs := hbr
                replace BW := BW.trans (hs.mono BW.size); replace x1 := blk_keep x1 hs; replace x2 := blk_keep x2 hs; replace x3 := blk_keep x3 hs; replace s16 := s16.keep hs; replace s18 := s18.keep hs; replace s20 := s20.keep hs; replace X18 := blk_keep X18 hs; replace X20 := blk_keep X20 hs; replace s22 := s22.keep hs; replace X22 := blk_keep X22 hs
                clear hs
                obtain ⟨ol1, ol2⟩ := oL_bd i (by omega)
                by_cases hli : i < n
                · have exa := s18.hereN hli
                  have exb := s20.hereN hli
                  have ha6 := RA6.out i
                  have hb6 := RB6.out i
                  have hQA := QA.out i hli
                  have hQB := QB.out i hli
                  obtain ⟨xav, hxav⟩ : ∃ v, xa[i]?.getD 0 = v := ⟨_, rfl⟩
                  obtain ⟨xbv, hxbv⟩ : ∃ v, xb[i]?.getD 0 = v := ⟨_, rfl⟩
                  rw [hxav] at exa ha6 hQA
                  rw [hxbv] at exb hb6 hQB
                  have HXA := Lib.hid hxav
                  have HQA := Lib.hid hQA
                  have HQB := Lib.hid hQB
                  clear hxav hxbv hQA hQB
                  have hi1 : (i : Int) < (n : Int) := by omega
                  have hi2 : (0 : Int) ≤ (i : Int) := by omega
                  go_wp2_with fail
                  refine Calmly.wp_region_mix 18 (.fl 0 <| .fl 1 <| .fl 2 <| .fl 3 <| .fl 4 <| .fl 5 <| .fl 6 <| .fl 8 <| .fl 9 <| .fl 10 <| .fl 11 <| .fl 12 <| .fl 13 <| .fl 14 <| .alt 7 (.alt 15 (.alt 16 (.eff 17 <| .tail [18, 19]) (.eff 17 (.eff 16 <| .tail [18, 19]))) (.alt 16 (.alt 15 (.eff 17 <| .tail [18, 19]) (.eff 17 (.eff 15 <| .tail [18, 19]))) (.eff 17 (.alt 15 (.eff 16 <| .tail [18, 19]) (.eff 16 (.eff 15 <| .tail [18, 19])))))) (.alt 16 (.alt 7 (.alt 15 (.eff 17 <| .tail [18, 19]) (.eff 17 (.eff 15 <| .tail [18, 19]))) (.eff 17 (.eff 7 <| .eff 15 <| .tail [18, 19]))) (.eff 17 (.alt 7 (.alt 15 (.eff 16 <| .tail [18, 19]) (.eff 16 (.eff 15 <| .tail [18, 19]))) (.eff 16 (.eff 7 <| .eff 15 <| .tail [18, 19])))))) (by kernel_rfl) (by kernel_rfl) ?_
                  rename_i K hK
                  have hK' := fun a w (h : Stop _) => hK a w h.out
                  clear hK
                  replace x1 := blk_keep x1 (Below.refl _ _).drew; replace x2 := blk_keep x2 (Below.refl _ _).drew; replace x3 := blk_keep x3 (Below.refl _ _).drew; replace BW := BW.drew; replace s16 := s16.keep (Below.refl _ _).drew; replace s18 := s18.keep (Below.refl _ _).drew; replace s20 := s20.keep (Below.refl _ _).drew; replace s22 := s22.keep (Below.refl _ _).drew; replace X18 := blk_keep X18 (Below.refl _ _).drew; replace X20 := blk_keep X20 (Below.refl _ _).drew; replace X22 := blk_keep X22 (Below.refl _ _).drew
                  replace exa := cell_keep exa (Below.refl _ _).drew
                  replace exb := cell_keep exb (Below.refl _ _).drew
                  replace hbr := hbr.drew
                  replace X24 := blk_keep X24 (Below.refl _ _).drew
                  replace X25 := blk_keep X25 (Below.refl _ _).drew
                  replace gV := gV.keep (Below.refl _ _).drew
                  replace pV := pV.keep (Below.refl _ _).drew
                  generalize World.drew _ = V7 at x1 x2 x3 BW s16 s18 s20 s22 X18 X20 X22 X24 X25 gV pV hbr exa exb ⊢
                  have HKK : ∀ (b27 b28 : Nat) (e1 : Int) (ea : Option Addr) (en ec : Nat) (e2 : Int) (ea' : Option Addr) (en' ec' : Nat) (o1 : Int) (oa : Option Addr) (on oc : Nat) (o2 : Int) (oa' : Option Addr) (on' oc' : Nat) (y6 y29 y220 y221 y222 y223 y224 y225 y226 y227 y228 y229 y230 y231 y232 y233 y234 y235 y236 y237 y238 y239 y240 y241 y242 y243 y244 y245 y246 y247 y248 y249 y250 y251 y252 y253 y254 y255 y256 y257 y258 y259 y260 y261 y262 y263 y264 y265 y266 y267 y268 y269 y270 y271 y272 y273 y274 y275 y276 y277 y278 y279 y280 y281 y282 y283 y284 y285 y286 y287 y288 y289 y290 y291 y292 y293 y294 y295 y296 y297 y298 y299 y300 y301 y302 y303 y304 y305 y306 y307 y308 y309 y310 y311 y312 y313 y314 y315 y316 y317 y318 y319 y320 y321 y322 y323 y324 y325 y326 : Value) (v : World), V7.heap.size ≤ b27 → V7.heap.size ≤ b28 → b27 ≠ b28 → en ≤ 7 → en' ≤ 7 → on ≤ 7 → on' ≤ 7 →
                      (Below V7.heap.size V7 v ∧ v.heap[b27]? = some (.cells #[.int .i64 e1, .slice ea en ec, .int .i64 e2, .slice ea' en' ec'] 72) ∧ v.heap[b28]? = some (.cells #[.int .i64 o1, .slice oa on oc, .int .i64 o2, .slice oa' on' oc'] 72) ∧ RatV v e1 ea en ec e2 ea' en' ec' (Rat.divInt xav RA) ∧ RatV v o1 oa on oc o2 oa' on' oc' (Rat.divInt xbv RB)) →
                      K { tmps := #[Value.agg #[Value.slice a n c, Value.slice (some ⟨bs, os, none⟩) m d], Value.agg #[Value.int IntKind.i64 x, Value.int IntKind.i64 y], Value.agg #[Value.slice (some ⟨bu, ou, none⟩) n e', Value.slice (some ⟨bz, oz, none⟩) n f'], Value.pointer (some ⟨w.heap.size, 0, none⟩), Value.pointer (some ⟨w.heap.size + 1, 0, none⟩), Value.pointer (some ⟨w.heap.size + 1 + 1, 0, none⟩), y6, Value.pointer (some ⟨b7, 0, none⟩), y8, Value.int IntKind.i64 0, y10, Value.int IntKind.i64 0, y12, Value.int IntKind.i64 0, y14, Value.int IntKind.i64 0, Value.slice aj n cj, Value.int IntKind.i64 (n : Int), Value.pointer (some ⟨b8, 0, none⟩), Value.int IntKind.i64 0, Value.pointer (some ⟨b10, 0, none⟩), Value.int IntKind.i64 0, Value.pointer (some ⟨b22, 0, none⟩), Value.int IntKind.i64 0, Value.pointer (some ⟨v5.heap.size, 0, none⟩), Value.pointer (some ⟨v5.heap.size + 1, 0, none⟩), Value.int IntKind.i64 (i : Int), Value.pointer (some ⟨b27, 0, none⟩), Value.pointer (some ⟨b28, 0, none⟩), y29, y30, y31, y32, y33, y34, y35, y36, y37, y38, y39, y40, y41, y42, y43, y44, y45, y46, y47, y48, y49, y50, y51, y52, y53, y54, y55, y56, y57, y58, y59, y60, y61, y62, y63, y64, y65, y66, y67, y68, y69, y70, y71, y72, y73, y74, y75, y76, y77, y78, y79, y80, y81, y82, y83, y84, y85, y86, y87, y88, y89, y90, y91, y92, y93, y94, y95, y96, y97, y98, y99, y100, y101, y102, y103, y104, y105, y106, y107, y108, y109, y110, y111, y112, y113, y114, y115, y116, y117, y118, y119, y120, y121, y122, y123, y124, y125, y126, y127, y128, y129, y130, y131, y132, Value.bool false, y134, y135, y136, y137, y138, y139, y140, y141, y142, y143, y144, y145, y146, y147, y148, y149, y150, y151, y152, y153, y154, y155, y156, y157, y158, y159, y160, y161, y162, y163, y164, y165, y166, y167, y168, y169, y170, y171, y172, y173, y174, y175, y176, y177, y178, y179, y180, y181, y182, y183, y184, y185, y186, y187, y188, y189, y190, y191, y192, y193, y194, y195, y196, y197, y198, y199, y200, y201, y202, y203, y204, y205, y206, y207, y208, y209, y210, y211, y212, y213, y214, y215, y216, y217, y218, y219, y220, y221, y222, y223, y224, y225, y226, y227, y228, y229, y230, y231, y232, y233, y234, y235, y236, y237, y238, y239, y240, y241, y242, y243, y244, y245, y246, y247, y248, y249, y250, y251, y252, y253, y254, y255, y256, y257, y258, y259, y260, y261, y262, y263, y264, y265, y266, y267, y268, y269, y270, y271, y272, y273, y274, y275, y276, y277, y278, y279, y280, y281, y282, y283, y284, y285, y286, y287, y288, y289, y290, y291, y292, y293, y294, y295, y296, y297, y298, y299, y300, y301, y302, y303, y304, y305, y306, y307, y308, y309, y310, y311, y312, y313, y314, y315, y316, y317, y318, y319, y320, y321, y322, y323, y324, y325, y326, undef, undef, undef, undef], defers := [] } v := by
                    intro b27 b28 e1 ea1 en1 ec1 e2 ea2 en2 ec2 o1 oa1 on1 oc1 o2 oa2 on2 oc2 y6 y29 y220 y221 y222 y223 y224 y225 y226 y227 y228 y229 y230 y231 y232 y233 y234 y235 y236 y237 y238 y239 y240 y241 y242 y243 y244 y245 y246 y247 y248 y249 y250 y251 y252 y253 y254 y255 y256 y257 y258 y259 y260 y261 y262 y263 y264 y265 y266 y267 y268 y269 y270 y271 y272 y273 y274 y275 y276 y277 y278 y279 y280 y281 y282 y283 y284 y285 y286 y287 y288 y289 y290 y291 y292 y293 y294 y295 y296 y297 y298 y299 y300 y301 y302 y303 y304 y305 y306 y307 y308 y309 y310 y311 y312 y313 y314 y315 y316 y317 y318 y319 y320 y321 y322 y323 y324 y325 y326 v hb27 hb28 hne27 n1 n2 n3 n4' ⟨hv, X27, X28, eV, oV⟩
                    refine hK' _ _ ⟨?_⟩
                    clear hK' K
                    have h25 := blk_lt X25
                    have hs := hv
                    replace BW := BW.trans (hs.mono BW.size); replace x1 := blk_keep x1 hs; replace x2 := blk_keep x2 hs; replace x3 := blk_keep x3 hs; replace s16 := s16.keep hs; replace s18 := s18.keep hs; replace s20 := s20.keep hs; replace X18 := blk_keep X18 hs; replace X20 := blk_keep X20 hs; replace s22 := s22.keep hs; replace X22 := blk_keep X22 hs
                    replace X24 := blk_keep X24 hv
                    replace X25 := blk_keep X25 hv
                    replace gV := gV.keep hv
                    replace pV := pV.keep hv
                    replace hbr := hbr.trans (hv.mono hbr.size)
                    have hn27 : b27 ≠ v5.heap.size := by omega
                    have hn28 : b28 ≠ v5.heap.size := by omega
                    have hn27' : b27 ≠ v5.heap.size + 1 := by omega
                    have hn28' : b28 ≠ v5.heap.size + 1 := by omega
                    clear hs hv exa exb h25
                    have exc := s22.hereN hli
                    have hc6 := RC6.out i
                    have hQC := QC.out i hli
                    obtain ⟨xcv, hxcv⟩ : ∃ v, xc[i]?.getD 0 = v := ⟨_, rfl⟩
                    rw [hxcv] at exc hc6 hQC
                    have HCM : Hid (cmpI ((Rat.divInt xav RA + Rat.divInt xbv RB).num * ((Rat.divInt xcv RC).den : Int)) ((Rat.divInt xcv RC).num * ((Rat.divInt xav RA + Rat.divInt xbv RB).den : Int)) = 0) := Lib.hid (cmp_same (by rw [HQA.out, HQB.out, hQC, swQ_add _ _ _ _ _ (by omega)]))
                    clear hxcv hQC
                    go_wp2_with fail
                    refine Calmly.wp_region_mix 12 (.fl 0 <| .fl 1 <| .fl 3 <| .fl 4 <| .fl 5 <| .fl 6 <| .fl 7 <| .fl 8 <| .fl 9 <| .eff 2 <| .eff 10 <| .eff 11 <| .tail [12]) (by kernel_rfl) (by kernel_rfl) ?_
                    replace x1 := blk_keep x1 (Below.refl _ _).drew; replace x2 := blk_keep x2 (Below.refl _ _).drew; replace x3 := blk_keep x3 (Below.refl _ _).drew; replace BW := BW.drew; replace s16 := s16.keep (Below.refl _ _).drew; replace s18 := s18.keep (Below.refl _ _).drew; replace s20 := s20.keep (Below.refl _ _).drew; replace s22 := s22.keep (Below.refl _ _).drew; replace X18 := blk_keep X18 (Below.refl _ _).drew; replace X20 := blk_keep X20 (Below.refl _ _).drew; replace X22 := blk_keep X22 (Below.refl _ _).drew
                    replace X24 := blk_keep X24 (Below.refl _ _).drew; replace X25 := blk_keep X25 (Below.refl _ _).drew; replace gV := gV.keep (Below.refl _ _).drew; replace pV := pV.keep (Below.refl _ _).drew; replace hbr := hbr.drew; replace X27 := blk_keep X27 (Below.refl _ _).drew; replace X28 := blk_keep X28 (Below.refl _ _).drew; replace eV := eV.keep (Below.refl _ _).drew; replace oV := oV.keep (Below.refl _ _).drew
                    replace exc := cell_keep exc (Below.refl _ _).drew
                    generalize World.drew _ = V8 at x1 x2 x3 BW s16 s18 s20 s22 X18 X20 X22 X24 X25 gV pV hbr X27 X28 eV oV exc ⊢
                    have g14 := cell_block X22 0
                    have g15 := cell_block X22 1
                    have q0 := cell_block X27 0; have q1 := cell_block X27 1; have q2 := cell_block X27 2; have q3 := cell_block X27 3
                    have q4 := cell_block X28 0; have q5 := cell_block X28 1; have q6 := cell_block X28 2; have q7 := cell_block X28 3
                    have hk := Below.refl V8.heap.size V8
                    have r0c : RC ≠ 0 := by omega
                    have bRC : -9223372036854775807 ≤ RC ∧ RC ≤ 9223372036854775807 := by omega
                    have bxc : -9223372036854775807 ≤ xcv ∧ xcv ≤ 9223372036854775807 := by omega
                    go_wp2_with (first | ((with_reducible refine Calmly.is_fl ?_); refine Calmly.mix_fl rfl ?_ (fun _ _ => ?_); (first | exact .move _ | exact .load _ _ | exact .fieldAddr _ _ _ (by kernel_rfl) | exact .assign _ | exact .binOp _ _ _ _ _ rfl | exact .indexAddr _ _ _ | exact .len _ _ (by kernel_rfl) | exact .field _ _ _ | exact .extract _ _ | exact .pick _ _ _ | exact .build _ _ | exact .slice _ _ _ _ _ | exact .unOp _ _ _ rfl | exact .index _ _ _ | exact .max _ _ _ rfl rfl | exact .min _ _ _ rfl rfl)) | ((with_reducible refine Calmly.is_gl ?_); refine Calmly.mix_gl rfl rfl rfl ?_; first | ((first | with_reducible refine Calmly.gl_tt ?_ (fun _ _ => ?_) | with_reducible refine Calmly.gl_ff ?_ (fun _ _ => ?_)); (first | exact .move _ | exact .load _ _ | exact .fieldAddr _ _ _ (by kernel_rfl) | exact .assign _ | exact .binOp _ _ _ _ _ rfl | exact .indexAddr _ _ _ | exact .len _ _ (by kernel_rfl) | exact .field _ _ _ | exact .extract _ _ | exact .pick _ _ _ | exact .build _ _ | exact .slice _ _ _ _ _ | exact .unOp _ _ _ rfl | exact .index _ _ _ | exact .max _ _ _ rfl rfl | exact .min _ _ _ rfl rfl)) | with_reducible refine Calmly.gl_tf (fun _ _ => ?_) | with_reducible refine Calmly.gl_ft (fun _ _ => ?_)) | ((with_reducible refine Calmly.is_eff ?_); refine Calmly.mix_eff rfl (fun _ _ => ?_)) | ((with_reducible refine Calmly.is_gf ?_); refine Calmly.mix_gf rfl rfl rfl ?_; first | with_reducible refine Calmly.gf_tt (fun _ _ => ?_) | with_reducible refine Calmly.gf_ff (fun _ _ => ?_) | with_reducible refine Calmly.gf_tf (kept_of hk) (fun _ _ => ?_) | with_reducible refine Calmly.gf_ft (kept_of hk) (fun _ _ => ?_)) | ((with_reducible refine Calmly.is_tail ?_); first | refine Calmly.mix_tail_nil ?_ | refine Calmly.mix_tail rfl (fun _ _ => ?_)) | ((with_reducible refine Calmly.is_kept ?_); refine ⟨kept_of hk, ?_⟩) | (with_reducible refine Calmly.mix_alt ?_ ?_) | (go_at_call 48; (refine (RatioAdd_any _ _ _ _ _ _ _ _ _ _ _ _ _ _ _ _ 7 _ _ _ (eV.keep hk) (oV.keep hk) (by omega) (by omega) (by omega) (by omega) (by omega)).mono ?_; rintro e w8 ⟨⟨es, eb, en, ec, es', eb', en', ec', rfl, eh, eh', rA⟩, hs⟩; replace hk := step_of hk hs; clear hs)) | (go_at_call 86; (refine (RatioOf_any xcv RC _ bxc.1 bxc.2 bRC.1 bRC.2 r0c).mono ?_; rintro e w9 ⟨⟨fs, fb, fn, fc, fs', fb', fn', fc', rfl, fh, fh', rB⟩, hs⟩; replace hk := step_of hk hs; replace rA := rA.keep hs; clear hs)) | (go_at_call 87; (refine (RatioCmp_any _ _ _ _ _ _ _ _ _ _ _ _ _ _ _ _ 20 _ _ _ rA rB (by omega) (by omega) (by omega) (by omega) (by omega)).mono ?_; rintro e w10 ⟨rfl, hs⟩; rw [HCM.out]; replace hk := step_of hk hs; clear hs rA rB; have hs := hk; replace BW := BW.trans (hs.mono BW.size); replace x1 := blk_keep x1 hs; replace x2 := blk_keep x2 hs; replace x3 := blk_keep x3 hs; replace s16 := s16.keep hs; replace s18 := s18.keep hs; replace s20 := s20.keep hs; replace X18 := blk_keep X18 hs; replace X20 := blk_keep X20 hs; replace s22 := s22.keep hs; replace X22 := blk_keep X22 hs; replace X24 := blk_keep X24 hs; replace X25 := blk_keep X25 hs; replace gV := gV.keep hs; replace pV := pV.keep hs; replace hbr := hbr.trans (hs.mono hbr.size); replace X27 := blk_keep X27 hs; replace X28 := blk_keep X28 hs; replace eV := eV.keep hs; replace oV := oV.keep hs; clear hs)))
                    clear hk q0 q1 q2 q3 q4 q5 q6 q7 g14 g15 eh eh' fh fh' exc HCM
                    have ezv := (h4.keep BW).hereN hli
                    have hzb := HV2.out i
                    obtain ⟨zv, hzv⟩ : ∃ v, ns[i]?.getD 0 = v := ⟨_, rfl⟩
                    rw [hzv] at ezv hzb
                    have HZV := Lib.hid hzv
                    have bzv : -9223372036854775807 ≤ zv ∧ zv ≤ 9223372036854775807 := by omega
                    clear hzv
                    refine Calmly.wp_region_mix 10 (.fl 0 <| .fl 1 <| .fl 2 <| .fl 3 <| .fl 4 <| .fl 5 <| .fl 7 <| .eff 6 <| .eff 8 <| .eff 9 <| .tail [10]) (by kernel_rfl) (by kernel_rfl) ?_
                    replace x1 := blk_keep x1 (Below.refl _ _).drew; replace x2 := blk_keep x2 (Below.refl _ _).drew; replace x3 := blk_keep x3 (Below.refl _ _).drew; replace BW := BW.drew; replace s16 := s16.keep (Below.refl _ _).drew; replace s18 := s18.keep (Below.refl _ _).drew; replace s20 := s20.keep (Below.refl _ _).drew; replace s22 := s22.keep (Below.refl _ _).drew; replace X18 := blk_keep X18 (Below.refl _ _).drew; replace X20 := blk_keep X20 (Below.refl _ _).drew; replace X22 := blk_keep X22 (Below.refl _ _).drew
                    replace X24 := blk_keep X24 (Below.refl _ _).drew; replace X25 := blk_keep X25 (Below.refl _ _).drew; replace gV := gV.keep (Below.refl _ _).drew; replace pV := pV.keep (Below.refl _ _).drew; replace hbr := hbr.drew; replace X27 := blk_keep X27 (Below.refl _ _).drew; replace X28 := blk_keep X28 (Below.refl _ _).drew; replace eV := eV.keep (Below.refl _ _).drew; replace oV := oV.keep (Below.refl _ _).drew
                    replace ezv := cell_keep ezv (Below.refl _ _).drew
                    generalize World.drew _ = V9 at x1 x2 x3 BW s16 s18 s20 s22 X18 X20 X22 X24 X25 gV pV hbr X27 X28 eV oV ezv ⊢
                    have f5 := cell_block x3 1
                    have j0 := cell_block X24 0
                    have j1 := cell_block X24 1
                    have j2 := cell_block X24 2
                    have j3 := cell_block X24 3
                    have q0 := cell_block X27 0; have q1 := cell_block X27 1; have q2 := cell_block X27 2; have q3 := cell_block X27 3
                    have hk := Below.refl V9.heap.size V9
                    go_wp2_with (first | ((with_reducible refine Calmly.is_fl ?_); refine Calmly.mix_fl rfl ?_ (fun _ _ => ?_); (first | exact .move _ | exact .load _ _ | exact .fieldAddr _ _ _ (by kernel_rfl) | exact .assign _ | exact .binOp _ _ _ _ _ rfl | exact .indexAddr _ _ _ | exact .len _ _ (by kernel_rfl) | exact .field _ _ _ | exact .extract _ _ | exact .pick _ _ _ | exact .build _ _ | exact .slice _ _ _ _ _ | exact .unOp _ _ _ rfl | exact .index _ _ _ | exact .max _ _ _ rfl rfl | exact .min _ _ _ rfl rfl)) | ((with_reducible refine Calmly.is_gl ?_); refine Calmly.mix_gl rfl rfl rfl ?_; first | ((first | with_reducible refine Calmly.gl_tt ?_ (fun _ _ => ?_) | with_reducible refine Calmly.gl_ff ?_ (fun _ _ => ?_)); (first | exact .move _ | exact .load _ _ | exact .fieldAddr _ _ _ (by kernel_rfl) | exact .assign _ | exact .binOp _ _ _ _ _ rfl | exact .indexAddr _ _ _ | exact .len _ _ (by kernel_rfl) | exact .field _ _ _ | exact .extract _ _ | exact .pick _ _ _ | exact .build _ _ | exact .slice _ _ _ _ _ | exact .unOp _ _ _ rfl | exact .index _ _ _ | exact .max _ _ _ rfl rfl | exact .min _ _ _ rfl rfl)) | with_reducible refine Calmly.gl_tf (fun _ _ => ?_) | with_reducible refine Calmly.gl_ft (fun _ _ => ?_)) | ((with_reducible refine Calmly.is_eff ?_); refine Calmly.mix_eff rfl (fun _ _ => ?_)) | ((with_reducible refine Calmly.is_gf ?_); refine Calmly.mix_gf rfl rfl rfl ?_; first | with_reducible refine Calmly.gf_tt (fun _ _ => ?_) | with_reducible refine Calmly.gf_ff (fun _ _ => ?_) | with_reducible refine Calmly.gf_tf (kept_of hk) (fun _ _ => ?_) | with_reducible refine Calmly.gf_ft (kept_of hk) (fun _ _ => ?_)) | ((with_reducible refine Calmly.is_kept ?_); refine ⟨kept_of hk, ?_⟩) | (with_reducible refine Calmly.mix_alt ?_ ?_) | (go_at_call 47; (refine (RatioInt_any zv _ bzv.1 bzv.2).mono ?_; rintro e w8 ⟨⟨es, eb, en, ec, es', eb', en', ec', rfl, eh, eh', rA⟩, hs⟩; replace hk := step_of hk hs; clear hs)) | (go_at_call 49; (refine (RatioMul_any _ _ _ _ _ _ _ _ _ _ _ _ _ _ _ _ 7 _ _ _ rA (eV.keep hk) (by omega) (by omega) (by omega) (by omega) (by omega)).mono ?_; rintro e w9 ⟨⟨fs, fb, fn, fc, fs', fb', fn', fc', rfl, fh, fh', rB⟩, hs⟩; replace hk := step_of hk hs; clear hs rA)) | (go_at_call 48; (refine (RatioAdd_any _ _ _ _ _ _ _ _ _ _ _ _ _ _ _ _ (oL i + 20) _ _ _ (gV.keep hk) rB (by omega) (by omega) (by omega) (by omega) (by omega)).mono ?_; rintro e w10 ⟨⟨js, jb, jn, jc, js', jb', jn', jc', rfl, jh, jh', rJ⟩, hs⟩; replace hk := step_of hk hs; clear hs rB)))
                    rename World => w11
                    clear f5 j0 j1 j2 j3 q0 q1 q2 q3
                    have Y24 := blk_keep X24 hk
                    have Y25 := blk_keep X25 hk
                    have Y27 := blk_keep X27 hk
                    have Y28 := blk_keep X28 hk
                    have eW := (eV.keep hk).set4n ⟨_, Y24⟩ (.int .i64 js) (.slice jb jn jc) (.int .i64 js') (.slice jb' jn' jc')
                    have oW := (oV.keep hk).set4n ⟨_, Y24⟩ (.int .i64 js) (.slice jb jn jc) (.int .i64 js') (.slice jb' jn' jc')
                    have pW := (pV.keep hk).set4n ⟨_, Y24⟩ (.int .i64 js) (.slice jb jn jc) (.int .i64 js') (.slice jb' jn' jc')
                    have gW := rJ.set4n ⟨_, Y24⟩ (.int .i64 js) (.slice jb jn jc) (.int .i64 js') (.slice jb' jn' jc')
                    have Z24 := blk_own4 Y24 (.int .i64 js) (.slice jb jn jc) (.int .i64 js') (.slice jb' jn' jc')
                    have Z25 := blk_set4 Y25 (show v5.heap.size + 1 ≠ v5.heap.size by omega) (.int .i64 js) (.slice jb jn jc) (.int .i64 js') (.slice jb' jn' jc')
                    have Z27 := blk_set4 Y27 hn27 (.int .i64 js) (.slice jb jn jc) (.int .i64 js') (.slice jb' jn' jc')
                    have Z28 := blk_set4 Y28 hn28 (.int .i64 js) (.slice jb jn jc) (.int .i64 js') (.slice jb' jn' jc')
                    have hbr2 := below4 (x := .int .i64 js) (y := .slice jb jn jc) (z := .int .i64 js') (u := .slice jb' jn' jc') (hbr.trans (hk.mono hbr.size)) (Nat.le_refl v5.heap.size)
                    have j0 := cell_block Y24 0
                    have j1 := cell_block Y24 1
                    have j2 := cell_block Y24 2
                    have j3 := cell_block Y24 3
                    have j4 := frozen_block Y24 0
                    have j5 := frozen_block Y24 1
                    have j6 := frozen_block Y24 2
                    have j7 := frozen_block Y24 3
                    go_wp2_with (first | ((with_reducible refine Calmly.is_fl ?_); refine Calmly.mix_fl rfl ?_ (fun _ _ => ?_); (first | exact .move _ | exact .load _ _ | exact .fieldAddr _ _ _ (by kernel_rfl) | exact .assign _ | exact .binOp _ _ _ _ _ rfl | exact .indexAddr _ _ _ | exact .len _ _ (by kernel_rfl) | exact .field _ _ _ | exact .extract _ _ | exact .pick _ _ _ | exact .build _ _ | exact .slice _ _ _ _ _ | exact .unOp _ _ _ rfl | exact .index _ _ _ | exact .max _ _ _ rfl rfl | exact .min _ _ _ rfl rfl)) | ((with_reducible refine Calmly.is_gl ?_); refine Calmly.mix_gl rfl rfl rfl ?_; first | ((first | with_reducible refine Calmly.gl_tt ?_ (fun _ _ => ?_) | with_reducible refine Calmly.gl_ff ?_ (fun _ _ => ?_)); (first | exact .move _ | exact .load _ _ | exact .fieldAddr _ _ _ (by kernel_rfl) | exact .assign _ | exact .binOp _ _ _ _ _ rfl | exact .indexAddr _ _ _ | exact .len _ _ (by kernel_rfl) | exact .field _ _ _ | exact .extract _ _ | exact .pick _ _ _ | exact .build _ _ | exact .slice _ _ _ _ _ | exact .unOp _ _ _ rfl | exact .index _ _ _ | exact .max _ _ _ rfl rfl | exact .min _ _ _ rfl rfl)) | with_reducible refine Calmly.gl_tf (fun _ _ => ?_) | with_reducible refine Calmly.gl_ft (fun _ _ => ?_)) | ((with_reducible refine Calmly.is_eff ?_); refine Calmly.mix_eff rfl (fun _ _ => ?_)) | ((with_reducible refine Calmly.is_gf ?_); refine Calmly.mix_gf rfl rfl rfl ?_; first | with_reducible refine Calmly.gf_tt (fun _ _ => ?_) | with_reducible refine Calmly.gf_ff (fun _ _ => ?_) | with_reducible refine Calmly.gf_tf (kept_of hk) (fun _ _ => ?_) | with_reducible refine Calmly.gf_ft (kept_of hk) (fun _ _ => ?_)) | ((with_reducible refine Calmly.is_tail ?_); first | refine Calmly.mix_tail_nil ?_ | refine Calmly.mix_tail rfl (fun _ _ => ?_)) | ((with_reducible refine Calmly.is_kept ?_); refine ⟨kept_of hk, ?_⟩) | (with_reducible refine Calmly.mix_alt ?_ ?_))
                    clear j0 j1 j2 j3 j4 j5 j6 j7 Y24 Y25 Y27 Y28 X24 X25 X27 X28 eV oV gV pV rJ hk hbr x1 x2 x3 BW s16 s18 s20 s22 X18 X20 X22 ezv eh eh' fh fh'
                    generalize (((World.setCell _ _ _).setCell _ _).setCell _ _).setCell _ _ = V10 at *
                    obtain ⟨x1, x2, x3, BW, s16, s18, s20, s22, X18, X20, X22⟩ := HO.out
                    have hs := hbr2
                    replace BW := BW.trans (hs.mono BW.size); replace x1 := blk_keep x1 hs; replace x2 := blk_keep x2 hs; replace x3 := blk_keep x3 hs; replace s16 := s16.keep hs; replace s18 := s18.keep hs; replace s20 := s20.keep hs; replace X18 := blk_keep X18 hs; replace X20 := blk_keep X20 hs; replace s22 := s22.keep hs; replace X22 := blk_keep X22 hs
                    clear hs
                    have euv := (h3.keep BW).hereN hli
                    have hub := HU2.out i
                    obtain ⟨uv, huv⟩ : ∃ v, ls[i]?.getD 0 = v := ⟨_, rfl⟩
                    rw [huv] at euv hub
                    have HUV := Lib.hid huv
                    have buv : -9223372036854775807 ≤ uv ∧ uv ≤ 9223372036854775807 := by omega
                    clear huv eW Z27
                    refine Calmly.wp_region_mix 10 (.fl 0 <| .fl 1 <| .fl 2 <| .fl 3 <| .fl 4 <| .fl 5 <| .fl 7 <| .eff 6 <| .eff 8 <| .eff 9 <| .tail [10]) (by kernel_rfl) (by kernel_rfl) ?_
                    replace x1 := blk_keep x1 (Below.refl _ _).drew; replace x2 := blk_keep x2 (Below.refl _ _).drew; replace x3 := blk_keep x3 (Below.refl _ _).drew; replace BW := BW.drew; replace s16 := s16.keep (Below.refl _ _).drew; replace s18 := s18.keep (Below.refl _ _).drew; replace s20 := s20.keep (Below.refl _ _).drew; replace s22 := s22.keep (Below.refl _ _).drew; replace X18 := blk_keep X18 (Below.refl _ _).drew; replace X20 := blk_keep X20 (Below.refl _ _).drew; replace X22 := blk_keep X22 (Below.refl _ _).drew
                    replace euv := cell_keep euv (Below.refl _ _).drew
                    replace Z24 := blk_keep Z24 (Below.refl _ _).drew
                    replace Z25 := blk_keep Z25 (Below.refl _ _).drew
                    replace Z28 := blk_keep Z28 (Below.refl _ _).drew
                    replace gW := gW.keep (Below.refl _ _).drew
                    replace pW := pW.keep (Below.refl _ _).drew
                    replace oW := oW.keep (Below.refl _ _).drew
                    replace hbr2 := hbr2.drew
                    generalize World.drew _ = V11 at x1 x2 x3 BW s16 s18 s20 s22 X18 X20 X22 Z24 Z25 Z28 gW pW oW hbr2 euv ⊢
                    have f4 := cell_block x3 0
                    have j0 := cell_block Z25 0
                    have j1 := cell_block Z25 1
                    have j2 := cell_block Z25 2
                    have j3 := cell_block Z25 3
                    have q4 := cell_block Z28 0
                    have q5 := cell_block Z28 1
                    have q6 := cell_block Z28 2
                    have q7 := cell_block Z28 3
                    have hk := Below.refl V11.heap.size V11
                    go_wp2_with (first | ((with_reducible refine Calmly.is_fl ?_); refine Calmly.mix_fl rfl ?_ (fun _ _ => ?_); (first | exact .move _ | exact .load _ _ | exact .fieldAddr _ _ _ (by kernel_rfl) | exact .assign _ | exact .binOp _ _ _ _ _ rfl | exact .indexAddr _ _ _ | exact .len _ _ (by kernel_rfl) | exact .field _ _ _ | exact .extract _ _ | exact .pick _ _ _ | exact .build _ _ | exact .slice _ _ _ _ _ | exact .unOp _ _ _ rfl | exact .index _ _ _ | exact .max _ _ _ rfl rfl | exact .min _ _ _ rfl rfl)) | ((with_reducible refine Calmly.is_gl ?_); refine Calmly.mix_gl rfl rfl rfl ?_; first | ((first | with_reducible refine Calmly.gl_tt ?_ (fun _ _ => ?_) | with_reducible refine Calmly.gl_ff ?_ (fun _ _ => ?_)); (first | exact .move _ | exact .load _ _ | exact .fieldAddr _ _ _ (by kernel_rfl) | exact .assign _ | exact .binOp _ _ _ _ _ rfl | exact .indexAddr _ _ _ | exact .len _ _ (by kernel_rfl) | exact .field _ _ _ | exact .extract _ _ | exact .pick _ _ _ | exact .build _ _ | exact .slice _ _ _ _ _ | exact .unOp _ _ _ rfl | exact .index _ _ _ | exact .max _ _ _ rfl rfl | exact .min _ _ _ rfl rfl)) | with_reducible refine Calmly.gl_tf (fun _ _ => ?_) | with_reducible refine Calmly.gl_ft (fun _ _ => ?_)) | ((with_reducible refine Calmly.is_eff ?_); refine Calmly.mix_eff rfl (fun _ _ => ?_)) | ((with_reducible refine Calmly.is_gf ?_); refine Calmly.mix_gf rfl rfl rfl ?_; first | with_reducible refine Calmly.gf_tt (fun _ _ => ?_) | with_reducible refine Calmly.gf_ff (fun _ _ => ?_) | with_reducible refine Calmly.gf_tf (kept_of hk) (fun _ _ => ?_) | with_reducible refine Calmly.gf_ft (kept_of hk) (fun _ _ => ?_)) | ((with_reducible refine Calmly.is_kept ?_); refine ⟨kept_of hk, ?_⟩) | (with_reducible refine Calmly.mix_alt ?_ ?_) | (go_at_call 47; (refine (RatioInt_any uv _ buv.1 buv.2).mono ?_; rintro e w8 ⟨⟨es, eb, en, ec, es', eb', en', ec', rfl, eh, eh', rA⟩, hs⟩; replace hk := step_of hk hs; clear hs)) | (go_at_call 49; (refine (RatioMul_any _ _ _ _ _ _ _ _ _ _ _ _ _ _ _ _ 7 _ _ _ rA (oW.keep hk) (by omega) (by omega) (by omega) (by omega) (by omega)).mono ?_; rintro e w9 ⟨⟨fs, fb, fn, fc, fs', fb', fn', fc', rfl, fh, fh', rB⟩, hs⟩; replace hk := step_of hk hs; clear hs rA)) | (go_at_call 48; (refine (RatioAdd_any _ _ _ _ _ _ _ _ _ _ _ _ _ _ _ _ (oL i + 20) _ _ _ (pW.keep hk) rB (by omega) (by omega) (by omega) (by omega) (by omega)).mono ?_; rintro e w10 ⟨⟨ks9, kb, kn, kc, ks9', kb', kn', kc', rfl, kh, kh', rJ⟩, hs⟩; replace hk := step_of hk hs; clear hs rB)))
                    rename World => w11
                    clear f4 j0 j1 j2 j3 q4 q5 q6 q7
                    have Y24 := blk_keep Z24 hk
                    have Y25 := blk_keep Z25 hk
                    have gX := (gW.keep hk).set4n ⟨_, Y25⟩ (.int .i64 ks9) (.slice kb kn kc) (.int .i64 ks9') (.slice kb' kn' kc')
                    have pX := rJ.set4n ⟨_, Y25⟩ (.int .i64 ks9) (.slice kb kn kc) (.int .i64 ks9') (.slice kb' kn' kc')
                    have A25 := blk_own4 Y25 (.int .i64 ks9) (.slice kb kn kc) (.int .i64 ks9') (.slice kb' kn' kc')
                    have A24 := blk_set4 Y24 (show v5.heap.size ≠ v5.heap.size + 1 by omega) (.int .i64 ks9) (.slice kb kn kc) (.int .i64 ks9') (.slice kb' kn' kc')
                    have hbr3 := below4 (x := .int .i64 ks9) (y := .slice kb kn kc) (z := .int .i64 ks9') (u := .slice kb' kn' kc') (hbr2.trans (hk.mono hbr2.size)) (show v5.heap.size ≤ v5.heap.size + 1 by omega)
                    have j0 := cell_block Y25 0
                    have j1 := cell_block Y25 1
                    have j2 := cell_block Y25 2
                    have j3 := cell_block Y25 3
                    have j4 := frozen_block Y25 0
                    have j5 := frozen_block Y25 1
                    have j6 := frozen_block Y25 2
                    have j7 := frozen_block Y25 3
                    go_wp2_with (first | ((with_reducible refine Calmly.is_fl ?_); refine Calmly.mix_fl rfl ?_ (fun _ _ => ?_); (first | exact .move _ | exact .load _ _ | exact .fieldAddr _ _ _ (by kernel_rfl) | exact .assign _ | exact .binOp _ _ _ _ _ rfl | exact .indexAddr _ _ _ | exact .len _ _ (by kernel_rfl) | exact .field _ _ _ | exact .extract _ _ | exact .pick _ _ _ | exact .build _ _ | exact .slice _ _ _ _ _ | exact .unOp _ _ _ rfl | exact .index _ _ _ | exact .max _ _ _ rfl rfl | exact .min _ _ _ rfl rfl)) | ((with_reducible refine Calmly.is_gl ?_); refine Calmly.mix_gl rfl rfl rfl ?_; first | ((first | with_reducible refine Calmly.gl_tt ?_ (fun _ _ => ?_) | with_reducible refine Calmly.gl_ff ?_ (fun _ _ => ?_)); (first | exact .move _ | exact .load _ _ | exact .fieldAddr _ _ _ (by kernel_rfl) | exact .assign _ | exact .binOp _ _ _ _ _ rfl | exact .indexAddr _ _ _ | exact .len _ _ (by kernel_rfl) | exact .field _ _ _ | exact .extract _ _ | exact .pick _ _ _ | exact .build _ _ | exact .slice _ _ _ _ _ | exact .unOp _ _ _ rfl | exact .index _ _ _ | exact .max _ _ _ rfl rfl | exact .min _ _ _ rfl rfl)) | with_reducible refine Calmly.gl_tf (fun _ _ => ?_) | with_reducible refine Calmly.gl_ft (fun _ _ => ?_)) | ((with_reducible refine Calmly.is_eff ?_); refine Calmly.mix_eff rfl (fun _ _ => ?_)) | ((with_reducible refine Calmly.is_gf ?_); refine Calmly.mix_gf rfl rfl rfl ?_; first | with_reducible refine Calmly.gf_tt (fun _ _ => ?_) | with_reducible refine Calmly.gf_ff (fun _ _ => ?_) | with_reducible refine Calmly.gf_tf (kept_of hk) (fun _ _ => ?_) | with_reducible refine Calmly.gf_ft (kept_of hk) (fun _ _ => ?_)) | ((with_reducible refine Calmly.is_tail ?_); first | refine Calmly.mix_tail_nil ?_ | refine Calmly.mix_tail rfl (fun _ _ => ?_)) | ((with_reducible refine Calmly.is_kept ?_); refine ⟨kept_of hk, ?_⟩) | (with_reducible refine Calmly.mix_alt ?_ ?_))
                    clear j0 j1 j2 j3 j4 j5 j6 j7 Y24 Y25 Z24 Z25 Z28 oW gW pW rJ hk hbr2 x1 x2 x3 BW s16 s18 s20 s22 X18 X20 X22 euv eh eh' fh fh'
                    generalize (((World.setCell _ _ _).setCell _ _).setCell _ _).setCell _ _ = V12 at *
                    obtain ⟨x1, x2, x3, BW, s16, s18, s20, s22, X18, X20, X22⟩ := HO.out
                    have hs := hbr3
                    replace BW := BW.trans (hs.mono BW.size); replace x1 := blk_keep x1 hs; replace x2 := blk_keep x2 hs; replace x3 := blk_keep x3 hs; replace s16 := s16.keep hs; replace s18 := s18.keep hs; replace s20 := s20.keep hs; replace X18 := blk_keep X18 hs; replace X20 := blk_keep X20 hs; replace s22 := s22.keep hs; replace X22 := blk_keep X22 hs
                    clear hs
                    have ekv := (h2.keep BW).hereN (show i < m by omega)
                    have hkb := HF.out.k i (by omega)
                    have exa := s18.hereN hli
                    have hFA := FA.out i hli
                    have hpb : -2560000000 ≤ (if i = 0 then 0 else xa[i - 1]?.getD 0) ∧ (if i = 0 then 0 else xa[i - 1]?.getD 0) ≤ 2560000000 := by
                      have := RA6.out (i - 1)
                      split <;> omega
                    obtain ⟨kv, hkv⟩ : ∃ v, ks[i]?.getD 0 = v := ⟨_, rfl⟩
                    obtain ⟨pv, hpv⟩ : ∃ v, (if i = 0 then 0 else xa[i - 1]?.getD 0) = v := ⟨_, rfl⟩
                    rw [hkv] at ekv hkb hFA
                    rw [HXA.out] at exa hFA
                    rw [hpv] at hpb hFA
                    rw [HUV.out] at hFA
                    have HPV := Lib.hid hpv
                    clear hkv hpv
                    obtain ⟨mb1, mb2⟩ := mul_bd2 (a := kv) (x := xav - pv) (A := 20) (C := 5120000000) (by omega) (by omega) (by omega) (by omega)
                    obtain ⟨mb3, mb4⟩ := mul_bd2 (a := uv) (x := RA) (A := 1000) (C := 160000) (by omega) (by omega) (by omega) (by omega)
                    have HFA := Lib.hid hFA
                    clear hFA
                    have gY : RatV V12 js jb jn jc js' jb' jn' jc' (beT ks ls ns n (i + 1)) := by
                      show RatV V12 js jb jn jc js' jb' jn' jc' (beT ks ls ns n i + ((ns[i]?.getD 0 : Int) : Rat) * swQ ks ls n (i + 1))
                      rw [HZV.out, ← HQA.out]
                      exact gX
                    have pY : RatV V12 ks9 kb kn kc ks9' kb' kn' kc' (beT ks ns ls n (i + 1)) := by
                      show RatV V12 ks9 kb kn kc ks9' kb' kn' kc' (beT ks ns ls n i + ((ls[i]?.getD 0 : Int) : Rat) * swQ ks ns n (i + 1))
                      rw [HUV.out, ← HQB.out]
                      exact pX
                    have hoL : oL (i + 1) = 2 * oL i + 46 := rfl
                    have HOL := Lib.hid hoL
                    clear gX pX hoL
                    have him : i < m := by omega
                    by_cases hin : i + 1 < n
                    case' pos =>
                      have hin1 : (i : Int) + 1 < (n : Int) := by omega
                      have hF := HFA.out
                      rw [if_pos hin] at hF
                      have ekw := (h2.keep BW).hereN (show i + 1 < m by omega)
                      have exw := s18.hereN hin
                      have hkw := HF.out.k (i + 1) (by omega)
                      have hxw := RA6.out (i + 1)
                      obtain ⟨kw, hkw'⟩ : ∃ v, ks[i + 1]?.getD 0 = v := ⟨_, rfl⟩
                      obtain ⟨xw, hxw'⟩ : ∃ v, xa[i + 1]?.getD 0 = v := ⟨_, rfl⟩
                      rw [hkw'] at ekw hkw hF
                      rw [hxw'] at exw hxw hF
                      obtain ⟨mb5, mb6⟩ := mul_bd2 (a := kw) (x := xw - xav) (A := 20) (C := 5120000000) (by omega) (by omega) (by omega) (by omega)
                      have HF2 := Lib.hid hF
                      clear hF hkw' hxw' hin
                    case' neg =>
                      have hin1 : ¬ (i : Int) + 1 < (n : Int) := by omega
                      have hF := HFA.out
                      rw [if_neg hin, Int.sub_zero] at hF
                      have HF2 := Lib.hid hF
                      clear hF hin
                    all_goals
                      clear HFA
                      refine Calmly.wp_region_mix 15 (.fl 0 <| .fl 1 <| .fl 2 <| .fl 3 <| .fl 4 <| .fl 5 <| .fl 6 <| .fl 7 <| .fl 8 <| .fl 9 <| .fl 10 <| .fl 11 <| .fl 12 <| .eff 13 <| .fl 14 <| .tail [15, 16]) (by kernel_rfl) (by kernel_rfl) ?_
                      replace x1 := blk_keep x1 (Below.refl _ _).drew; replace x2 := blk_keep x2 (Below.refl _ _).drew; replace x3 := blk_keep x3 (Below.refl _ _).drew; replace BW := BW.drew; replace s16 := s16.keep (Below.refl _ _).drew; replace s18 := s18.keep (Below.refl _ _).drew; replace s20 := s20.keep (Below.refl _ _).drew; replace s22 := s22.keep (Below.refl _ _).drew; replace X18 := blk_keep X18 (Below.refl _ _).drew; replace X20 := blk_keep X20 (Below.refl _ _).drew; replace X22 := blk_keep X22 (Below.refl _ _).drew
                      replace ekv := cell_keep ekv (Below.refl _ _).drew
                      replace exa := cell_keep exa (Below.refl _ _).drew
                      (try replace ekw := cell_keep ekw (Below.refl _ _).drew)
                      (try replace exw := cell_keep exw (Below.refl _ _).drew)
                      replace A24 := blk_keep A24 (Below.refl _ _).drew
                      replace A25 := blk_keep A25 (Below.refl _ _).drew
                      replace gY := gY.keep (Below.refl _ _).drew
                      replace pY := pY.keep (Below.refl _ _).drew
                      replace hbr3 := hbr3.drew
                      (first | generalize World.drew _ = V13 at x1 x2 x3 BW s16 s18 s20 s22 X18 X20 X22 A24 A25 gY pY hbr3 ekv exa ekw exw ⊢ | generalize World.drew _ = V13 at x1 x2 x3 BW s16 s18 s20 s22 X18 X20 X22 A24 A25 gY pY hbr3 ekv exa ⊢)
                      have f0 := cell_block x1 0
                      have f1 := cell_block x1 1
                      have g10 := cell_block X18 0
                      have g11 := cell_block X18 1
                      have hk := Below.refl V13.heap.size V13
                      go_wp2_with (first | ((with_reducible refine Calmly.is_fl ?_); refine Calmly.mix_fl rfl ?_ (fun _ _ => ?_); (first | exact .move _ | exact .load _ _ | exact .fieldAddr _ _ _ (by kernel_rfl) | exact .assign _ | exact .binOp _ _ _ _ _ rfl | exact .indexAddr _ _ _ | exact .len _ _ (by kernel_rfl) | exact .field _ _ _ | exact .extract _ _ | exact .pick _ _ _ | exact .build _ _ | exact .slice _ _ _ _ _ | exact .unOp _ _ _ rfl | exact .index _ _ _ | exact .max _ _ _ rfl rfl | exact .min _ _ _ rfl rfl)) | ((with_reducible refine Calmly.is_gl ?_); refine Calmly.mix_gl rfl rfl rfl ?_; first | ((first | with_reducible refine Calmly.gl_tt ?_ (fun _ _ => ?_) | with_reducible refine Calmly.gl_ff ?_ (fun _ _ => ?_)); (first | exact .move _ | exact .load _ _ | exact .fieldAddr _ _ _ (by kernel_rfl) | exact .assign _ | exact .binOp _ _ _ _ _ rfl | exact .indexAddr _ _ _ | exact .len _ _ (by kernel_rfl) | exact .field _ _ _ | exact .extract _ _ | exact .pick _ _ _ | exact .build _ _ | exact .slice _ _ _ _ _ | exact .unOp _ _ _ rfl | exact .index _ _ _ | exact .max _ _ _ rfl rfl | exact .min _ _ _ rfl rfl)) | with_reducible refine Calmly.gl_tf (fun _ _ => ?_) | with_reducible refine Calmly.gl_ft (fun _ _ => ?_)) | ((with_reducible refine Calmly.is_eff ?_); refine Calmly.mix_eff rfl (fun _ _ => ?_)) | ((with_reducible refine Calmly.is_gf ?_); refine Calmly.mix_gf rfl rfl rfl ?_; first | with_reducible refine Calmly.gf_tt (fun _ _ => ?_) | with_reducible refine Calmly.gf_ff (fun _ _ => ?_) | with_reducible refine Calmly.gf_tf (kept_of hk) (fun _ _ => ?_) | with_reducible refine Calmly.gf_ft (kept_of hk) (fun _ _ => ?_)) | ((with_reducible refine Calmly.is_tail ?_); first | refine Calmly.mix_tail_nil ?_ | refine Calmly.mix_tail rfl (fun _ _ => ?_)) | ((with_reducible refine Calmly.is_kept ?_); refine ⟨kept_of hk, ?_⟩) | (with_reducible refine Calmly.mix_alt ?_ ?_) | (go_at_call 88; (refine (part_any RA _ n c8 xa i _ (s18.keep hk) hli).mono ?_; rintro e w13 ⟨rfl, hs⟩; rw [HPV.out]; replace hk := step_of hk hs; clear hs; have hs := hk; replace BW := BW.trans (hs.mono BW.size); replace x1 := blk_keep x1 hs; replace x2 := blk_keep x2 hs; replace x3 := blk_keep x3 hs; replace s16 := s16.keep hs; replace s18 := s18.keep hs; replace s20 := s20.keep hs; replace X18 := blk_keep X18 hs; replace X20 := blk_keep X20 hs; replace s22 := s22.keep hs; replace X22 := blk_keep X22 hs; replace A24 := blk_keep A24 hs; replace A25 := blk_keep A25 hs; replace gY := gY.keep hs; replace pY := pY.keep hs; replace hbr3 := hbr3.trans (hs.mono hbr3.size); clear hs; (try replace ekw := cell_keep ekw hk); (try replace exw := cell_keep exw hk); replace exa := cell_keep exa hk; replace ekv := cell_keep ekv hk; clear f0 f1 g10 g11; have f0 := cell_block x1 0; have f1 := cell_block x1 1; have g10 := cell_block X18 0; have g11 := cell_block X18 1)))
                    · rw [HF2.out]
                      have euv := (h3.keep BW).hereN hli; rw [HUV.out] at euv; refine Calmly.wp_region_mix 9 (.fl 0 <| .fl 1 <| .fl 2 <| .fl 3 <| .fl 4 <| .fl 5 <| .fl 6 <| .fl 7 <| .fl 8 <| .tail [9]) (by kernel_rfl) (by kernel_rfl) ?_; replace x1 := blk_keep x1 (Below.refl _ _).drew; replace x2 := blk_keep x2 (Below.refl _ _).drew; replace x3 := blk_keep x3 (Below.refl _ _).drew; replace BW := BW.drew; replace s16 := s16.keep (Below.refl _ _).drew; replace s18 := s18.keep (Below.refl _ _).drew; replace s20 := s20.keep (Below.refl _ _).drew; replace s22 := s22.keep (Below.refl _ _).drew; replace X18 := blk_keep X18 (Below.refl _ _).drew; replace X20 := blk_keep X20 (Below.refl _ _).drew; replace X22 := blk_keep X22 (Below.refl _ _).drew; replace A24 := blk_keep A24 (Below.refl _ _).drew; replace A25 := blk_keep A25 (Below.refl _ _).drew; replace gY := gY.keep (Below.refl _ _).drew; replace pY := pY.keep (Below.refl _ _).drew; replace hbr3 := hbr3.drew; replace euv := cell_keep euv (Below.refl _ _).drew; clear f0 f1 g10 g11 hk; generalize World.drew _ = V15 at x1 x2 x3 BW s16 s18 s20 s22 X18 X20 X22 A24 A25 gY pY hbr3 euv ⊢; have f4 := cell_block x3 0; have g10 := cell_block X18 0; have g11 := cell_block X18 1; have hk := Below.refl V15.heap.size V15; go_wp2_with (first | ((with_reducible refine Calmly.is_fl ?_); refine Calmly.mix_fl rfl ?_ (fun _ _ => ?_); (first | exact .move _ | exact .load _ _ | exact .fieldAddr _ _ _ (by kernel_rfl) | exact .assign _ | exact .binOp _ _ _ _ _ rfl | exact .indexAddr _ _ _ | exact .len _ _ (by kernel_rfl) | exact .field _ _ _ | exact .extract _ _ | exact .pick _ _ _ | exact .build _ _ | exact .slice _ _ _ _ _ | exact .unOp _ _ _ rfl | exact .index _ _ _ | exact .max _ _ _ rfl rfl | exact .min _ _ _ rfl rfl)) | ((with_reducible refine Calmly.is_gl ?_); refine Calmly.mix_gl rfl rfl rfl ?_; first | ((first | with_reducible refine Calmly.gl_tt ?_ (fun _ _ => ?_) | with_reducible refine Calmly.gl_ff ?_ (fun _ _ => ?_)); (first | exact .move _ | exact .load _ _ | exact .fieldAddr _ _ _ (by kernel_rfl) | exact .assign _ | exact .binOp _ _ _ _ _ rfl | exact .indexAddr _ _ _ | exact .len _ _ (by kernel_rfl) | exact .field _ _ _ | exact .extract _ _ | exact .pick _ _ _ | exact .build _ _ | exact .slice _ _ _ _ _ | exact .unOp _ _ _ rfl | exact .index _ _ _ | exact .max _ _ _ rfl rfl | exact .min _ _ _ rfl rfl)) | with_reducible refine Calmly.gl_tf (fun _ _ => ?_) | with_reducible refine Calmly.gl_ft (fun _ _ => ?_)) | ((with_reducible refine Calmly.is_eff ?_); refine Calmly.mix_eff rfl (fun _ _ => ?_)) | ((with_reducible refine Calmly.is_gf ?_); refine Calmly.mix_gf rfl rfl rfl ?_; first | with_reducible refine Calmly.gf_tt (fun _ _ => ?_) | with_reducible refine Calmly.gf_ff (fun _ _ => ?_) | with_reducible refine Calmly.gf_tf (kept_of hk) (fun _ _ => ?_) | with_reducible refine Calmly.gf_ft (kept_of hk) (fun _ _ => ?_)) | ((with_reducible refine Calmly.is_tail ?_); first | refine Calmly.mix_tail_nil ?_ | refine Calmly.mix_tail rfl (fun _ _ => ?_)) | ((with_reducible refine Calmly.is_kept ?_); refine ⟨kept_of hk, ?_⟩) | (with_reducible refine Calmly.mix_alt ?_ ?_))
                      go_roundw
                      case rel => exact ⟨i + 1, _, _, _, _, _, _, _, _, _, _, _, _, _, _, _, _, by omega, by go_num, hbr3, A24, A25, gY, pY, by rw [HOL.out]; omega, by rw [HOL.out]; omega, by rw [HOL.out]; omega, by rw [HOL.out]; omega⟩
                      case measure => simp [intOf]; omega
                    · refine Calmly.wp_region_mix 20 (.fl 0 <| .fl 1 <| .fl 2 <| .fl 3 <| .fl 4 <| .fl 5 <| .fl 6 <| .fl 7 <| .fl 8 <| .fl 9 <| .fl 10 <| .fl 11 <| .fl 12 <| .fl 13 <| .fl 14 <| .fl 15 <| .fl 16 <| .fl 17 <| .fl 18 <| .fl 19 <| .tail [20, 21]) (by kernel_rfl) (by kernel_rfl) ?_
                      replace x1 := blk_keep x1 (Below.refl _ _).drew; replace x2 := blk_keep x2 (Below.refl _ _).drew; replace x3 := blk_keep x3 (Below.refl _ _).drew; replace BW := BW.drew; replace s16 := s16.keep (Below.refl _ _).drew; replace s18 := s18.keep (Below.refl _ _).drew; replace s20 := s20.keep (Below.refl _ _).drew; replace s22 := s22.keep (Below.refl _ _).drew; replace X18 := blk_keep X18 (Below.refl _ _).drew; replace X20 := blk_keep X20 (Below.refl _ _).drew; replace X22 := blk_keep X22 (Below.refl _ _).drew; replace A24 := blk_keep A24 (Below.refl _ _).drew; replace A25 := blk_keep A25 (Below.refl _ _).drew; replace gY := gY.keep (Below.refl _ _).drew; replace pY := pY.keep (Below.refl _ _).drew; replace hbr3 := hbr3.drew
                      replace ekw := cell_keep ekw (Below.refl _ _).drew
                      replace exw := cell_keep exw (Below.refl _ _).drew
                      replace exa := cell_keep exa (Below.refl _ _).drew
                      clear f0 f1 g10 g11 hk
                      generalize World.drew _ = V14 at x1 x2 x3 BW s16 s18 s20 s22 X18 X20 X22 A24 A25 gY pY hbr3 exa ekw exw ⊢
                      have f0 := cell_block x1 0
                      have f1 := cell_block x1 1
                      have g10 := cell_block X18 0
                      have g11 := cell_block X18 1
                      have hi8 : ((i : Int) + 1).toNat = i + 1 := by omega
                      have hi7 : (0 : Int) ≤ (i : Int) + 1 := by omega
                      have hk := Below.refl V14.heap.size V14
                      have him1 : (i : Int) + 1 < (m : Int) := by omega
                      go_wp2_with (first | ((with_reducible refine Calmly.is_fl ?_); refine Calmly.mix_fl rfl ?_ (fun _ _ => ?_); (first | exact .move _ | exact .load _ _ | exact .fieldAddr _ _ _ (by kernel_rfl) | exact .assign _ | exact .binOp _ _ _ _ _ rfl | exact .indexAddr _ _ _ | exact .len _ _ (by kernel_rfl) | exact .field _ _ _ | exact .extract _ _ | exact .pick _ _ _ | exact .build _ _ | exact .slice _ _ _ _ _ | exact .unOp _ _ _ rfl | exact .index _ _ _ | exact .max _ _ _ rfl rfl | exact .min _ _ _ rfl rfl)) | ((with_reducible refine Calmly.is_gl ?_); refine Calmly.mix_gl rfl rfl rfl ?_; first | ((first | with_reducible refine Calmly.gl_tt ?_ (fun _ _ => ?_) | with_reducible refine Calmly.gl_ff ?_ (fun _ _ => ?_)); (first | exact .move _ | exact .load _ _ | exact .fieldAddr _ _ _ (by kernel_rfl) | exact .assign _ | exact .binOp _ _ _ _ _ rfl | exact .indexAddr _ _ _ | exact .len _ _ (by kernel_rfl) | exact .field _ _ _ | exact .extract _ _ | exact .pick _ _ _ | exact .build _ _ | exact .slice _ _ _ _ _ | exact .unOp _ _ _ rfl | exact .index _ _ _ | exact .max _ _ _ rfl rfl | exact .min _ _ _ rfl rfl)) | with_reducible refine Calmly.gl_tf (fun _ _ => ?_) | with_reducible refine Calmly.gl_ft (fun _ _ => ?_)) | ((with_reducible refine Calmly.is_eff ?_); refine Calmly.mix_eff rfl (fun _ _ => ?_)) | ((with_reducible refine Calmly.is_gf ?_); refine Calmly.mix_gf rfl rfl rfl ?_; first | with_reducible refine Calmly.gf_tt (fun _ _ => ?_) | with_reducible refine Calmly.gf_ff (fun _ _ => ?_) | with_reducible refine Calmly.gf_tf (kept_of hk) (fun _ _ => ?_) | with_reducible refine Calmly.gf_ft (kept_of hk) (fun _ _ => ?_)) | ((with_reducible refine Calmly.is_tail ?_); first | refine Calmly.mix_tail_nil ?_ | refine Calmly.mix_tail rfl (fun _ _ => ?_)) | ((with_reducible refine Calmly.is_kept ?_); refine ⟨kept_of hk, ?_⟩) | (with_reducible refine Calmly.mix_alt ?_ ?_))
                      rw [HF2.out]
                      clear hi8 hi7 him1 exa ekw exw
                      have euv := (h3.keep BW).hereN hli; rw [HUV.out] at euv; refine Calmly.wp_region_mix 9 (.fl 0 <| .fl 1 <| .fl 2 <| .fl 3 <| .fl 4 <| .fl 5 <| .fl 6 <| .fl 7 <| .fl 8 <| .tail [9]) (by kernel_rfl) (by kernel_rfl) ?_; replace x1 := blk_keep x1 (Below.refl _ _).drew; replace x2 := blk_keep x2 (Below.refl _ _).drew; replace x3 := blk_keep x3 (Below.refl _ _).drew; replace BW := BW.drew; replace s16 := s16.keep (Below.refl _ _).drew; replace s18 := s18.keep (Below.refl _ _).drew; replace s20 := s20.keep (Below.refl _ _).drew; replace s22 := s22.keep (Below.refl _ _).drew; replace X18 := blk_keep X18 (Below.refl _ _).drew; replace X20 := blk_keep X20 (Below.refl _ _).drew; replace X22 := blk_keep X22 (Below.refl _ _).drew; replace A24 := blk_keep A24 (Below.refl _ _).drew; replace A25 := blk_keep A25 (Below.refl _ _).drew; replace gY := gY.keep (Below.refl _ _).drew; replace pY := pY.keep (Below.refl _ _).drew; replace hbr3 := hbr3.drew; replace euv := cell_keep euv (Below.refl _ _).drew; clear f0 f1 g10 g11 hk; generalize World.drew _ = V15 at x1 x2 x3 BW s16 s18 s20 s22 X18 X20 X22 A24 A25 gY pY hbr3 euv ⊢; have f4 := cell_block x3 0; have g10 := cell_block X18 0; have g11 := cell_block X18 1; have hk := Below.refl V15.heap.size V15; go_wp2_with (first | ((with_reducible refine Calmly.is_fl ?_); refine Calmly.mix_fl rfl ?_ (fun _ _ => ?_); (first | exact .move _ | exact .load _ _ | exact .fieldAddr _ _ _ (by kernel_rfl) | exact .assign _ | exact .binOp _ _ _ _ _ rfl | exact .indexAddr _ _ _ | exact .len _ _ (by kernel_rfl) | exact .field _ _ _ | exact .extract _ _ | exact .pick _ _ _ | exact .build _ _ | exact .slice _ _ _ _ _ | exact .unOp _ _ _ rfl | exact .index _ _ _ | exact .max _ _ _ rfl rfl | exact .min _ _ _ rfl rfl)) | ((with_reducible refine Calmly.is_gl ?_); refine Calmly.mix_gl rfl rfl rfl ?_; first | ((first | with_reducible refine Calmly.gl_tt ?_ (fun _ _ => ?_) | with_reducible refine Calmly.gl_ff ?_ (fun _ _ => ?_)); (first | exact .move _ | exact .load _ _ | exact .fieldAddr _ _ _ (by kernel_rfl) | exact .assign _ | exact .binOp _ _ _ _ _ rfl | exact .indexAddr _ _ _ | exact .len _ _ (by kernel_rfl) | exact .field _ _ _ | exact .extract _ _ | exact .pick _ _ _ | exact .build _ _ | exact .slice _ _ _ _ _ | exact .unOp _ _ _ rfl | exact .index _ _ _ | exact .max _ _ _ rfl rfl | exact .min _ _ _ rfl rfl)) | with_reducible refine Calmly.gl_tf (fun _ _ => ?_) | with_reducible refine Calmly.gl_ft (fun _ _ => ?_)) | ((with_reducible refine Calmly.is_eff ?_); refine Calmly.mix_eff rfl (fun _ _ => ?_)) | ((with_reducible refine Calmly.is_gf ?_); refine Calmly.mix_gf rfl rfl rfl ?_; first | with_reducible refine Calmly.gf_tt (fun _ _ => ?_) | with_reducible refine Calmly.gf_ff (fun _ _ => ?_) | with_reducible refine Calmly.gf_tf (kept_of hk) (fun _ _ => ?_) | with_reducible refine Calmly.gf_ft (kept_of hk) (fun _ _ => ?_)) | ((with_reducible refine Calmly.is_tail ?_); first | refine Calmly.mix_tail_nil ?_ | refine Calmly.mix_tail rfl (fun _ _ => ?_)) | ((with_reducible refine Calmly.is_kept ?_); refine ⟨kept_of hk, ?_⟩) | (with_reducible refine Calmly.mix_alt ?_ ?_))
                      go_roundw
                      case rel => exact ⟨i + 1, _, _, _, _, _, _, _, _, _, _, _, _, _, _, _, _, by omega, by go_num, hbr3, A24, A25, gY, pY, by rw [HOL.out]; omega, by rw [HOL.out]; omega, by rw [HOL.out]; omega, by rw [HOL.out]; omega⟩
                      case measure => simp [intOf]; omega
                  dsimp only at HKK
                  have HK2 := Lib.hid HKK
                  clear HKK hK'
                  have g10 := cell_block X18 0
                  have g11 := cell_block X18 1
                  have g12 := cell_block X20 0
                  have g13 := cell_block X20 1
                  have hk := Below.refl V7.heap.size V7
                  have r0a : RA ≠ 0 := by omega
                  have r0b : RB ≠ 0 := by omega
                  have bRA : -9223372036854775807 ≤ RA ∧ RA ≤ 9223372036854775807 := by omega
                  have bRB : -9223372036854775807 ≤ RB ∧ RB ≤ 9223372036854775807 := by omega
                  have bxa : -9223372036854775807 ≤ xav ∧ xav ≤ 9223372036854775807 := by omega
                  have bxb : -9223372036854775807 ≤ xbv ∧ xbv ≤ 9223372036854775807 := by omega
                  go_wp2_with (first | ((with_reducible refine Calmly.is_fl ?_); refine Calmly.mix_fl rfl ?_ (fun _ _ => ?_); (first | exact .move _ | exact .load _ _ | exact .fieldAddr _ _ _ (by kernel_rfl) | exact .assign _ | exact .binOp _ _ _ _ _ rfl | exact .indexAddr _ _ _ | exact .len _ _ (by kernel_rfl) | exact .field _ _ _ | exact .extract _ _ | exact .pick _ _ _ | exact .build _ _ | exact .slice _ _ _ _ _ | exact .unOp _ _ _ rfl | exact .index _ _ _ | exact .max _ _ _ rfl rfl | exact .min _ _ _ rfl rfl)) | ((with_reducible refine Calmly.is_gl ?_); refine Calmly.mix_gl rfl rfl rfl ?_; first | ((first | with_reducible refine Calmly.gl_tt ?_ (fun _ _ => ?_) | with_reducible refine Calmly.gl_ff ?_ (fun _ _ => ?_)); (first | exact .move _ | exact .load _ _ | exact .fieldAddr _ _ _ (by kernel_rfl) | exact .assign _ | exact .binOp _ _ _ _ _ rfl | exact .indexAddr _ _ _ | exact .len _ _ (by kernel_rfl) | exact .field _ _ _ | exact .extract _ _ | exact .pick _ _ _ | exact .build _ _ | exact .slice _ _ _ _ _ | exact .unOp _ _ _ rfl | exact .index _ _ _ | exact .max _ _ _ rfl rfl | exact .min _ _ _ rfl rfl)) | with_reducible refine Calmly.gl_tf (fun _ _ => ?_) | with_reducible refine Calmly.gl_ft (fun _ _ => ?_)) | ((with_reducible refine Calmly.is_eff ?_); refine Calmly.mix_eff rfl (fun _ _ => ?_)) | ((with_reducible refine Calmly.is_gf ?_); refine Calmly.mix_gf rfl rfl rfl ?_; first | with_reducible refine Calmly.gf_tt (fun _ _ => ?_) | with_reducible refine Calmly.gf_ff (fun _ _ => ?_) | with_reducible refine Calmly.gf_tf (kept_of hk) (fun _ _ => ?_) | with_reducible refine Calmly.gf_ft (kept_of hk) (fun _ _ => ?_)) | ((with_reducible refine Calmly.is_kept ?_); refine ⟨kept_of hk, ?_⟩) | (with_reducible refine Calmly.mix_alt ?_ ?_) | (go_at_call 86; ((with_reducible refine (RatioOf_any xav RA _ bxa.1 bxa.2 bRA.1 bRA.2 r0a).mono ?_); rintro e w8 ⟨⟨es, eb, en, ec, es', eb', en', ec', rfl, eh, eh', rA⟩, hs⟩; replace hk := step_of hk hs; (try replace pA := blk_keep pA hs); (try replace pB := blk_keep pB hs); clear hs)) | (go_at_call 86; ((with_reducible refine (RatioOf_any xbv RB _ bxb.1 bxb.2 bRB.1 bRB.2 r0b).mono ?_); rintro e w9 ⟨⟨fs, fb, fn, fc, fs', fb', fn', fc', rfl, fh, fh', rB⟩, hs⟩; replace hk := step_of hk hs; replace rA := rA.keep hs; (try replace pA := blk_keep pA hs); (try replace pB := blk_keep pB hs); clear hs)) | (have hAgeN := hk.size; refine kept_allocB hk (fun hs hk' hblk => ?_); (try replace rA := rA.keep hs); (try replace rB := rB.keep hs); (first | (have hneAB := Nat.ne_of_lt (blk_lt pA); replace pA := blk_keep pA hs; have hAgeB := hAgeN; have pB := hblk; (first | generalize World.alloc _ _ = W' at hs hk' hblk pA pB rA rB ⊢ | generalize World.alloc _ _ = W' at hs hk' hblk pA pB rA ⊢ | generalize World.alloc _ _ = W' at hs hk' hblk pA pB ⊢)) | (have hAgeA := hAgeN; have pA := hblk; (first | generalize World.alloc _ _ = W' at hs hk' hblk pA rA rB ⊢ | generalize World.alloc _ _ = W' at hs hk' hblk pA rA ⊢ | generalize World.alloc _ _ = W' at hs hk' hblk pA ⊢))); replace hk := hk'; clear hk' hs hblk hAgeN))
                  all_goals
                    have zA0 := cell_block pA 0; have zA1 := cell_block pA 1; have zA2 := cell_block pA 2; have zA3 := cell_block pA 3; have zA4 := frozen_block pA 0; have zA5 := frozen_block pA 1; have zA6 := frozen_block pA 2; have zA7 := frozen_block pA 3; have zB0 := cell_block pB 0; have zB1 := cell_block pB 1; have zB2 := cell_block pB 2; have zB3 := cell_block pB 3; have zB4 := frozen_block pB 0; have zB5 := frozen_block pB 1; have zB6 := frozen_block pB 2; have zB7 := frozen_block pB 3
                    go_wp2_with (first | ((with_reducible refine Calmly.is_fl ?_); refine Calmly.mix_fl rfl ?_ (fun _ _ => ?_); (first | exact .move _ | exact .load _ _ | exact .fieldAddr _ _ _ (by kernel_rfl) | exact .assign _ | exact .binOp _ _ _ _ _ rfl | exact .indexAddr _ _ _ | exact .len _ _ (by kernel_rfl) | exact .field _ _ _ | exact .extract _ _ | exact .pick _ _ _ | exact .build _ _ | exact .slice _ _ _ _ _ | exact .unOp _ _ _ rfl | exact .index _ _ _ | exact .max _ _ _ rfl rfl | exact .min _ _ _ rfl rfl)) | ((with_reducible refine Calmly.is_gl ?_); refine Calmly.mix_gl rfl rfl rfl ?_; first | ((first | with_reducible refine Calmly.gl_tt ?_ (fun _ _ => ?_) | with_reducible refine Calmly.gl_ff ?_ (fun _ _ => ?_)); (first | exact .move _ | exact .load _ _ | exact .fieldAddr _ _ _ (by kernel_rfl) | exact .assign _ | exact .binOp _ _ _ _ _ rfl | exact .indexAddr _ _ _ | exact .len _ _ (by kernel_rfl) | exact .field _ _ _ | exact .extract _ _ | exact .pick _ _ _ | exact .build _ _ | exact .slice _ _ _ _ _ | exact .unOp _ _ _ rfl | exact .index _ _ _ | exact .max _ _ _ rfl rfl | exact .min _ _ _ rfl rfl)) | with_reducible refine Calmly.gl_tf (fun _ _ => ?_) | with_reducible refine Calmly.gl_ft (fun _ _ => ?_)) | ((with_reducible refine Calmly.is_eff ?_); refine Calmly.mix_eff rfl (fun _ _ => ?_)) | ((with_reducible refine Calmly.is_gf ?_); refine Calmly.mix_gf rfl rfl rfl ?_; first | with_reducible refine Calmly.gf_tt (fun _ _ => ?_) | with_reducible refine Calmly.gf_ff (fun _ _ => ?_) | with_reducible refine Calmly.gf_tf (kept_of hk) (fun _ _ => ?_) | with_reducible refine Calmly.gf_ft (kept_of hk) (fun _ _ => ?_)) | ((with_reducible refine Calmly.is_tail ?_); first | refine Calmly.mix_tail_nil ?_ | refine Calmly.mix_tail rfl (fun _ _ => ?_)) | ((with_reducible refine Calmly.is_kept ?_); refine ⟨kept_of hk, ?_⟩) | (with_reducible refine Calmly.mix_alt ?_ ?_))
                    have hT1 := twoRat pA pB hneAB rA rB hk hAgeA hAgeB _ rfl
                    have hT2 := twoRat pB pA (Ne.symm hneAB) rA rB hk hAgeB hAgeA _ rfl
                    have hneBA := Ne.symm hneAB
                    apply HK2.out
                    rotate_left 7
                    · first | with_reducible exact hT1 | with_reducible exact hT2
                    all_goals first | with_reducible exact hAgeA | with_reducible exact hAgeB | with_reducible exact hneAB | with_reducible exact hneBA | with_reducible assumption
                · obtain rfl : n = i := by omega
                  have hli1 : ¬ (n : Int) < (n : Int) := by omega
                  have j0 := cell_block X24 0
                  have j1 := cell_block X24 1
                  have j2 := cell_block X24 2
                  have j3 := cell_block X24 3
                  have q4 := cell_block X25 0
                  have q5 := cell_block X25 1
                  have q6 := cell_block X25 2
                  have q7 := cell_block X25 3
                  go_wp2_with fail
                  refine (RatioCmp_any _ _ _ _ _ _ _ _ _ _ _ _ _ _ _ _ (oL n) _ _ _ gV pV hl1 hl2 hl3 hl4 (by omega)).mono ?_
                  rintro e w8 ⟨rfl, hs⟩
                  rw [cmp_same (betti ks ls ns n n4)]
                  replace BW := BW.trans (hs.mono BW.size)
                  go_wp2_with fail
                  go_ret
                  exact ⟨rfl, BW⟩
            have HK2 := Lib.hid HKK
            clear HKK hK'
            have f0 := cell_block x1 0
            have f1 := cell_block x1 1
            have f4 := cell_block x3 0
            have f5 := cell_block x3 1
            have hlt := blk_lt x3
            have hk := Below.refl U3.heap.size U3
            go_wp2_with (first | ((with_reducible refine Calmly.is_fl ?_); refine Calmly.mix_fl rfl ?_ (fun _ _ => ?_); (first | exact .move _ | exact .load _ _ | exact .fieldAddr _ _ _ (by kernel_rfl) | exact .assign _ | exact .binOp _ _ _ _ _ rfl | exact .indexAddr _ _ _ | exact .len _ _ (by kernel_rfl) | exact .field _ _ _ | exact .extract _ _ | exact .pick _ _ _ | exact .build _ _ | exact .slice _ _ _ _ _ | exact .unOp _ _ _ rfl | exact .index _ _ _ | exact .max _ _ _ rfl rfl | exact .min _ _ _ rfl rfl)) | ((with_reducible refine Calmly.is_gl ?_); refine Calmly.mix_gl rfl rfl rfl ?_; first | ((first | with_reducible refine Calmly.gl_tt ?_ (fun _ _ => ?_) | with_reducible refine Calmly.gl_ff ?_ (fun _ _ => ?_)); (first | exact .move _ | exact .load _ _ | exact .fieldAddr _ _ _ (by kernel_rfl) | exact .assign _ | exact .binOp _ _ _ _ _ rfl | exact .indexAddr _ _ _ | exact .len _ _ (by kernel_rfl) | exact .field _ _ _ | exact .extract _ _ | exact .pick _ _ _ | exact .build _ _ | exact .slice _ _ _ _ _ | exact .unOp _ _ _ rfl | exact .index _ _ _ | exact .max _ _ _ rfl rfl | exact .min _ _ _ rfl rfl)) | with_reducible refine Calmly.gl_tf (fun _ _ => ?_) | with_reducible refine Calmly.gl_ft (fun _ _ => ?_)) | ((with_reducible refine Calmly.is_eff ?_); refine Calmly.mix_eff rfl (fun _ _ => ?_)) | ((with_reducible refine Calmly.is_gf ?_); refine Calmly.mix_gf rfl rfl rfl ?_; first | with_reducible refine Calmly.gf_tt (fun _ _ => ?_) | with_reducible refine Calmly.gf_ff (fun _ _ => ?_) | with_reducible refine Calmly.gf_tf (kept_of hk) (fun _ _ => ?_) | with_reducible refine Calmly.gf_ft (kept_of hk) (fun _ _ => ?_)) | ((with_reducible refine Calmly.is_kept ?_); refine ⟨kept_of hk, ?_⟩) | (with_reducible refine Calmly.mix_alt ?_ ?_) | (go_at_call 18; (refine (Copy_any a b n c m d ms ks _ ((h1.keep BW).keep hk) ((h2.keep BW).keep hk) (by omega) (by omega)).mono ?_; rintro e w7 ⟨a1, c1', b1, d1', BB, rfl, oA1, oB1, hB, hgB, hs⟩; replace hk := step_of hk hs; (try replace pA := blk_keep pA hs); replace oA1 := oA1.si; replace oB1 := oB1.si; clear hgB hs hB)) | (go_at_call 77; (refine (copyInts_any z n f' ns _ ((h4.keep BW).keep hk) (by omega)).mono ?_; rintro e w8 ⟨a2, c2', rfl, oC, hs⟩; replace hk := step_of hk hs; (try replace pA := blk_keep pA hs); replace oA1 := oA1.keep hs; replace oB1 := oB1.keep hs; have oC1 := oC.si; clear hs oC)) | (go_at_call 76; (refine (SwayOf_any _ _ _ _ _ _ _ _ _ ms ks ns _ oA1 oB1 oC1 0 RB xb HEB.out (fun h => absurd rfl h) (fun _ => ⟨RB1.out, RB2.out⟩)).mono ?_; rintro e w9 ⟨a10, c10, B7, rfl, s7, hB7, hs⟩; replace hk := step_of hk hs; (try (have hne := s7.offB (Nat.lt_of_lt_of_le (blk_lt pA) hB7); replace s7 := s7.si)); (try replace pA := blk_keep pA hs); clear hs oA1 oB1 hB7; (try have zA0 := cell_block pA 0); (try have zA1 := cell_block pA 1); (try have zA2 := frozen_block pA 0); (try have zA3 := frozen_block pA 1); clear oC1)) | (refine kept_setS hk hAge pA s7 hne (fun hk' h1' h2' => ?_); replace hk := hk'; replace pA := h1'; replace s7 := h2'; clear hk' h1' h2' hne zA0 zA1 zA2 zA3; generalize World.setCell (World.setCell _ _ _) _ _ = W' at hk pA s7 ⊢) | (have hAge := hk.size; refine kept_allocB hk (fun hs hk' hblk => ?_); (try replace oA1 := oA1.keep hs); (try replace oB1 := oB1.keep hs); (try replace oC1 := oC1.keep hs); (try (have hne := s7.off (Nat.le_refl _); replace s7 := s7.si.keep hs)); (first | generalize World.alloc _ _ = W' at hs hk' hblk s7 ⊢ | generalize World.alloc _ _ = W' at hs hk' hblk oA1 oB1 oC1 ⊢ | generalize World.alloc _ _ = W' at hs hk' hblk oA1 oB1 ⊢ | generalize World.alloc _ _ = W' at hs hk' hblk ⊢); replace hk := hk'; clear hk'; have pA := hblk; clear hs hblk; have zA0 := cell_block pA 0; have zA1 := cell_block pA 1; have zA2 := frozen_block pA 0; have zA3 := frozen_block pA 1))
            go_wp2_with (first | ((with_reducible refine Calmly.is_fl ?_); refine Calmly.mix_fl rfl ?_ (fun _ _ => ?_); (first | exact .move _ | exact .load _ _ | exact .fieldAddr _ _ _ (by kernel_rfl) | exact .assign _ | exact .binOp _ _ _ _ _ rfl | exact .indexAddr _ _ _ | exact .len _ _ (by kernel_rfl) | exact .field _ _ _ | exact .extract _ _ | exact .pick _ _ _ | exact .build _ _ | exact .slice _ _ _ _ _ | exact .unOp _ _ _ rfl | exact .index _ _ _ | exact .max _ _ _ rfl rfl | exact .min _ _ _ rfl rfl)) | ((with_reducible refine Calmly.is_gl ?_); refine Calmly.mix_gl rfl rfl rfl ?_; first | ((first | with_reducible refine Calmly.gl_tt ?_ (fun _ _ => ?_) | with_reducible refine Calmly.gl_ff ?_ (fun _ _ => ?_)); (first | exact .move _ | exact .load _ _ | exact .fieldAddr _ _ _ (by kernel_rfl) | exact .assign _ | exact .binOp _ _ _ _ _ rfl | exact .indexAddr _ _ _ | exact .len _ _ (by kernel_rfl) | exact .field _ _ _ | exact .extract _ _ | exact .pick _ _ _ | exact .build _ _ | exact .slice _ _ _ _ _ | exact .unOp _ _ _ rfl | exact .index _ _ _ | exact .max _ _ _ rfl rfl | exact .min _ _ _ rfl rfl)) | with_reducible refine Calmly.gl_tf (fun _ _ => ?_) | with_reducible refine Calmly.gl_ft (fun _ _ => ?_)) | ((with_reducible refine Calmly.is_eff ?_); refine Calmly.mix_eff rfl (fun _ _ => ?_)) | ((with_reducible refine Calmly.is_gf ?_); refine Calmly.mix_gf rfl rfl rfl ?_; first | with_reducible refine Calmly.gf_tt (fun _ _ => ?_) | with_reducible refine Calmly.gf_ff (fun _ _ => ?_) | with_reducible refine Calmly.gf_tf (kept_of hk) (fun _ _ => ?_) | with_reducible refine Calmly.gf_ft (kept_of hk) (fun _ _ => ?_)) | ((with_reducible refine Calmly.is_tail ?_); first | refine Calmly.mix_tail_nil ?_ | refine Calmly.mix_tail rfl (fun _ _ => ?_)) | ((with_reducible refine Calmly.is_kept ?_); refine ⟨kept_of hk, ?_⟩) | (with_reducible refine Calmly.mix_alt ?_ ?_))
            all_goals exact HK2.out _ _ _ _ _ _ _ _ _ _ _ _ _ hAge hk pA s7
          have HK2 := Lib.hid HKK
          clear HKK hK'
          have f0 := cell_block x1 0
          have f1 := cell_block x1 1
          have f4 := cell_block x3 0
          have f5 := cell_block x3 1
          have hlt := blk_lt x3
          have hk := Below.refl U2.heap.size U2
          go_wp2_with (first | ((with_reducible refine Calmly.is_fl ?_); refine Calmly.mix_fl rfl ?_ (fun _ _ => ?_); (first | exact .move _ | exact .load _ _ | exact .fieldAddr _ _ _ (by kernel_rfl) | exact .assign _ | exact .binOp _ _ _ _ _ rfl | exact .indexAddr _ _ _ | exact .len _ _ (by kernel_rfl) | exact .field _ _ _ | exact .extract _ _ | exact .pick _ _ _ | exact .build _ _ | exact .slice _ _ _ _ _ | exact .unOp _ _ _ rfl | exact .index _ _ _ | exact .max _ _ _ rfl rfl | exact .min _ _ _ rfl rfl)) | ((with_reducible refine Calmly.is_gl ?_); refine Calmly.mix_gl rfl rfl rfl ?_; first | ((first | with_reducible refine Calmly.gl_tt ?_ (fun _ _ => ?_) | with_reducible refine Calmly.gl_ff ?_ (fun _ _ => ?_)); (first | exact .move _ | exact .load _ _ | exact .fieldAddr _ _ _ (by kernel_rfl) | exact .assign _ | exact .binOp _ _ _ _ _ rfl | exact .indexAddr _ _ _ | exact .len _ _ (by kernel_rfl) | exact .field _ _ _ | exact .extract _ _ | exact .pick _ _ _ | exact .build _ _ | exact .slice _ _ _ _ _ | exact .unOp _ _ _ rfl | exact .index _ _ _ | exact .max _ _ _ rfl rfl | exact .min _ _ _ rfl rfl)) | with_reducible refine Calmly.gl_tf (fun _ _ => ?_) | with_reducible refine Calmly.gl_ft (fun _ _ => ?_)) | ((with_reducible refine Calmly.is_eff ?_); refine Calmly.mix_eff rfl (fun _ _ => ?_)) | ((with_reducible refine Calmly.is_gf ?_); refine Calmly.mix_gf rfl rfl rfl ?_; first | with_reducible refine Calmly.gf_tt (fun _ _ => ?_) | with_reducible refine Calmly.gf_ff (fun _ _ => ?_) | with_reducible refine Calmly.gf_tf (kept_of hk) (fun _ _ => ?_) | with_reducible refine Calmly.gf_ft (kept_of hk) (fun _ _ => ?_)) | ((with_reducible refine Calmly.is_kept ?_); refine ⟨kept_of hk, ?_⟩) | (with_reducible refine Calmly.mix_alt ?_ ?_) | (go_at_call 18; (refine (Copy_any a b n c m d ms ks _ ((h1.keep BW).keep hk) ((h2.keep BW).keep hk) (by omega) (by omega)).mono ?_; rintro e w7 ⟨a1, c1', b1, d1', BB, rfl, oA1, oB1, hB, hgB, hs⟩; replace hk := step_of hk hs; (try replace pA := blk_keep pA hs); replace oA1 := oA1.si; replace oB1 := oB1.si; clear hgB hs hB)) | (go_at_call 77; (refine (copyInts_any u n e' ls _ ((h3.keep BW).keep hk) (by omega)).mono ?_; rintro e w8 ⟨a2, c2', rfl, oC, hs⟩; replace hk := step_of hk hs; (try replace pA := blk_keep pA hs); replace oA1 := oA1.keep hs; replace oB1 := oB1.keep hs; have oC1 := oC.si; clear hs oC)) | (go_at_call 76; (refine (SwayOf_any _ _ _ _ _ _ _ _ _ ms ks ls _ oA1 oB1 oC1 0 RA xa HEA.out (fun h => absurd rfl h) (fun _ => ⟨RA1.out, RA2.out⟩)).mono ?_; rintro e w9 ⟨a8, c8, B7, rfl, s7, hB7, hs⟩; replace hk := step_of hk hs; (try (have hne := s7.offB (Nat.lt_of_lt_of_le (blk_lt pA) hB7); replace s7 := s7.si)); (try replace pA := blk_keep pA hs); clear hs oA1 oB1 hB7; (try have zA0 := cell_block pA 0); (try have zA1 := cell_block pA 1); (try have zA2 := frozen_block pA 0); (try have zA3 := frozen_block pA 1); clear oC1)) | (refine kept_setS hk hAge pA s7 hne (fun hk' h1' h2' => ?_); replace hk := hk'; replace pA := h1'; replace s7 := h2'; clear hk' h1' h2' hne zA0 zA1 zA2 zA3; generalize World.setCell (World.setCell _ _ _) _ _ = W' at hk pA s7 ⊢) | (have hAge := hk.size; refine kept_allocB hk (fun hs hk' hblk => ?_); (try replace oA1 := oA1.keep hs); (try replace oB1 := oB1.keep hs); (try replace oC1 := oC1.keep hs); (try (have hne := s7.off (Nat.le_refl _); replace s7 := s7.si.keep hs)); (first | generalize World.alloc _ _ = W' at hs hk' hblk s7 ⊢ | generalize World.alloc _ _ = W' at hs hk' hblk oA1 oB1 oC1 ⊢ | generalize World.alloc _ _ = W' at hs hk' hblk oA1 oB1 ⊢ | generalize World.alloc _ _ = W' at hs hk' hblk ⊢); replace hk := hk'; clear hk'; have pA := hblk; clear hs hblk; have zA0 := cell_block pA 0; have zA1 := cell_block pA 1; have zA2 := frozen_block pA 0; have zA3 := frozen_block pA 1))
          go_wp2_with (first | ((with_reducible refine Calmly.is_fl ?_); refine Calmly.mix_fl rfl ?_ (fun _ _ => ?_); (first | exact .move _ | exact .load _ _ | exact .fieldAddr _ _ _ (by kernel_rfl) | exact .assign _ | exact .binOp _ _ _ _ _ rfl | exact .indexAddr _ _ _ | exact .len _ _ (by kernel_rfl) | exact .field _ _ _ | exact .extract _ _ | exact .pick _ _ _ | exact .build _ _ | exact .slice _ _ _ _ _ | exact .unOp _ _ _ rfl | exact .index _ _ _ | exact .max _ _ _ rfl rfl | exact .min _ _ _ rfl rfl)) | ((with_reducible refine Calmly.is_gl ?_); refine Calmly.mix_gl rfl rfl rfl ?_; first | ((first | with_reducible refine Calmly.gl_tt ?_ (fun _ _ => ?_) | with_reducible refine Calmly.gl_ff ?_ (fun _ _ => ?_)); (first | exact .move _ | exact .load _ _ | exact .fieldAddr _ _ _ (by kernel_rfl) | exact .assign _ | exact .binOp _ _ _ _ _ rfl | exact .indexAddr _ _ _ | exact .len _ _ (by kernel_rfl) | exact .field _ _ _ | exact .extract _ _ | exact .pick _ _ _ | exact .build _ _ | exact .slice _ _ _ _ _ | exact .unOp _ _ _ rfl | exact .index _ _ _ | exact .max _ _ _ rfl rfl | exact .min _ _ _ rfl rfl)) | with_reducible refine Calmly.gl_tf (fun _ _ => ?_) | with_reducible refine Calmly.gl_ft (fun _ _ => ?_)) | ((with_reducible refine Calmly.is_eff ?_); refine Calmly.mix_eff rfl (fun _ _ => ?_)) | ((with_reducible refine Calmly.is_gf ?_); refine Calmly.mix_gf rfl rfl rfl ?_; first | with_reducible refine Calmly.gf_tt (fun _ _ => ?_) | with_reducible refine Calmly.gf_ff (fun _ _ => ?_) | with_reducible refine Calmly.gf_tf (kept_of hk) (fun _ _ => ?_) | with_reducible refine Calmly.gf_ft (kept_of hk) (fun _ _ => ?_)) | ((with_reducible refine Calmly.is_tail ?_); first | refine Calmly.mix_tail_nil ?_ | refine Calmly.mix_tail rfl (fun _ _ => ?_)) | ((with_reducible refine Calmly.is_kept ?_); refine ⟨kept_of hk, ?_⟩) | (with_reducible refine Calmly.mix_alt ?_ ?_))
          all_goals exact HK2.out _ _ _ _ _ _ _ _ _ _ _ _ _ _ _ _ _ _ _ _ _ _ _ _ _ _ _ _ _ _ _ _ _ _ _ _ _ _ hAge hk pA s7
    have HK9 := Lib.hid HKK
    clear HKK hK'
    cases M
    case' true =>
      have hs0 : S0 = 0 := by simpa using HMS.out.symm
      have hrb := HND.out rfl
      subst hs0
      subst hrb
    case' false =>
      have bm : (S0 == 0) = false := HMS.out.symm
    all_goals
      have f0 := cell_block x1 0; have f1 := cell_block x1 1; have f2 := cell_block x2 0; have f3 := cell_block x2 1; have f4 := cell_block x3 0; have f5 := cell_block x3 1
      have f6 := cell_block X7 0
      have f7 := cell_block X7 1
      have hk := Below.refl V3.heap.size V3
      go_wp2_with (first | ((with_reducible refine Calmly.is_fl ?_); refine Calmly.mix_fl rfl ?_ (fun _ _ => ?_); (first | exact .move _ | exact .load _ _ | exact .fieldAddr _ _ _ (by kernel_rfl) | exact .assign _ | exact .binOp _ _ _ _ _ rfl | exact .indexAddr _ _ _ | exact .len _ _ (by kernel_rfl) | exact .field _ _ _ | exact .extract _ _ | exact .pick _ _ _ | exact .build _ _ | exact .slice _ _ _ _ _ | exact .unOp _ _ _ rfl | exact .index _ _ _ | exact .max _ _ _ rfl rfl | exact .min _ _ _ rfl rfl)) | ((with_reducible refine Calmly.is_gl ?_); refine Calmly.mix_gl rfl rfl rfl ?_; first | ((first | with_reducible refine Calmly.gl_tt ?_ (fun _ _ => ?_) | with_reducible refine Calmly.gl_ff ?_ (fun _ _ => ?_)); (first | exact .move _ | exact .load _ _ | exact .fieldAddr _ _ _ (by kernel_rfl) | exact .assign _ | exact .binOp _ _ _ _ _ rfl | exact .indexAddr _ _ _ | exact .len _ _ (by kernel_rfl) | exact .field _ _ _ | exact .extract _ _ | exact .pick _ _ _ | exact .build _ _ | exact .slice _ _ _ _ _ | exact .unOp _ _ _ rfl | exact .index _ _ _ | exact .max _ _ _ rfl rfl | exact .min _ _ _ rfl rfl)) | with_reducible refine Calmly.gl_tf (fun _ _ => ?_) | with_reducible refine Calmly.gl_ft (fun _ _ => ?_)) | ((with_reducible refine Calmly.is_eff ?_); refine Calmly.mix_eff rfl (fun _ _ => ?_)) | ((with_reducible refine Calmly.is_gf ?_); refine Calmly.mix_gf rfl rfl rfl ?_; first | with_reducible refine Calmly.gf_tt (fun _ _ => ?_) | with_reducible refine Calmly.gf_ff (fun _ _ => ?_) | with_reducible refine Calmly.gf_tf (kept_of hk) (fun _ _ => ?_) | with_reducible refine Calmly.gf_ft (kept_of hk) (fun _ _ => ?_)) | ((with_reducible refine Calmly.is_tail ?_); first | refine Calmly.mix_tail_nil ?_ | refine Calmly.mix_tail rfl (fun _ _ => ?_)) | ((with_reducible refine Calmly.is_kept ?_); refine ⟨kept_of hk, ?_⟩) | (with_reducible refine Calmly.mix_alt ?_ ?_) | ((with_reducible refine Calmly.is_gl ?_); refine Calmly.mix_glu rfl rfl rfl (fun _ _ => ?_)) | ((with_reducible refine Calmly.is_gf ?_); refine Calmly.mix_gfu rfl rfl rfl (kept_of hk) (fun _ _ => ?_)))
      exact HK9.out _ _ _ _ _ _ _ _ _ _ _ _ _ _ _ _ _ _ _ _ _ _ _ _ _ _ _ _ _ _ _ _ _ _ _ _ _ _ _ _ _ _ _ _ _ _ _ _ _ _ _ _ _ _ _ _ _ _ _ _ _ _ _ _ _ _ _ _ _ _ _ _ _ _ _ _ _ _ _ _ _ _ _ _ _ _ _ _ _ _ _ _ _ _ _ _ _ _ _ _ _ _ _ _ _ _ _
  have HK2 := Lib.hid HKK
  clear HKK hK'
  have f0 := cell_block x1 0
  have f1 := cell_block x1 1
  have f2 := cell_block x2 0
  have f3 := cell_block x2 1
  have hlt := blk_lt x3
  have hk := Below.refl U.heap.size U
  go_wp2_with (first | ((with_reducible refine Calmly.is_fl ?_); refine Calmly.mix_fl rfl ?_ (fun _ _ => ?_); (first | exact .move _ | exact .load _ _ | exact .fieldAddr _ _ _ (by kernel_rfl) | exact .assign _ | exact .binOp _ _ _ _ _ rfl | exact .indexAddr _ _ _ | exact .len _ _ (by kernel_rfl) | exact .field _ _ _ | exact .extract _ _ | exact .pick _ _ _ | exact .build _ _ | exact .slice _ _ _ _ _ | exact .unOp _ _ _ rfl | exact .index _ _ _ | exact .max _ _ _ rfl rfl | exact .min _ _ _ rfl rfl)) | ((with_reducible refine Calmly.is_gl ?_); refine Calmly.mix_gl rfl rfl rfl ?_; first | ((first | with_reducible refine Calmly.gl_tt ?_ (fun _ _ => ?_) | with_reducible refine Calmly.gl_ff ?_ (fun _ _ => ?_)); (first | exact .move _ | exact .load _ _ | exact .fieldAddr _ _ _ (by kernel_rfl) | exact .assign _ | exact .binOp _ _ _ _ _ rfl | exact .indexAddr _ _ _ | exact .len _ _ (by kernel_rfl) | exact .field _ _ _ | exact .extract _ _ | exact .pick _ _ _ | exact .build _ _ | exact .slice _ _ _ _ _ | exact .unOp _ _ _ rfl | exact .index _ _ _ | exact .max _ _ _ rfl rfl | exact .min _ _ _ rfl rfl)) | with_reducible refine Calmly.gl_tf (fun _ _ => ?_) | with_reducible refine Calmly.gl_ft (fun _ _ => ?_)) | ((with_reducible refine Calmly.is_eff ?_); refine Calmly.mix_eff rfl (fun _ _ => ?_)) | ((with_reducible refine Calmly.is_gf ?_); refine Calmly.mix_gf rfl rfl rfl ?_; first | with_reducible refine Calmly.gf_tt (fun _ _ => ?_) | with_reducible refine Calmly.gf_ff (fun _ _ => ?_) | with_reducible refine Calmly.gf_tf (kept_of hk) (fun _ _ => ?_) | with_reducible refine Calmly.gf_ft (kept_of hk) (fun _ _ => ?_)) | ((with_reducible refine Calmly.is_kept ?_); refine ⟨kept_of hk, ?_⟩) | (with_reducible refine Calmly.mix_alt ?_ ?_) | (go_at_call 18; (refine (Copy_any a b n c m d ms ks _ ((h1.keep BW).keep hk) ((h2.keep BW).keep hk) (by omega) (by omega)).mono ?_; rintro e w7 ⟨a1, c1', b1, d1', BB, rfl, oA1, oB1, hB, hgB, hs⟩; replace hk := step_of hk hs; (try replace pA := blk_keep pA hs); replace oA1 := oA1.si; replace oB1 := oB1.si; clear hgB hs hB)) | (go_at_call 78; (refine (ShapeAt_any _ _ _ _ _ _ ms ks x y _ oA1 oB1 hx1 hx2 hy2 0 R0 S0 xs0 HEE.out (fun h => absurd rfl h) (fun _ => ⟨HR1.out, HR2.out, HR3.out⟩)).mono ?_; rintro e w9 ⟨a9, c9, B7, rfl, s7, hB7, hs⟩; replace hk := step_of hk hs; (try (have hne := s7.offB (Nat.lt_of_lt_of_le (blk_lt pA) hB7); replace s7 := s7.si)); (try replace pA := blk_keep pA hs); clear hs oA1 oB1 hB7; (try have zA0 := cell_block pA 0); (try have zA1 := cell_block pA 1); (try have zA2 := frozen_block pA 0); (try have zA3 := frozen_block pA 1))) | (refine kept_setS hk hAge pA s7 hne (fun hk' h1' h2' => ?_); replace hk := hk'; replace pA := h1'; replace s7 := h2'; clear hk' h1' h2' hne zA0 zA1 zA2 zA3; generalize World.setCell (World.setCell _ _ _) _ _ = W' at hk pA s7 ⊢) | (have hAge := hk.size; refine kept_allocB hk (fun hs hk' hblk => ?_); (try replace oA1 := oA1.keep hs); (try replace oB1 := oB1.keep hs); (try replace oC1 := oC1.keep hs); (try (have hne := s7.off (Nat.le_refl _); replace s7 := s7.si.keep hs)); (first | generalize World.alloc _ _ = W' at hs hk' hblk s7 ⊢ | generalize World.alloc _ _ = W' at hs hk' hblk oA1 oB1 oC1 ⊢ | generalize World.alloc _ _ = W' at hs hk' hblk oA1 oB1 ⊢ | generalize World.alloc _ _ = W' at hs hk' hblk ⊢); replace hk := hk'; clear hk'; have pA := hblk; clear hs hblk; have zA0 := cell_block pA 0; have zA1 := cell_block pA 1; have zA2 := frozen_block pA 0; have zA3 := frozen_block pA 1))
  go_wp2_with (first | ((with_reducible refine Calmly.is_fl ?_); refine Calmly.mix_fl rfl ?_ (fun _ _ => ?_); (first | exact .move _ | exact .load _ _ | exact .fieldAddr _ _ _ (by kernel_rfl) | exact .assign _ | exact .binOp _ _ _ _ _ rfl | exact .indexAddr _ _ _ | exact .len _ _ (by kernel_rfl) | exact .field _ _ _ | exact .extract _ _ | exact .pick _ _ _ | exact .build _ _ | exact .slice _ _ _ _ _ | exact .unOp _ _ _ rfl | exact .index _ _ _ | exact .max _ _ _ rfl rfl | exact .min _ _ _ rfl rfl)) | ((with_reducible refine Calmly.is_gl ?_); refine Calmly.mix_gl rfl rfl rfl ?_; first | ((first | with_reducible refine Calmly.gl_tt ?_ (fun _ _ => ?_) | with_reducible refine Calmly.gl_ff ?_ (fun _ _ => ?_)); (first | exact .move _ | exact .load _ _ | exact .fieldAddr _ _ _ (by kernel_rfl) | exact .assign _ | exact .binOp _ _ _ _ _ rfl | exact .indexAddr _ _ _ | exact .len _ _ (by kernel_rfl) | exact .field _ _ _ | exact .extract _ _ | exact .pick _ _ _ | exact .build _ _ | exact .slice _ _ _ _ _ | exact .unOp _ _ _ rfl | exact .index _ _ _ | exact .max _ _ _ rfl rfl | exact .min _ _ _ rfl rfl)) | with_reducible refine Calmly.gl_tf (fun _ _ => ?_) | with_reducible refine Calmly.gl_ft (fun _ _ => ?_)) | ((with_reducible refine Calmly.is_eff ?_); refine Calmly.mix_eff rfl (fun _ _ => ?_)) | ((with_reducible refine Calmly.is_gf ?_); refine Calmly.mix_gf rfl rfl rfl ?_; first | with_reducible refine Calmly.gf_tt (fun _ _ => ?_) | with_reducible refine Calmly.gf_ff (fun _ _ => ?_) | with_reducible refine Calmly.gf_tf (kept_of hk) (fun _ _ => ?_) | with_reducible refine Calmly.gf_ft (kept_of hk) (fun _ _ => ?_)) | ((with_reducible refine Calmly.is_tail ?_); first | refine Calmly.mix_tail_nil ?_ | refine Calmly.mix_tail rfl (fun _ _ => ?_)) | ((with_reducible refine Calmly.is_kept ?_); refine ⟨kept_of hk, ?_⟩) | (with_reducible refine Calmly.mix_alt ?_ ?_))
  all_goals exact HK2.out _ _ _ _ _ _ _ _ _ _ _ _ _ _ _ _ _ _ _ _ _ _ _ _ _ _ _ _ _ _ _ _ _ _ _ _ hAge hk pA s7
end Go.Proofs.Ytmaidjankakppaa
