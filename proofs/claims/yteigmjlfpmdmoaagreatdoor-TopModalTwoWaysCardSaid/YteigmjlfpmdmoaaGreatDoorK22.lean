/- The claim of TopModalTwoWays: a tied card. -/
import Derived.Test.YteigmjlfpmdmoaaGreatDoorK21
import Derived.Test.YteigmjlfpmdmoaaGreatDoorRows
import Derived.Test.YteigmjlfpmdmoaaGreatDoorCards
import Derived.Test.YteigmjlfpmdmoaaGreatDoorTie
import Derived.LaidMore
import Derived.Lay
import Derived.SevenTiedAt
import Derived.Stop.Joined
import Derived.Stop.LaidErr
import Derived.HandedShaped
import Derived.ChangeMaps5
namespace Go.Proofs.YteigmjlfpmdmoaaGreatDoor
open Go.RowKit
open Calmly (Kept)

theorem enc_err0 {ms ks : List Int} {mode den : Int} (hc : (checkF ms ks).2 = 0) (h1 : 0 ≤ mode) (h2 : mode < ms.length) (h3 : 1 ≤ den) (h4 : den ≤ 50) : encErr ms ks mode den = 0 := by
  have w1 : wIn mode 0 ((ms.length : Int) - 1) = true := by unfold wIn; simp; omega
  have w2 : wIn den 1 50 = true := by unfold wIn; simp; omega
  unfold encErr
  rw [hc, w1, w2]
  rfl

set_option maxRecDepth 100000 in
set_option maxHeartbeats 8000000 in
theorem TopModalTwoWays_walk (a b : Option Addr) (n c m d : Nat) (ms ks : List Int) (x y den : Int) (w : World) (hv : Vars w) (h1 : SI w a n c ms) (h2 : SI w b m d ks) (hx1 : -9223372036854775808 ≤ x) (hx2 : x ≤ 9223372036854775807) (hy2 : y ≤ 9223372036854775807) :
    Calls Tryz.prog 4 #[.agg #[.slice a n c, .slice b m d], .agg #[.int .i64 x, .int .i64 y], .int .i64 den] w fun e w' => e = .returned (.bool true) ∧ Below w.heap.size w w' := by
  have m1 := h1.max
  have c1 := h1.cap
  have m2 := h2.max
  have c2 := h2.cap
  have BW : Below w.heap.size w ((w.alloc (.cells #[.slice a n c, .slice b m d] 52)).alloc (.cells #[.int .i64 x, .int .i64 y] 39)) := ((Below.refl _ _).alloc (Nat.le_refl _) _).alloc (by simp) _
  obtain ⟨l1, l2⟩ : n ≤ ms.length ∧ ms.length ≤ n := by have := h1.len; omega
  obtain ⟨C, hC⟩ : ∃ C, (checkF ms ks).2 = C := ⟨_, rfl⟩
  obtain ⟨Q, hQ⟩ : ∃ E, squareE x y = E := ⟨_, rfl⟩
  have HC := Lib.hid hC
  have HQ := Lib.hid hQ
  clear hC hQ
  go_enter Tryz.func4, Tryz.ntmps4
  go_wp2_with fail
  refine (modalShown_any _).mono ?_
  rintro e w1 ⟨rfl, hs⟩
  obtain ⟨x1, x2⟩ := box2 (w := w) (o := .cells #[.slice a n c, .slice b m d] 52) (o' := .cells #[.int .i64 x, .int .i64 y] 39) hs
  replace BW := BW.trans (hs.mono BW.size)
  clear hs
  have f0 := cell_block x1 0; have f1 := cell_block x1 1; have f2 := cell_block x2 0; have f3 := cell_block x2 1
  go_wp2_with fail
  refine (FrameErr_any a b n c m d ms ks _ (h1.keep BW) (h2.keep BW)).mono ?_
  rintro e w2 ⟨rfl, hs⟩
  rw [HC.out]
  replace BW := BW.trans (hs.mono BW.size); replace x1 := blk_keep x1 hs; replace x2 := blk_keep x2 hs
  clear hs
  clear f0 f1 f2 f3
  have f0 := cell_block x1 0; have f1 := cell_block x1 1; have f2 := cell_block x2 0; have f3 := cell_block x2 1
  by_cases hz : C = 0
  case neg =>
    have b1 : (C != 0) = true := by simpa using hz
    clear hz
    go_wp2_with fail; go_ret; exact ⟨rfl, BW⟩
  subst hz
  go_wp2_with fail
  refine (rSquareErr_any x y _ hx1 hx2 hy2).mono ?_
  rintro e w3 ⟨rfl, hs⟩
  rw [HQ.out]
  replace BW := BW.trans (hs.mono BW.size); replace x1 := blk_keep x1 hs; replace x2 := blk_keep x2 hs
  clear hs
  clear f0 f1 f2 f3
  have f0 := cell_block x1 0; have f1 := cell_block x1 1; have f2 := cell_block x2 0; have f3 := cell_block x2 1
  by_cases hz : Q = 0
  case neg =>
    have b1 : (Q != 0) = true := by simpa using hz
    clear hz
    go_wp2_with fail; go_ret; exact ⟨rfl, BW⟩
  subst hz
  go_wp2_with fail
  refine (within_any _ _ _ _).mono ?_
  rintro e w' ⟨rfl, rfl⟩
  cases hd : wIn den 1 25
  · go_wp2_with fail; go_ret; exact ⟨rfl, BW⟩
  simp only [wIn, Bool.and_eq_true, decide_eq_true_eq] at hd
  obtain ⟨hd1, hd2⟩ := hd
  have hf := fr_of HC.out
  obtain ⟨nm1, nm2⟩ : m ≤ n ∧ n ≤ m := by have := h2.len; have := hf.len; omega
  obtain ⟨n0, n4⟩ : 0 < n ∧ n ≤ 4 := by have := hf.pos; have := hf.few; omega
  obtain ⟨_, y0, y100, x0, x100⟩ := squareE_ok HQ.out
  have hEE : (if (checkF ms ks).2 = 0 then squareE x y else (checkF ms ks).2) = 0 := by rw [if_pos HC.out]; exact HQ.out
  obtain ⟨R0, xs0, S0, r1, r2, r3, r4⟩ := shape_plain ms ks x y n0
  obtain ⟨t1, _, _⟩ := nodes_law hf (by omega) y0 r1 r2 r3
  have t2 := nodes_all hf (by omega) y0 r2 r3
  obtain ⟨BF, hBF⟩ : ∃ v, belowF ms ks x y = v := ⟨_, rfl⟩
  rw [hBF] at t2
  have bx : ∀ v ∈ ms, -100 ≤ v ∧ v ≤ 100 := fun v hv => by
    obtain ⟨i, hi, rfl⟩ := mem_getD hv
    have := hf.m i hi
    omega
  have by' : ∀ v ∈ ks, -100 ≤ v ∧ v ≤ 100 := fun v hv => by
    obtain ⟨i, hi, rfl⟩ := mem_getD hv
    have := hf.k i (by have := hf.len; omega)
    omega
  have I1 : I64 ms := fun v hv => by have := bx v hv; omega
  have I2 : I64 ks := fun v hv => by have := by' v hv; omega
  have hlf : (fmtF ms ks).length ≤ 1000000 := by
    have lw := words_len20 I1
    have lw2 := words_len20 I2
    have := hf.len
    unfold fmtF
    rw [List.length_append, List.length_cons]
    omega
  have hbk := pf_back HC.out
  have HBF := Lib.hid hBF
  have HMS := Lib.hid t1
  have HND := Lib.hid t2
  have HEE := Lib.hid hEE
  have HR1 := Lib.hid r1
  have HR2 := Lib.hid r2
  have HR3 := Lib.hid r3
  have HR4 := Lib.hid r4
  have HF := Lib.hid hf
  have HI1 := Lib.hid I1
  have HI2 := Lib.hid I2
  have HLF := Lib.hid hlf
  have HBK := Lib.hid hbk
  clear hBF t1 t2 hEE r1 r2 r3 r4 hf I1 I2 hlf hbk bx by'
  go_wp2_with fail
  refine (Copy_any a b n c m d ms ks _ (h1.keep BW) (h2.keep BW) (by omega) (by omega)).mono ?_
  rintro e w4 ⟨a4, c4, b4, d4, B4, rfl, oA, oB, _, _, hs⟩
  replace BW := BW.trans (hs.mono BW.size); replace x1 := blk_keep x1 hs; replace x2 := blk_keep x2 hs
  clear hs
  clear f0 f1 f2 f3
  go_wp2_with fail
  refine (FormatFrame_any a4 b4 n c4 m d4 ms ks w4 (hv.keep BW) oA.si oB.si (by omega) (by omega) HI1.out HI2.out).mono ?_
  rintro e w5 ⟨rfl, hs⟩
  replace BW := BW.trans (hs.mono BW.size); replace x1 := blk_keep x1 hs; replace x2 := blk_keep x2 hs
  clear hs oA oB
  go_wp2_with fail
  refine (ParseFrame_any (fmtF ms ks) w5 (hv.keep BW) HLF.out).mono ?_
  rintro e w6 ⟨a6, n6, c6, b6, m6, d6, rfl, s6, t6, hs⟩
  rw [HBK.out.2] at s6 t6
  rw [HBK.out.1]
  dsimp only at s6 t6 ⊢
  replace BW := BW.trans (hs.mono BW.size); replace x1 := blk_keep x1 hs; replace x2 := blk_keep x2 hs
  clear hs
  obtain ⟨n61, n62⟩ : n6 ≤ n ∧ n ≤ n6 := by have := s6.len; omega
  obtain ⟨m61, m62⟩ : m6 ≤ m ∧ m ≤ m6 := by have := t6.len; have := h2.len; omega
  have hl1 := blk_lt x1
  have hl2 := blk_lt x2
  have f0 := cell_block x1 0; have f1 := cell_block x1 1; have f2 := cell_block x2 0; have f3 := cell_block x2 1
  have hs : Below w6.heap.size w6 (w6.alloc (.cells #[.slice a6 n6 c6, .slice b6 m6 d6] 52)) := (Below.refl _ _).alloc (Nat.le_refl _) _
  have x7 := alloc_new w6 (.cells #[.slice a6 n6 c6, .slice b6 m6 d6] 52)
  go_wp2_with fail
  obtain ⟨b7, hb7⟩ : ∃ q, w6.heap.size = q := ⟨_, rfl⟩
  rw [hb7] at x7
  generalize w6.alloc (.cells #[.slice a6 n6 c6, .slice b6 m6 d6] 52) = V at *
  replace BW := BW.trans (hs.mono BW.size); replace x1 := blk_keep x1 hs; replace x2 := blk_keep x2 hs
  replace s6 := s6.keep hs
  replace t6 := t6.keep hs
  rw [hb7]
  clear hs hb7 hl1 hl2
  clear f0 f1 f2 f3
  refine (Same_any a6 b6 a b n6 c6 m6 d6 n c m d ms ks V s6 t6 (h1.keep BW) (h2.keep BW)).mono ?_
  rintro e w8 ⟨rfl, hs⟩
  replace BW := BW.trans (hs.mono BW.size); replace x1 := blk_keep x1 hs; replace x2 := blk_keep x2 hs; replace x7 := blk_keep x7 hs; replace s6 := s6.keep hs; replace t6 := t6.keep hs
  clear hs
  go_wp2_with fail
  refine Calmly.wp_region_mix 8 (.fl 0 <| .fl 2 <| .eff 1 <| .eff 3 <| .fl 4 <| .fl 5 <| .fl 6 <| .fl 7 <| .tail [8]) (by kernel_rfl) (by kernel_rfl) ?_
  replace x1 := blk_keep x1 (Below.refl _ _).drew; replace x2 := blk_keep x2 (Below.refl _ _).drew; replace x7 := blk_keep x7 (Below.refl _ _).drew; replace s6 := s6.keep (Below.refl _ _).drew; replace t6 := t6.keep (Below.refl _ _).drew; replace BW := BW.drew
  generalize World.drew _ = V1 at x1 x2 x7 s6 t6 BW ⊢
  have f0 := cell_block x1 0; have f1 := cell_block x1 1; have f2 := cell_block x2 0; have f3 := cell_block x2 1
  have f6 := cell_block x7 0
  have f7 := cell_block x7 1
  have hk := Below.refl V1.heap.size V1
  go_wp2_with (first | ((with_reducible refine Calmly.is_fl ?_); refine Calmly.mix_fl rfl ?_ (fun _ _ => ?_); (first | exact .move _ | exact .load _ _ | exact .fieldAddr _ _ _ (by kernel_rfl) | exact .assign _ | exact .binOp _ _ _ _ _ rfl | exact .indexAddr _ _ _ | exact .len _ _ (by kernel_rfl) | exact .field _ _ _ | exact .extract _ _ | exact .pick _ _ _ | exact .build _ _ | exact .slice _ _ _ _ _ | exact .unOp _ _ _ rfl | exact .index _ _ _ | exact .max _ _ _ rfl rfl | exact .min _ _ _ rfl rfl | exact .nilCheck _ _ rfl)) | ((with_reducible refine Calmly.is_gl ?_); refine Calmly.mix_gl rfl rfl rfl ?_; first | ((first | with_reducible refine Calmly.gl_tt ?_ (fun _ _ => ?_) | with_reducible refine Calmly.gl_ff ?_ (fun _ _ => ?_)); (first | exact .move _ | exact .load _ _ | exact .fieldAddr _ _ _ (by kernel_rfl) | exact .assign _ | exact .binOp _ _ _ _ _ rfl | exact .indexAddr _ _ _ | exact .len _ _ (by kernel_rfl) | exact .field _ _ _ | exact .extract _ _ | exact .pick _ _ _ | exact .build _ _ | exact .slice _ _ _ _ _ | exact .unOp _ _ _ rfl | exact .index _ _ _ | exact .max _ _ _ rfl rfl | exact .min _ _ _ rfl rfl | exact .nilCheck _ _ rfl)) | with_reducible refine Calmly.gl_tf (fun _ _ => ?_) | with_reducible refine Calmly.gl_ft (fun _ _ => ?_)) | ((with_reducible refine Calmly.is_eff ?_); refine Calmly.mix_eff rfl (fun _ _ => ?_)) | ((with_reducible refine Calmly.is_gf ?_); refine Calmly.mix_gf rfl rfl rfl ?_; first | with_reducible refine Calmly.gf_tt (fun _ _ => ?_) | with_reducible refine Calmly.gf_ff (fun _ _ => ?_) | with_reducible refine Calmly.gf_tf (kept_of hk) (fun _ _ => ?_) | with_reducible refine Calmly.gf_ft (kept_of hk) (fun _ _ => ?_)) | ((with_reducible refine Calmly.is_tail ?_); first | refine Calmly.mix_tail_nil ?_ | refine Calmly.mix_tail rfl (fun _ _ => ?_)) | ((with_reducible refine Calmly.is_kept ?_); refine ⟨kept_of hk, ?_⟩) | (with_reducible refine Calmly.mix_alt ?_ ?_))
  refine (Copy_any a6 b6 n6 c6 m6 d6 ms ks _ (s6.keep hk) (t6.keep hk) (by omega) (by omega)).mono ?_
  rintro e w9 ⟨a9, c9, b9, d9, B9, rfl, oA, oB, _, _, hs⟩
  replace hk := step_of hk hs
  clear hs
  go_wp2_with (first | ((with_reducible refine Calmly.is_fl ?_); refine Calmly.mix_fl rfl ?_ (fun _ _ => ?_); (first | exact .move _ | exact .load _ _ | exact .fieldAddr _ _ _ (by kernel_rfl) | exact .assign _ | exact .binOp _ _ _ _ _ rfl | exact .indexAddr _ _ _ | exact .len _ _ (by kernel_rfl) | exact .field _ _ _ | exact .extract _ _ | exact .pick _ _ _ | exact .build _ _ | exact .slice _ _ _ _ _ | exact .unOp _ _ _ rfl | exact .index _ _ _ | exact .max _ _ _ rfl rfl | exact .min _ _ _ rfl rfl | exact .nilCheck _ _ rfl)) | ((with_reducible refine Calmly.is_gl ?_); refine Calmly.mix_gl rfl rfl rfl ?_; first | ((first | with_reducible refine Calmly.gl_tt ?_ (fun _ _ => ?_) | with_reducible refine Calmly.gl_ff ?_ (fun _ _ => ?_)); (first | exact .move _ | exact .load _ _ | exact .fieldAddr _ _ _ (by kernel_rfl) | exact .assign _ | exact .binOp _ _ _ _ _ rfl | exact .indexAddr _ _ _ | exact .len _ _ (by kernel_rfl) | exact .field _ _ _ | exact .extract _ _ | exact .pick _ _ _ | exact .build _ _ | exact .slice _ _ _ _ _ | exact .unOp _ _ _ rfl | exact .index _ _ _ | exact .max _ _ _ rfl rfl | exact .min _ _ _ rfl rfl | exact .nilCheck _ _ rfl)) | with_reducible refine Calmly.gl_tf (fun _ _ => ?_) | with_reducible refine Calmly.gl_ft (fun _ _ => ?_)) | ((with_reducible refine Calmly.is_eff ?_); refine Calmly.mix_eff rfl (fun _ _ => ?_)) | ((with_reducible refine Calmly.is_gf ?_); refine Calmly.mix_gf rfl rfl rfl ?_; first | with_reducible refine Calmly.gf_tt (fun _ _ => ?_) | with_reducible refine Calmly.gf_ff (fun _ _ => ?_) | with_reducible refine Calmly.gf_tf (kept_of hk) (fun _ _ => ?_) | with_reducible refine Calmly.gf_ft (kept_of hk) (fun _ _ => ?_)) | ((with_reducible refine Calmly.is_tail ?_); first | refine Calmly.mix_tail_nil ?_ | refine Calmly.mix_tail rfl (fun _ _ => ?_)) | ((with_reducible refine Calmly.is_kept ?_); refine ⟨kept_of hk, ?_⟩) | (with_reducible refine Calmly.mix_alt ?_ ?_))
  refine (CountBelow_any a9 b9 n6 c9 m6 d9 ms ks x y _ oA.si oB.si hx1 hx2 hy2 0 BF HEE.out (fun _ => HBF.out) (fun h => absurd rfl h)).mono ?_
  rintro e w10 ⟨rfl, hs⟩
  replace hk := step_of hk hs
  clear hs oA oB
  go_wp2_with (first | ((with_reducible refine Calmly.is_fl ?_); refine Calmly.mix_fl rfl ?_ (fun _ _ => ?_); (first | exact .move _ | exact .load _ _ | exact .fieldAddr _ _ _ (by kernel_rfl) | exact .assign _ | exact .binOp _ _ _ _ _ rfl | exact .indexAddr _ _ _ | exact .len _ _ (by kernel_rfl) | exact .field _ _ _ | exact .extract _ _ | exact .pick _ _ _ | exact .build _ _ | exact .slice _ _ _ _ _ | exact .unOp _ _ _ rfl | exact .index _ _ _ | exact .max _ _ _ rfl rfl | exact .min _ _ _ rfl rfl | exact .nilCheck _ _ rfl)) | ((with_reducible refine Calmly.is_gl ?_); refine Calmly.mix_gl rfl rfl rfl ?_; first | ((first | with_reducible refine Calmly.gl_tt ?_ (fun _ _ => ?_) | with_reducible refine Calmly.gl_ff ?_ (fun _ _ => ?_)); (first | exact .move _ | exact .load _ _ | exact .fieldAddr _ _ _ (by kernel_rfl) | exact .assign _ | exact .binOp _ _ _ _ _ rfl | exact .indexAddr _ _ _ | exact .len _ _ (by kernel_rfl) | exact .field _ _ _ | exact .extract _ _ | exact .pick _ _ _ | exact .build _ _ | exact .slice _ _ _ _ _ | exact .unOp _ _ _ rfl | exact .index _ _ _ | exact .max _ _ _ rfl rfl | exact .min _ _ _ rfl rfl | exact .nilCheck _ _ rfl)) | with_reducible refine Calmly.gl_tf (fun _ _ => ?_) | with_reducible refine Calmly.gl_ft (fun _ _ => ?_)) | ((with_reducible refine Calmly.is_eff ?_); refine Calmly.mix_eff rfl (fun _ _ => ?_)) | ((with_reducible refine Calmly.is_gf ?_); refine Calmly.mix_gf rfl rfl rfl ?_; first | with_reducible refine Calmly.gf_tt (fun _ _ => ?_) | with_reducible refine Calmly.gf_ff (fun _ _ => ?_) | with_reducible refine Calmly.gf_tf (kept_of hk) (fun _ _ => ?_) | with_reducible refine Calmly.gf_ft (kept_of hk) (fun _ _ => ?_)) | ((with_reducible refine Calmly.is_tail ?_); first | refine Calmly.mix_tail_nil ?_ | refine Calmly.mix_tail rfl (fun _ _ => ?_)) | ((with_reducible refine Calmly.is_kept ?_); refine ⟨kept_of hk, ?_⟩) | (with_reducible refine Calmly.mix_alt ?_ ?_))
  replace hs := hk
  replace BW := BW.trans (hs.mono BW.size); replace x1 := blk_keep x1 hs; replace x2 := blk_keep x2 hs; replace x7 := blk_keep x7 hs; replace s6 := s6.keep hs; replace t6 := t6.keep hs
  clear f0 f1 f2 f3
  clear hs hk f6 f7
  refine Calmly.wp_region_mix 8 (.fl 0 <| .fl 2 <| .eff 1 <| .eff 3 <| .fl 4 <| .fl 5 <| .fl 6 <| .fl 7 <| .tail [8]) (by kernel_rfl) (by kernel_rfl) ?_
  replace x1 := blk_keep x1 (Below.refl _ _).drew; replace x2 := blk_keep x2 (Below.refl _ _).drew; replace x7 := blk_keep x7 (Below.refl _ _).drew; replace s6 := s6.keep (Below.refl _ _).drew; replace t6 := t6.keep (Below.refl _ _).drew; replace BW := BW.drew
  generalize World.drew _ = V2 at x1 x2 x7 s6 t6 BW ⊢
  have f0 := cell_block x1 0; have f1 := cell_block x1 1; have f2 := cell_block x2 0; have f3 := cell_block x2 1
  have hk := Below.refl V2.heap.size V2
  go_wp2_with (first | ((with_reducible refine Calmly.is_fl ?_); refine Calmly.mix_fl rfl ?_ (fun _ _ => ?_); (first | exact .move _ | exact .load _ _ | exact .fieldAddr _ _ _ (by kernel_rfl) | exact .assign _ | exact .binOp _ _ _ _ _ rfl | exact .indexAddr _ _ _ | exact .len _ _ (by kernel_rfl) | exact .field _ _ _ | exact .extract _ _ | exact .pick _ _ _ | exact .build _ _ | exact .slice _ _ _ _ _ | exact .unOp _ _ _ rfl | exact .index _ _ _ | exact .max _ _ _ rfl rfl | exact .min _ _ _ rfl rfl | exact .nilCheck _ _ rfl)) | ((with_reducible refine Calmly.is_gl ?_); refine Calmly.mix_gl rfl rfl rfl ?_; first | ((first | with_reducible refine Calmly.gl_tt ?_ (fun _ _ => ?_) | with_reducible refine Calmly.gl_ff ?_ (fun _ _ => ?_)); (first | exact .move _ | exact .load _ _ | exact .fieldAddr _ _ _ (by kernel_rfl) | exact .assign _ | exact .binOp _ _ _ _ _ rfl | exact .indexAddr _ _ _ | exact .len _ _ (by kernel_rfl) | exact .field _ _ _ | exact .extract _ _ | exact .pick _ _ _ | exact .build _ _ | exact .slice _ _ _ _ _ | exact .unOp _ _ _ rfl | exact .index _ _ _ | exact .max _ _ _ rfl rfl | exact .min _ _ _ rfl rfl | exact .nilCheck _ _ rfl)) | with_reducible refine Calmly.gl_tf (fun _ _ => ?_) | with_reducible refine Calmly.gl_ft (fun _ _ => ?_)) | ((with_reducible refine Calmly.is_eff ?_); refine Calmly.mix_eff rfl (fun _ _ => ?_)) | ((with_reducible refine Calmly.is_gf ?_); refine Calmly.mix_gf rfl rfl rfl ?_; first | with_reducible refine Calmly.gf_tt (fun _ _ => ?_) | with_reducible refine Calmly.gf_ff (fun _ _ => ?_) | with_reducible refine Calmly.gf_tf (kept_of hk) (fun _ _ => ?_) | with_reducible refine Calmly.gf_ft (kept_of hk) (fun _ _ => ?_)) | ((with_reducible refine Calmly.is_tail ?_); first | refine Calmly.mix_tail_nil ?_ | refine Calmly.mix_tail rfl (fun _ _ => ?_)) | ((with_reducible refine Calmly.is_kept ?_); refine ⟨kept_of hk, ?_⟩) | (with_reducible refine Calmly.mix_alt ?_ ?_) | (go_at_call 25; (refine (Copy_any a b n c m d ms ks _ ((h1.keep BW).keep hk) ((h2.keep BW).keep hk) (by omega) (by omega)).mono ?_; rintro e w7 ⟨a1, c1', b1, d1', BB, rfl, oA1, oB1, hB, hgB, hs⟩; replace hk := step_of hk hs; (try replace pA := blk_keep pA hs); replace oA1 := oA1.si; replace oB1 := oB1.si; clear hgB hs hB)))
  refine (IsMode_any _ _ _ _ _ _ ms ks x y _ oA1 oB1 hx1 hx2 hy2 0 (S0 == 0) HEE.out (fun _ => HMS.out) (fun h => absurd rfl h)).mono ?_
  rintro e w11 ⟨rfl, hs⟩
  replace hk := step_of hk hs
  clear hs oA1 oB1
  go_wp2_with (first | ((with_reducible refine Calmly.is_fl ?_); refine Calmly.mix_fl rfl ?_ (fun _ _ => ?_); (first | exact .move _ | exact .load _ _ | exact .fieldAddr _ _ _ (by kernel_rfl) | exact .assign _ | exact .binOp _ _ _ _ _ rfl | exact .indexAddr _ _ _ | exact .len _ _ (by kernel_rfl) | exact .field _ _ _ | exact .extract _ _ | exact .pick _ _ _ | exact .build _ _ | exact .slice _ _ _ _ _ | exact .unOp _ _ _ rfl | exact .index _ _ _ | exact .max _ _ _ rfl rfl | exact .min _ _ _ rfl rfl | exact .nilCheck _ _ rfl)) | ((with_reducible refine Calmly.is_gl ?_); refine Calmly.mix_gl rfl rfl rfl ?_; first | ((first | with_reducible refine Calmly.gl_tt ?_ (fun _ _ => ?_) | with_reducible refine Calmly.gl_ff ?_ (fun _ _ => ?_)); (first | exact .move _ | exact .load _ _ | exact .fieldAddr _ _ _ (by kernel_rfl) | exact .assign _ | exact .binOp _ _ _ _ _ rfl | exact .indexAddr _ _ _ | exact .len _ _ (by kernel_rfl) | exact .field _ _ _ | exact .extract _ _ | exact .pick _ _ _ | exact .build _ _ | exact .slice _ _ _ _ _ | exact .unOp _ _ _ rfl | exact .index _ _ _ | exact .max _ _ _ rfl rfl | exact .min _ _ _ rfl rfl | exact .nilCheck _ _ rfl)) | with_reducible refine Calmly.gl_tf (fun _ _ => ?_) | with_reducible refine Calmly.gl_ft (fun _ _ => ?_)) | ((with_reducible refine Calmly.is_eff ?_); refine Calmly.mix_eff rfl (fun _ _ => ?_)) | ((with_reducible refine Calmly.is_gf ?_); refine Calmly.mix_gf rfl rfl rfl ?_; first | with_reducible refine Calmly.gf_tt (fun _ _ => ?_) | with_reducible refine Calmly.gf_ff (fun _ _ => ?_) | with_reducible refine Calmly.gf_tf (kept_of hk) (fun _ _ => ?_) | with_reducible refine Calmly.gf_ft (kept_of hk) (fun _ _ => ?_)) | ((with_reducible refine Calmly.is_tail ?_); first | refine Calmly.mix_tail_nil ?_ | refine Calmly.mix_tail rfl (fun _ _ => ?_)) | ((with_reducible refine Calmly.is_kept ?_); refine ⟨kept_of hk, ?_⟩) | (with_reducible refine Calmly.mix_alt ?_ ?_))
  replace hs := hk
  replace BW := BW.trans (hs.mono BW.size); replace x1 := blk_keep x1 hs; replace x2 := blk_keep x2 hs; replace x7 := blk_keep x7 hs; replace s6 := s6.keep hs; replace t6 := t6.keep hs
  clear f0 f1 f2 f3
  clear hs hk
  refine Calmly.wp_region_mix 11 (.fl 0 <| .fl 2 <| .alt 1 (.alt 3 (.fl 4 <| .fl 5 <| .fl 6 <| .fl 7 <| .eff 8 <| .eff 9 <| .fl 10 <| .tail [11]) (.eff 8 (.eff 3 <| .fl 4 <| .fl 5 <| .fl 6 <| .fl 7 <| .eff 9 <| .fl 10 <| .tail [11]))) (.eff 8 (.eff 1 <| .eff 3 <| .fl 4 <| .fl 5 <| .fl 6 <| .fl 7 <| .eff 9 <| .fl 10 <| .tail [11]))) (by kernel_rfl) (by kernel_rfl) ?_
  rename_i K hK
  have hK' := fun a w (h : Stop _) => hK a w h.out
  have HKX := Lib.hid hK'
  clear hK hK'
  replace x1 := blk_keep x1 (Below.refl _ _).drew; replace x2 := blk_keep x2 (Below.refl _ _).drew; replace x7 := blk_keep x7 (Below.refl _ _).drew; replace s6 := s6.keep (Below.refl _ _).drew; replace t6 := t6.keep (Below.refl _ _).drew; replace BW := BW.drew
  generalize World.drew _ = V3 at x1 x2 x7 s6 t6 BW ⊢
  have f0 := cell_block x1 0; have f1 := cell_block x1 1; have f2 := cell_block x2 0; have f3 := cell_block x2 1
  have hlt := blk_lt x2
  have hk := Below.refl V3.heap.size V3
  go_wp2_with (first | ((with_reducible refine Calmly.is_fl ?_); refine Calmly.mix_fl rfl ?_ (fun _ _ => ?_); (first | exact .move _ | exact .load _ _ | exact .fieldAddr _ _ _ (by kernel_rfl) | exact .assign _ | exact .binOp _ _ _ _ _ rfl | exact .indexAddr _ _ _ | exact .len _ _ (by kernel_rfl) | exact .field _ _ _ | exact .extract _ _ | exact .pick _ _ _ | exact .build _ _ | exact .slice _ _ _ _ _ | exact .unOp _ _ _ rfl | exact .index _ _ _ | exact .max _ _ _ rfl rfl | exact .min _ _ _ rfl rfl | exact .nilCheck _ _ rfl)) | ((with_reducible refine Calmly.is_gl ?_); refine Calmly.mix_gl rfl rfl rfl ?_; first | ((first | with_reducible refine Calmly.gl_tt ?_ (fun _ _ => ?_) | with_reducible refine Calmly.gl_ff ?_ (fun _ _ => ?_)); (first | exact .move _ | exact .load _ _ | exact .fieldAddr _ _ _ (by kernel_rfl) | exact .assign _ | exact .binOp _ _ _ _ _ rfl | exact .indexAddr _ _ _ | exact .len _ _ (by kernel_rfl) | exact .field _ _ _ | exact .extract _ _ | exact .pick _ _ _ | exact .build _ _ | exact .slice _ _ _ _ _ | exact .unOp _ _ _ rfl | exact .index _ _ _ | exact .max _ _ _ rfl rfl | exact .min _ _ _ rfl rfl | exact .nilCheck _ _ rfl)) | with_reducible refine Calmly.gl_tf (fun _ _ => ?_) | with_reducible refine Calmly.gl_ft (fun _ _ => ?_)) | ((with_reducible refine Calmly.is_eff ?_); refine Calmly.mix_eff rfl (fun _ _ => ?_)) | ((with_reducible refine Calmly.is_gf ?_); refine Calmly.mix_gf rfl rfl rfl ?_; first | with_reducible refine Calmly.gf_tt (fun _ _ => ?_) | with_reducible refine Calmly.gf_ff (fun _ _ => ?_) | with_reducible refine Calmly.gf_tf (kept_of hk) (fun _ _ => ?_) | with_reducible refine Calmly.gf_ft (kept_of hk) (fun _ _ => ?_)) | ((with_reducible refine Calmly.is_kept ?_); refine ⟨kept_of hk, ?_⟩) | (with_reducible refine Calmly.mix_alt ?_ ?_) | (go_at_call 25; (refine (Copy_any a b n c m d ms ks _ ((h1.keep BW).keep hk) ((h2.keep BW).keep hk) (by omega) (by omega)).mono ?_; rintro e w7 ⟨a1, c1', b1, d1', BB, rfl, oA1, oB1, hB, hgB, hs⟩; replace hk := step_of hk hs; (try replace pA := blk_keep pA hs); replace oA1 := oA1.si; replace oB1 := oB1.si; clear hgB hs hB)) | (go_at_call 29; (refine (ShapeAt_any _ _ _ _ _ _ ms ks x y _ oA1 oB1 hx1 hx2 hy2 0 R0 S0 xs0 HEE.out (fun h => absurd rfl h) (fun _ => ⟨HR1.out, HR2.out, HR3.out⟩)).mono ?_; rintro e w9 ⟨a9, c9, B7, rfl, s7, hB7, hs⟩; replace hk := step_of hk hs; (try (have hne := s7.offB (Nat.lt_of_lt_of_le (blk_lt pA) hB7); replace s7 := s7.si)); (try replace pA := blk_keep pA hs); clear hs oA1 oB1 hB7; (try have zA0 := cell_block pA 0); (try have zA1 := cell_block pA 1); (try have zA2 := frozen_block pA 0); (try have zA3 := frozen_block pA 1))) | (refine kept_setS hk hAge pA s7 hne (fun hk' h1' h2' => ?_); replace hk := hk'; replace pA := h1'; replace s7 := h2'; clear hk' h1' h2' hne zA0 zA1 zA2 zA3; generalize World.setCell (World.setCell _ _ _) _ _ = W' at hk pA s7 ⊢) | (have hAge := hk.size; refine kept_allocB hk (fun hs hk' hblk => ?_); (try replace oA1 := oA1.keep hs); (try replace oB1 := oB1.keep hs); (try (have hne := s7.off (Nat.le_refl _); replace s7 := s7.si.keep hs)); (first | generalize World.alloc _ _ = W' at hs hk' hblk s7 ⊢ | generalize World.alloc _ _ = W' at hs hk' hblk oA1 oB1 ⊢ | generalize World.alloc _ _ = W' at hs hk' hblk ⊢); replace hk := hk'; clear hk'; have pA := hblk; clear hs hblk; have zA0 := cell_block pA 0; have zA1 := cell_block pA 1; have zA2 := frozen_block pA 0; have zA3 := frozen_block pA 1))
  go_wp2_with (first | ((with_reducible refine Calmly.is_fl ?_); refine Calmly.mix_fl rfl ?_ (fun _ _ => ?_); (first | exact .move _ | exact .load _ _ | exact .fieldAddr _ _ _ (by kernel_rfl) | exact .assign _ | exact .binOp _ _ _ _ _ rfl | exact .indexAddr _ _ _ | exact .len _ _ (by kernel_rfl) | exact .field _ _ _ | exact .extract _ _ | exact .pick _ _ _ | exact .build _ _ | exact .slice _ _ _ _ _ | exact .unOp _ _ _ rfl | exact .index _ _ _ | exact .max _ _ _ rfl rfl | exact .min _ _ _ rfl rfl | exact .nilCheck _ _ rfl)) | ((with_reducible refine Calmly.is_gl ?_); refine Calmly.mix_gl rfl rfl rfl ?_; first | ((first | with_reducible refine Calmly.gl_tt ?_ (fun _ _ => ?_) | with_reducible refine Calmly.gl_ff ?_ (fun _ _ => ?_)); (first | exact .move _ | exact .load _ _ | exact .fieldAddr _ _ _ (by kernel_rfl) | exact .assign _ | exact .binOp _ _ _ _ _ rfl | exact .indexAddr _ _ _ | exact .len _ _ (by kernel_rfl) | exact .field _ _ _ | exact .extract _ _ | exact .pick _ _ _ | exact .build _ _ | exact .slice _ _ _ _ _ | exact .unOp _ _ _ rfl | exact .index _ _ _ | exact .max _ _ _ rfl rfl | exact .min _ _ _ rfl rfl | exact .nilCheck _ _ rfl)) | with_reducible refine Calmly.gl_tf (fun _ _ => ?_) | with_reducible refine Calmly.gl_ft (fun _ _ => ?_)) | ((with_reducible refine Calmly.is_eff ?_); refine Calmly.mix_eff rfl (fun _ _ => ?_)) | ((with_reducible refine Calmly.is_gf ?_); refine Calmly.mix_gf rfl rfl rfl ?_; first | with_reducible refine Calmly.gf_tt (fun _ _ => ?_) | with_reducible refine Calmly.gf_ff (fun _ _ => ?_) | with_reducible refine Calmly.gf_tf (kept_of hk) (fun _ _ => ?_) | with_reducible refine Calmly.gf_ft (kept_of hk) (fun _ _ => ?_)) | ((with_reducible refine Calmly.is_tail ?_); first | refine Calmly.mix_tail_nil ?_ | refine Calmly.mix_tail rfl (fun _ _ => ?_)) | ((with_reducible refine Calmly.is_kept ?_); refine ⟨kept_of hk, ?_⟩) | (with_reducible refine Calmly.mix_alt ?_ ?_))
  all_goals
    refine HKX.out _ _ ⟨?_⟩
    clear HKX K
    rw [HR4.out] at pA s7
    replace x1 := blk_keep x1 hk
    replace x2 := blk_keep x2 hk
    replace x7 := blk_keep x7 hk
    replace s6 := s6.keep hk
    replace t6 := t6.keep hk
    replace BW := BW.trans (hk.mono BW.size)
    clear f0 f1 f2 f3
    clear hk hlt
    have f0 := cell_block x1 0
    have g0 := cell_block pA 0
    have g1 := cell_block pA 1
    go_wp2_with fail
    refine (copyInts_any a9 n c9 xs0 _ s7 (by omega)).mono ?_
    rintro e w3 ⟨az, cz, rfl, oz, hs⟩
    go_wp2_with (refine appIw w3 rfl rfl _ _ rfl oz rfl rfl (by omega) hs.size ?_; intro a3 c3 w4 ho4 hb4 hs4)
    have hs' := hs.trans hb4
    clear f0 g0 g1 hs4 oz
    replace BW := BW.trans (hs'.mono BW.size)
    replace x1 := blk_keep x1 hs'
    replace x7 := blk_keep x7 hs'
    replace s6 := s6.keep hs'
    replace t6 := t6.keep hs'
    clear hs hb4 hs' x2 pA s7
    refine (NodesOf_any a3 (n + 1) c3 (xs0 ++ [S0]) w4 ho4.si 0 BF (by rw [if_pos (by omega)]) (by rw [if_pos (by omega)]; exact HND.out)).mono ?_
    rintro e w12 ⟨rfl, hs⟩
    replace BW := BW.trans (hs.mono BW.size)
    replace x1 := blk_keep x1 hs
    replace x7 := blk_keep x7 hs
    replace s6 := s6.keep hs
    replace t6 := t6.keep hs
    clear hs ho4
    go_wp2_with fail
    go_loopw [6, 18, 19, 20, 21, 22] (fun _ z _ _ _ _ wr => ∃ i : Nat, i ≤ n ∧ z = .int .i64 i ∧ Below w12.heap.size w12 wr) (fun _ z _ _ _ _ _ => n - (intOf z).toNat)
    case atStart => exact ⟨0, by omega, rfl, Below.refl _ _⟩
    case round =>
      obtain ⟨i, hi, rfl, hbr⟩ := hrel
      replace x1 := blk_keep x1 hbr
      replace x7 := blk_keep x7 hbr
      replace s6 := s6.keep hbr
      replace t6 := t6.keep hbr
      have BR := BW.trans (hbr.mono BW.size)
      have f0 := cell_block x1 0
      have f1 := cell_block x1 1
      by_cases hlt : i < n
      · as_aux_lemma =>
        have hii : (i : Int) < (n : Int) := by omega
        have hml : i < ms.length := by omega
        obtain ⟨⟨lo, hi'⟩, e1⟩ : ∃ p, encF ms ks i den = p := ⟨_, rfl⟩
        obtain ⟨⟨lo2, hi2⟩, e2⟩ : ∃ p, encF ms ks i (2 * den) = p := ⟨_, rfl⟩
        obtain ⟨p1, p2, p3, p4, p5, p6, p7, p8, p9⟩ := enc_twice HF.out hml (by omega) (by omega) e1 e2
        have hE1 := enc_err0 (mode := i) (den := den) HC.out (by omega) (by omega) (by omega) (by omega)
        have hE2 := enc_err0 (mode := i) (den := 2 * den) HC.out (by omega) (by omega) (by omega) (by omega)
        have E1 := Lib.hid e1
        have E2 := Lib.hid e2
        have G1 := Lib.hid hE1
        have G2 := Lib.hid hE2
        clear e1 e2 hE1 hE2
        go_wp2_with fail
        refine (Copy_any a b n c m d ms ks _ (h1.keep BR) (h2.keep BR) (by omega) (by omega)).mono ?_
        rintro e v1 ⟨a1, k1, b1, j1, B1, rfl, oA, oB, _, _, hs⟩
        replace hbr := hbr.trans (hs.mono hbr.size)
        replace x7 := blk_keep x7 hs
        replace s6 := s6.keep hs
        replace t6 := t6.keep hs
        clear hs f0 f1
        go_wp2_with fail
        refine (EnclosureOf_any a1 b1 n k1 m j1 ms ks i den _ oA.si oB.si 0 lo hi' G1.out (fun _ => E1.out) (fun h => absurd rfl h)).mono ?_
        rintro e v2 ⟨rfl, hs⟩
        replace hbr := hbr.trans (hs.mono hbr.size)
        replace x7 := blk_keep x7 hs
        replace s6 := s6.keep hs
        replace t6 := t6.keep hs
        clear hs oA oB
        have hl7 := blk_lt x7
        have f6 := cell_block x7 0
        have f7 := cell_block x7 1
        have hs : Below v2.heap.size v2 (v2.alloc (.cells #[.int .i64 lo, .int .i64 hi'] 46)) := (Below.refl _ _).alloc (Nat.le_refl _) _
        have y1 := alloc_new v2 (.cells #[.int .i64 lo, .int .i64 hi'] 46)
        go_wp2_with fail
        generalize v2.alloc (.cells #[.int .i64 lo, .int .i64 hi'] 46) = U1 at *
        replace hbr := hbr.trans (hs.mono hbr.size)
        replace s6 := s6.keep hs
        replace t6 := t6.keep hs
        clear hs f6 f7 x7 hl7
        refine (Copy_any a6 b6 n6 c6 m6 d6 ms ks _ s6 t6 (by omega) (by omega)).mono ?_
        rintro e v3 ⟨a2, k2, b2, j2, B2, rfl, oA, oB, _, _, hs⟩
        replace hbr := hbr.trans (hs.mono hbr.size)
        replace y1 := blk_keep y1 hs
        clear hs s6 t6
        go_wp2_with fail
        refine (EnclosureOf_any a2 b2 n6 k2 m6 j2 ms ks i (2 * den) _ oA.si oB.si 0 lo2 hi2 G2.out (fun _ => E2.out) (fun h => absurd rfl h)).mono ?_
        rintro e v4 ⟨rfl, hs⟩
        replace hbr := hbr.trans (hs.mono hbr.size)
        replace y1 := blk_keep y1 hs
        clear hs oA oB
        have hl1 := blk_lt y1
        have g0 := cell_block y1 0
        have g1 := cell_block y1 1
        have hs : Below v4.heap.size v4 (v4.alloc (.cells #[.int .i64 lo2, .int .i64 hi2] 46)) := (Below.refl _ _).alloc (Nat.le_refl _) _
        have y2 := alloc_new v4 (.cells #[.int .i64 lo2, .int .i64 hi2] 46)
        go_wp2_with fail
        generalize v4.alloc (.cells #[.int .i64 lo2, .int .i64 hi2] 46) = U2 at *
        replace hbr := hbr.trans (hs.mono hbr.size)
        replace y1 := blk_keep y1 hs
        clear hs g0 g1 hl1
        have g0 := cell_block y1 0
        have g1 := cell_block y1 1
        have g2 := cell_block y2 0
        have g3 := cell_block y2 1
        have q1 : wIn lo 0 100000 = true := by unfold wIn; simp; omega
        have q2 : wIn hi' 0 100000 = true := by unfold wIn; simp; omega
        refine (within_any _ _ _ _).mono ?_
        rintro e w' ⟨rfl, rfl⟩
        rw [q1]
        go_wp2_with fail
        refine (within_any _ _ _ _).mono ?_
        rintro e w' ⟨rfl, rfl⟩
        rw [q2]
        go_wp2_with fail
        go_roundw
        case rel => exact ⟨i + 1, by omega, by go_num, hbr⟩
        case measure => simp [intOf]; omega
      · obtain rfl : n = i := by omega
        have hle : (n : Int) ≤ (n : Int) := Int.le_refl _
        go_wp2_with fail
        go_ret
        exact ⟨rfl, BR⟩
end Go.Proofs.YteigmjlfpmdmoaaGreatDoor

namespace Go.Proofs.YteigmjlfpmdmoaaGreatDoor
open Go.ChangeShapes Go.WideShapes Go.ChangeAt Go.RowKit

set_option maxRecDepth 100000 in
set_option maxHeartbeats 1000000 in
theorem TopModalTwoWays_lifted (os : Os) (started : os.Started) (H : Type) (enc : TypeId × Value → H) :
    ReturnsInHanded {} Tryz.checked os 4 .any (fun w args => (Rows.topModalTwoWaysSpec.pre enc Tryz.prog Tryz.f4 Rows.topModalTwoWaysRow.domain false w args ∧ laidMetH Tryz.prog Rows.topModalTwoWaysRow.laid w) ∧ sizedMet enc Tryz.prog Tryz.f4 (OpenSpec.ofChange Rows.topModalTwoWaysSpec) false w args)
      (Rows.topModalTwoWaysSpec.post enc Tryz.prog Tryz.f4 false true false false) := by
  refine returnsInHanded_laid_shaped (C := Tryz.checked) (X := fun w _ => laidMetH Tryz.prog Rows.topModalTwoWaysRow.laid w) (fun _ _ _ hh h => h.of_heap hh) Tryz.own' started (by kernel_rfl) Tryz.func4
    (ChangeSpec.witness_shaped (enc := enc) (C := Tryz.checked) (os := os) (X := fun w _ => laidMetH Tryz.prog Rows.topModalTwoWaysRow.laid w) false (World.laidAll Tryz.prog os Rows.topModalTwoWaysRow.laid) #[.agg #[.slice none 0 0, .slice none 0 0], .agg #[.int .i64 0, .int .i64 0], .int .i64 0] 8 (World.laidAll_os _ _ _)
      (World.shaped_of_ZipB (by kernel_rfl) (by kernel_rfl)) (by kernel_rfl) (by kernel_rfl) (by kernel_rfl)
      (by rw [MakeChecks.laidMetH_plain _ _ _ (by kernel_rfl)]; exact laidMet_laidAll _ (by kernel_rfl) (by kernel_rfl))) ?_
  intro W base args ds gs before hval0 hW _ _ hL hsh _
  have hval : ∀ (j : Nat) t v, Tryz.f4.params[j]? = some t → args[j]? = some v → Value.okWide Tryz.prog W .any base t v := hval0
  have hW' := hW
  obtain ⟨p, q, hA0, hV, rfl, _, _⟩ := hW
  have hA : DataW.TrodAll enc Tryz.prog W 0 (fun _ => true) true Tryz.f4.params.toList args.toList ds p := hA0
  rw [Tryz.params4] at hA hval
  obtain ⟨v0, v1, v2, d0, d1, d2, p0, p1, p2, rfl, rfl, rfl, h0, h1, h2⟩ := trodAll_three hA
  obtain ⟨rfl, rfl⟩ := trodVars_none hV
  clear hA0 hA hval0
  have hlt : ∀ x ∈ p0 ++ p1 ++ p2, x.block < W.heap.size := fun x hx => by simpa using hW'.lt x (by simpa using hx)
  obtain ⟨a0, n0, c0, l0, b0, m0, e0, k0, rfl, hs0, hw0, hs0', hw0'⟩ := open_frame (hval 0 52 v0 rfl rfl) h0
  obtain ⟨x1, y1, rfl, hw1, hw1'⟩ := open_frac (hval 1 39 v1 rfl rfl) h1
  obtain ⟨x2, rfl, _, _, _⟩ := open_int Tryz.underlying3 (hval 2 3 v2 rfl rfl) h2
  have hv : Vars W := vars_of_laid hL hsh
  refine (TopModalTwoWays_walk a0 b0 n0 c0 m0 e0 l0 k0 x1 y1 x2 W hv hs0 hs0' (bounds_i64 hw1).1 (bounds_i64 hw1).2 (bounds_i64 hw1').2).mono fun e W' ⟨he, hb⟩ => ?_
  subst he
  exact ⟨_, rfl, _, _, _, [], _, [], hW', trodAll_mk1 (shut_bool Tryz.underlying4 _),
    trodAll_mk3 (Below.trod Tryz.laidOut' (by kernel_rfl) (of_decide_eq_true (by kernel_rfl)) h0 hb (fun x hx => hlt x (List.mem_append_left _ (List.mem_append_left _ hx)))) (Below.trod Tryz.laidOut' (by kernel_rfl) (of_decide_eq_true (by kernel_rfl)) h1 hb (fun x hx => hlt x (List.mem_append_left _ (List.mem_append_right _ hx)))) (Below.trod Tryz.laidOut' (by kernel_rfl) (of_decide_eq_true (by kernel_rfl)) h2 hb (fun x hx => hlt x (List.mem_append_right _ hx))),
    rfl, hb.frame _, fun h => by cases h⟩

theorem TopModalTwoWays_holds : Rows.TopModalTwoWaysSaid :=
  OpenClaim.holds_of_wide 4 Tryz.f4 rfl rfl rfl rfl rfl rfl rfl ⟨rfl, rfl, rfl, rfl, rfl⟩ rfl rfl rfl rfl rfl (by kernel_rfl) Tryz.func4 (by kernel_rfl)
    (of_decide_eq_true (by kernel_rfl)) (by unfold Func.isWrapper; first | (rw [if_pos (by decide +kernel)]; kernel_rfl) | (rw [if_neg (by decide +kernel)]; exact ⟨rfl, rfl⟩))
    (fun os started H enc _ => TopModalTwoWays_lifted os started H enc)

theorem TopModalTwoWays_card : Rows.TopModalTwoWaysCardSaid :=
  Claim7.holds_tied_plain_at .later [] [.data, .data, .data, .data, .sentinel, .sentinel, .pinned] true (true, "ce31884720a504e063fead5a5f3e04fd7e098f81d518c8f4f96e756e911421c5") true
    TopModalTwoWays_holds (fun _ h => by cases h) (by kernel_rfl) (fun _ h => by cases h) topModalTwoWays_row_tie rfl ⟨rfl, rfl⟩ (by kernel_rfl) rfl
    (fun f fn hf hfn => by
      obtain rfl : f = 4 := Option.some.inj ((show Tryz.prog.funcNamed "ductility/ductilitytop.TopModalTwoWays" = some 4 by kernel_rfl).symm.trans hf) |>.symm
      obtain rfl : fn = Tryz.f4 := (Option.some.inj (Tryz.func4.symm.trans hfn)).symm
      exact ⟨by kernel_rfl, fun j t ht => by
        rw [Tryz.params4] at ht
        have hm : t ∈ [52, 39, 3] := by simpa using Array.mem_of_getElem? ht
        have hall : ([52, 39, 3].all fun u => !Tryz.prog.wantsStandIn u) = true := by kernel_rfl
        exact (show Tryz.prog.wantsStandIn t = false by simpa using List.all_eq_true.1 hall t hm)⟩)
    (by kernel_rfl)
#print axioms TopModalTwoWays_card
end Go.Proofs.YteigmjlfpmdmoaaGreatDoor
