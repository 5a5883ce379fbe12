/- Contracts of chapter 6: the reference's texts of frames and decays. -/
import Derived.Test.YteigmjlfpmdmoaaGreatDoorK11
namespace Go.Proofs.YteigmjlfpmdmoaaGreatDoor
open Go.RowKit
open Calmly (Kept)

set_option maxRecDepth 100000 in
set_option maxHeartbeats 1000000 in
theorem rFormatFrame_any (a b : Option Addr) (n c m k : Nat) (ms ks : List Int) (w : World) (h1 : SI w a n c ms) (h2 : SI w b m k ks) (hn : n ≤ 1000) (hm : m ≤ 1000) (i1 : I64 ms) (i2 : I64 ks) :
    Calls Tryz.prog 51 #[.agg #[.slice a n c, .slice b m k]] w fun e w' => e = .returned (.string (bs (fmtF ms ks))) ∧ Below w.heap.size w w' := by
  have l1 := words_len20 i1
  have l2 := words_len20 i2
  have e1 := h1.len
  have e2 := h2.len
  have z1 := bs_size (wordsF ms)
  have z2 := bs_size (wordsF ks)
  have s1 : (bs (wordsF ms)).size ≤ 21000 := by omega
  have s2 : (bs (wordsF ks)).size ≤ 21000 := by omega
  clear l1 l2 e1 e2 z1 z2
  have BA : Below w.heap.size w (w.alloc (.cells #[.slice a n c, .slice b m k] 52)) := (Below.refl _ _).alloc (Nat.le_refl _) _
  have y0 := alloc_new w (.cells #[.slice a n c, .slice b m k] 52)
  go_enter Tryz.func51, Tryz.ntmps51
  go_wp2_with fail
  generalize w.alloc (.cells #[.slice a n c, .slice b m k] 52) = W at *
  refine Calmly.wp_region_mix 7 (.fl 0 <| .fl 1 <| .fl 4 <| .fl 5 <| .eff 2 <| .fl 3 <| .eff 6 <| .tail [7, 8]) (by kernel_rfl) (by kernel_rfl) ?_
  replace BA := BA.drew
  replace y0 := blk_keep y0 (Below.refl _ _).drew
  generalize W.drew = V at *
  have f0 := cell_block y0 0
  have f1 := cell_block y0 1
  have hk := Below.refl V.heap.size V
  go_wp2_with (first | ((with_reducible refine Calmly.is_fl ?_); refine Calmly.mix_fl rfl ?_ (fun _ _ => ?_); (first | exact .move _ | exact .load _ _ | exact .fieldAddr _ _ _ (by kernel_rfl) | exact .assign _ | exact .binOp _ _ _ _ _ rfl | exact .indexAddr _ _ _ | exact .len _ _ (by kernel_rfl) | exact .field _ _ _ | exact .extract _ _ | exact .pick _ _ _ | exact .build _ _ | exact .slice _ _ _ _ _ | exact .unOp _ _ _ rfl | exact .index _ _ _ | exact .max _ _ _ rfl rfl | exact .min _ _ _ rfl rfl | exact .nilCheck _ _ rfl)) | ((with_reducible refine Calmly.is_gl ?_); refine Calmly.mix_gl rfl rfl rfl ?_; first | ((first | with_reducible refine Calmly.gl_tt ?_ (fun _ _ => ?_) | with_reducible refine Calmly.gl_ff ?_ (fun _ _ => ?_)); (first | exact .move _ | exact .load _ _ | exact .fieldAddr _ _ _ (by kernel_rfl) | exact .assign _ | exact .binOp _ _ _ _ _ rfl | exact .indexAddr _ _ _ | exact .len _ _ (by kernel_rfl) | exact .field _ _ _ | exact .extract _ _ | exact .pick _ _ _ | exact .build _ _ | exact .slice _ _ _ _ _ | exact .unOp _ _ _ rfl | exact .index _ _ _ | exact .max _ _ _ rfl rfl | exact .min _ _ _ rfl rfl | exact .nilCheck _ _ rfl)) | with_reducible refine Calmly.gl_tf (fun _ _ => ?_) | with_reducible refine Calmly.gl_ft (fun _ _ => ?_)) | ((with_reducible refine Calmly.is_eff ?_); refine Calmly.mix_eff rfl (fun _ _ => ?_)) | ((with_reducible refine Calmly.is_gf ?_); refine Calmly.mix_gf rfl rfl rfl ?_; first | with_reducible refine Calmly.gf_tt (fun _ _ => ?_) | with_reducible refine Calmly.gf_ff (fun _ _ => ?_) | with_reducible refine Calmly.gf_tf (kept_of hk) (fun _ _ => ?_) | with_reducible refine Calmly.gf_ft (kept_of hk) (fun _ _ => ?_)) | ((with_reducible refine Calmly.is_tail ?_); first | refine Calmly.mix_tail_nil ?_ | refine Calmly.mix_tail rfl (fun _ _ => ?_)) | ((with_reducible refine Calmly.is_kept ?_); refine ⟨kept_of hk, ?_⟩) | (with_reducible refine Calmly.mix_alt ?_ ?_))
  refine (rWords_any a n c ms V (h1.keep BA) (by omega) i1).mono ?_
  rintro e w1 ⟨rfl, hb1⟩
  replace hk := step_of hk hb1
  go_wp2_with (first | ((with_reducible refine Calmly.is_fl ?_); refine Calmly.mix_fl rfl ?_ (fun _ _ => ?_); (first | exact .move _ | exact .load _ _ | exact .fieldAddr _ _ _ (by kernel_rfl) | exact .assign _ | exact .binOp _ _ _ _ _ rfl | exact .indexAddr _ _ _ | exact .len _ _ (by kernel_rfl) | exact .field _ _ _ | exact .extract _ _ | exact .pick _ _ _ | exact .build _ _ | exact .slice _ _ _ _ _ | exact .unOp _ _ _ rfl | exact .index _ _ _ | exact .max _ _ _ rfl rfl | exact .min _ _ _ rfl rfl | exact .nilCheck _ _ rfl)) | ((with_reducible refine Calmly.is_gl ?_); refine Calmly.mix_gl rfl rfl rfl ?_; first | ((first | with_reducible refine Calmly.gl_tt ?_ (fun _ _ => ?_) | with_reducible refine Calmly.gl_ff ?_ (fun _ _ => ?_)); (first | exact .move _ | exact .load _ _ | exact .fieldAddr _ _ _ (by kernel_rfl) | exact .assign _ | exact .binOp _ _ _ _ _ rfl | exact .indexAddr _ _ _ | exact .len _ _ (by kernel_rfl) | exact .field _ _ _ | exact .extract _ _ | exact .pick _ _ _ | exact .build _ _ | exact .slice _ _ _ _ _ | exact .unOp _ _ _ rfl | exact .index _ _ _ | exact .max _ _ _ rfl rfl | exact .min _ _ _ rfl rfl | exact .nilCheck _ _ rfl)) | with_reducible refine Calmly.gl_tf (fun _ _ => ?_) | with_reducible refine Calmly.gl_ft (fun _ _ => ?_)) | ((with_reducible refine Calmly.is_eff ?_); refine Calmly.mix_eff rfl (fun _ _ => ?_)) | ((with_reducible refine Calmly.is_gf ?_); refine Calmly.mix_gf rfl rfl rfl ?_; first | with_reducible refine Calmly.gf_tt (fun _ _ => ?_) | with_reducible refine Calmly.gf_ff (fun _ _ => ?_) | with_reducible refine Calmly.gf_tf (kept_of hk) (fun _ _ => ?_) | with_reducible refine Calmly.gf_ft (kept_of hk) (fun _ _ => ?_)) | ((with_reducible refine Calmly.is_tail ?_); first | refine Calmly.mix_tail_nil ?_ | refine Calmly.mix_tail rfl (fun _ _ => ?_)) | ((with_reducible refine Calmly.is_kept ?_); refine ⟨kept_of hk, ?_⟩) | (with_reducible refine Calmly.mix_alt ?_ ?_))
  refine (rWords_any b m k ks w1 ((h2.keep BA).keep hk) (by omega) i2).mono ?_
  rintro e w2 ⟨rfl, hb2⟩
  replace hk := step_of hk hb2
  go_wp2_with (first | ((with_reducible refine Calmly.is_fl ?_); refine Calmly.mix_fl rfl ?_ (fun _ _ => ?_); (first | exact .move _ | exact .load _ _ | exact .fieldAddr _ _ _ (by kernel_rfl) | exact .assign _ | exact .binOp _ _ _ _ _ rfl | exact .indexAddr _ _ _ | exact .len _ _ (by kernel_rfl) | exact .field _ _ _ | exact .extract _ _ | exact .pick _ _ _ | exact .build _ _ | exact .slice _ _ _ _ _ | exact .unOp _ _ _ rfl | exact .index _ _ _ | exact .max _ _ _ rfl rfl | exact .min _ _ _ rfl rfl | exact .nilCheck _ _ rfl)) | ((with_reducible refine Calmly.is_gl ?_); refine Calmly.mix_gl rfl rfl rfl ?_; first | ((first | with_reducible refine Calmly.gl_tt ?_ (fun _ _ => ?_) | with_reducible refine Calmly.gl_ff ?_ (fun _ _ => ?_)); (first | exact .move _ | exact .load _ _ | exact .fieldAddr _ _ _ (by kernel_rfl) | exact .assign _ | exact .binOp _ _ _ _ _ rfl | exact .indexAddr _ _ _ | exact .len _ _ (by kernel_rfl) | exact .field _ _ _ | exact .extract _ _ | exact .pick _ _ _ | exact .build _ _ | exact .slice _ _ _ _ _ | exact .unOp _ _ _ rfl | exact .index _ _ _ | exact .max _ _ _ rfl rfl | exact .min _ _ _ rfl rfl | exact .nilCheck _ _ rfl)) | with_reducible refine Calmly.gl_tf (fun _ _ => ?_) | with_reducible refine Calmly.gl_ft (fun _ _ => ?_)) | ((with_reducible refine Calmly.is_eff ?_); refine Calmly.mix_eff rfl (fun _ _ => ?_)) | ((with_reducible refine Calmly.is_gf ?_); refine Calmly.mix_gf rfl rfl rfl ?_; first | with_reducible refine Calmly.gf_tt (fun _ _ => ?_) | with_reducible refine Calmly.gf_ff (fun _ _ => ?_) | with_reducible refine Calmly.gf_tf (kept_of hk) (fun _ _ => ?_) | with_reducible refine Calmly.gf_ft (kept_of hk) (fun _ _ => ?_)) | ((with_reducible refine Calmly.is_tail ?_); first | refine Calmly.mix_tail_nil ?_ | refine Calmly.mix_tail rfl (fun _ _ => ?_)) | ((with_reducible refine Calmly.is_kept ?_); refine ⟨kept_of hk, ?_⟩) | (with_reducible refine Calmly.mix_alt ?_ ?_))
  go_ret
  exact ⟨congrArg (fun x => Ending.returned (Value.string x)) (fmt_bs _ _), BA.trans (hk.mono BA.size)⟩

set_option maxRecDepth 100000 in
set_option maxHeartbeats 1000000 in
theorem rFormatDecay_any (a : Option Addr) (n c : Nat) (xs : List Int) (off : Int) (w : World) (h1 : SI w a n c xs) (hn : n ≤ 1000) (i1 : I64 xs) (o1 : -9223372036854775808 ≤ off) (o2 : off ≤ 9223372036854775807) :
    Calls Tryz.prog 52 #[.agg #[.slice a n c, .int .i64 off]] w fun e w' => e = .returned (.string (bs (fmtD xs off))) ∧ Below w.heap.size w w' := by
  have l1 := words_len20 i1
  have l2 := itoa_len20 o1 o2
  have e1 := h1.len
  have z1 := bs_size (wordsF xs)
  have z2 := bs_size (Lib.itoa off)
  have s1 : (bs (wordsF xs)).size ≤ 21000 := by omega
  have s2 : (bs (Lib.itoa off)).size ≤ 21000 := by omega
  clear l1 l2 e1 z1 z2
  have BA : Below w.heap.size w (w.alloc (.cells #[.slice a n c, .int .i64 off] 28)) := (Below.refl _ _).alloc (Nat.le_refl _) _
  have y0 := alloc_new w (.cells #[.slice a n c, .int .i64 off] 28)
  have hfm : fmtD xs off = Lib.itoa off ++ 59 :: wordsF xs := by unfold fmtD; rw [words_one]
  have HFM := Lib.hid hfm
  clear hfm
  go_enter Tryz.func52, Tryz.ntmps52
  go_wp2_with fail
  generalize w.alloc (.cells #[.slice a n c, .int .i64 off] 28) = W at *
  refine Calmly.wp_region_mix 7 (.fl 0 <| .fl 1 <| .fl 4 <| .fl 5 <| .eff 2 <| .fl 3 <| .eff 6 <| .tail [7, 8]) (by kernel_rfl) (by kernel_rfl) ?_
  replace BA := BA.drew
  replace y0 := blk_keep y0 (Below.refl _ _).drew
  generalize W.drew = V at *
  have f0 := cell_block y0 0
  have f1 := cell_block y0 1
  have hk := Below.refl V.heap.size V
  go_wp2_with (first | ((with_reducible refine Calmly.is_fl ?_); refine Calmly.mix_fl rfl ?_ (fun _ _ => ?_); (first | exact .move _ | exact .load _ _ | exact .fieldAddr _ _ _ (by kernel_rfl) | exact .assign _ | exact .binOp _ _ _ _ _ rfl | exact .indexAddr _ _ _ | exact .len _ _ (by kernel_rfl) | exact .field _ _ _ | exact .extract _ _ | exact .pick _ _ _ | exact .build _ _ | exact .slice _ _ _ _ _ | exact .unOp _ _ _ rfl | exact .index _ _ _ | exact .max _ _ _ rfl rfl | exact .min _ _ _ rfl rfl | exact .nilCheck _ _ rfl)) | ((with_reducible refine Calmly.is_gl ?_); refine Calmly.mix_gl rfl rfl rfl ?_; first | ((first | with_reducible refine Calmly.gl_tt ?_ (fun _ _ => ?_) | with_reducible refine Calmly.gl_ff ?_ (fun _ _ => ?_)); (first | exact .move _ | exact .load _ _ | exact .fieldAddr _ _ _ (by kernel_rfl) | exact .assign _ | exact .binOp _ _ _ _ _ rfl | exact .indexAddr _ _ _ | exact .len _ _ (by kernel_rfl) | exact .field _ _ _ | exact .extract _ _ | exact .pick _ _ _ | exact .build _ _ | exact .slice _ _ _ _ _ | exact .unOp _ _ _ rfl | exact .index _ _ _ | exact .max _ _ _ rfl rfl | exact .min _ _ _ rfl rfl | exact .nilCheck _ _ rfl)) | with_reducible refine Calmly.gl_tf (fun _ _ => ?_) | with_reducible refine Calmly.gl_ft (fun _ _ => ?_)) | ((with_reducible refine Calmly.is_eff ?_); refine Calmly.mix_eff rfl (fun _ _ => ?_)) | ((with_reducible refine Calmly.is_gf ?_); refine Calmly.mix_gf rfl rfl rfl ?_; first | with_reducible refine Calmly.gf_tt (fun _ _ => ?_) | with_reducible refine Calmly.gf_ff (fun _ _ => ?_) | with_reducible refine Calmly.gf_tf (kept_of hk) (fun _ _ => ?_) | with_reducible refine Calmly.gf_ft (kept_of hk) (fun _ _ => ?_)) | ((with_reducible refine Calmly.is_tail ?_); first | refine Calmly.mix_tail_nil ?_ | refine Calmly.mix_tail rfl (fun _ _ => ?_)) | ((with_reducible refine Calmly.is_kept ?_); refine ⟨kept_of hk, ?_⟩) | (with_reducible refine Calmly.mix_alt ?_ ?_))
  refine (Decimal_any off V o1 o2).mono ?_
  rintro e w1 ⟨rfl, hb1⟩
  replace hk := step_of hk hb1
  go_wp2_with (first | ((with_reducible refine Calmly.is_fl ?_); refine Calmly.mix_fl rfl ?_ (fun _ _ => ?_); (first | exact .move _ | exact .load _ _ | exact .fieldAddr _ _ _ (by kernel_rfl) | exact .assign _ | exact .binOp _ _ _ _ _ rfl | exact .indexAddr _ _ _ | exact .len _ _ (by kernel_rfl) | exact .field _ _ _ | exact .extract _ _ | exact .pick _ _ _ | exact .build _ _ | exact .slice _ _ _ _ _ | exact .unOp _ _ _ rfl | exact .index _ _ _ | exact .max _ _ _ rfl rfl | exact .min _ _ _ rfl rfl | exact .nilCheck _ _ rfl)) | ((with_reducible refine Calmly.is_gl ?_); refine Calmly.mix_gl rfl rfl rfl ?_; first | ((first | with_reducible refine Calmly.gl_tt ?_ (fun _ _ => ?_) | with_reducible refine Calmly.gl_ff ?_ (fun _ _ => ?_)); (first | exact .move _ | exact .load _ _ | exact .fieldAddr _ _ _ (by kernel_rfl) | exact .assign _ | exact .binOp _ _ _ _ _ rfl | exact .indexAddr _ _ _ | exact .len _ _ (by kernel_rfl) | exact .field _ _ _ | exact .extract _ _ | exact .pick _ _ _ | exact .build _ _ | exact .slice _ _ _ _ _ | exact .unOp _ _ _ rfl | exact .index _ _ _ | exact .max _ _ _ rfl rfl | exact .min _ _ _ rfl rfl | exact .nilCheck _ _ rfl)) | with_reducible refine Calmly.gl_tf (fun _ _ => ?_) | with_reducible refine Calmly.gl_ft (fun _ _ => ?_)) | ((with_reducible refine Calmly.is_eff ?_); refine Calmly.mix_eff rfl (fun _ _ => ?_)) | ((with_reducible refine Calmly.is_gf ?_); refine Calmly.mix_gf rfl rfl rfl ?_; first | with_reducible refine Calmly.gf_tt (fun _ _ => ?_) | with_reducible refine Calmly.gf_ff (fun _ _ => ?_) | with_reducible refine Calmly.gf_tf (kept_of hk) (fun _ _ => ?_) | with_reducible refine Calmly.gf_ft (kept_of hk) (fun _ _ => ?_)) | ((with_reducible refine Calmly.is_tail ?_); first | refine Calmly.mix_tail_nil ?_ | refine Calmly.mix_tail rfl (fun _ _ => ?_)) | ((with_reducible refine Calmly.is_kept ?_); refine ⟨kept_of hk, ?_⟩) | (with_reducible refine Calmly.mix_alt ?_ ?_))
  refine (rWords_any a n c xs w1 ((h1.keep BA).keep hk) (by omega) i1).mono ?_
  rintro e w2 ⟨rfl, hb2⟩
  replace hk := step_of hk hb2
  go_wp2_with (first | ((with_reducible refine Calmly.is_fl ?_); refine Calmly.mix_fl rfl ?_ (fun _ _ => ?_); (first | exact .move _ | exact .load _ _ | exact .fieldAddr _ _ _ (by kernel_rfl) | exact .assign _ | exact .binOp _ _ _ _ _ rfl | exact .indexAddr _ _ _ | exact .len _ _ (by kernel_rfl) | exact .field _ _ _ | exact .extract _ _ | exact .pick _ _ _ | exact .build _ _ | exact .slice _ _ _ _ _ | exact .unOp _ _ _ rfl | exact .index _ _ _ | exact .max _ _ _ rfl rfl | exact .min _ _ _ rfl rfl | exact .nilCheck _ _ rfl)) | ((with_reducible refine Calmly.is_gl ?_); refine Calmly.mix_gl rfl rfl rfl ?_; first | ((first | with_reducible refine Calmly.gl_tt ?_ (fun _ _ => ?_) | with_reducible refine Calmly.gl_ff ?_ (fun _ _ => ?_)); (first | exact .move _ | exact .load _ _ | exact .fieldAddr _ _ _ (by kernel_rfl) | exact .assign _ | exact .binOp _ _ _ _ _ rfl | exact .indexAddr _ _ _ | exact .len _ _ (by kernel_rfl) | exact .field _ _ _ | exact .extract _ _ | exact .pick _ _ _ | exact .build _ _ | exact .slice _ _ _ _ _ | exact .unOp _ _ _ rfl | exact .index _ _ _ | exact .max _ _ _ rfl rfl | exact .min _ _ _ rfl rfl | exact .nilCheck _ _ rfl)) | with_reducible refine Calmly.gl_tf (fun _ _ => ?_) | with_reducible refine Calmly.gl_ft (fun _ _ => ?_)) | ((with_reducible refine Calmly.is_eff ?_); refine Calmly.mix_eff rfl (fun _ _ => ?_)) | ((with_reducible refine Calmly.is_gf ?_); refine Calmly.mix_gf rfl rfl rfl ?_; first | with_reducible refine Calmly.gf_tt (fun _ _ => ?_) | with_reducible refine Calmly.gf_ff (fun _ _ => ?_) | with_reducible refine Calmly.gf_tf (kept_of hk) (fun _ _ => ?_) | with_reducible refine Calmly.gf_ft (kept_of hk) (fun _ _ => ?_)) | ((with_reducible refine Calmly.is_tail ?_); first | refine Calmly.mix_tail_nil ?_ | refine Calmly.mix_tail rfl (fun _ _ => ?_)) | ((with_reducible refine Calmly.is_kept ?_); refine ⟨kept_of hk, ?_⟩) | (with_reducible refine Calmly.mix_alt ?_ ?_))
  go_ret
  exact ⟨congrArg (fun x => Ending.returned (Value.string x)) ((fmt_bs _ _).trans (congrArg bs HFM.out.symm)), BA.trans (hk.mono BA.size)⟩

theorem len_two {α : Type} : ∀ {l : List α}, l.length = 2 → ∃ x y, l = [x, y]
  | [x, y], _ => ⟨x, y, rfl⟩
theorem bothF_other {d : Nat} {b : Bool} {s : List UInt8} (h : (cutB 59 s).length ≠ 2) : bothF d b s = none := by
  unfold bothF
  split
  · rename_i x y e
    rw [e] at h
    exact absurd rfl h
  · rfl
theorem bothF_two {d : Nat} {b : Bool} {s x y : List UInt8} (h : cutB 59 s = [x, y]) : bothF d b s = (numsF d false (cutB 32 x)).bind fun m => (numsF d b (cutB 32 y)).map fun k => (m, k) := by
  unfold bothF
  rw [h]

set_option maxRecDepth 100000 in
set_option maxHeartbeats 1000000 in
theorem rParseFrame_any (s : List UInt8) (w : World) (hs : s.length ≤ 1000000) :
    Calls Tryz.prog 49 #[.string (bs s)] w fun e w' => ∃ a n c b m k, e = .returned (.tuple #[.agg #[.slice a n c, .slice b m k], .int .i64 (pfE s)]) ∧ SI w' a n c (pfV s).1 ∧ SI w' b m k (pfV s).2 ∧ Below w.heap.size w w' := by
  have hz := bs_size s
  have HZ := Lib.hid hz
  clear hz
  obtain ⟨E, hE⟩ : ∃ E, pfE s = E := ⟨_, rfl⟩
  obtain ⟨P, hP⟩ : ∃ P, pfV s = P := ⟨_, rfl⟩
  rw [hE, hP]
  have BA : Below w.heap.size w ((w.alloc (.cells #[.slice none 0 0, .slice none 0 0] 52)).alloc (.cells #[.slice none 0 0, .slice none 0 0] 52)) := ((Below.refl _ _).alloc (Nat.le_refl _) _).alloc (by simp) _
  have y0 := blk_keep (alloc_new w (.cells #[.slice none 0 0, .slice none 0 0] 52)) ((Below.refl _ _).alloc (Nat.le_refl _) (.cells #[.slice none 0 0, .slice none 0 0] 52))
  have y1 := alloc_new (w.alloc (.cells #[.slice none 0 0, .slice none 0 0] 52)) (.cells #[.slice none 0 0, .slice none 0 0] 52)
  rw [World.size_alloc] at y1
  go_enter Tryz.func49, Tryz.ntmps49
  by_cases hl : 60000 < s.length
  · have hl2 : (60000 : Int) < ((bs s).size : Int) := by rw [HZ.out]; omega
    obtain ⟨q1, q2⟩ := pf_large hl
    obtain rfl : E = 8 := hE.symm.trans q1
    obtain rfl : P = ([], []) := hP.symm.trans q2
    clear hE hP q1 q2
    go_wp2_with fail
    have g0 := cell_block y0 0
    have g1 := cell_block y0 1
    exact bodyPost_ret (v := .tuple #[.agg #[.slice none 0 0, .slice none 0 0], .int .i64 8]) (by simp [results, Tryz.results49, go_sem, g0, g1]) rfl ⟨none, 0, 0, none, 0, 0, rfl, (OwI.nil _ 0).si, (OwI.nil _ 0).si, BA⟩
  · have hl2 : ¬ (60000 : Int) < ((bs s).size : Int) := by rw [HZ.out]; omega
    go_wp2_with fail
    generalize (w.alloc (.cells #[.slice none 0 0, .slice none 0 0] 52)).alloc (.cells #[.slice none 0 0, .slice none 0 0] 52) = W at *
    refine (Cut_any s 59 W hs).mono ?_
    rintro e w1 ⟨a, n, c, rfl, ho, h1⟩
    have hst := ho.st
    have hlen := ho.len
    have ca := hst.cap
    have ma := hst.max
    replace y0 := blk_keep y0 h1
    replace y1 := blk_keep y1 h1
    replace BA := BA.trans (h1.mono BA.size)
    clear h1 ho
    by_cases h2 : (cutB 59 s).length = 2
    case neg =>
      have hb := bothF_other (d := 3) (b := false) h2
      obtain ⟨q1, q2⟩ := pf_bad hl hb
      obtain rfl : E = 7 := hE.symm.trans q1
      obtain rfl : P = ([], []) := hP.symm.trans q2
      have hn2 : ((n : Int) == 2) = false := by rw [beq_eq_false_iff_ne]; omega
      have f0 := cell_block y0 0
      have f1 := cell_block y0 1
      have r0 := frozen_block y0 0
      have r1 := frozen_block y0 1
      have k0 := cell_block y1 0
      have k1 := cell_block y1 1
      clear hb hE hP q1 q2 h2 hlen
      go_wp2_with fail
      obtain ⟨g0, g1, _, _⟩ := set2 (x := .slice none 0 0) (y := .slice none 0 0) (show _ = some (.slice none 0 0) from f0) (show _ = some (.slice none 0 0) from f1)
      have BX := (BA.setCell (p := ⟨w.heap.size, 0, none⟩) (Nat.le_refl _) (.slice none 0 0)).setCell (p := ⟨w.heap.size, 1, none⟩) (Nat.le_refl _) (.slice none 0 0)
      exact bodyPost_ret (v := .tuple #[.agg #[.slice none 0 0, .slice none 0 0], .int .i64 7]) (by simp [results, Tryz.results49, go_sem, g0, g1]) rfl ⟨none, 0, 0, none, 0, 0, rfl, (OwI.nil _ 0).si, (OwI.nil _ 0).si, BX⟩
    case pos =>
      obtain ⟨x, y, hxy⟩ : ∃ x y, cutB 59 s = [x, y] := len_two h2
      have hb := bothF_two (d := 3) (b := false) hxy
      have lx := cutB_le 59 s x (by rw [hxy]; simp)
      have ly := cutB_le 59 s y (by rw [hxy]; simp)
      rw [hxy] at hst
      obtain rfl : n = 2 := hlen.trans h2
      obtain ⟨ba, oa, rfl, hc⟩ := hst.at_ (by omega)
      have e0 := hc 0 (by omega)
      have e1 := hc 1 (by omega)
      rw [Nat.add_zero] at e0
      have HB := Lib.hid hb
      have HE := Lib.hid hE
      have HP := Lib.hid hP
      clear hb hE hP h2 hlen hc hst hxy
      go_wp2_with fail
      refine (rNumbers_any x 3 false w1 (by omega) (by omega)).mono ?_
      rintro e w2 ⟨a, n, c, rfl, s1, i1, h1⟩
      dsimp only
      replace y0 := blk_keep y0 h1
      replace y1 := blk_keep y1 h1
      replace e1 := cell_keep e1 h1
      replace BA := BA.trans (h1.mono BA.size)
      clear h1 e0
      go_wp2_with fail
      refine (rNumbers_any y 3 false w2 (by omega) (by omega)).mono ?_
      rintro e w3 ⟨b, m, k, rfl, s2, i2, h1⟩
      dsimp only
      replace y0 := blk_keep y0 h1
      replace y1 := blk_keep y1 h1
      replace s1 := s1.keep h1
      replace i1 := i1.keep h1
      replace BA := BA.trans (h1.mono BA.size)
      clear h1 e1
      have hlt := blk_lt y0
      have hlt1 := blk_lt y1
      have f0 := cell_block y0 0
      have f1 := cell_block y0 1
      have r0 := frozen_block y0 0
      have r1 := frozen_block y0 1
      have k0 := cell_block y1 0
      have k1 := cell_block y1 1
      have hbq := HB.out
      obtain ⟨p, hp⟩ : ∃ p, numsF 3 false (cutB 32 x) = p := ⟨_, rfl⟩
      obtain ⟨q, hq⟩ : ∃ q, numsF 3 false (cutB 32 y) = q := ⟨_, rfl⟩
      rw [hp, hq] at hbq
      rw [hp] at s1 ⊢
      rw [hq] at s2 ⊢
      clear hp hq
      cases p with
      | none =>
        obtain ⟨q1, q2⟩ := pf_bad hl (show _ = none from hbq)
        obtain rfl : E = 7 := HE.out.symm.trans q1
        obtain rfl : P = ([], []) := HP.out.symm.trans q2
        clear hbq q1 q2
        go_wp2_with fail
        obtain ⟨g0, g1, _, _⟩ := set2 (x := .slice none 0 0) (y := .slice none 0 0) (show _ = some (.slice none 0 0) from f0) (show _ = some (.slice none 0 0) from f1)
        have BX := (BA.setCell (p := ⟨w.heap.size, 0, none⟩) (Nat.le_refl _) (.slice none 0 0)).setCell (p := ⟨w.heap.size, 1, none⟩) (Nat.le_refl _) (.slice none 0 0)
        exact bodyPost_ret (v := .tuple #[.agg #[.slice none 0 0, .slice none 0 0], .int .i64 7]) (by simp [results, Tryz.results49, go_sem, g0, g1]) rfl ⟨none, 0, 0, none, 0, 0, rfl, (OwI.nil _ 0).si, (OwI.nil _ 0).si, BX⟩
      | some mm =>
        cases q with
        | none =>
          obtain ⟨q1, q2⟩ := pf_bad hl (show _ = none from hbq)
          obtain rfl : E = 7 := HE.out.symm.trans q1
          obtain rfl : P = ([], []) := HP.out.symm.trans q2
          clear hbq q1 q2
          go_wp2_with fail
          obtain ⟨g0, g1, _, _⟩ := set2 (x := .slice none 0 0) (y := .slice none 0 0) (show _ = some (.slice none 0 0) from f0) (show _ = some (.slice none 0 0) from f1)
          have BX := (BA.setCell (p := ⟨w.heap.size, 0, none⟩) (Nat.le_refl _) (.slice none 0 0)).setCell (p := ⟨w.heap.size, 1, none⟩) (Nat.le_refl _) (.slice none 0 0)
          exact bodyPost_ret (v := .tuple #[.agg #[.slice none 0 0, .slice none 0 0], .int .i64 7]) (by simp [results, Tryz.results49, go_sem, g0, g1]) rfl ⟨none, 0, 0, none, 0, 0, rfl, (OwI.nil _ 0).si, (OwI.nil _ 0).si, BX⟩
        | some kk =>
          obtain ⟨q1, q2⟩ := pf_some hl (show _ = some (mm, kk) from hbq)
          have H1 := Lib.hid (HE.out.symm.trans q1)
          have H2 := Lib.hid (HP.out.symm.trans q2)
          clear hbq q1 q2
          go_wp2_with fail
          have hk : Below w3.heap.size w3 (w3.alloc (.cells #[.slice a n c, .slice b m k] 52)) := (Below.refl _ _).alloc (Nat.le_refl _) _
          have y6 := alloc_new w3 (.cells #[.slice a n c, .slice b m k] 52)
          generalize w3.alloc (.cells #[.slice a n c, .slice b m k] 52) = V at *
          refine (FrameErr_any a b n c m k mm kk V (s1.keep hk) (s2.keep hk)).mono ?_
          rintro e w4 ⟨rfl, h3⟩
          have k3 := hk.trans (h3.mono hk.size)
          replace y0 := blk_keep y0 k3
          replace y1 := blk_keep y1 k3
          replace y6 := blk_keep y6 h3
          have s13 := s1.keep k3
          have s23 := s2.keep k3
          have i13 := i1.keep k3
          have i23 := i2.keep k3
          have B3 := BA.trans (k3.mono BA.size)
          have hT : BlkT w4 w.heap.size 52 := ⟨_, y0⟩
          obtain ⟨Z, hZ⟩ : ∃ Z, (checkF mm kk).2 = Z := ⟨_, rfl⟩
          rw [hZ] at H1 H2 ⊢
          clear f0 f1 r0 r1 k0 k1 h3 k3 hk BA s1 s2 i1 i2
          have f0 := cell_block y0 0
          have f1 := cell_block y0 1
          have r0 := frozen_block y0 0
          have r1 := frozen_block y0 1
          have k0 := cell_block y1 0
          have k1 := cell_block y1 1
          have f6 := cell_block y6 0
          have f7 := cell_block y6 1
          by_cases hz : Z = 0
          · subst hz
            obtain rfl : E = 0 := H1.out
            obtain rfl : P = (mm, kk) := H2.out
            go_wp2_with fail
            obtain ⟨g0, g1, _, _⟩ := set2 (x := .slice a n c) (y := .slice b m k) (show _ = some (.slice none 0 0) from f0) (show _ = some (.slice none 0 0) from f1)
            have BX := (B3.setCell (p := ⟨w.heap.size, 0, none⟩) (Nat.le_refl _) (.slice a n c)).setCell (p := ⟨w.heap.size, 1, none⟩) (Nat.le_refl _) (.slice b m k)
            exact bodyPost_ret (v := .tuple #[.agg #[.slice a n c, .slice b m k], .int .i64 0]) (by simp [results, Tryz.results49, go_sem, g0, g1]) rfl ⟨a, n, c, b, m, k, rfl, Sl.set (Sl.set s13 i13 hT (by decide)) (i13.set _ _) (hT.set _ _) (by decide), Sl.set (Sl.set s23 i23 hT (by decide)) (i23.set _ _) (hT.set _ _) (by decide), BX⟩
          · have hz2 : (Z != 0) = true := by simpa using hz
            obtain rfl : E = Z := H1.out
            obtain rfl : P = ([], []) := by rw [H2.out, if_neg hz]
            have HZ2 := Lib.hid hz
            clear hz
            go_wp2_with fail
            obtain ⟨g0, g1, _, _⟩ := set2 (x := .slice none 0 0) (y := .slice none 0 0) (show _ = some (.slice none 0 0) from f0) (show _ = some (.slice none 0 0) from f1)
            have BX := (B3.setCell (p := ⟨w.heap.size, 0, none⟩) (Nat.le_refl _) (.slice none 0 0)).setCell (p := ⟨w.heap.size, 1, none⟩) (Nat.le_refl _) (.slice none 0 0)
            exact bodyPost_ret (v := .tuple #[.agg #[.slice none 0 0, .slice none 0 0], .int .i64 E]) (by simp [results, Tryz.results49, go_sem, g0, g1]) rfl ⟨none, 0, 0, none, 0, 0, rfl, (OwI.nil _ 0).si, (OwI.nil _ 0).si, BX⟩

set_option maxRecDepth 100000 in
set_option maxHeartbeats 1000000 in
theorem rParseDecay_any (s : List UInt8) (w : World) (hs : s.length ≤ 1000000) :
    Calls Tryz.prog 50 #[.string (bs s)] w fun e w' => ∃ a n c, e = .returned (.tuple #[.agg #[.slice a n c, .int .i64 (pdV s).2], .int .i64 (pdE s)]) ∧ SI w' a n c (pdV s).1 ∧ Below w.heap.size w w' := by
  have hz := bs_size s
  have HZ := Lib.hid hz
  clear hz
  obtain ⟨E, hE⟩ : ∃ E, pdE s = E := ⟨_, rfl⟩
  obtain ⟨P, hP⟩ : ∃ P, pdV s = P := ⟨_, rfl⟩
  rw [hE, hP]
  have BA : Below w.heap.size w ((w.alloc (.cells #[.slice none 0 0, .int .i64 0] 28)).alloc (.cells #[.slice none 0 0, .int .i64 0] 28)) := ((Below.refl _ _).alloc (Nat.le_refl _) _).alloc (by simp) _
  have y0 := blk_keep (alloc_new w (.cells #[.slice none 0 0, .int .i64 0] 28)) ((Below.refl _ _).alloc (Nat.le_refl _) (.cells #[.slice none 0 0, .int .i64 0] 28))
  have y1 := alloc_new (w.alloc (.cells #[.slice none 0 0, .int .i64 0] 28)) (.cells #[.slice none 0 0, .int .i64 0] 28)
  rw [World.size_alloc] at y1
  go_enter Tryz.func50, Tryz.ntmps50
  by_cases hl : 60000 < s.length
  · have hl2 : (60000 : Int) < ((bs s).size : Int) := by rw [HZ.out]; omega
    obtain ⟨q1, q2⟩ := pd_large hl
    obtain rfl : E = 8 := hE.symm.trans q1
    obtain rfl : P = ([], 0) := hP.symm.trans q2
    clear hE hP q1 q2
    go_wp2_with fail
    have g0 := cell_block y0 0
    have g1 := cell_block y0 1
    exact bodyPost_ret (v := .tuple #[.agg #[.slice none 0 0, .int .i64 0], .int .i64 8]) (by simp [results, Tryz.results50, go_sem, g0, g1]) rfl ⟨none, 0, 0, rfl, (OwI.nil _ 0).si, BA⟩
  · have hl2 : ¬ (60000 : Int) < ((bs s).size : Int) := by rw [HZ.out]; omega
    go_wp2_with fail
    generalize (w.alloc (.cells #[.slice none 0 0, .int .i64 0] 28)).alloc (.cells #[.slice none 0 0, .int .i64 0] 28) = W at *
    refine (Cut_any s 59 W hs).mono ?_
    rintro e w1 ⟨a, n, c, rfl, ho, h1⟩
    have hst := ho.st
    have hlen := ho.len
    have ca := hst.cap
    have ma := hst.max
    replace y0 := blk_keep y0 h1
    replace y1 := blk_keep y1 h1
    replace BA := BA.trans (h1.mono BA.size)
    clear h1 ho
    by_cases h2 : (cutB 59 s).length = 2
    case neg =>
      have hb := bothF_other (d := 5) (b := true) h2
      obtain ⟨q1, q2⟩ := pd_bad hl hb
      obtain rfl : E = 7 := hE.symm.trans q1
      obtain rfl : P = ([], 0) := hP.symm.trans q2
      have hn2 : ((n : Int) == 2) = false := by rw [beq_eq_false_iff_ne]; omega
      have f0 := cell_block y0 0
      have f1 := cell_block y0 1
      have r0 := frozen_block y0 0
      have r1 := frozen_block y0 1
      have k0 := cell_block y1 0
      have k1 := cell_block y1 1
      clear hb hE hP q1 q2 h2 hlen
      go_wp2_with fail
      obtain ⟨g0, g1, _, _⟩ := set2 (x := .slice none 0 0) (y := .int .i64 0) (show _ = some (.slice none 0 0) from f0) (show _ = some (.int .i64 0) from f1)
      have BX := (BA.setCell (p := ⟨w.heap.size, 0, none⟩) (Nat.le_refl _) (.slice none 0 0)).setCell (p := ⟨w.heap.size, 1, none⟩) (Nat.le_refl _) (.int .i64 0)
      exact bodyPost_ret (v := .tuple #[.agg #[.slice none 0 0, .int .i64 0], .int .i64 7]) (by simp [results, Tryz.results50, go_sem, g0, g1]) rfl ⟨none, 0, 0, rfl, (OwI.nil _ 0).si, BX⟩
    case pos =>
      obtain ⟨x, y, hxy⟩ : ∃ x y, cutB 59 s = [x, y] := len_two h2
      have hb := bothF_two (d := 5) (b := true) hxy
      have lx := cutB_le 59 s x (by rw [hxy]; simp)
      have ly := cutB_le 59 s y (by rw [hxy]; simp)
      rw [hxy] at hst
      obtain rfl : n = 2 := hlen.trans h2
      obtain ⟨ba, oa, rfl, hc⟩ := hst.at_ (by omega)
      have e0 := hc 0 (by omega)
      have e1 := hc 1 (by omega)
      rw [Nat.add_zero] at e0
      have HB := Lib.hid hb
      have HE := Lib.hid hE
      have HP := Lib.hid hP
      clear hb hE hP h2 hlen hc hst hxy
      go_wp2_with fail
      refine (rNumbers_any x 5 false w1 (by omega) (by omega)).mono ?_
      rintro e w2 ⟨a, n, c, rfl, s1, i1, h1⟩
      dsimp only
      replace y0 := blk_keep y0 h1
      replace y1 := blk_keep y1 h1
      replace e1 := cell_keep e1 h1
      replace BA := BA.trans (h1.mono BA.size)
      clear h1 e0
      go_wp2_with fail
      refine (rNumbers_any y 5 true w2 (by omega) (by omega)).mono ?_
      rintro e w3 ⟨b, m, k, rfl, s2, i2, h1⟩
      dsimp only
      replace y0 := blk_keep y0 h1
      replace y1 := blk_keep y1 h1
      replace s1 := s1.keep h1
      replace i1 := i1.keep h1
      replace BA := BA.trans (h1.mono BA.size)
      clear h1 e1
      have hlt := blk_lt y0
      have hlt1 := blk_lt y1
      have f0 := cell_block y0 0
      have f1 := cell_block y0 1
      have r0 := frozen_block y0 0
      have r1 := frozen_block y0 1
      have k0 := cell_block y1 0
      have k1 := cell_block y1 1
      have hbq := HB.out
      obtain ⟨p, hp⟩ : ∃ p, numsF 5 false (cutB 32 x) = p := ⟨_, rfl⟩
      obtain ⟨q, hq⟩ : ∃ q, numsF 5 true (cutB 32 y) = q := ⟨_, rfl⟩
      rw [hp, hq] at hbq
      rw [hp] at s1 ⊢
      rw [hq] at s2 ⊢
      clear hp hq
      cases p with
      | none =>
        obtain ⟨q1, q2⟩ := pd_bad hl (show _ = none from hbq)
        obtain rfl : E = 7 := HE.out.symm.trans q1
        obtain rfl : P = ([], 0) := HP.out.symm.trans q2
        clear hbq q1 q2
        go_wp2_with fail
        obtain ⟨g0, g1, _, _⟩ := set2 (x := .slice none 0 0) (y := .int .i64 0) (show _ = some (.slice none 0 0) from f0) (show _ = some (.int .i64 0) from f1)
        have BX := (BA.setCell (p := ⟨w.heap.size, 0, none⟩) (Nat.le_refl _) (.slice none 0 0)).setCell (p := ⟨w.heap.size, 1, none⟩) (Nat.le_refl _) (.int .i64 0)
        exact bodyPost_ret (v := .tuple #[.agg #[.slice none 0 0, .int .i64 0], .int .i64 7]) (by simp [results, Tryz.results50, go_sem, g0, g1]) rfl ⟨none, 0, 0, rfl, (OwI.nil _ 0).si, BX⟩
      | some mm =>
        cases q with
        | none =>
          obtain ⟨q1, q2⟩ := pd_bad hl (show _ = none from hbq)
          obtain rfl : E = 7 := HE.out.symm.trans q1
          obtain rfl : P = ([], 0) := HP.out.symm.trans q2
          clear hbq q1 q2
          go_wp2_with fail
          obtain ⟨g0, g1, _, _⟩ := set2 (x := .slice none 0 0) (y := .int .i64 0) (show _ = some (.slice none 0 0) from f0) (show _ = some (.int .i64 0) from f1)
          have BX := (BA.setCell (p := ⟨w.heap.size, 0, none⟩) (Nat.le_refl _) (.slice none 0 0)).setCell (p := ⟨w.heap.size, 1, none⟩) (Nat.le_refl _) (.int .i64 0)
          exact bodyPost_ret (v := .tuple #[.agg #[.slice none 0 0, .int .i64 0], .int .i64 7]) (by simp [results, Tryz.results50, go_sem, g0, g1]) rfl ⟨none, 0, 0, rfl, (OwI.nil _ 0).si, BX⟩
        | some kk =>
          have hln := s1.len
          by_cases hx : mm.length = 1
          case neg =>
            obtain ⟨q1, q2⟩ := pd_many hl (show _ = some (mm, kk) from hbq) hx
            obtain rfl : E = 7 := HE.out.symm.trans q1
            obtain rfl : P = ([], 0) := HP.out.symm.trans q2
            have hn1 : ((n : Int) == 1) = false := by rw [beq_eq_false_iff_ne]; intro h; apply hx; rw [show mm.length = n from hln.symm]; omega
            clear hbq q1 q2 hln hx
            go_wp2_with fail
            obtain ⟨g0, g1, _, _⟩ := set2 (x := .slice none 0 0) (y := .int .i64 0) (show _ = some (.slice none 0 0) from f0) (show _ = some (.int .i64 0) from f1)
            have BX := (BA.setCell (p := ⟨w.heap.size, 0, none⟩) (Nat.le_refl _) (.slice none 0 0)).setCell (p := ⟨w.heap.size, 1, none⟩) (Nat.le_refl _) (.int .i64 0)
            exact bodyPost_ret (v := .tuple #[.agg #[.slice none 0 0, .int .i64 0], .int .i64 7]) (by simp [results, Tryz.results50, go_sem, g0, g1]) rfl ⟨none, 0, 0, rfl, (OwI.nil _ 0).si, BX⟩
          case pos =>
            obtain ⟨o, rfl⟩ : ∃ o, mm = [o] := List.length_eq_one_iff.1 hx
            obtain rfl : n = 1 := hln
            obtain ⟨bo, oo, rfl, hco⟩ := s1.at_ (by omega)
            have eo := hco 0 (by omega)
            rw [Nat.add_zero] at eo
            have co := s1.cap
            have mo := s1.max
            clear hco hx
            obtain ⟨q1, q2⟩ := pd_some hl (show _ = some ([o], kk) from hbq)
            have H1 := Lib.hid (HE.out.symm.trans q1)
            have H2 := Lib.hid (HP.out.symm.trans q2)
            clear hbq q1 q2
            go_wp2_with fail
            have hk : Below w3.heap.size w3 (w3.alloc (.cells #[.slice b m k, .int .i64 o] 28)) := (Below.refl _ _).alloc (Nat.le_refl _) _
            have y6 := alloc_new w3 (.cells #[.slice b m k, .int .i64 o] 28)
            generalize w3.alloc (.cells #[.slice b m k, .int .i64 o] 28) = V at *
            refine (DecayErr_any b m k kk o V (s2.keep hk)).mono ?_
            rintro e w4 ⟨rfl, h3⟩
            have k3 := hk.trans (h3.mono hk.size)
            replace y0 := blk_keep y0 k3
            replace y1 := blk_keep y1 k3
            replace y6 := blk_keep y6 h3
            have s13 := s1.keep k3
            have s23 := s2.keep k3
            have i13 := i1.keep k3
            have i23 := i2.keep k3
            have B3 := BA.trans (k3.mono BA.size)
            have hT : BlkT w4 w.heap.size 28 := ⟨_, y0⟩
            obtain ⟨Z, hZ⟩ : ∃ Z, decayE kk o = Z := ⟨_, rfl⟩
            rw [hZ] at H1 H2 ⊢
            clear f0 f1 r0 r1 k0 k1 h3 k3 hk BA s1 s2 i1 i2
            have f0 := cell_block y0 0
            have f1 := cell_block y0 1
            have r0 := frozen_block y0 0
            have r1 := frozen_block y0 1
            have k0 := cell_block y1 0
            have k1 := cell_block y1 1
            have f6 := cell_block y6 0
            have f7 := cell_block y6 1
            by_cases hz : Z = 0
            · subst hz
              obtain rfl : E = 0 := H1.out
              obtain rfl : P = (kk, o) := H2.out
              go_wp2_with fail
              obtain ⟨g0, g1, _, _⟩ := set2 (x := .slice b m k) (y := .int .i64 o) (show _ = some (.slice none 0 0) from f0) (show _ = some (.int .i64 0) from f1)
              have BX := (B3.setCell (p := ⟨w.heap.size, 0, none⟩) (Nat.le_refl _) (.slice b m k)).setCell (p := ⟨w.heap.size, 1, none⟩) (Nat.le_refl _) (.int .i64 o)
              exact bodyPost_ret (v := .tuple #[.agg #[.slice b m k, .int .i64 o], .int .i64 0]) (by simp [results, Tryz.results50, go_sem, g0, g1]) rfl ⟨b, m, k, rfl, Sl.set (Sl.set s23 i23 hT (by decide)) (i23.set _ _) (hT.set _ _) (by decide), BX⟩
            · have hz2 : (Z != 0) = true := by simpa using hz
              obtain rfl : E = Z := H1.out
              obtain rfl : P = ([], 0) := by rw [H2.out, if_neg hz]
              have HZ2 := Lib.hid hz
              clear hz
              go_wp2_with fail
              obtain ⟨g0, g1, _, _⟩ := set2 (x := .slice none 0 0) (y := .int .i64 0) (show _ = some (.slice none 0 0) from f0) (show _ = some (.int .i64 0) from f1)
              have BX := (B3.setCell (p := ⟨w.heap.size, 0, none⟩) (Nat.le_refl _) (.slice none 0 0)).setCell (p := ⟨w.heap.size, 1, none⟩) (Nat.le_refl _) (.int .i64 0)
              exact bodyPost_ret (v := .tuple #[.agg #[.slice none 0 0, .int .i64 0], .int .i64 E]) (by simp [results, Tryz.results50, go_sem, g0, g1]) rfl ⟨none, 0, 0, rfl, (OwI.nil _ 0).si, BX⟩
end Go.Proofs.YteigmjlfpmdmoaaGreatDoor
