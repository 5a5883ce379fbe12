/- Contracts of chapter 6: the reference's sum of all squares. -/
import Derived.Test.YtmaidjankakppaaPb
namespace Go.Proofs.Ytmaidjankakppaa
open Go.RowKit Go.Wides
open Calmly (Kept)

def sL : Nat → Nat
  | 0 => 7
  | i + 1 => 2 * sL i + 6
theorem sL_bd (i : Nat) (hi : i ≤ 4) : 7 ≤ sL i ∧ sL i ≤ 1000 := by
  rcases (by omega : i = 0 ∨ i = 1 ∨ i = 2 ∨ i = 3 ∨ i = 4) with rfl | rfl | rfl | rfl | rfl <;> decide

set_option maxRecDepth 100000 in
set_option maxHeartbeats 4000000 in
theorem rSum_any (a b : Option Addr) (n c m d : Nat) (ms ks : List Int) (w : World) (h1 : SI w a n c ms) (h2 : SI w b m d ks) (hf : Fr ms ks) :
    Calls Try.prog 24 #[.agg #[.slice a n c, .slice b m d]] w fun e w' => e = .returned (.agg #[.int .i64 (sumQ ms ks ms.length).num, .int .i64 ((sumQ ms ks ms.length).den : Int)]) ∧ Below w.heap.size w w' := by
  have hA : ∀ (A : World) (o : Obj), Below A.heap.size A (A.alloc o) := fun A o => (Below.refl _ _).alloc (Nat.le_refl _) _
  have hb2 : Below w.heap.size w ((w.alloc (.cells #[.slice a n c, .slice b m d] 24)).alloc (.cells #[.int .i64 0, .int .i64 0] 34)) := ((Below.refl _ _).alloc (Nat.le_refl _) _).alloc (by simp) _
  obtain ⟨l1, l2⟩ : n ≤ ms.length ∧ ms.length ≤ n := by have := h1.len; omega
  obtain rfl : n = m := by have := h2.len; have := hf.len; omega
  have hlen : ms.length = n := by omega
  have HN := Lib.hid hlen
  clear hlen
  have hl4 : 0 < n ∧ n ≤ 4 := by have := hf.pos; have := hf.few; omega
  rw [HN.out]
  go_enter Try.func24, Try.ntmps24
  go_wp2_with fail
  refine (RatioInt_any 0 _ (by omega) (by omega)).mono ?_
  rintro e w1 ⟨⟨gs, ga, gn, gc, gs', ga', gn', gc', rfl, gh, gh', gV⟩, hs⟩
  obtain ⟨x1, x2⟩ := box2 (w := w) (o := .cells #[.slice a n c, .slice b n d] 24) (o' := .cells #[.int .i64 0, .int .i64 0] 34) hs
  have hbw := hb2.trans (hs.mono hb2.size)
  have s2 := blk_lt x2
  clear hs hb2
  have hk := hA w1 (.cells #[.int .i64 gs, .slice ga gn gc, .int .i64 gs', .slice ga' gn' gc'] 72)
  have X3 := alloc_new w1 (.cells #[.int .i64 gs, .slice ga gn gc, .int .i64 gs', .slice ga' gn' gc'] 72)
  have gV1 : RatV _ gs ga gn gc gs' ga' gn' gc' (sumQ ms ks 0) := gV.keep hk
  clear gV
  go_wp2_with fail
  go_loopw [4] (fun z wr => ∃ (k : Nat) (s : Int) (ra : Option Addr) (rn rc : Nat) (s' : Int) (ra' : Option Addr) (rn' rc' : Nat), k ≤ n ∧ z = .int .i64 (k : Int) ∧ Below w1.heap.size w1 wr ∧ wr.heap[w1.heap.size]? = some (.cells #[.int .i64 s, .slice ra rn rc, .int .i64 s', .slice ra' rn' rc'] 72) ∧ RatV wr s ra rn rc s' ra' rn' rc' (sumQ ms ks k) ∧ rn ≤ sL k ∧ rn' ≤ sL k) (fun z _ => n - (intOf z).toNat)
  case atStart => exact ⟨0, _, _, _, _, _, _, _, _, by omega, rfl, hk, X3, gV1, by show _ ≤ 7; omega, by show _ ≤ 7; omega⟩
  case round =>
    clear X3 gV1 hk
    obtain ⟨k, s, ra, rn, rc, s', ra', rn', rc', hk0, rfl, hbr, X3, gV, hl1, hl2⟩ := hrel
    have BW := hbw.trans (hbr.mono (by have := hbw.size; omega))
    have X1 : wr.heap[w.heap.size]? = some (.cells #[.slice a n c, .slice b n d] 24) := (hbr.block _ (by omega)).trans x1
    have X2 : wr.heap[w.heap.size + 1]? = some (.cells #[.int .i64 0, .int .i64 0] 34) := (hbr.block _ (by omega)).trans x2
    obtain ⟨sl1, sl2⟩ := sL_bd k (by omega)
    by_cases hlt : k < n
    · have f0 := cell_block X1 0
      have f1 := cell_block X1 1
      have hi : (k : Int) < (n : Int) := by omega
      have hi0 : (0 : Int) ≤ (k : Int) := by omega
      have hmb := hf.m k (by have := HN.out; omega)
      have hob1 := hf.k0 k
      have hob2 := hf.k0 (k + 1)
      obtain ⟨ba, oa, rfl, hca⟩ := (h1.keep BW).at_ (by omega)
      have em := hca k hlt
      clear hca
      obtain ⟨mv, hmv⟩ : ∃ x, ms[k]?.getD 0 = x := ⟨_, rfl⟩
      obtain ⟨ov, hov⟩ : ∃ x, ks[k]?.getD 0 + ks[k + 1]?.getD 0 = x := ⟨_, rfl⟩
      rw [hmv] at em hmb
      have hob : 0 ≤ ov ∧ ov ≤ 40 := by omega
      have HM := Lib.hid hmv
      have HO := Lib.hid hov
      clear hmv hov hob1 hob2
      go_wp2_with fail
      refine Calmly.wp_region_mix 11 (.fl 0 <| .fl 1 <| .fl 2 <| .fl 4 <| .fl 5 <| .fl 6 <| .fl 7 <| .fl 8 <| .eff 3 <| .eff 9 <| .eff 10 <| .tail [11]) (by kernel_rfl) (by kernel_rfl) ?_
      replace X1 : wr.drew.heap[w.heap.size]? = some (.cells #[.slice (some ⟨ba, oa, none⟩) n c, .slice b n d] 24) := X1
      replace X3 : wr.drew.heap[w1.heap.size]? = some (.cells #[.int .i64 s, .slice ra rn rc, .int .i64 s', .slice ra' rn' rc'] 72) := X3
      replace em : wr.drew.cell? ⟨ba, oa + k, none⟩ = some (.int .i64 mv) := em
      replace hbr := hbr.drew
      have H2 := h2.keep BW.drew
      replace gV := gV.keep (Below.refl _ _).drew
      clear BW X2 f0 f1
      generalize wr.drew = V at *
      have f0 := cell_block X1 0
      have f1 := cell_block X1 1
      have g0 := cell_block X3 0
      have g1 := cell_block X3 1
      have g2 := cell_block X3 2
      have g3 := cell_block X3 3
      have hk := Below.refl V.heap.size V
      go_wp2_with (first | ((with_reducible refine Calmly.is_fl ?_); refine Calmly.mix_fl rfl ?_ (fun _ _ => ?_); (first | exact .move _ | exact .load _ _ | exact .fieldAddr _ _ _ (by kernel_rfl) | exact .assign _ | exact .binOp _ _ _ _ _ rfl | exact .indexAddr _ _ _ | exact .len _ _ (by kernel_rfl) | exact .field _ _ _ | exact .extract _ _ | exact .pick _ _ _ | exact .build _ _ | exact .slice _ _ _ _ _ | exact .unOp _ _ _ rfl | exact .index _ _ _ | exact .max _ _ _ rfl rfl | exact .min _ _ _ rfl rfl)) | ((with_reducible refine Calmly.is_gl ?_); refine Calmly.mix_gl rfl rfl rfl ?_; first | ((first | with_reducible refine Calmly.gl_tt ?_ (fun _ _ => ?_) | with_reducible refine Calmly.gl_ff ?_ (fun _ _ => ?_)); (first | exact .move _ | exact .load _ _ | exact .fieldAddr _ _ _ (by kernel_rfl) | exact .assign _ | exact .binOp _ _ _ _ _ rfl | exact .indexAddr _ _ _ | exact .len _ _ (by kernel_rfl) | exact .field _ _ _ | exact .extract _ _ | exact .pick _ _ _ | exact .build _ _ | exact .slice _ _ _ _ _ | exact .unOp _ _ _ rfl | exact .index _ _ _ | exact .max _ _ _ rfl rfl | exact .min _ _ _ rfl rfl)) | with_reducible refine Calmly.gl_tf (fun _ _ => ?_) | with_reducible refine Calmly.gl_ft (fun _ _ => ?_)) | ((with_reducible refine Calmly.is_eff ?_); refine Calmly.mix_eff rfl (fun _ _ => ?_)) | ((with_reducible refine Calmly.is_gf ?_); refine Calmly.mix_gf rfl rfl rfl ?_; first | with_reducible refine Calmly.gf_tt (fun _ _ => ?_) | with_reducible refine Calmly.gf_ff (fun _ _ => ?_) | with_reducible refine Calmly.gf_tf (kept_of hk) (fun _ _ => ?_) | with_reducible refine Calmly.gf_ft (kept_of hk) (fun _ _ => ?_)) | ((with_reducible refine Calmly.is_kept ?_); refine ⟨kept_of hk, ?_⟩) | (with_reducible refine Calmly.mix_alt ?_ ?_) | (go_at_call 97; refine (Own_any _ b n c n d ks k _ (H2.keep hk) (by omega) (by omega) hf.ks).mono ?_; rintro e w' ⟨rfl, hs⟩; rw [show (k : Int).toNat = k from rfl, HO.out]; replace hk := step_of hk hs; clear hs) | (go_at_call 86; refine (RatioOf_any _ _ _ (by omega) (by omega) (by omega) (by omega) (by omega)).mono ?_; rintro e w5 ⟨⟨es, eb, en, ec, es', eb', en', ec', rfl, eh, eh', rA⟩, hs⟩; replace hk := step_of hk hs; clear hs) | (go_at_call 48; refine (RatioAdd_any _ _ _ _ _ _ _ _ _ _ _ _ _ _ _ _ (sL k) _ _ _ (gV.keep hk) rA (by omega) (by omega) (by omega) (by omega) (by omega)).mono ?_; rintro e w6 ⟨⟨js, jb, jn, jc, js', jb', jn', jc', rfl, jh, jh', rJ⟩, hs⟩; replace hk := step_of hk hs; clear hs))
      have Y3 := blk_keep X3 hk
      have i0 := cell_block Y3 0
      have i1 := cell_block Y3 1
      have i2 := cell_block Y3 2
      have i3 := cell_block Y3 3
      have i4 := frozen_block Y3 0
      have i5 := frozen_block Y3 1
      have i6 := frozen_block Y3 2
      have i7 := frozen_block Y3 3
      have hbr6 := hbr.trans (hk.mono (show w1.heap.size ≤ V.heap.size by have := hbr.size; omega))
      obtain ⟨X9, W1, W2⟩ := ratFin Y3 rJ.1 rJ.2
      have hsl : sL (k + 1) = 2 * sL k + 6 := rfl
      go_wp2_with (first | ((with_reducible refine Calmly.is_fl ?_); refine Calmly.mix_fl rfl ?_ (fun _ _ => ?_); (first | exact .move _ | exact .load _ _ | exact .fieldAddr _ _ _ (by kernel_rfl) | exact .assign _ | exact .binOp _ _ _ _ _ rfl | exact .indexAddr _ _ _ | exact .len _ _ (by kernel_rfl) | exact .field _ _ _ | exact .extract _ _ | exact .pick _ _ _ | exact .build _ _ | exact .slice _ _ _ _ _ | exact .unOp _ _ _ rfl | exact .index _ _ _ | exact .max _ _ _ rfl rfl | exact .min _ _ _ rfl rfl)) | ((with_reducible refine Calmly.is_gl ?_); refine Calmly.mix_gl rfl rfl rfl ?_; first | ((first | with_reducible refine Calmly.gl_tt ?_ (fun _ _ => ?_) | with_reducible refine Calmly.gl_ff ?_ (fun _ _ => ?_)); (first | exact .move _ | exact .load _ _ | exact .fieldAddr _ _ _ (by kernel_rfl) | exact .assign _ | exact .binOp _ _ _ _ _ rfl | exact .indexAddr _ _ _ | exact .len _ _ (by kernel_rfl) | exact .field _ _ _ | exact .extract _ _ | exact .pick _ _ _ | exact .build _ _ | exact .slice _ _ _ _ _ | exact .unOp _ _ _ rfl | exact .index _ _ _ | exact .max _ _ _ rfl rfl | exact .min _ _ _ rfl rfl)) | with_reducible refine Calmly.gl_tf (fun _ _ => ?_) | with_reducible refine Calmly.gl_ft (fun _ _ => ?_)) | ((with_reducible refine Calmly.is_eff ?_); refine Calmly.mix_eff rfl (fun _ _ => ?_)) | ((with_reducible refine Calmly.is_gf ?_); refine Calmly.mix_gf rfl rfl rfl ?_; first | with_reducible refine Calmly.gf_tt (fun _ _ => ?_) | with_reducible refine Calmly.gf_ff (fun _ _ => ?_) | with_reducible refine Calmly.gf_tf (kept_of hk) (fun _ _ => ?_) | with_reducible refine Calmly.gf_ft (kept_of hk) (fun _ _ => ?_)) | ((with_reducible refine Calmly.is_tail ?_); first | refine Calmly.mix_tail_nil ?_ | refine Calmly.mix_tail rfl (fun _ _ => ?_)) | ((with_reducible refine Calmly.is_kept ?_); refine ⟨kept_of hk, ?_⟩) | (with_reducible refine Calmly.mix_alt ?_ ?_))
      go_roundw
      case rel => exact ⟨k + 1, _, _, _, _, _, _, _, _, by omega, by go_num, below4 hbr6 (by omega), X9, by rw [← HM.out, ← HO.out] at W1 W2; exact ⟨W1, W2⟩, by omega, by omega⟩
      case measure => simp [intOf]; omega
    · have hle : (n : Int) ≤ (k : Int) := by omega
      obtain rfl : k = n := by omega
      have hnm := sumQ_num hf k (by have := HN.out; omega)
      have e0 := cell_block X1 0
      have f0 := cell_block X3 0
      have f1 := cell_block X3 1
      have f2 := cell_block X3 2
      have f3 := cell_block X3 3
      go_wp2_with fail
      refine (RatioFrac_any _ _ _ _ _ _ _ _ _ _ gV (by omega) (by omega) (by omega)).mono ?_
      rintro e w5 ⟨rfl, hs⟩
      replace X2 := blk_keep X2 hs
      replace BW := BW.trans (hs.mono BW.size)
      have g0 := cell_block X2 0
      have g1 := cell_block X2 1
      have g2 := frozen_block X2 0
      have g3 := frozen_block X2 1
      have s5 := blk_lt X2
      obtain ⟨t1, t2, _, _⟩ := set2 (x := .int .i64 (sumQ ms ks k).num) (y := .int .i64 ((sumQ ms ks k).den : Int)) g0 g1
      have u1 := cell_keep t1 (hA _ (.cells #[.int .i64 (sumQ ms ks k).num, .int .i64 ((sumQ ms ks k).den : Int)] 34))
      have u2 := cell_keep t2 (hA _ (.cells #[.int .i64 (sumQ ms ks k).num, .int .i64 ((sumQ ms ks k).den : Int)] 34))
      go_wp2_with fail
      refine bodyPost_ret (v := .agg #[.int .i64 (sumQ ms ks k).num, .int .i64 ((sumQ ms ks k).den : Int)]) (by simp [results, Try.results24, go_sem, u1, u2]) rfl ⟨rfl, ?_⟩
      exact ((BW.setCell (by simp) _).setCell (by simp) _).alloc (by simp; omega) _
end Go.Proofs.Ytmaidjankakppaa
