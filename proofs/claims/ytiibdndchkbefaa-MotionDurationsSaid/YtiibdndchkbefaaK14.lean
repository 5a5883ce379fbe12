/- The claim of MotionDurations. -/
import Derived.Test.YtiibdndchkbefaaK13
import Derived.Test.YtiibdndchkbefaaRows
namespace Go.Proofs.Ytiibdndchkbefaa
open Go.RowKit
open Calmly (Kept)


theorem kept_setD {W w : World} {b : Nat} {x y u0 u1 : Value} {t : TypeId} {G : Prop} (h : Below W.heap.size W w) (hb : W.heap.size ≤ b) (p : w.heap[b]? = some (.cells #[u0, u1] t))
    (k : Below W.heap.size W ((w.setCell ⟨b, 0, none⟩ x).setCell ⟨b, 1, none⟩ y) → ((w.setCell ⟨b, 0, none⟩ x).setCell ⟨b, 1, none⟩ y).heap[b]? = some (.cells #[x, y] t) → G) :
    Kept W ((w.setCell ⟨b, 0, none⟩ x).setCell ⟨b, 1, none⟩ y) ∧ G := by
  have h2 := (h.setCell (p := ⟨b, 0, none⟩) hb x).setCell (p := ⟨b, 1, none⟩) hb y
  exact ⟨kept_of h2, k h2 (blk_setAt (blk_setAt p 0 _) 1 _)⟩
theorem kept_allocD {W w : World} {o : Obj} {G : Prop} (h : Below W.heap.size W w) (k : Below w.heap.size w (w.alloc o) → Below W.heap.size W (w.alloc o) → (w.alloc o).heap[w.heap.size]? = some o → G) : Kept W (w.alloc o) ∧ G :=
  ⟨kept_of (h.alloc h.size o), k ((Below.refl _ _).alloc (Nat.le_refl _) _) (h.alloc h.size o) (alloc_new w o)⟩
theorem shsE_ok {p q p' q' : Int} (h : shsE p q p' q' = 0) : shrE p q = 0 ∧ shrE p' q' = 0 ∧ p * q' ≤ p' * q := by
  unfold shsE at h
  by_cases h1 : shrE p q = 0
  · rw [if_pos h1] at h
    by_cases h2 : shrE p' q' = 0
    · rw [if_pos h2] at h
      by_cases h3 : p' * q < p * q'
      · rw [if_pos h3] at h; cases h
      · exact ⟨h1, h2, by omega⟩
    · rw [if_neg h2] at h; exact absurd h h2
  · rw [if_neg h1] at h; exact absurd h h1
/-- The outcome of DurationOf, as numbers. -/
theorem dur_ex {step : Int} {xs : List Int} {n : Nat} {p q p' q' F : Int} (hn : xs.length = n) (hF : (if (recF step xs).2 = 0 then shsE p q p' q' else (recF step xs).2) = F) :
    ∃ (E : Int) (lo hi : Nat), (F ≠ 0 → E = F ∧ lo = 0 ∧ hi = 0) ∧ (F = 0 → E = 0 ∧ FirstAt xs n p q lo ∧ FirstAt xs n p' q' hi) := by
  by_cases h : F = 0
  · have hr : (recF step xs).2 = 0 := by
      by_cases h1 : (recF step xs).2 = 0
      · exact h1
      · rw [if_neg h1] at hF; exact hF.trans h
    rw [if_pos hr] at hF
    obtain ⟨k1, k2, k3⟩ := shsE_ok (hF.trans h)
    obtain ⟨r1, r2, r3, r4, r5⟩ := recF_ok hr
    obtain ⟨a1, a2, a3, a4⟩ := shrE_ok k1
    obtain ⟨b1, b2, b3, b4⟩ := shrE_ok k2
    obtain ⟨t, t1, t2, t3⟩ := rch_ex r5 (n := n) (by omega) a2
    obtain ⟨u, u1, u2, u3⟩ := rch_ex r5 (n := n) (by omega) b2
    exact ⟨0, t, u, fun hh => absurd h hh, fun _ => ⟨rfl, ⟨t1, t2, t3⟩, ⟨u1, u2, u3⟩⟩⟩
  · exact ⟨F, 0, 0, fun _ => ⟨rfl, rfl, rfl⟩, fun hh => absurd hh h⟩

set_option maxRecDepth 100000 in
set_option maxHeartbeats 8000000 in
theorem MotionDurations_walk (step : Int) (a : Option Addr) (n c : Nat) (xs : List Int) (p q p' q' P Q P' Q' : Int) (w : World) (h1 : SI w a n c xs) (hp1 : -9223372036854775808 ≤ p) (hp2 : p ≤ 9223372036854775807) (hq2 : q ≤ 9223372036854775807) (hp1' : -9223372036854775808 ≤ p') (hp2' : p' ≤ 9223372036854775807) (hq2' : q' ≤ 9223372036854775807)
    (hP1 : -9223372036854775808 ≤ P) (hP2 : P ≤ 9223372036854775807) (hQ2 : Q ≤ 9223372036854775807) (hP1' : -9223372036854775808 ≤ P') (hP2' : P' ≤ 9223372036854775807) (hQ2' : Q' ≤ 9223372036854775807) :
    Calls Try.prog 9 #[.agg #[.int .i64 step, .slice a n c], .agg #[.int .i64 p, .int .i64 q, .int .i64 p', .int .i64 q'], .agg #[.int .i64 P, .int .i64 Q, .int .i64 P', .int .i64 Q']] w fun r w' => r = .returned (.bool true) ∧ Below w.heap.size w w' := by
  have hA : ∀ (A : World) (o : Obj), Below A.heap.size A (A.alloc o) := fun A o => (Below.refl _ _).alloc (Nat.le_refl _) _
  obtain ⟨W, hW⟩ : ∃ W, ((w.alloc (.cells #[.int .i64 step, .slice a n c] 24)).alloc (.cells #[.int .i64 p, .int .i64 q, .int .i64 p', .int .i64 q'] 88)).alloc (.cells #[.int .i64 P, .int .i64 Q, .int .i64 P', .int .i64 Q'] 88) = W := ⟨_, rfl⟩
  have BW : Below w.heap.size w W := by rw [← hW]; exact (((Below.refl _ _).alloc (Nat.le_refl _) _).alloc (by simp) _).alloc (by simp; omega) _
  have x1 : W.heap[w.heap.size]? = some (.cells #[.int .i64 step, .slice a n c] 24) := by
    rw [← hW]
    exact blk_keep (blk_keep (alloc_new w _) (hA _ _)) (hA _ _)
  have x2 : W.heap[w.heap.size + 1]? = some (.cells #[.int .i64 p, .int .i64 q, .int .i64 p', .int .i64 q'] 88) := by
    rw [← hW]
    have := alloc_new (w.alloc (.cells #[.int .i64 step, .slice a n c] 24)) (.cells #[.int .i64 p, .int .i64 q, .int .i64 p', .int .i64 q'] 88)
    simp only [World.size_alloc] at this
    exact blk_keep this (hA _ _)
  have x3 : W.heap[w.heap.size + 1 + 1]? = some (.cells #[.int .i64 P, .int .i64 Q, .int .i64 P', .int .i64 Q'] 88) := by
    rw [← hW]
    have := alloc_new ((w.alloc (.cells #[.int .i64 step, .slice a n c] 24)).alloc (.cells #[.int .i64 p, .int .i64 q, .int .i64 p', .int .i64 q'] 88)) (.cells #[.int .i64 P, .int .i64 Q, .int .i64 P', .int .i64 Q'] 88)
    simpa only [World.size_alloc] using this
  have HW := Lib.hid hW
  clear hW
  obtain ⟨l1, l2⟩ : n ≤ xs.length ∧ xs.length ≤ n := by have := h1.len; omega
  have m1 := h1.max
  have c1 := h1.cap
  go_enter Try.func9, Try.ntmps9
  go_wp2_with fail
  rw [HW.out]
  refine (awake_any _).mono ?_
  rintro r w1 ⟨rfl, hs⟩
  replace x1 := blk_keep x1 hs; replace x2 := blk_keep x2 hs; replace x3 := blk_keep x3 hs; (try replace pA := blk_keep pA hs); (try replace pB := blk_keep pB hs); replace BW := BW.trans (hs.mono BW.size); clear hs; (try clear f0 f1 g0 g1 g2 g3 y0 y1 y2 y3); have f0 := cell_block x1 0; have f1 := cell_block x1 1; have g0 := cell_block x2 0; have g1 := cell_block x2 1; have g2 := cell_block x2 2; have g3 := cell_block x2 3; have y0 := cell_block x3 0; have y1 := cell_block x3 1; have y2 := cell_block x3 2; have y3 := cell_block x3 3; (try clear zA0 zA1); (try have zA0 := cell_block pA 0); (try have zA1 := cell_block pA 1); (try clear zB0 zB1); (try have zB0 := cell_block pB 0); (try have zB1 := cell_block pB 1)
  go_wp2_with fail
  refine (few_any step a n c _ c1 m1).mono ?_
  rintro r w2 ⟨rfl, hs⟩
  replace x1 := blk_keep x1 hs; replace x2 := blk_keep x2 hs; replace x3 := blk_keep x3 hs; (try replace pA := blk_keep pA hs); (try replace pB := blk_keep pB hs); replace BW := BW.trans (hs.mono BW.size); clear hs; (try clear f0 f1 g0 g1 g2 g3 y0 y1 y2 y3); have f0 := cell_block x1 0; have f1 := cell_block x1 1; have g0 := cell_block x2 0; have g1 := cell_block x2 1; have g2 := cell_block x2 2; have g3 := cell_block x2 3; have y0 := cell_block x3 0; have y1 := cell_block x3 1; have y2 := cell_block x3 2; have y3 := cell_block x3 3; (try clear zA0 zA1); (try have zA0 := cell_block pA 0); (try have zA1 := cell_block pA 1); (try clear zB0 zB1); (try have zB0 := cell_block pB 0); (try have zB1 := cell_block pB 1)
  by_cases hn : n ≤ 26
  case neg =>
    rw [show decide (n ≤ 26) = false from by simpa using hn]
    go_wp2_with fail
    go_ret
    exact ⟨rfl, BW⟩
  rw [show decide (n ≤ 26) = true from by simpa using hn]
  obtain ⟨rE, hrE⟩ : ∃ x, (recF step xs).2 = x := ⟨_, rfl⟩
  obtain ⟨F, hF⟩ : ∃ F, (if (recF step xs).2 = 0 then shsE p q p' q' else (recF step xs).2) = F := ⟨_, rfl⟩
  obtain ⟨G, hG⟩ : ∃ F, (if (recF step xs).2 = 0 then shsE P Q P' Q' else (recF step xs).2) = F := ⟨_, rfl⟩
  obtain ⟨E1, lo, hi, hE1, hE2⟩ := dur_ex (n := n) (by omega) hF
  obtain ⟨E2, Lo, Hi, hE3, hE4⟩ := dur_ex (n := n) (by omega) hG
  obtain ⟨s1, hs1⟩ : ∃ x, shsE p q p' q' = x := ⟨_, rfl⟩
  obtain ⟨s2, hs2⟩ : ∃ x, shsE P Q P' Q' = x := ⟨_, rfl⟩
  have HRE := Lib.hid hrE
  have HF := Lib.hid hF
  have HG := Lib.hid hG
  have HE1 := Lib.hid hE1
  have HE2 := Lib.hid hE2
  have HE3 := Lib.hid hE3
  have HE4 := Lib.hid hE4
  have HS1 := Lib.hid hs1
  have HS2 := Lib.hid hs2
  clear hrE hF hG hE1 hE2 hE3 hE4 hs1 hs2
  go_wp2_with fail
  refine Calmly.wp_region_mix 9 (.fl 0 <| .fl 2 <| .alt 1 (.alt 3 (.fl 4 <| .fl 5 <| .fl 6 <| .eff 7 <| .eff 8 <| .tail [9]) (.eff 7 (.eff 3 <| .fl 4 <| .fl 5 <| .fl 6 <| .eff 8 <| .tail [9]))) (.eff 7 (.eff 1 <| .eff 3 <| .fl 4 <| .fl 5 <| .fl 6 <| .eff 8 <| .tail [9]))) (by kernel_rfl) (by kernel_rfl) ?_
  have hs := (Below.refl w2.heap.size w2).drew
  replace x1 := blk_keep x1 hs; replace x2 := blk_keep x2 hs; replace x3 := blk_keep x3 hs; (try replace pA := blk_keep pA hs); (try replace pB := blk_keep pB hs); replace BW := BW.trans (hs.mono BW.size); clear hs; (try clear f0 f1 g0 g1 g2 g3 y0 y1 y2 y3); have f0 := cell_block x1 0; have f1 := cell_block x1 1; have g0 := cell_block x2 0; have g1 := cell_block x2 1; have g2 := cell_block x2 2; have g3 := cell_block x2 3; have y0 := cell_block x3 0; have y1 := cell_block x3 1; have y2 := cell_block x3 2; have y3 := cell_block x3 3; (try clear zA0 zA1); (try have zA0 := cell_block pA 0); (try have zA1 := cell_block pA 1); (try clear zB0 zB1); (try have zB0 := cell_block pB 0); (try have zB1 := cell_block pB 1)
  generalize w2.drew = w5 at x1 x2 x3 BW f0 f1 g0 g1 g2 g3 y0 y1 y2 y3 ⊢
  have hk := Below.refl w5.heap.size w5
  go_wp2_with (first | ((with_reducible refine Calmly.is_fl ?_); refine Calmly.mix_fl rfl ?_ (fun _ _ => ?_); (first | exact .move _ | exact .load _ _ | exact .fieldAddr _ _ _ (by kernel_rfl) | exact .assign _ | exact .binOp _ _ _ _ _ rfl | exact .indexAddr _ _ _ | exact .len _ _ (by kernel_rfl) | exact .field _ _ _ | exact .extract _ _ | exact .pick _ _ _ | exact .build _ _ | exact .slice _ _ _ _ _ | exact .unOp _ _ _ rfl | exact .index _ _ _ | exact .max _ _ _ rfl rfl | exact .min _ _ _ rfl rfl)) | ((with_reducible refine Calmly.is_gl ?_); refine Calmly.mix_gl rfl rfl rfl ?_; first | ((first | with_reducible refine Calmly.gl_tt ?_ (fun _ _ => ?_) | with_reducible refine Calmly.gl_ff ?_ (fun _ _ => ?_)); (first | exact .move _ | exact .load _ _ | exact .fieldAddr _ _ _ (by kernel_rfl) | exact .assign _ | exact .binOp _ _ _ _ _ rfl | exact .indexAddr _ _ _ | exact .len _ _ (by kernel_rfl) | exact .field _ _ _ | exact .extract _ _ | exact .pick _ _ _ | exact .build _ _ | exact .slice _ _ _ _ _ | exact .unOp _ _ _ rfl | exact .index _ _ _ | exact .max _ _ _ rfl rfl | exact .min _ _ _ rfl rfl)) | with_reducible refine Calmly.gl_tf (fun _ _ => ?_) | with_reducible refine Calmly.gl_ft (fun _ _ => ?_)) | ((with_reducible refine Calmly.is_eff ?_); refine Calmly.mix_eff rfl (fun _ _ => ?_)) | ((with_reducible refine Calmly.is_gf ?_); refine Calmly.mix_gf rfl rfl rfl ?_; first | with_reducible refine Calmly.gf_tt (fun _ _ => ?_) | with_reducible refine Calmly.gf_ff (fun _ _ => ?_) | with_reducible refine Calmly.gf_tf (kept_of hk) (fun _ _ => ?_) | with_reducible refine Calmly.gf_ft (kept_of hk) (fun _ _ => ?_)) | ((with_reducible refine Calmly.is_kept ?_); refine ⟨kept_of hk, ?_⟩) | (with_reducible refine Calmly.mix_alt ?_ ?_) | (go_at_call 18; refine (copy_any step a n c xs _ ((h1.keep BW).keep hk) (by omega)).mono ?_; rintro r w' ⟨a1, k1, rfl, s1', hs⟩; replace hk := step_of hk hs; (try replace pA := blk_keep pA hs); clear hs) | (go_at_call 52; refine (DurationOf_any step a1 n k1 xs p q p' q' _ s1' hp1 hp2 hq2 hp1' hp2' hq2' F E1 lo hi HF.out HE1.out HE2.out).mono ?_; rintro r w' ⟨rfl, hs⟩; replace hk := step_of hk hs; clear s1'; (try replace pA := blk_keep pA hs); clear hs; (try have zA0 := cell_block pA 0); (try have zA1 := cell_block pA 1); (try have zA2 := frozen_block pA 0); (try have zA3 := frozen_block pA 1)) | (refine kept_setD hk hAge pA (fun hk' h1' => ?_); replace hk := hk'; replace pA := h1'; clear hk' h1' zA0 zA1 zA2 zA3; generalize World.setCell (World.setCell _ _ _) _ _ = W' at hk pA ⊢) | (have hAge := hk.size; refine kept_allocD hk (fun hs hk' hblk => ?_); (try replace s1' := s1'.keep hs); (first | generalize World.alloc _ _ = W' at hs hk' hblk s1' ⊢ | generalize World.alloc _ _ = W' at hs hk' hblk ⊢); replace hk := hk'; clear hk'; have pA := hblk; clear hs hblk; have zA0 := cell_block pA 0; have zA1 := cell_block pA 1; have zA2 := frozen_block pA 0; have zA3 := frozen_block pA 1))
  all_goals
    as_aux_lemma =>
    replace x1 := blk_keep x1 hk
    replace x2 := blk_keep x2 hk
    replace x3 := blk_keep x3 hk
    replace BW := BW.trans (hk.mono BW.size)
    (try clear f0 f1 g0 g1 g2 g3 y0 y1 y2 y3); have f0 := cell_block x1 0; have f1 := cell_block x1 1; have g0 := cell_block x2 0; have g1 := cell_block x2 1; have g2 := cell_block x2 2; have g3 := cell_block x2 3; have y0 := cell_block x3 0; have y1 := cell_block x3 1; have y2 := cell_block x3 2; have y3 := cell_block x3 3; (try clear zA0 zA1); (try have zA0 := cell_block pA 0); (try have zA1 := cell_block pA 1); (try clear zB0 zB1); (try have zB0 := cell_block pB 0); (try have zB1 := cell_block pB 1)
    go_wp2_with (first | ((with_reducible refine Calmly.is_fl ?_); refine Calmly.mix_fl rfl ?_ (fun _ _ => ?_); (first | exact .move _ | exact .load _ _ | exact .fieldAddr _ _ _ (by kernel_rfl) | exact .assign _ | exact .binOp _ _ _ _ _ rfl | exact .indexAddr _ _ _ | exact .len _ _ (by kernel_rfl) | exact .field _ _ _ | exact .extract _ _ | exact .pick _ _ _ | exact .build _ _ | exact .slice _ _ _ _ _ | exact .unOp _ _ _ rfl | exact .index _ _ _ | exact .max _ _ _ rfl rfl | exact .min _ _ _ rfl rfl)) | ((with_reducible refine Calmly.is_gl ?_); refine Calmly.mix_gl rfl rfl rfl ?_; first | ((first | with_reducible refine Calmly.gl_tt ?_ (fun _ _ => ?_) | with_reducible refine Calmly.gl_ff ?_ (fun _ _ => ?_)); (first | exact .move _ | exact .load _ _ | exact .fieldAddr _ _ _ (by kernel_rfl) | exact .assign _ | exact .binOp _ _ _ _ _ rfl | exact .indexAddr _ _ _ | exact .len _ _ (by kernel_rfl) | exact .field _ _ _ | exact .extract _ _ | exact .pick _ _ _ | exact .build _ _ | exact .slice _ _ _ _ _ | exact .unOp _ _ _ rfl | exact .index _ _ _ | exact .max _ _ _ rfl rfl | exact .min _ _ _ rfl rfl)) | with_reducible refine Calmly.gl_tf (fun _ _ => ?_) | with_reducible refine Calmly.gl_ft (fun _ _ => ?_)) | ((with_reducible refine Calmly.is_eff ?_); refine Calmly.mix_eff rfl (fun _ _ => ?_)) | ((with_reducible refine Calmly.is_gf ?_); refine Calmly.mix_gf rfl rfl rfl ?_; first | with_reducible refine Calmly.gf_tt (fun _ _ => ?_) | with_reducible refine Calmly.gf_ff (fun _ _ => ?_) | with_reducible refine Calmly.gf_tf (kept_of hk) (fun _ _ => ?_) | with_reducible refine Calmly.gf_ft (kept_of hk) (fun _ _ => ?_)) | ((with_reducible refine Calmly.is_tail ?_); first | refine Calmly.mix_tail_nil ?_ | refine Calmly.mix_tail rfl (fun _ _ => ?_)) | ((with_reducible refine Calmly.is_kept ?_); refine ⟨kept_of hk, ?_⟩) | (with_reducible refine Calmly.mix_alt ?_ ?_))
    clear hk hAge
    refine (rRecordErr_any step a n c xs _ (h1.keep BW) rE HRE.out).mono ?_
    rintro r w8 ⟨rfl, hs⟩
    replace x1 := blk_keep x1 hs; replace x2 := blk_keep x2 hs; replace x3 := blk_keep x3 hs; (try replace pA := blk_keep pA hs); (try replace pB := blk_keep pB hs); replace BW := BW.trans (hs.mono BW.size); clear hs; (try clear f0 f1 g0 g1 g2 g3 y0 y1 y2 y3); have f0 := cell_block x1 0; have f1 := cell_block x1 1; have g0 := cell_block x2 0; have g1 := cell_block x2 1; have g2 := cell_block x2 2; have g3 := cell_block x2 3; have y0 := cell_block x3 0; have y1 := cell_block x3 1; have y2 := cell_block x3 2; have y3 := cell_block x3 3; (try clear zA0 zA1); (try have zA0 := cell_block pA 0); (try have zA1 := cell_block pA 1); (try clear zB0 zB1); (try have zB0 := cell_block pB 0); (try have zB1 := cell_block pB 1)
    by_cases hz : rE = 0
    case neg =>
      have hFe : F = rE := by rw [← HF.out, HRE.out, if_neg hz]
      obtain ⟨u1, u2, u3⟩ := HE1.out (by rw [hFe]; exact hz)
      have b1 : (rE == 0) = false := by simpa using hz
      have b2 : (rE != 0) = true := by simpa using hz
      rw [hFe] at u1
      subst u1 u2 u3
      clear hz hFe
      go_wp2_with fail
      go_ret
      exact ⟨rfl, BW⟩
    subst hz
    go_wp2_with fail
    refine (rSharesErr_any p q p' q' _ hp1 hp2 hq2 hp1' hp2' hq2' s1 HS1.out).mono ?_
    rintro r w9 ⟨rfl, hs⟩
    replace x1 := blk_keep x1 hs; replace x2 := blk_keep x2 hs; replace x3 := blk_keep x3 hs; (try replace pA := blk_keep pA hs); (try replace pB := blk_keep pB hs); replace BW := BW.trans (hs.mono BW.size); clear hs; (try clear f0 f1 g0 g1 g2 g3 y0 y1 y2 y3); have f0 := cell_block x1 0; have f1 := cell_block x1 1; have g0 := cell_block x2 0; have g1 := cell_block x2 1; have g2 := cell_block x2 2; have g3 := cell_block x2 3; have y0 := cell_block x3 0; have y1 := cell_block x3 1; have y2 := cell_block x3 2; have y3 := cell_block x3 3; (try clear zA0 zA1); (try have zA0 := cell_block pA 0); (try have zA1 := cell_block pA 1); (try clear zB0 zB1); (try have zB0 := cell_block pB 0); (try have zB1 := cell_block pB 1)
    by_cases hz : s1 = 0
    case neg =>
      have hFe : F = s1 := by rw [← HF.out, HRE.out, if_pos rfl, HS1.out]
      obtain ⟨u1, u2, u3⟩ := HE1.out (by rw [hFe]; exact hz)
      have b2 : (s1 != 0) = true := by simpa using hz
      rw [hFe] at u1
      subst u1 u2 u3
      clear hz hFe
      go_wp2_with fail
      go_ret
      exact ⟨rfl, BW⟩
    subst hz
    have hFe : F = 0 := by rw [← HF.out, HRE.out, if_pos rfl, HS1.out]
    obtain ⟨u1, u2, u3⟩ := HE2.out hFe
    subst u1
    obtain ⟨r1, r2, r3, r4, r5⟩ := recF_ok HRE.out
    obtain ⟨k1, k2, k3⟩ := shsE_ok HS1.out
    obtain ⟨i1, i2, i3, i4⟩ := shrE_ok k1
    obtain ⟨j1, j2, j3, j4⟩ := shrE_ok k2
    have hle : lo ≤ hi := rch_mono r5 i3 j3 k3 u2.2.2 u3.2.1
    have hhi : hi < n := u3.1
    have hw : wIn (lo : Int) 0 (hi : Int) = true := wIn_iff.2 (by omega)
    have hhi' : (hi : Int) < (n : Int) := by omega
    have H5 := Lib.hid r5
    have HT1 := Lib.hid u2
    have HT2 := Lib.hid u3
    have HK3 := Lib.hid k3
    clear hFe u2 u3 r1 r2 r3 r4 r5 k1 k2 k3 HE1 HE2 hle
    go_wp2_with fail
    refine Calmly.wp_region_mix 25 (.fl 0 <| .fl 1 <| .fl 2 <| .gl 3 <| .gl 4 <| .gl 5 <| .gl 6 <| .gf 7 <| .gf 8 <| .fl 9 <| .fl 10 <| .gl 11 <| .gl 12 <| .gl 13 <| .gl 14 <| .gf 15 <| .gl 16 <| .fl 17 <| .fl 18 <| .gl 19 <| .gl 20 <| .gl 21 <| .gl 22 <| .gl 23 <| .gl 24 <| .tail [25]) (by kernel_rfl) (by kernel_rfl) ?_
    have hs := (Below.refl w9.heap.size w9).drew
    replace x1 := blk_keep x1 hs; replace x2 := blk_keep x2 hs; replace x3 := blk_keep x3 hs; (try replace pA := blk_keep pA hs); (try replace pB := blk_keep pB hs); replace BW := BW.trans (hs.mono BW.size); clear hs; (try clear f0 f1 g0 g1 g2 g3 y0 y1 y2 y3); have f0 := cell_block x1 0; have f1 := cell_block x1 1; have g0 := cell_block x2 0; have g1 := cell_block x2 1; have g2 := cell_block x2 2; have g3 := cell_block x2 3; have y0 := cell_block x3 0; have y1 := cell_block x3 1; have y2 := cell_block x3 2; have y3 := cell_block x3 3; (try clear zA0 zA1); (try have zA0 := cell_block pA 0); (try have zA1 := cell_block pA 1); (try clear zB0 zB1); (try have zB0 := cell_block pB 0); (try have zB1 := cell_block pB 1)
    generalize w9.drew = v1 at x1 x2 x3 pA BW f0 f1 g0 g1 g2 g3 y0 y1 y2 y3 zA0 zA1 ⊢
    have hk := Below.refl v1.heap.size v1
    go_wp2_with (first | ((with_reducible refine Calmly.is_fl ?_); refine Calmly.mix_fl rfl ?_ (fun _ _ => ?_); (first | exact .move _ | exact .load _ _ | exact .fieldAddr _ _ _ (by kernel_rfl) | exact .assign _ | exact .binOp _ _ _ _ _ rfl | exact .indexAddr _ _ _ | exact .len _ _ (by kernel_rfl) | exact .field _ _ _ | exact .extract _ _ | exact .pick _ _ _ | exact .build _ _ | exact .slice _ _ _ _ _ | exact .unOp _ _ _ rfl | exact .index _ _ _ | exact .max _ _ _ rfl rfl | exact .min _ _ _ rfl rfl)) | ((with_reducible refine Calmly.is_gl ?_); refine Calmly.mix_gl rfl rfl rfl ?_; first | ((first | with_reducible refine Calmly.gl_tt ?_ (fun _ _ => ?_) | with_reducible refine Calmly.gl_ff ?_ (fun _ _ => ?_)); (first | exact .move _ | exact .load _ _ | exact .fieldAddr _ _ _ (by kernel_rfl) | exact .assign _ | exact .binOp _ _ _ _ _ rfl | exact .indexAddr _ _ _ | exact .len _ _ (by kernel_rfl) | exact .field _ _ _ | exact .extract _ _ | exact .pick _ _ _ | exact .build _ _ | exact .slice _ _ _ _ _ | exact .unOp _ _ _ rfl | exact .index _ _ _ | exact .max _ _ _ rfl rfl | exact .min _ _ _ rfl rfl)) | with_reducible refine Calmly.gl_tf (fun _ _ => ?_) | with_reducible refine Calmly.gl_ft (fun _ _ => ?_)) | ((with_reducible refine Calmly.is_eff ?_); refine Calmly.mix_eff rfl (fun _ _ => ?_)) | ((with_reducible refine Calmly.is_gf ?_); refine Calmly.mix_gf rfl rfl rfl ?_; first | with_reducible refine Calmly.gf_tt (fun _ _ => ?_) | with_reducible refine Calmly.gf_ff (fun _ _ => ?_) | with_reducible refine Calmly.gf_tf (kept_of hk) (fun _ _ => ?_) | with_reducible refine Calmly.gf_ft (kept_of hk) (fun _ _ => ?_)) | ((with_reducible refine Calmly.is_tail ?_); first | refine Calmly.mix_tail_nil ?_ | refine Calmly.mix_tail rfl (fun _ _ => ?_)) | ((with_reducible refine Calmly.is_kept ?_); refine ⟨kept_of hk, ?_⟩) | (with_reducible refine Calmly.mix_alt ?_ ?_) | (go_at_call 54; refine (rDuration_any a n c xs p q p' q' lo hi _ ((h1.keep BW).keep hk) hn H5.out i1 i2 i4 HT1.out j1 j2 j4 HT2.out).mono ?_; rintro r v2 ⟨rfl, hs⟩; replace hk := step_of hk hs; clear hs; have q0 := cell_block (blk_keep x3 hk) 0; have q1 := cell_block (blk_keep x3 hk) 1; have q2 := cell_block (blk_keep x3 hk) 2; have q3 := cell_block (blk_keep x3 hk) 3) | (go_at_call 28; refine (within_any _ _ _ _).mono ?_; rintro r v3 ⟨rfl, rfl⟩; rw [hw]))
    have hs := hk
    clear hk q0 q1 q2 q3
    replace x1 := blk_keep x1 hs; replace x2 := blk_keep x2 hs; replace x3 := blk_keep x3 hs; (try replace pA := blk_keep pA hs); (try replace pB := blk_keep pB hs); replace BW := BW.trans (hs.mono BW.size); clear hs; (try clear f0 f1 g0 g1 g2 g3 y0 y1 y2 y3); have f0 := cell_block x1 0; have f1 := cell_block x1 1; have g0 := cell_block x2 0; have g1 := cell_block x2 1; have g2 := cell_block x2 2; have g3 := cell_block x2 3; have y0 := cell_block x3 0; have y1 := cell_block x3 1; have y2 := cell_block x3 2; have y3 := cell_block x3 3; (try clear zA0 zA1); (try have zA0 := cell_block pA 0); (try have zA1 := cell_block pA 1); (try clear zB0 zB1); (try have zB0 := cell_block pB 0); (try have zB1 := cell_block pB 1)
    refine (rSharesErr_any P Q P' Q' _ hP1 hP2 hQ2 hP1' hP2' hQ2' s2 HS2.out).mono ?_
    rintro r w10 ⟨rfl, hs⟩
    replace x1 := blk_keep x1 hs; replace x2 := blk_keep x2 hs; replace x3 := blk_keep x3 hs; (try replace pA := blk_keep pA hs); (try replace pB := blk_keep pB hs); replace BW := BW.trans (hs.mono BW.size); clear hs; (try clear f0 f1 g0 g1 g2 g3 y0 y1 y2 y3); have f0 := cell_block x1 0; have f1 := cell_block x1 1; have g0 := cell_block x2 0; have g1 := cell_block x2 1; have g2 := cell_block x2 2; have g3 := cell_block x2 3; have y0 := cell_block x3 0; have y1 := cell_block x3 1; have y2 := cell_block x3 2; have y3 := cell_block x3 3; (try clear zA0 zA1); (try have zA0 := cell_block pA 0); (try have zA1 := cell_block pA 1); (try clear zB0 zB1); (try have zB0 := cell_block pB 0); (try have zB1 := cell_block pB 1)
    by_cases hz : s2 = 0
    case neg =>
      have b2 : (s2 != 0) = true := by simpa using hz
      clear hz
      go_wp2_with fail
      go_ret
      exact ⟨rfl, BW⟩
    subst hz
    obtain ⟨k1, k2, k4⟩ := shsE_ok HS2.out
    obtain ⟨I1, I2, I3, I4⟩ := shrE_ok k1
    obtain ⟨J1, J2, J3, J4⟩ := shrE_ok k2
    clear k1 k2 k4
    go_wp2_with fail
    refine (Cmp_fr P Q p q _ (by omega) (by omega) (by omega) (by omega) (by omega) (by omega) (by omega) (by omega)).mono ?_
    rintro r w11 ⟨rfl, hs⟩
    replace x1 := blk_keep x1 hs; replace x2 := blk_keep x2 hs; replace x3 := blk_keep x3 hs; (try replace pA := blk_keep pA hs); (try replace pB := blk_keep pB hs); replace BW := BW.trans (hs.mono BW.size); clear hs; (try clear f0 f1 g0 g1 g2 g3 y0 y1 y2 y3); have f0 := cell_block x1 0; have f1 := cell_block x1 1; have g0 := cell_block x2 0; have g1 := cell_block x2 1; have g2 := cell_block x2 2; have g3 := cell_block x2 3; have y0 := cell_block x3 0; have y1 := cell_block x3 1; have y2 := cell_block x3 2; have y3 := cell_block x3 3; (try clear zA0 zA1); (try have zA0 := cell_block pA 0); (try have zA1 := cell_block pA 1); (try clear zB0 zB1); (try have zB0 := cell_block pB 0); (try have zB1 := cell_block pB 1)
    by_cases hc1 : p * Q < P * q
    · have hcc : cmpQ (P * q) (p * Q) = 1 := by unfold cmpQ; rw [if_neg (by omega), if_pos hc1]
      rw [hcc]
      clear hcc hc1
      go_wp2_with fail
      go_ret
      exact ⟨rfl, BW⟩
    obtain ⟨cc, hcc⟩ : ∃ cc, cmpQ (P * q) (p * Q) = cc := ⟨_, rfl⟩
    have hc0 : cc ≤ 0 := by rw [← hcc]; unfold cmpQ; split <;> (try split) <;> omega
    rw [hcc]
    have hM1 : P * q ≤ p * Q := by omega
    have HM1 := Lib.hid hM1
    clear hcc hc1 hM1
    go_wp2_with fail
    refine (Cmp_fr P' Q' p' q' _ (by omega) (by omega) (by omega) (by omega) (by omega) (by omega) (by omega) (by omega)).mono ?_
    rintro r w12 ⟨rfl, hs⟩
    replace x1 := blk_keep x1 hs; replace x2 := blk_keep x2 hs; replace x3 := blk_keep x3 hs; (try replace pA := blk_keep pA hs); (try replace pB := blk_keep pB hs); replace BW := BW.trans (hs.mono BW.size); clear hs; (try clear f0 f1 g0 g1 g2 g3 y0 y1 y2 y3); have f0 := cell_block x1 0; have f1 := cell_block x1 1; have g0 := cell_block x2 0; have g1 := cell_block x2 1; have g2 := cell_block x2 2; have g3 := cell_block x2 3; have y0 := cell_block x3 0; have y1 := cell_block x3 1; have y2 := cell_block x3 2; have y3 := cell_block x3 3; (try clear zA0 zA1); (try have zA0 := cell_block pA 0); (try have zA1 := cell_block pA 1); (try clear zB0 zB1); (try have zB0 := cell_block pB 0); (try have zB1 := cell_block pB 1)
    by_cases hc2 : P' * q' < p' * Q'
    · have hcc : cmpQ (P' * q') (p' * Q') = -1 := by unfold cmpQ; rw [if_pos hc2]
      rw [hcc]
      clear hcc hc2
      go_wp2_with fail
      go_ret
      exact ⟨rfl, BW⟩
    obtain ⟨cd, hcd⟩ : ∃ cc, cmpQ (P' * q') (p' * Q') = cc := ⟨_, rfl⟩
    have hd0 : 0 ≤ cd := by rw [← hcd]; unfold cmpQ; split <;> (try split) <;> omega
    rw [hcd]
    have hGe : G = 0 := by rw [← HG.out, HRE.out, if_pos rfl, HS2.out]
    obtain ⟨u1, u2, u3⟩ := HE4.out hGe
    have hL1 : (Lo : Int) ≤ (lo : Int) := by
      have := rch_mono H5.out I3 i3 HM1.out u2.2.2 HT1.out.2.1
      omega
    have hL2 : (hi : Int) ≤ (Hi : Int) := by
      have := rch_mono H5.out j3 J3 (show p' * Q' ≤ P' * q' by omega) HT2.out.2.2 u3.2.1
      omega
    subst u1
    have HGe := Lib.hid hGe
    have HU2 := Lib.hid u2
    have HU3 := Lib.hid u3
    clear hcd hc2 hGe u2 u3 HE3 HE4
    go_wp2_with fail
    refine Calmly.wp_region_mix 9 (.fl 0 <| .fl 2 <| .alt 1 (.alt 3 (.fl 4 <| .fl 5 <| .fl 6 <| .eff 7 <| .eff 8 <| .tail [9]) (.eff 7 (.eff 3 <| .fl 4 <| .fl 5 <| .fl 6 <| .eff 8 <| .tail [9]))) (.eff 7 (.eff 1 <| .eff 3 <| .fl 4 <| .fl 5 <| .fl 6 <| .eff 8 <| .tail [9]))) (by kernel_rfl) (by kernel_rfl) ?_
    have hs := (Below.refl w12.heap.size w12).drew
    replace x1 := blk_keep x1 hs; replace x2 := blk_keep x2 hs; replace x3 := blk_keep x3 hs; (try replace pA := blk_keep pA hs); (try replace pB := blk_keep pB hs); replace BW := BW.trans (hs.mono BW.size); clear hs; (try clear f0 f1 g0 g1 g2 g3 y0 y1 y2 y3); have f0 := cell_block x1 0; have f1 := cell_block x1 1; have g0 := cell_block x2 0; have g1 := cell_block x2 1; have g2 := cell_block x2 2; have g3 := cell_block x2 3; have y0 := cell_block x3 0; have y1 := cell_block x3 1; have y2 := cell_block x3 2; have y3 := cell_block x3 3; (try clear zA0 zA1); (try have zA0 := cell_block pA 0); (try have zA1 := cell_block pA 1); (try clear zB0 zB1); (try have zB0 := cell_block pB 0); (try have zB1 := cell_block pB 1)
    generalize w12.drew = v5 at x1 x2 x3 pA BW f0 f1 g0 g1 g2 g3 y0 y1 y2 y3 zA0 zA1 ⊢
    have hk := Below.refl v5.heap.size v5
    go_wp2_with (first | ((with_reducible refine Calmly.is_fl ?_); refine Calmly.mix_fl rfl ?_ (fun _ _ => ?_); (first | exact .move _ | exact .load _ _ | exact .fieldAddr _ _ _ (by kernel_rfl) | exact .assign _ | exact .binOp _ _ _ _ _ rfl | exact .indexAddr _ _ _ | exact .len _ _ (by kernel_rfl) | exact .field _ _ _ | exact .extract _ _ | exact .pick _ _ _ | exact .build _ _ | exact .slice _ _ _ _ _ | exact .unOp _ _ _ rfl | exact .index _ _ _ | exact .max _ _ _ rfl rfl | exact .min _ _ _ rfl rfl)) | ((with_reducible refine Calmly.is_gl ?_); refine Calmly.mix_gl rfl rfl rfl ?_; first | ((first | with_reducible refine Calmly.gl_tt ?_ (fun _ _ => ?_) | with_reducible refine Calmly.gl_ff ?_ (fun _ _ => ?_)); (first | exact .move _ | exact .load _ _ | exact .fieldAddr _ _ _ (by kernel_rfl) | exact .assign _ | exact .binOp _ _ _ _ _ rfl | exact .indexAddr _ _ _ | exact .len _ _ (by kernel_rfl) | exact .field _ _ _ | exact .extract _ _ | exact .pick _ _ _ | exact .build _ _ | exact .slice _ _ _ _ _ | exact .unOp _ _ _ rfl | exact .index _ _ _ | exact .max _ _ _ rfl rfl | exact .min _ _ _ rfl rfl)) | with_reducible refine Calmly.gl_tf (fun _ _ => ?_) | with_reducible refine Calmly.gl_ft (fun _ _ => ?_)) | ((with_reducible refine Calmly.is_eff ?_); refine Calmly.mix_eff rfl (fun _ _ => ?_)) | ((with_reducible refine Calmly.is_gf ?_); refine Calmly.mix_gf rfl rfl rfl ?_; first | with_reducible refine Calmly.gf_tt (fun _ _ => ?_) | with_reducible refine Calmly.gf_ff (fun _ _ => ?_) | with_reducible refine Calmly.gf_tf (kept_of hk) (fun _ _ => ?_) | with_reducible refine Calmly.gf_ft (kept_of hk) (fun _ _ => ?_)) | ((with_reducible refine Calmly.is_kept ?_); refine ⟨kept_of hk, ?_⟩) | (with_reducible refine Calmly.mix_alt ?_ ?_) | (go_at_call 18; refine (copy_any step a n c xs _ ((h1.keep BW).keep hk) (by omega)).mono ?_; rintro r w' ⟨a1, k1, rfl, s1', hs⟩; replace hk := step_of hk hs; (try replace pB := blk_keep pB hs); clear hs) | (go_at_call 52; refine (DurationOf_any step a1 n k1 xs P Q P' Q' _ s1' hP1 hP2 hQ2 hP1' hP2' hQ2' G 0 Lo Hi HG.out (fun h => absurd HGe.out h) (fun _ => ⟨rfl, HU2.out, HU3.out⟩)).mono ?_; rintro r w' ⟨rfl, hs⟩; replace hk := step_of hk hs; clear s1'; (try replace pB := blk_keep pB hs); clear hs; (try have zB0 := cell_block pB 0); (try have zB1 := cell_block pB 1); (try have zB2 := frozen_block pB 0); (try have zB3 := frozen_block pB 1)) | (refine kept_setD hk hAge pB (fun hk' h1' => ?_); replace hk := hk'; replace pB := h1'; clear hk' h1' zB0 zB1 zB2 zB3; generalize World.setCell (World.setCell _ _ _) _ _ = W' at hk pB ⊢) | (have hAge := hk.size; refine kept_allocD hk (fun hs hk' hblk => ?_); (try replace s1' := s1'.keep hs); (first | generalize World.alloc _ _ = W' at hs hk' hblk s1' ⊢ | generalize World.alloc _ _ = W' at hs hk' hblk ⊢); replace hk := hk'; clear hk'; have pB := hblk; clear hs hblk; have zB0 := cell_block pB 0; have zB1 := cell_block pB 1; have zB2 := frozen_block pB 0; have zB3 := frozen_block pB 1))
    all_goals
      as_aux_lemma =>
      replace pA := blk_keep pA hk
      replace BW := BW.trans (hk.mono BW.size)
      clear zA0 zA1
      have zA0 := cell_block pA 0
      have zA1 := cell_block pA 1
      (try clear zB0 zB1)
      have zB0 := cell_block pB 0
      have zB1 := cell_block pB 1
      go_wp2_with (first | ((with_reducible refine Calmly.is_fl ?_); refine Calmly.mix_fl rfl ?_ (fun _ _ => ?_); (first | exact .move _ | exact .load _ _ | exact .fieldAddr _ _ _ (by kernel_rfl) | exact .assign _ | exact .binOp _ _ _ _ _ rfl | exact .indexAddr _ _ _ | exact .len _ _ (by kernel_rfl) | exact .field _ _ _ | exact .extract _ _ | exact .pick _ _ _ | exact .build _ _ | exact .slice _ _ _ _ _ | exact .unOp _ _ _ rfl | exact .index _ _ _ | exact .max _ _ _ rfl rfl | exact .min _ _ _ rfl rfl)) | ((with_reducible refine Calmly.is_gl ?_); refine Calmly.mix_gl rfl rfl rfl ?_; first | ((first | with_reducible refine Calmly.gl_tt ?_ (fun _ _ => ?_) | with_reducible refine Calmly.gl_ff ?_ (fun _ _ => ?_)); (first | exact .move _ | exact .load _ _ | exact .fieldAddr _ _ _ (by kernel_rfl) | exact .assign _ | exact .binOp _ _ _ _ _ rfl | exact .indexAddr _ _ _ | exact .len _ _ (by kernel_rfl) | exact .field _ _ _ | exact .extract _ _ | exact .pick _ _ _ | exact .build _ _ | exact .slice _ _ _ _ _ | exact .unOp _ _ _ rfl | exact .index _ _ _ | exact .max _ _ _ rfl rfl | exact .min _ _ _ rfl rfl)) | with_reducible refine Calmly.gl_tf (fun _ _ => ?_) | with_reducible refine Calmly.gl_ft (fun _ _ => ?_)) | ((with_reducible refine Calmly.is_eff ?_); refine Calmly.mix_eff rfl (fun _ _ => ?_)) | ((with_reducible refine Calmly.is_gf ?_); refine Calmly.mix_gf rfl rfl rfl ?_; first | with_reducible refine Calmly.gf_tt (fun _ _ => ?_) | with_reducible refine Calmly.gf_ff (fun _ _ => ?_) | with_reducible refine Calmly.gf_tf (kept_of hk) (fun _ _ => ?_) | with_reducible refine Calmly.gf_ft (kept_of hk) (fun _ _ => ?_)) | ((with_reducible refine Calmly.is_tail ?_); first | refine Calmly.mix_tail_nil ?_ | refine Calmly.mix_tail rfl (fun _ _ => ?_)) | ((with_reducible refine Calmly.is_kept ?_); refine ⟨kept_of hk, ?_⟩) | (with_reducible refine Calmly.mix_alt ?_ ?_))
      go_ret
      exact ⟨rfl, BW⟩
end Go.Proofs.Ytiibdndchkbefaa

namespace Go.Proofs.Ytiibdndchkbefaa
open Go.ChangeShapes Go.WideShapes Go.ChangeAt Go.RowKit

theorem wf_i64 {x : Int} (h : (Lit.int .i64 x).wf = true) : -9223372036854775808 ≤ x ∧ x ≤ 9223372036854775807 := by
  unfold Lit.wf at h
  rw [Bool.and_eq_true] at h
  exact ⟨of_decide_eq_true h.1, of_decide_eq_true h.2⟩
set_option maxRecDepth 100000 in
set_option maxHeartbeats 1000000 in
theorem MotionDurations_lifted (os : Os) (started : os.Started) (H : Type) (enc : TypeId × Value → H) :
    ReturnsInHanded {} Try.checked os 9 .any (Rows.motionDurationsSpec.pre6 enc Try.prog Try.f9 Rows.motionDurationsRow.domain false) (Rows.motionDurationsSpec.post enc Try.prog Try.f9 false true false false) := by
  refine returnsInHanded_of_change (C := Try.checked) Try.own' started (by kernel_rfl) Try.func9
    (ChangeSpec.witness6 (enc := enc) (C := Try.checked) false ⟨#[], #[.agg #[.int .i64 0, .slice none 0 0], .agg #[.int .i64 0, .int .i64 0, .int .i64 0, .int .i64 0], .agg #[.int .i64 0, .int .i64 0, .int .i64 0, .int .i64 0]], []⟩ 8 (by kernel_rfl) (by kernel_rfl) (by kernel_rfl) (by kernel_rfl)) ?_
  intro W base args ds gs before hval0 hW _ _
  have hval : ∀ (j : Nat) t v, Try.f9.params[j]? = some t → args[j]? = some v → Value.okWide Try.prog W .any base t v := hval0
  have hW' := hW
  obtain ⟨p, q, hA0, hV, rfl, _, _⟩ := hW
  have hA : DataW.TrodAll enc Try.prog W 0 (fun _ => true) true Try.f9.params.toList args.toList ds p := hA0
  rw [Try.params9] at hA hval
  obtain ⟨v0, v1, v2, d0, d1, d2, p0, p1, p2, rfl, rfl, rfl, h0, h1, h2⟩ := trodAll_three hA
  obtain ⟨rfl, rfl⟩ := trodVars_none hV
  clear hA0 hA hval0
  have hlt : ∀ x ∈ p0 ++ p1 ++ p2, x.block < W.heap.size := fun x hx => by simpa using hW'.lt x (by simpa using hx)
  obtain ⟨s0, a0, n0, c0, l0, rfl, hw0, hs0, hw0'⟩ := open_record (hval 0 24 v0 rfl rfl) h0
  obtain ⟨x1, y1, z1, u1, rfl, hw1⟩ := open_shares (hval 1 88 v1 rfl rfl) h1
  obtain ⟨x2, y2, z2, u2, rfl, hw2⟩ := open_shares (hval 2 88 v2 rfl rfl) h2
  obtain ⟨t1, t2, t3, t4⟩ := hw1
  obtain ⟨t5, t6, t7, t8⟩ := hw2
  refine (MotionDurations_walk s0 a0 n0 c0 l0 x1 y1 z1 u1 x2 y2 z2 u2 W hs0 (wf_i64 t1).1 (wf_i64 t1).2 (wf_i64 t2).2 (wf_i64 t3).1 (wf_i64 t3).2 (wf_i64 t4).2 (wf_i64 t5).1 (wf_i64 t5).2 (wf_i64 t6).2 (wf_i64 t7).1 (wf_i64 t7).2 (wf_i64 t8).2).mono fun e W' ⟨he, hb⟩ => ?_
  subst he
  exact ⟨_, rfl, _, _, _, [], _, [], hW', trodAll_mk1 (shut_bool Try.underlying4 _),
    trodAll_mk3 (Below.trod Try.laidOut' (by kernel_rfl) (of_decide_eq_true (by kernel_rfl)) h0 hb (fun x hx => hlt x (List.mem_append_left _ (List.mem_append_left _ hx)))) (Below.trod Try.laidOut' (by kernel_rfl) (of_decide_eq_true (by kernel_rfl)) h1 hb (fun x hx => hlt x (List.mem_append_left _ (List.mem_append_right _ hx)))) (Below.trod Try.laidOut' (by kernel_rfl) (of_decide_eq_true (by kernel_rfl)) h2 hb (fun x hx => hlt x (List.mem_append_right _ hx))),
    rfl, hb.frame _, fun h => by cases h⟩

theorem MotionDurations_holds : Rows.MotionDurationsSaid :=
  OpenClaim.holds_of_wide 9 Try.f9 rfl rfl rfl rfl rfl rfl rfl ⟨rfl, rfl, rfl, rfl, rfl⟩ rfl rfl rfl rfl rfl (by kernel_rfl) Try.func9 (by kernel_rfl)
    (of_decide_eq_true (by kernel_rfl)) (by unfold Func.isWrapper; first | (rw [if_pos (by decide +kernel)]; kernel_rfl) | (rw [if_neg (by decide +kernel)]; exact ⟨rfl, rfl⟩))
    (fun os started H enc _ => MotionDurations_lifted os started H enc)
#print axioms MotionDurations_holds
end Go.Proofs.Ytiibdndchkbefaa
