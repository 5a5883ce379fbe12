/- The claim of MotionResponses. -/
import Derived.Test.YtiibdndchkbefaaK11
import Derived.Test.YtiibdndchkbefaaRows
namespace Go.Proofs.Ytiibdndchkbefaa
open Go.RowKit
open Calmly (Kept)


theorem spec_ok {l : List (Int × Int)} (h : specE l = 0) : l.length ≤ 6 ∧ firstE (l.map oscE) = 0 := by
  unfold specE at h
  split at h
  · cases h
  · exact ⟨by omega, h⟩
theorem oneCell_rv (l : List (Int × Int)) : ∀ u ∈ rv l, u.oneCell' = true := by
  intro u hu
  unfold rv at hu
  obtain ⟨p, _, hp⟩ := List.mem_flatMap.1 hu
  simp at hp
  rcases hp with rfl | rfl <;> rfl
theorem Try.info_osc : (Try.prog.info? 49).map (fun i => (i.zero, i.size, i.bytes)) = some (some (.agg #[.int .i64 0, .int .i64 0]), 2, 16) := by kernel_rfl

set_option maxRecDepth 100000 in
set_option maxHeartbeats 4000000 in
theorem MotionResponses_walk (step : Int) (a : Option Addr) (n c : Nat) (xs : List Int) (st dm : Int) (b : Option Addr) (m d : Nat) (l : List (Int × Int)) (w : World) (h1 : SI w a n c xs) (h3 : SR w b m d l) :
    Calls Try.prog 6 #[.agg #[.int .i64 step, .slice a n c], .agg #[.int .i64 st, .int .i64 dm], .slice b m d] w fun e w' => e = .returned (.bool true) ∧ Below w.heap.size w w' := by
  have hA : ∀ (A : World) (o : Obj), Below A.heap.size A (A.alloc o) := fun A o => (Below.refl _ _).alloc (Nat.le_refl _) _
  obtain ⟨l1, l2⟩ : n ≤ xs.length ∧ xs.length ≤ n := by have := h1.len; omega
  obtain ⟨j1, j2⟩ : m ≤ l.length ∧ l.length ≤ m := by have := h3.len; omega
  have m1 := h1.max
  have c1 := h1.cap
  have m3 := h3.max
  have c3 := h3.cap
  have BW : Below w.heap.size w ((w.alloc (.cells #[.int .i64 step, .slice a n c] 24)).alloc (.cells #[.int .i64 st, .int .i64 dm] 49)) := ((Below.refl _ _).alloc (Nat.le_refl _) _).alloc (by simp) _
  have x1 := box1 (w := w) (o := .cells #[.int .i64 step, .slice a n c] 24) (W := w.alloc (.cells #[.int .i64 step, .slice a n c] 24)) (Below.alloc (Below.refl _ _) (Nat.le_refl _) (.cells #[.int .i64 st, .int .i64 dm] 49))
  have x2 := alloc_new (w.alloc (.cells #[.int .i64 step, .slice a n c] 24)) (.cells #[.int .i64 st, .int .i64 dm] 49)
  simp only [World.size_alloc] at x2
  go_enter Try.func6, Try.ntmps6
  go_wp2_with fail
  refine (awake_any _).mono ?_
  rintro e w1 ⟨rfl, hs⟩
  replace x1 := blk_keep x1 hs
  replace x2 := blk_keep x2 hs
  replace BW := BW.trans (hs.mono BW.size)
  clear hs
  have f0 := cell_block x1 0
  have f1 := cell_block x1 1
  have f2 := cell_block x2 0
  have f3 := cell_block x2 1
  go_wp2_with fail
  refine (few_any step a n c _ c1 m1).mono ?_
  rintro e w2 ⟨rfl, hs⟩
  replace x1 := blk_keep x1 hs; replace x2 := blk_keep x2 hs; replace BW := BW.trans (hs.mono BW.size); clear hs; clear f0 f1 f2 f3; have f0 := cell_block x1 0; have f1 := cell_block x1 1; have f2 := cell_block x2 0; have f3 := cell_block x2 1
  by_cases hn : n ≤ 26
  case neg =>
    rw [show decide (n ≤ 26) = false from by simpa using hn]
    go_wp2_with fail
    go_ret
    exact ⟨rfl, BW⟩
  rw [show decide (n ≤ 26) = true from by simpa using hn]
  by_cases hb : 8 < m
  · have i3 : (8 : Int) < (m : Int) := by omega
    go_wp2_with fail
    go_ret
    exact ⟨rfl, BW⟩
  have i3 : (m : Int) ≤ 8 := by omega
  obtain ⟨rE, hrE⟩ : ∃ x, (recF step xs).2 = x := ⟨_, rfl⟩
  obtain ⟨oE, hoE⟩ : ∃ x, oscE (st, dm) = x := ⟨_, rfl⟩
  obtain ⟨sE, hsE⟩ : ∃ x, specE l = x := ⟨_, rfl⟩
  obtain ⟨F, hF⟩ : ∃ F, firstE [rE, oE] = F := ⟨_, rfl⟩
  obtain ⟨G, hG⟩ : ∃ G, firstE [rE, sE] = G := ⟨_, rfl⟩
  obtain ⟨X, hX, hX'⟩ : ∃ (X : List Int), (F ≠ 0 → X = []) ∧ (F = 0 → X = rspTo xs st dm n) := by
    by_cases h : F = 0
    · exact ⟨_, fun hh => absurd h hh, fun _ => rfl⟩
    · exact ⟨_, fun _ => rfl, fun hh => absurd hh h⟩
  obtain ⟨Y, hY, hY'⟩ : ∃ (Y : List Int), (G ≠ 0 → Y = []) ∧ (G = 0 → Y = spT xs l l.length) := by
    by_cases h : G = 0
    · exact ⟨_, fun hh => absurd h hh, fun _ => rfl⟩
    · exact ⟨_, fun _ => rfl, fun hh => absurd hh h⟩
  have HOF : Hid (firstE [(recF step xs).2, oscE (st, dm)] = F) := Lib.hid (by rw [hrE, hoE]; exact hF)
  have HOG : Hid (firstE [(recF step xs).2, specE l] = G) := Lib.hid (by rw [hrE, hsE]; exact hG)
  have HRE := Lib.hid hrE
  have HOE := Lib.hid hoE
  have HSE := Lib.hid hsE
  have HF := Lib.hid hF
  have HG := Lib.hid hG
  have HX := Lib.hid hX
  have HX' := Lib.hid hX'
  have HY := Lib.hid hY
  have HY' := Lib.hid hY'
  clear hF hG hX hX' hY hY' hb hrE hoE hsE
  go_wp2_with fail
  refine Calmly.wp_region_mix 8 (.fl 0 <| .fl 2 <| .eff 1 <| .eff 3 <| .fl 4 <| .fl 5 <| .fl 6 <| .fl 7 <| .tail [8]) (by kernel_rfl) (by kernel_rfl) ?_
  replace x1 := blk_keep x1 (Below.refl _ _).drew; replace x2 := blk_keep x2 (Below.refl _ _).drew; replace BW := BW.drew
  generalize World.drew _ = V at x1 x2 BW ⊢
  clear f0 f1 f2 f3; have f0 := cell_block x1 0; have f1 := cell_block x1 1; have f2 := cell_block x2 0; have f3 := cell_block x2 1
  have hk := Below.refl V.heap.size V
  have M0 := Lib.hid True.intro
  go_wp2_with (first | ((with_reducible refine Calmly.is_fl ?_); refine Calmly.mix_fl rfl ?_ (fun _ _ => ?_); (first | exact .move _ | exact .load _ _ | exact .fieldAddr _ _ _ (by kernel_rfl) | exact .assign _ | exact .binOp _ _ _ _ _ rfl | exact .indexAddr _ _ _ | exact .len _ _ (by kernel_rfl) | exact .field _ _ _ | exact .extract _ _ | exact .pick _ _ _ | exact .build _ _ | exact .slice _ _ _ _ _ | exact .unOp _ _ _ rfl | exact .index _ _ _ | exact .max _ _ _ rfl rfl | exact .min _ _ _ rfl rfl)) | ((with_reducible refine Calmly.is_gl ?_); refine Calmly.mix_gl rfl rfl rfl ?_; first | ((first | with_reducible refine Calmly.gl_tt ?_ (fun _ _ => ?_) | with_reducible refine Calmly.gl_ff ?_ (fun _ _ => ?_)); (first | exact .move _ | exact .load _ _ | exact .fieldAddr _ _ _ (by kernel_rfl) | exact .assign _ | exact .binOp _ _ _ _ _ rfl | exact .indexAddr _ _ _ | exact .len _ _ (by kernel_rfl) | exact .field _ _ _ | exact .extract _ _ | exact .pick _ _ _ | exact .build _ _ | exact .slice _ _ _ _ _ | exact .unOp _ _ _ rfl | exact .index _ _ _ | exact .max _ _ _ rfl rfl | exact .min _ _ _ rfl rfl)) | with_reducible refine Calmly.gl_tf (fun _ _ => ?_) | with_reducible refine Calmly.gl_ft (fun _ _ => ?_)) | ((with_reducible refine Calmly.is_eff ?_); refine Calmly.mix_eff rfl (fun _ _ => ?_)) | ((with_reducible refine Calmly.is_gf ?_); refine Calmly.mix_gf rfl rfl rfl ?_; first | with_reducible refine Calmly.gf_tt (fun _ _ => ?_) | with_reducible refine Calmly.gf_ff (fun _ _ => ?_) | with_reducible refine Calmly.gf_tf (kept_of hk) (fun _ _ => ?_) | with_reducible refine Calmly.gf_ft (kept_of hk) (fun _ _ => ?_)) | ((with_reducible refine Calmly.is_tail ?_); first | refine Calmly.mix_tail_nil ?_ | refine Calmly.mix_tail rfl (fun _ _ => ?_)) | ((with_reducible refine Calmly.is_kept ?_); refine ⟨kept_of hk, ?_⟩) | (with_reducible refine Calmly.mix_alt ?_ ?_) | (have _ := M0.out; clear M0; go_at_call 18; refine (copy_any step a n c xs _ ((h1.keep BW).keep hk) (by omega)).mono ?_; rintro e w4 ⟨a4, c4, rfl, s4, hs⟩; replace hk := step_of hk hs; clear hs) | (go_at_call 38; refine (ResponseOf_any step st dm a4 n c4 xs _ s4 F X HOF.out HX.out HX'.out).mono ?_; rintro e w5 ⟨aX, nX, cX, rfl, sX, hs⟩; replace hk := step_of hk hs; replace x1 := blk_keep x1 hk; replace x2 := blk_keep x2 hk; clear hs; clear f0 f1 f2 f3; have f0 := cell_block x1 0; have f1 := cell_block x1 1; have f2 := cell_block x2 0; have f3 := cell_block x2 1))
  replace BW := BW.trans (hk.mono BW.size)
  clear hk s4
  have mX := sX.max
  have cX' := sX.cap
  refine (copy_any step a n c xs _ (h1.keep BW) (by omega)).mono ?_
  rintro e w6 ⟨a6, c6, rfl, s6, hs⟩
  replace sX := sX.keep hs
  replace x1 := blk_keep x1 hs; replace x2 := blk_keep x2 hs; replace BW := BW.trans (hs.mono BW.size); clear hs; clear f0 f1 f2 f3; have f0 := cell_block x1 0; have f1 := cell_block x1 1; have f2 := cell_block x2 0; have f3 := cell_block x2 1
  obtain ⟨i0, hi, hz0, hz1, hz2⟩ := info_parts Try.info_osc
  have hown : (w6.alloc (.cells #[] 49)).ownsRow w6.heap.size 49 2 (.slice (some ⟨w6.heap.size, 0, none⟩) 0 0) 0 [] := ⟨by simp, .inr ⟨w6.heap.size, 0, #[], rfl, Nat.le_refl _, alloc_new _ _, by simp, by simp, by simp, by simp⟩⟩
  have hbn := hA w6 (.cells #[] 49)
  go_wp2_with (at_builtin; refine appS rfl _ _ _ rfl w6.heap.size 49 i0 (.agg #[.int .i64 0, .int .i64 0]) 2 16 Try.underlying65 hi hz0 hz1 hz2 rfl (by decide) (some ⟨w6.heap.size, 0, none⟩) 0 0 [] hown b m d (rv l) ((h3.keep BW).keep hbn) (oneCell_rv l) rfl rfl (by omega) (by omega) (by simp) ?_; intro a7 c7 w7 ho hs0)
  have ho7 : SR w7 a7 m c7 l := by
    obtain ⟨a', c', he, hs1⟩ := Sl.of_owns ho
    cases he
    show Sl w7 2 a7 m c7 (rv l)
    simpa using hs1
  have hs := hbn.trans hs0
  replace sX := sX.keep hs
  replace s6 := s6.keep hs
  clear ho hs0 hbn hown hi hz0 hz1 hz2
  replace x1 := blk_keep x1 hs; replace x2 := blk_keep x2 hs; replace BW := BW.trans (hs.mono BW.size); clear hs; clear f0 f1 f2 f3; have f0 := cell_block x1 0; have f1 := cell_block x1 1; have f2 := cell_block x2 0; have f3 := cell_block x2 1
  refine (SpectrumOf_any step a6 n c6 xs a7 m c7 l _ s6 ho7 G Y HOG.out HY.out HY'.out).mono ?_
  rintro e w8 ⟨aY, nY, cY, rfl, sY, hs⟩
  replace sX := sX.keep hs
  clear s6 ho7
  replace x1 := blk_keep x1 hs; replace x2 := blk_keep x2 hs; replace BW := BW.trans (hs.mono BW.size); clear hs; clear f0 f1 f2 f3; have f0 := cell_block x1 0; have f1 := cell_block x1 1; have f2 := cell_block x2 0; have f3 := cell_block x2 1
  have mY := sY.max
  have cY' := sY.cap
  by_cases hz : rE = 0
  case neg =>
    have hFe : F = rE := by rw [← HF.out, firstE, if_neg hz]
    have hGe : G = rE := by rw [← HG.out, firstE, if_neg hz]
    have q1 := HX.out (by rw [hFe]; exact hz)
    have q2 := HY.out (by rw [hGe]; exact hz)
    have b1 : (rE == 0) = false := by simpa using hz
    have b2 : (rE != 0) = true := by simpa using hz
    subst q1 q2 hFe hGe
    obtain rfl : nX = 0 := sX.len
    obtain rfl : nY = 0 := sY.len
    clear hz
    go_wp2_with fail
    refine Calmly.wp_region_mix 4 (.fl 0 <| .fl 2 <| .eff 1 <| .eff 3 <| .tail [4, 5]) (by kernel_rfl) (by kernel_rfl) ?_
    replace x1 := blk_keep x1 (Below.refl _ _).drew; replace x2 := blk_keep x2 (Below.refl _ _).drew; replace BW := BW.drew
    replace sX := sX.keep (Below.refl _ _).drew
    replace sY := sY.keep (Below.refl _ _).drew
    generalize World.drew _ = V at x1 x2 BW sX sY ⊢
    clear f0 f1 f2 f3; have f0 := cell_block x1 0; have f1 := cell_block x1 1; have f2 := cell_block x2 0; have f3 := cell_block x2 1
    have hk := Below.refl V.heap.size V
    go_wp2_with (first | ((with_reducible refine Calmly.is_fl ?_); refine Calmly.mix_fl rfl ?_ (fun _ _ => ?_); (first | exact .move _ | exact .load _ _ | exact .fieldAddr _ _ _ (by kernel_rfl) | exact .assign _ | exact .binOp _ _ _ _ _ rfl | exact .indexAddr _ _ _ | exact .len _ _ (by kernel_rfl) | exact .field _ _ _ | exact .extract _ _ | exact .pick _ _ _ | exact .build _ _ | exact .slice _ _ _ _ _ | exact .unOp _ _ _ rfl | exact .index _ _ _ | exact .max _ _ _ rfl rfl | exact .min _ _ _ rfl rfl)) | ((with_reducible refine Calmly.is_gl ?_); refine Calmly.mix_gl rfl rfl rfl ?_; first | ((first | with_reducible refine Calmly.gl_tt ?_ (fun _ _ => ?_) | with_reducible refine Calmly.gl_ff ?_ (fun _ _ => ?_)); (first | exact .move _ | exact .load _ _ | exact .fieldAddr _ _ _ (by kernel_rfl) | exact .assign _ | exact .binOp _ _ _ _ _ rfl | exact .indexAddr _ _ _ | exact .len _ _ (by kernel_rfl) | exact .field _ _ _ | exact .extract _ _ | exact .pick _ _ _ | exact .build _ _ | exact .slice _ _ _ _ _ | exact .unOp _ _ _ rfl | exact .index _ _ _ | exact .max _ _ _ rfl rfl | exact .min _ _ _ rfl rfl)) | with_reducible refine Calmly.gl_tf (fun _ _ => ?_) | with_reducible refine Calmly.gl_ft (fun _ _ => ?_)) | ((with_reducible refine Calmly.is_eff ?_); refine Calmly.mix_eff rfl (fun _ _ => ?_)) | ((with_reducible refine Calmly.is_gf ?_); refine Calmly.mix_gf rfl rfl rfl ?_; first | with_reducible refine Calmly.gf_tt (fun _ _ => ?_) | with_reducible refine Calmly.gf_ff (fun _ _ => ?_) | with_reducible refine Calmly.gf_tf (kept_of hk) (fun _ _ => ?_) | with_reducible refine Calmly.gf_ft (kept_of hk) (fun _ _ => ?_)) | ((with_reducible refine Calmly.is_tail ?_); first | refine Calmly.mix_tail_nil ?_ | refine Calmly.mix_tail rfl (fun _ _ => ?_)) | ((with_reducible refine Calmly.is_kept ?_); refine ⟨kept_of hk, ?_⟩) | (with_reducible refine Calmly.mix_alt ?_ ?_) | (go_at_call 21; refine (rRecordErr_any step a n c xs _ ((h1.keep BW).keep hk) _ HRE.out).mono ?_; rintro e w9 ⟨rfl, hs⟩; replace hk := step_of hk hs; replace x1 := blk_keep x1 hs; replace x2 := blk_keep x2 hs; replace sX := sX.keep hs; replace sY := sY.keep hs; clear hs; clear f0 f1 f2 f3; have f0 := cell_block x1 0; have f1 := cell_block x1 1; have f2 := cell_block x2 0; have f3 := cell_block x2 1))
    go_ret
    exact ⟨rfl, BW.trans (hk.mono BW.size)⟩
  subst hz
  have hFb : F = oE := by
    rw [← HF.out, firstE, if_pos rfl, firstE]
    split
    · rename_i h; rw [h]; rfl
    · rfl
  have hGb : G = sE := by
    rw [← HG.out, firstE, if_pos rfl, firstE]
    split
    · rename_i h; rw [h]; rfl
    · rfl
  obtain ⟨r1, r2, r3, r4, r5⟩ := recF_ok HRE.out
  have hn26 : n ≤ 26 := by omega
  have hn0 : 0 < n := by omega
  have hm1 : m ≤ 1000 := by omega
  have H5 := Lib.hid r5
  clear r1 r2 r3 r4 r5
  subst hFb
  go_wp2_with fail
  refine Calmly.wp_region_mix 4 (.fl 0 <| .fl 2 <| .eff 1 <| .eff 3 <| .tail [4, 5]) (by kernel_rfl) (by kernel_rfl) ?_
  replace x1 := blk_keep x1 (Below.refl _ _).drew; replace x2 := blk_keep x2 (Below.refl _ _).drew; replace BW := BW.drew
  replace sX := sX.keep (Below.refl _ _).drew
  replace sY := sY.keep (Below.refl _ _).drew
  generalize World.drew _ = V at x1 x2 BW sX sY ⊢
  clear f0 f1 f2 f3; have f0 := cell_block x1 0; have f1 := cell_block x1 1; have f2 := cell_block x2 0; have f3 := cell_block x2 1
  have hk := Below.refl V.heap.size V
  go_wp2_with (first | ((with_reducible refine Calmly.is_fl ?_); refine Calmly.mix_fl rfl ?_ (fun _ _ => ?_); (first | exact .move _ | exact .load _ _ | exact .fieldAddr _ _ _ (by kernel_rfl) | exact .assign _ | exact .binOp _ _ _ _ _ rfl | exact .indexAddr _ _ _ | exact .len _ _ (by kernel_rfl) | exact .field _ _ _ | exact .extract _ _ | exact .pick _ _ _ | exact .build _ _ | exact .slice _ _ _ _ _ | exact .unOp _ _ _ rfl | exact .index _ _ _ | exact .max _ _ _ rfl rfl | exact .min _ _ _ rfl rfl)) | ((with_reducible refine Calmly.is_gl ?_); refine Calmly.mix_gl rfl rfl rfl ?_; first | ((first | with_reducible refine Calmly.gl_tt ?_ (fun _ _ => ?_) | with_reducible refine Calmly.gl_ff ?_ (fun _ _ => ?_)); (first | exact .move _ | exact .load _ _ | exact .fieldAddr _ _ _ (by kernel_rfl) | exact .assign _ | exact .binOp _ _ _ _ _ rfl | exact .indexAddr _ _ _ | exact .len _ _ (by kernel_rfl) | exact .field _ _ _ | exact .extract _ _ | exact .pick _ _ _ | exact .build _ _ | exact .slice _ _ _ _ _ | exact .unOp _ _ _ rfl | exact .index _ _ _ | exact .max _ _ _ rfl rfl | exact .min _ _ _ rfl rfl)) | with_reducible refine Calmly.gl_tf (fun _ _ => ?_) | with_reducible refine Calmly.gl_ft (fun _ _ => ?_)) | ((with_reducible refine Calmly.is_eff ?_); refine Calmly.mix_eff rfl (fun _ _ => ?_)) | ((with_reducible refine Calmly.is_gf ?_); refine Calmly.mix_gf rfl rfl rfl ?_; first | with_reducible refine Calmly.gf_tt (fun _ _ => ?_) | with_reducible refine Calmly.gf_ff (fun _ _ => ?_) | with_reducible refine Calmly.gf_tf (kept_of hk) (fun _ _ => ?_) | with_reducible refine Calmly.gf_ft (kept_of hk) (fun _ _ => ?_)) | ((with_reducible refine Calmly.is_tail ?_); first | refine Calmly.mix_tail_nil ?_ | refine Calmly.mix_tail rfl (fun _ _ => ?_)) | ((with_reducible refine Calmly.is_kept ?_); refine ⟨kept_of hk, ?_⟩) | (with_reducible refine Calmly.mix_alt ?_ ?_) | (go_at_call 21; refine (rRecordErr_any step a n c xs _ ((h1.keep BW).keep hk) 0 HRE.out).mono ?_; rintro e w9 ⟨rfl, hs⟩; replace hk := step_of hk hs; replace x1 := blk_keep x1 hs; replace x2 := blk_keep x2 hs; replace sX := sX.keep hs; replace sY := sY.keep hs; clear hs; clear f0 f1 f2 f3; have f0 := cell_block x1 0; have f1 := cell_block x1 1; have f2 := cell_block x2 0; have f3 := cell_block x2 1))
  replace BW := BW.trans (hk.mono BW.size)
  clear hk
  refine (rOscErr_any st dm _).mono ?_
  rintro e w10 ⟨rfl, hs⟩
  rw [HOE.out]
  replace sX := sX.keep hs
  replace sY := sY.keep hs
  replace x1 := blk_keep x1 hs; replace x2 := blk_keep x2 hs; replace BW := BW.trans (hs.mono BW.size); clear hs; clear f0 f1 f2 f3; have f0 := cell_block x1 0; have f1 := cell_block x1 1; have f2 := cell_block x2 0; have f3 := cell_block x2 1
  go_wp2_with fail
  refine (rSpecErr_any b m d l _ (h3.keep BW) sE HSE.out).mono ?_
  rintro e w11 ⟨rfl, hs⟩
  replace sX := sX.keep hs
  replace sY := sY.keep hs
  replace x1 := blk_keep x1 hs; replace x2 := blk_keep x2 hs; replace BW := BW.trans (hs.mono BW.size); clear hs; clear f0 f1 f2 f3; have f0 := cell_block x1 0; have f1 := cell_block x1 1; have f2 := cell_block x2 0; have f3 := cell_block x2 1
  by_cases hy : F = 0
  case neg =>
    have q1 := HX.out hy
    have b1 : (F == 0) = false := by simpa using hy
    have b2 : (F != 0) = true := by simpa using hy
    subst q1
    obtain rfl : nX = 0 := sX.len
    clear hy
    by_cases hz : sE = 0
    case neg =>
      have q3 := HY.out (by rw [hGb]; exact hz)
      have b4 : (sE == 0) = false := by simpa using hz
      have b5 : (sE != 0) = true := by simpa using hz
      subst q3 hGb
      obtain rfl : nY = 0 := sY.len
      clear hz
      go_wp2_with fail
      go_ret
      exact ⟨rfl, BW⟩
    subst hz
    have HSO : Hid (firstE (l.map oscE) = 0) := Lib.hid (spec_ok HSE.out).2
    have q4 := HY'.out hGb
    subst hGb
    go_wp2_with fail
    refine (rSpectrum_any a n c xs b m d l _ (h1.keep BW) (h3.keep BW) hn26 H5.out hm1 (osc_all HSO.out)).mono ?_
    rintro e w20 ⟨aZ, nZ, cZ, rfl, sZ, hs⟩
    replace sY := sY.keep hs
    replace x1 := blk_keep x1 hs; replace x2 := blk_keep x2 hs; replace BW := BW.trans (hs.mono BW.size); clear hs; clear f0 f1 f2 f3; have f0 := cell_block x1 0; have f1 := cell_block x1 1; have f2 := cell_block x2 0; have f3 := cell_block x2 1
    rw [← q4] at sZ
    go_wp2_with fail
    refine (ints_any aY aZ nY nZ cY cZ Y Y _ sY sZ).mono ?_
    rintro e w21 ⟨rfl, q, rfl⟩
    rw [decide_refl]
    go_wp2_with fail
    go_ret
    exact ⟨rfl, below_drewN BW q⟩
  subst hy
  have q1 := HX'.out rfl
  go_wp2_with fail
  refine (rResponse_any a n c xs st dm _ (h1.keep BW) hn26 HOE.out H5.out).mono ?_
  rintro e w15 ⟨aW, cW, rfl, sW, hs⟩
  replace sX := sX.keep hs
  replace sY := sY.keep hs
  replace x1 := blk_keep x1 hs; replace x2 := blk_keep x2 hs; replace BW := BW.trans (hs.mono BW.size); clear hs; clear f0 f1 f2 f3; have f0 := cell_block x1 0; have f1 := cell_block x1 1; have f2 := cell_block x2 0; have f3 := cell_block x2 1
  rw [← q1] at sW
  go_wp2_with fail
  refine (ints_any aX aW nX n cX cW X X _ sX sW).mono ?_
  rintro e w16 ⟨rfl, q, rfl⟩
  rw [decide_refl]
  have hs := below_drewN (Below.refl w15.heap.size w15) q
  replace sY := sY.keep hs
  clear sX sW
  generalize w15.drewN q = w17 at hs sY ⊢
  replace x1 := blk_keep x1 hs; replace x2 := blk_keep x2 hs; replace BW := BW.trans (hs.mono BW.size); clear hs; clear f0 f1 f2 f3; have f0 := cell_block x1 0; have f1 := cell_block x1 1; have f2 := cell_block x2 0; have f3 := cell_block x2 1
  by_cases hz : sE = 0
  case neg =>
    have q3 := HY.out (by rw [hGb]; exact hz)
    have b4 : (sE == 0) = false := by simpa using hz
    have b5 : (sE != 0) = true := by simpa using hz
    subst q3 hGb
    obtain rfl : nY = 0 := sY.len
    clear hz
    go_wp2_with fail
    go_ret
    exact ⟨rfl, BW⟩
  subst hz
  have HSO : Hid (firstE (l.map oscE) = 0) := Lib.hid (spec_ok HSE.out).2
  have q4 := HY'.out hGb
  subst hGb
  go_wp2_with fail
  refine (rSpectrum_any a n c xs b m d l _ (h1.keep BW) (h3.keep BW) hn26 H5.out hm1 (osc_all HSO.out)).mono ?_
  rintro e w20 ⟨aZ, nZ, cZ, rfl, sZ, hs⟩
  replace sY := sY.keep hs
  replace x1 := blk_keep x1 hs; replace x2 := blk_keep x2 hs; replace BW := BW.trans (hs.mono BW.size); clear hs; clear f0 f1 f2 f3; have f0 := cell_block x1 0; have f1 := cell_block x1 1; have f2 := cell_block x2 0; have f3 := cell_block x2 1
  rw [← q4] at sZ
  go_wp2_with fail
  refine (ints_any aY aZ nY nZ cY cZ Y Y _ sY sZ).mono ?_
  rintro e w21 ⟨rfl, q, rfl⟩
  rw [decide_refl]
  go_wp2_with fail
  go_ret
  exact ⟨rfl, below_drewN BW q⟩
end Go.Proofs.Ytiibdndchkbefaa

namespace Go.Proofs.Ytiibdndchkbefaa
open Go.ChangeShapes Go.WideShapes Go.ChangeAt Go.RowKit

set_option maxRecDepth 100000 in
set_option maxHeartbeats 1000000 in
theorem MotionResponses_lifted (os : Os) (started : os.Started) (H : Type) (enc : TypeId × Value → H) :
    ReturnsInHanded {} Try.checked os 6 .any (Rows.motionResponsesSpec.pre6 enc Try.prog Try.f6 Rows.motionResponsesRow.domain false) (Rows.motionResponsesSpec.post enc Try.prog Try.f6 false true false false) := by
  refine returnsInHanded_of_change (C := Try.checked) Try.own' started (by kernel_rfl) Try.func6
    (ChangeSpec.witness6 (enc := enc) (C := Try.checked) false ⟨#[], #[.agg #[.int .i64 0, .slice none 0 0], .agg #[.int .i64 0, .int .i64 0], .slice none 0 0], []⟩ 8 (by kernel_rfl) (by kernel_rfl) (by kernel_rfl) (by kernel_rfl)) ?_
  intro W base args ds gs before hval0 hW _ _
  have hval : ∀ (j : Nat) t v, Try.f6.params[j]? = some t → args[j]? = some v → Value.okWide Try.prog W .any base t v := hval0
  have hW' := hW
  obtain ⟨p, q, hA0, hV, rfl, _, _⟩ := hW
  have hA : DataW.TrodAll enc Try.prog W 0 (fun _ => true) true Try.f6.params.toList args.toList ds p := hA0
  rw [Try.params6] at hA hval
  obtain ⟨v0, v1, v2, d0, d1, d2, p0, p1, p2, rfl, rfl, rfl, h0, h1, h2⟩ := trodAll_three hA
  obtain ⟨rfl, rfl⟩ := trodVars_none hV
  clear hA0 hA hval0
  have hlt : ∀ x ∈ p0 ++ p1 ++ p2, x.block < W.heap.size := fun x hx => by simpa using hW'.lt x (by simpa using hx)
  obtain ⟨s0, a0, n0, c0, l0, rfl, hw0, hs0, hw0'⟩ := open_record (hval 0 24 v0 rfl rfl) h0
  obtain ⟨x1, y1, rfl, hw1⟩ := open_osc (hval 1 49 v1 rfl rfl) h1
  obtain ⟨a2, n2, c2, l2, rfl, hs2, hw2⟩ := open_oscs (hval 2 65 v2 rfl rfl) h2
  refine (MotionResponses_walk s0 a0 n0 c0 l0 x1 y1 a2 n2 c2 l2 W hs0 hs2).mono fun e W' ⟨he, hb⟩ => ?_
  subst he
  exact ⟨_, rfl, _, _, _, [], _, [], hW', trodAll_mk1 (shut_bool Try.underlying4 _),
    trodAll_mk3 (Below.trod Try.laidOut' (by kernel_rfl) (of_decide_eq_true (by kernel_rfl)) h0 hb (fun x hx => hlt x (List.mem_append_left _ (List.mem_append_left _ hx)))) (Below.trod Try.laidOut' (by kernel_rfl) (of_decide_eq_true (by kernel_rfl)) h1 hb (fun x hx => hlt x (List.mem_append_left _ (List.mem_append_right _ hx)))) (Below.trod Try.laidOut' (by kernel_rfl) (of_decide_eq_true (by kernel_rfl)) h2 hb (fun x hx => hlt x (List.mem_append_right _ hx))),
    rfl, hb.frame _, fun h => by cases h⟩

theorem MotionResponses_holds : Rows.MotionResponsesSaid :=
  OpenClaim.holds_of_wide 6 Try.f6 rfl rfl rfl rfl rfl rfl rfl ⟨rfl, rfl, rfl, rfl, rfl⟩ rfl rfl rfl rfl rfl (by kernel_rfl) Try.func6 (by kernel_rfl)
    (of_decide_eq_true (by kernel_rfl)) (by unfold Func.isWrapper; first | (rw [if_pos (by decide +kernel)]; kernel_rfl) | (rw [if_neg (by decide +kernel)]; exact ⟨rfl, rfl⟩))
    (fun os started H enc _ => MotionResponses_lifted os started H enc)
#print axioms MotionResponses_holds
end Go.Proofs.Ytiibdndchkbefaa
