/- The claim of MotionInstruments. -/
import Derived.Test.YtiibdndchkbefaaK13
import Derived.Test.YtiibdndchkbefaaRows
namespace Go.Proofs.Ytiibdndchkbefaa
open Go.RowKit
open Calmly (Kept)


theorem cor_back {e : Int} {xs : List Int} {n : Nat} (hb : ∀ j : Nat, -1000 ≤ xs[j]?.getD 0 ∧ xs[j]?.getD 0 ≤ 1000) : echB (corN e) (echL (recN e) xs n) n = true :=
  echB_of fun t ht => by rw [cor_rec t ht]; exact wIn_iff.2 (hb t)
theorem rec_back {e : Int} {xs : List Int} {n : Nat} (hb : ∀ j : Nat, -1000 ≤ xs[j]?.getD 0 ∧ xs[j]?.getD 0 ≤ 1000) : echB (recN e) (echL (corN e) xs n) n = true :=
  echB_of fun t ht => by rw [rec_cor t ht]; exact wIn_iff.2 (hb t)
theorem ech_rec {nx : Int → Int → Int → Int} {step : Int} {xs : List Int} {n : Nat} (h1 : 1 < n) (h2 : n ≤ 24) (h3 : 1 ≤ step ∧ step ≤ 1000000) (h : echB nx xs n = true) : (recF step (echL nx xs n)).2 = 0 := by
  refine recF_of (by rw [echL_len]; exact h1) (by rw [echL_len]; exact h2) h3 fun j => ?_
  rcases Nat.lt_or_ge j n with hj | hj
  · rw [echL_get _ _ _ _ hj]
    exact smp_bd (echB_smp h j hj)
  · rw [List.getElem?_eq_none (by rw [echL_len]; exact hj)]
    simp

set_option maxRecDepth 100000 in
set_option maxHeartbeats 8000000 in
theorem MotionInstruments_walk (step : Int) (a : Option Addr) (n c : Nat) (xs : List Int) (e : Int) (w : World) (h1 : SI w a n c xs) :
    Calls Try.prog 8 #[.agg #[.int .i64 step, .slice a n c], .int .i64 e] w fun r w' => r = .returned (.bool true) ∧ Below w.heap.size w w' := by
  have hA : ∀ (A : World) (o : Obj), Below A.heap.size A (A.alloc o) := fun A o => (Below.refl _ _).alloc (Nat.le_refl _) _
  have x1 := alloc_new w (.cells #[.int .i64 step, .slice a n c] 24)
  have BW := hA w (.cells #[.int .i64 step, .slice a n c] 24)
  obtain ⟨l1, l2⟩ : n ≤ xs.length ∧ xs.length ≤ n := by have := h1.len; omega
  have m1 := h1.max
  have c1 := h1.cap
  go_enter Try.func8, Try.ntmps8
  go_wp2_with fail
  refine (awake_any _).mono ?_
  rintro r w1 ⟨rfl, hs⟩
  replace x1 := blk_keep x1 hs; (try replace pA := blk_keep pA hs); (try replace pB := blk_keep pB hs); (try replace sY := sY.keep hs); (try replace sZ := sZ.keep hs); (try replace sL := sL.keep hs); replace BW := BW.trans (hs.mono BW.size); clear hs; (try clear f0 f1); have f0 := cell_block x1 0; have f1 := cell_block x1 1; (try clear zA0 zA1); (try have zA0 := cell_block pA 0); (try have zA1 := cell_block pA 1); (try clear zB0 zB1); (try have zB0 := cell_block pB 0); (try have zB1 := cell_block pB 1)
  go_wp2_with fail
  refine (few_any step a n c _ c1 m1).mono ?_
  rintro r w2 ⟨rfl, hs⟩
  replace x1 := blk_keep x1 hs; (try replace pA := blk_keep pA hs); (try replace pB := blk_keep pB hs); (try replace sY := sY.keep hs); (try replace sZ := sZ.keep hs); (try replace sL := sL.keep hs); replace BW := BW.trans (hs.mono BW.size); clear hs; (try clear f0 f1); have f0 := cell_block x1 0; have f1 := cell_block x1 1; (try clear zA0 zA1); (try have zA0 := cell_block pA 0); (try have zA1 := cell_block pA 1); (try clear zB0 zB1); (try have zB0 := cell_block pB 0); (try have zB1 := cell_block pB 1)
  by_cases hn : n ≤ 26
  case neg =>
    rw [show decide (n ≤ 26) = false from by simpa using hn]
    go_wp2_with fail
    go_ret
    exact ⟨rfl, BW⟩
  rw [show decide (n ≤ 26) = true from by simpa using hn]
  obtain ⟨rE, hrE⟩ : ∃ x, (recF step xs).2 = x := ⟨_, rfl⟩
  obtain ⟨L, hL⟩ : ∃ x, unlessE (wIn e (-2) 2) 2 = x := ⟨_, rfl⟩
  obtain ⟨F, hF⟩ : ∃ F, firstE [(recF step xs).2, unlessE (wIn e (-2) 2) 2] = F := ⟨_, rfl⟩
  obtain ⟨R1, hR1⟩ : ∃ x, echB (recN e) xs n = x := ⟨_, rfl⟩
  obtain ⟨R2, hR2⟩ : ∃ x, echB (corN e) xs n = x := ⟨_, rfl⟩
  obtain ⟨Y, hY⟩ : ∃ x, echL (recN e) xs n = x := ⟨_, rfl⟩
  obtain ⟨Z, hZ⟩ : ∃ x, echL (corN e) xs n = x := ⟨_, rfl⟩
  obtain ⟨E1, S1, X1, hA1, hA2, hA3⟩ : ∃ (E S : Int) (X : List Int), (F ≠ 0 → E = F ∧ S = 0 ∧ X = []) ∧ (F = 0 → echB (recN e) xs n = false → E = 8 ∧ S = 0 ∧ X = []) ∧ (F = 0 → echB (recN e) xs n = true → E = 0 ∧ S = step ∧ X = echL (recN e) xs n) := by
    by_cases h : F = 0
    · cases R1
      · exact ⟨_, _, _, fun hh => absurd h hh, fun _ _ => ⟨rfl, rfl, rfl⟩, fun _ hh => by rw [hR1] at hh; cases hh⟩
      · exact ⟨_, _, _, fun hh => absurd h hh, fun _ hh => by (rw [hR1] at hh; cases hh), fun _ _ => ⟨rfl, rfl, rfl⟩⟩
    · exact ⟨_, _, _, fun _ => ⟨rfl, rfl, rfl⟩, fun hh => absurd hh h, fun hh => absurd hh h⟩
  obtain ⟨E2, S2, X2, hB1, hB2, hB3⟩ : ∃ (E S : Int) (X : List Int), (F ≠ 0 → E = F ∧ S = 0 ∧ X = []) ∧ (F = 0 → echB (corN e) xs n = false → E = 8 ∧ S = 0 ∧ X = []) ∧ (F = 0 → echB (corN e) xs n = true → E = 0 ∧ S = step ∧ X = echL (corN e) xs n) := by
    by_cases h : F = 0
    · cases R2
      · exact ⟨_, _, _, fun hh => absurd h hh, fun _ _ => ⟨rfl, rfl, rfl⟩, fun _ hh => by rw [hR2] at hh; cases hh⟩
      · exact ⟨_, _, _, fun hh => absurd h hh, fun _ hh => by (rw [hR2] at hh; cases hh), fun _ _ => ⟨rfl, rfl, rfl⟩⟩
    · exact ⟨_, _, _, fun _ => ⟨rfl, rfl, rfl⟩, fun hh => absurd hh h, fun hh => absurd hh h⟩
  have HRE := Lib.hid hrE
  have HL := Lib.hid hL
  have HF := Lib.hid hF
  have HR1 := Lib.hid hR1
  have HR2 := Lib.hid hR2
  have HY := Lib.hid hY
  have HZ := Lib.hid hZ
  have HA1 := Lib.hid hA1
  have HA2 := Lib.hid hA2
  have HA3 := Lib.hid hA3
  have HB1 := Lib.hid hB1
  have HB2 := Lib.hid hB2
  have HB3 := Lib.hid hB3
  clear hrE hL hF hR1 hR2 hY hZ hA1 hA2 hA3 hB1 hB2 hB3
  go_wp2_with fail
  refine (copy_any step a n c xs _ (h1.keep BW) (by omega)).mono ?_
  rintro r w3 ⟨a1, k1, rfl, s1, hs⟩
  replace x1 := blk_keep x1 hs; (try replace pA := blk_keep pA hs); (try replace pB := blk_keep pB hs); (try replace sY := sY.keep hs); (try replace sZ := sZ.keep hs); (try replace sL := sL.keep hs); replace BW := BW.trans (hs.mono BW.size); clear hs; (try clear f0 f1); have f0 := cell_block x1 0; have f1 := cell_block x1 1; (try clear zA0 zA1); (try have zA0 := cell_block pA 0); (try have zA1 := cell_block pA 1); (try clear zB0 zB1); (try have zB0 := cell_block pB 0); (try have zB1 := cell_block pB 1)
  go_wp2_with fail
  refine (Recorded_any step a1 n k1 xs e _ s1 F E1 S1 X1 HF.out HA1.out HA2.out HA3.out).mono ?_
  rintro r w4 ⟨aY, nY, cY, rfl, sY, hs⟩
  have hs1 := hs
  clear s1
  replace x1 := blk_keep x1 hs; (try replace pA := blk_keep pA hs); (try replace pB := blk_keep pB hs); (try replace sY := sY.keep hs); (try replace sZ := sZ.keep hs); (try replace sL := sL.keep hs); replace BW := BW.trans (hs.mono BW.size); clear hs; (try clear f0 f1); have f0 := cell_block x1 0; have f1 := cell_block x1 1; (try clear zA0 zA1); (try have zA0 := cell_block pA 0); (try have zA1 := cell_block pA 1); (try clear zB0 zB1); (try have zB0 := cell_block pB 0); (try have zB1 := cell_block pB 1)
  clear hs1
  have hs := hA w4 (.cells #[.int .i64 S1, .slice aY nY cY] 24)
  have pA := alloc_new w4 (.cells #[.int .i64 S1, .slice aY nY cY] 24)
  replace x1 := blk_keep x1 hs
  replace sY := sY.keep hs
  replace BW := BW.trans (hs.mono BW.size)
  clear hs
  (try clear f0 f1); have f0 := cell_block x1 0; have f1 := cell_block x1 1; (try clear zA0 zA1); (try have zA0 := cell_block pA 0); (try have zA1 := cell_block pA 1); (try clear zB0 zB1); (try have zB0 := cell_block pB 0); (try have zB1 := cell_block pB 1)
  go_wp2_with fail
  obtain ⟨bA, hbA⟩ : ∃ b, w4.heap.size = b := ⟨_, rfl⟩
  generalize World.alloc w4 _ = w5 at x1 pA sY BW f0 f1 zA0 zA1 ⊢
  rw [hbA] at pA zA0 zA1 ⊢
  clear hbA
  refine (copy_any step a n c xs _ (h1.keep BW) (by omega)).mono ?_
  rintro r w6 ⟨a1, k1, rfl, s1, hs⟩
  replace x1 := blk_keep x1 hs; (try replace pA := blk_keep pA hs); (try replace pB := blk_keep pB hs); (try replace sY := sY.keep hs); (try replace sZ := sZ.keep hs); (try replace sL := sL.keep hs); replace BW := BW.trans (hs.mono BW.size); clear hs; (try clear f0 f1); have f0 := cell_block x1 0; have f1 := cell_block x1 1; (try clear zA0 zA1); (try have zA0 := cell_block pA 0); (try have zA1 := cell_block pA 1); (try clear zB0 zB1); (try have zB0 := cell_block pB 0); (try have zB1 := cell_block pB 1)
  go_wp2_with fail
  refine (Corrected_any step a1 n k1 xs e _ s1 F E2 S2 X2 HF.out HB1.out HB2.out HB3.out).mono ?_
  rintro r w7 ⟨aZ, nZ, cZ, rfl, sZ, hs⟩
  clear s1
  replace x1 := blk_keep x1 hs
  replace pA := blk_keep pA hs
  replace sY := sY.keep hs
  replace BW := BW.trans (hs.mono BW.size)
  clear hs
  have hs := hA w7 (.cells #[.int .i64 S2, .slice aZ nZ cZ] 24)
  have pB := alloc_new w7 (.cells #[.int .i64 S2, .slice aZ nZ cZ] 24)
  replace x1 := blk_keep x1 hs
  replace pA := blk_keep pA hs
  replace sY := sY.keep hs
  replace sZ := sZ.keep hs
  replace BW := BW.trans (hs.mono BW.size)
  clear hs
  (try clear f0 f1); have f0 := cell_block x1 0; have f1 := cell_block x1 1; (try clear zA0 zA1); (try have zA0 := cell_block pA 0); (try have zA1 := cell_block pA 1); (try clear zB0 zB1); (try have zB0 := cell_block pB 0); (try have zB1 := cell_block pB 1)
  go_wp2_with fail
  obtain ⟨bB, hbB⟩ : ∃ b, w7.heap.size = b := ⟨_, rfl⟩
  generalize World.alloc w7 _ = w8 at x1 pA pB sY sZ BW f0 f1 zA0 zA1 zB0 zB1 ⊢
  rw [hbB] at pB zB0 zB1 ⊢
  clear hbB
  refine (rRecordErr_any step a n c xs _ (h1.keep BW) rE HRE.out).mono ?_
  rintro r w9 ⟨rfl, hs⟩
  replace x1 := blk_keep x1 hs; (try replace pA := blk_keep pA hs); (try replace pB := blk_keep pB hs); (try replace sY := sY.keep hs); (try replace sZ := sZ.keep hs); (try replace sL := sL.keep hs); replace BW := BW.trans (hs.mono BW.size); clear hs; (try clear f0 f1); have f0 := cell_block x1 0; have f1 := cell_block x1 1; (try clear zA0 zA1); (try have zA0 := cell_block pA 0); (try have zA1 := cell_block pA 1); (try clear zB0 zB1); (try have zB0 := cell_block pB 0); (try have zB1 := cell_block pB 1)
  by_cases hz : rE = 0
  case neg =>
    have hFe : F = rE := by rw [← HF.out, HRE.out, firstE, if_neg hz]
    obtain ⟨u1, u2, u3⟩ := HA1.out (by rw [hFe]; exact hz)
    obtain ⟨v1, v2, v3⟩ := HB1.out (by rw [hFe]; exact hz)
    have b1 : (rE == 0) = false := by simpa using hz
    have b2 : (rE != 0) = true := by simpa using hz
    rw [hFe] at u1 v1
    subst u1 u2 u3 v1 v2 v3
    obtain rfl : nY = 0 := sY.len
    obtain rfl : nZ = 0 := sZ.len
    clear hz hFe
    go_wp2_with fail; refine (same_any 0 0 aY none 0 0 cY 0 [] [] _ sY (Sl.nil _ 1) true (by simp)).mono ?_; rintro r w11 ⟨rfl, hs⟩; replace x1 := blk_keep x1 hs; (try replace pA := blk_keep pA hs); (try replace pB := blk_keep pB hs); (try replace sY := sY.keep hs); (try replace sZ := sZ.keep hs); (try replace sL := sL.keep hs); replace BW := BW.trans (hs.mono BW.size); clear hs; (try clear f0 f1); have f0 := cell_block x1 0; have f1 := cell_block x1 1; (try clear zA0 zA1); (try have zA0 := cell_block pA 0); (try have zA1 := cell_block pA 1); (try clear zB0 zB1); (try have zB0 := cell_block pB 0); (try have zB1 := cell_block pB 1); go_wp2_with fail; refine (same_any 0 0 aZ none 0 0 cZ 0 [] [] _ sZ (Sl.nil _ 1) true (by simp)).mono ?_; rintro r w12 ⟨rfl, hs⟩; go_wp2_with fail; go_ret; exact ⟨rfl, BW.trans (hs.mono BW.size)⟩
  subst hz
  go_wp2_with fail
  refine (rEchoErr_any e _).mono ?_
  rintro r w10 ⟨rfl, rfl⟩
  rw [HL.out]
  by_cases hz : L = 0
  case neg =>
    have hFe : F = L := by rw [← HF.out, HRE.out, HL.out, firstE, if_pos rfl, firstE, if_neg hz]
    obtain ⟨u1, u2, u3⟩ := HA1.out (by rw [hFe]; exact hz)
    obtain ⟨v1, v2, v3⟩ := HB1.out (by rw [hFe]; exact hz)
    have b2 : (L != 0) = true := by simpa using hz
    rw [hFe] at u1 v1
    subst u1 u2 u3 v1 v2 v3
    obtain rfl : nY = 0 := sY.len
    obtain rfl : nZ = 0 := sZ.len
    clear hz hFe
    go_wp2_with fail; refine (same_any 0 0 aY none 0 0 cY 0 [] [] _ sY (Sl.nil _ 1) true (by simp)).mono ?_; rintro r w11 ⟨rfl, hs⟩; replace x1 := blk_keep x1 hs; (try replace pA := blk_keep pA hs); (try replace pB := blk_keep pB hs); (try replace sY := sY.keep hs); (try replace sZ := sZ.keep hs); (try replace sL := sL.keep hs); replace BW := BW.trans (hs.mono BW.size); clear hs; (try clear f0 f1); have f0 := cell_block x1 0; have f1 := cell_block x1 1; (try clear zA0 zA1); (try have zA0 := cell_block pA 0); (try have zA1 := cell_block pA 1); (try clear zB0 zB1); (try have zB0 := cell_block pB 0); (try have zB1 := cell_block pB 1); go_wp2_with fail; refine (same_any 0 0 aZ none 0 0 cZ 0 [] [] _ sZ (Sl.nil _ 1) true (by simp)).mono ?_; rintro r w12 ⟨rfl, hs⟩; go_wp2_with fail; go_ret; exact ⟨rfl, BW.trans (hs.mono BW.size)⟩
  subst hz
  have hFe : F = 0 := by rw [← HF.out, HRE.out, HL.out]; rfl
  have he : -2 ≤ e ∧ e ≤ 2 := by
    have h := HL.out
    cases hw : wIn e (-2) 2
    · rw [hw] at h; cases h
    · exact wIn_iff.1 hw
  obtain ⟨he1, he2⟩ := he
  obtain ⟨r1, r2, r3, r4, r5⟩ := recF_ok HRE.out
  have H5 := Lib.hid r5
  have H3 := Lib.hid r3
  have hn1 : 1 < n := by omega
  have hn2 : n ≤ 24 := by omega
  have HFF : Hid (firstE [(0 : Int), unlessE (wIn e (-2) 2) 2] = 0) := Lib.hid (by rw [HL.out]; rfl)
  clear r1 r2 r3 r4 r5
  cases R1
  · as_aux_lemma =>
    obtain ⟨u1, u2, u3⟩ := HA2.out hFe HR1.out
    subst u1 u2 u3
    obtain rfl : nY = 0 := sY.len
    have hm1 := sY.max
    go_wp2_with fail
    refine (rRecorded_any a n c xs e _ (h1.keep BW) hn H5.out he1 he2 false [] HR1.out (fun _ => rfl) (fun h => by cases h)).mono ?_
    rintro r wa ⟨aL, nL, cL, rfl, sL, hs⟩
    clear sL
    replace x1 := blk_keep x1 hs; (try replace pA := blk_keep pA hs); (try replace pB := blk_keep pB hs); (try replace sY := sY.keep hs); (try replace sZ := sZ.keep hs); (try replace sL := sL.keep hs); replace BW := BW.trans (hs.mono BW.size); clear hs
    go_wp2_with fail
    refine Calmly.wp_region_mix 26 (.fl 0 <| .fl 1 <| .fl 2 <| .gl 3 <| .gl 4 <| .gl 5 <| .gl 6 <| .gl 7 <| .gf 8 <| .gl 9 <| .gl 10 <| .fl 11 <| .fl 12 <| .gl 13 <| .gl 14 <| .gl 15 <| .gl 16 <| .gl 17 <| .gl 18 <| .gl 19 <| .gl 20 <| .gf 21 <| .gf 22 <| .gl 23 <| .gl 24 <| .gl 25 <| .tail [26]) (by kernel_rfl) (by kernel_rfl) ?_
    have hs := (Below.refl wa.heap.size wa).drew
    replace x1 := blk_keep x1 hs; (try replace pA := blk_keep pA hs); (try replace pB := blk_keep pB hs); (try replace sY := sY.keep hs); (try replace sZ := sZ.keep hs); (try replace sL := sL.keep hs); replace BW := BW.trans (hs.mono BW.size); clear hs; (try clear f0 f1); have f0 := cell_block x1 0; have f1 := cell_block x1 1; (try clear zA0 zA1); (try have zA0 := cell_block pA 0); (try have zA1 := cell_block pA 1); (try clear zB0 zB1); (try have zB0 := cell_block pB 0); (try have zB1 := cell_block pB 1)
    generalize wa.drew = wb at x1 pA pB BW sY sZ f0 f1 zA0 zA1 zB0 zB1 ⊢
    have hk := Below.refl wb.heap.size wb
    go_wp2_with (first | ((with_reducible refine Calmly.is_fl ?_); refine Calmly.mix_fl rfl ?_ (fun _ _ => ?_); (first | exact .move _ | exact .load _ _ | exact .fieldAddr _ _ _ (by kernel_rfl) | exact .assign _ | exact .binOp _ _ _ _ _ rfl | exact .indexAddr _ _ _ | exact .len _ _ (by kernel_rfl) | exact .field _ _ _ | exact .extract _ _ | exact .pick _ _ _ | exact .build _ _ | exact .slice _ _ _ _ _ | exact .unOp _ _ _ rfl | exact .index _ _ _ | exact .max _ _ _ rfl rfl | exact .min _ _ _ rfl rfl)) | ((with_reducible refine Calmly.is_gl ?_); refine Calmly.mix_gl rfl rfl rfl ?_; first | ((first | with_reducible refine Calmly.gl_tt ?_ (fun _ _ => ?_) | with_reducible refine Calmly.gl_ff ?_ (fun _ _ => ?_)); (first | exact .move _ | exact .load _ _ | exact .fieldAddr _ _ _ (by kernel_rfl) | exact .assign _ | exact .binOp _ _ _ _ _ rfl | exact .indexAddr _ _ _ | exact .len _ _ (by kernel_rfl) | exact .field _ _ _ | exact .extract _ _ | exact .pick _ _ _ | exact .build _ _ | exact .slice _ _ _ _ _ | exact .unOp _ _ _ rfl | exact .index _ _ _ | exact .max _ _ _ rfl rfl | exact .min _ _ _ rfl rfl)) | with_reducible refine Calmly.gl_tf (fun _ _ => ?_) | with_reducible refine Calmly.gl_ft (fun _ _ => ?_)) | ((with_reducible refine Calmly.is_eff ?_); refine Calmly.mix_eff rfl (fun _ _ => ?_)) | ((with_reducible refine Calmly.is_gf ?_); refine Calmly.mix_gf rfl rfl rfl ?_; first | with_reducible refine Calmly.gf_tt (fun _ _ => ?_) | with_reducible refine Calmly.gf_ff (fun _ _ => ?_) | with_reducible refine Calmly.gf_tf (kept_of hk) (fun _ _ => ?_) | with_reducible refine Calmly.gf_ft (kept_of hk) (fun _ _ => ?_)) | ((with_reducible refine Calmly.is_tail ?_); first | refine Calmly.mix_tail_nil ?_ | refine Calmly.mix_tail rfl (fun _ _ => ?_)) | ((with_reducible refine Calmly.is_kept ?_); refine ⟨kept_of hk, ?_⟩) | (with_reducible refine Calmly.mix_alt ?_ ?_) | ((with_reducible refine Calmly.is_gl ?_); refine Calmly.mix_glu rfl rfl rfl (fun _ _ => ?_)) | ((with_reducible refine Calmly.is_gf ?_); refine Calmly.mix_gfu rfl rfl rfl (kept_of hk) (fun _ _ => ?_)) | (go_at_call 49; refine (same_any 0 0 aY none 0 0 cY 0 [] [] _ (sY.keep hk) (Sl.nil _ 1) true (by simp)).mono ?_; rintro r wd ⟨rfl, hs⟩; replace hk := step_of hk hs; clear hs; have hs := hk; replace x1 := blk_keep x1 hs; replace pA := blk_keep pA hs; replace pB := blk_keep pB hs; replace sY := sY.keep hs; replace sZ := sZ.keep hs; replace BW := BW.trans (hs.mono BW.size); clear hs; (try clear f0 f1); have f0 := cell_block x1 0; have f1 := cell_block x1 1; (try clear zA0 zA1); (try have zA0 := cell_block pA 0); (try have zA1 := cell_block pA 1); (try clear zB0 zB1); (try have zB0 := cell_block pB 0); (try have zB1 := cell_block pB 1)))
    clear hk
    cases R2
    · as_aux_lemma =>
      obtain ⟨u1, u2, u3⟩ := HB2.out hFe HR2.out
      subst u1 u2 u3
      obtain rfl : nZ = 0 := sZ.len
      have hm2 := sZ.max
      go_wp2_with fail
      refine (rCorrected_any a n c xs e _ (h1.keep BW) hn H5.out he1 he2 false [] HR2.out (fun _ => rfl) (fun h => by cases h)).mono ?_
      rintro r wa ⟨aL, nL, cL, rfl, sL, hs⟩
      clear sL
      replace x1 := blk_keep x1 hs; (try replace pA := blk_keep pA hs); (try replace pB := blk_keep pB hs); (try replace sY := sY.keep hs); (try replace sZ := sZ.keep hs); (try replace sL := sL.keep hs); replace BW := BW.trans (hs.mono BW.size); clear hs
      go_wp2_with fail
      refine Calmly.wp_region_mix 26 (.fl 0 <| .fl 1 <| .fl 2 <| .gl 3 <| .gl 4 <| .gl 5 <| .gl 6 <| .gl 7 <| .gf 8 <| .gl 9 <| .gl 10 <| .fl 11 <| .fl 12 <| .gl 13 <| .gl 14 <| .gl 15 <| .gl 16 <| .gl 17 <| .gl 18 <| .gl 19 <| .gl 20 <| .gf 21 <| .gf 22 <| .gl 23 <| .gl 24 <| .gl 25 <| .tail [26]) (by kernel_rfl) (by kernel_rfl) ?_
      have hs := (Below.refl wa.heap.size wa).drew
      replace x1 := blk_keep x1 hs; (try replace pA := blk_keep pA hs); (try replace pB := blk_keep pB hs); (try replace sY := sY.keep hs); (try replace sZ := sZ.keep hs); (try replace sL := sL.keep hs); replace BW := BW.trans (hs.mono BW.size); clear hs; (try clear f0 f1); have f0 := cell_block x1 0; have f1 := cell_block x1 1; (try clear zA0 zA1); (try have zA0 := cell_block pA 0); (try have zA1 := cell_block pA 1); (try clear zB0 zB1); (try have zB0 := cell_block pB 0); (try have zB1 := cell_block pB 1)
      generalize wa.drew = wb at x1 pA pB BW sY sZ f0 f1 zA0 zA1 zB0 zB1 ⊢
      have hk := Below.refl wb.heap.size wb
      go_wp2_with (first | ((with_reducible refine Calmly.is_fl ?_); refine Calmly.mix_fl rfl ?_ (fun _ _ => ?_); (first | exact .move _ | exact .load _ _ | exact .fieldAddr _ _ _ (by kernel_rfl) | exact .assign _ | exact .binOp _ _ _ _ _ rfl | exact .indexAddr _ _ _ | exact .len _ _ (by kernel_rfl) | exact .field _ _ _ | exact .extract _ _ | exact .pick _ _ _ | exact .build _ _ | exact .slice _ _ _ _ _ | exact .unOp _ _ _ rfl | exact .index _ _ _ | exact .max _ _ _ rfl rfl | exact .min _ _ _ rfl rfl)) | ((with_reducible refine Calmly.is_gl ?_); refine Calmly.mix_gl rfl rfl rfl ?_; first | ((first | with_reducible refine Calmly.gl_tt ?_ (fun _ _ => ?_) | with_reducible refine Calmly.gl_ff ?_ (fun _ _ => ?_)); (first | exact .move _ | exact .load _ _ | exact .fieldAddr _ _ _ (by kernel_rfl) | exact .assign _ | exact .binOp _ _ _ _ _ rfl | exact .indexAddr _ _ _ | exact .len _ _ (by kernel_rfl) | exact .field _ _ _ | exact .extract _ _ | exact .pick _ _ _ | exact .build _ _ | exact .slice _ _ _ _ _ | exact .unOp _ _ _ rfl | exact .index _ _ _ | exact .max _ _ _ rfl rfl | exact .min _ _ _ rfl rfl)) | with_reducible refine Calmly.gl_tf (fun _ _ => ?_) | with_reducible refine Calmly.gl_ft (fun _ _ => ?_)) | ((with_reducible refine Calmly.is_eff ?_); refine Calmly.mix_eff rfl (fun _ _ => ?_)) | ((with_reducible refine Calmly.is_gf ?_); refine Calmly.mix_gf rfl rfl rfl ?_; first | with_reducible refine Calmly.gf_tt (fun _ _ => ?_) | with_reducible refine Calmly.gf_ff (fun _ _ => ?_) | with_reducible refine Calmly.gf_tf (kept_of hk) (fun _ _ => ?_) | with_reducible refine Calmly.gf_ft (kept_of hk) (fun _ _ => ?_)) | ((with_reducible refine Calmly.is_tail ?_); first | refine Calmly.mix_tail_nil ?_ | refine Calmly.mix_tail rfl (fun _ _ => ?_)) | ((with_reducible refine Calmly.is_kept ?_); refine ⟨kept_of hk, ?_⟩) | (with_reducible refine Calmly.mix_alt ?_ ?_) | ((with_reducible refine Calmly.is_gl ?_); refine Calmly.mix_glu rfl rfl rfl (fun _ _ => ?_)) | ((with_reducible refine Calmly.is_gf ?_); refine Calmly.mix_gfu rfl rfl rfl (kept_of hk) (fun _ _ => ?_)) | (go_at_call 49; refine (same_any 0 0 aZ none 0 0 cZ 0 [] [] _ (sZ.keep hk) (Sl.nil _ 1) true (by simp)).mono ?_; rintro r wd ⟨rfl, hs⟩; replace hk := step_of hk hs; clear hs; have hs := hk; replace x1 := blk_keep x1 hs; replace pA := blk_keep pA hs; replace pB := blk_keep pB hs; replace sY := sY.keep hs; replace sZ := sZ.keep hs; replace BW := BW.trans (hs.mono BW.size); clear hs; (try clear f0 f1); have f0 := cell_block x1 0; have f1 := cell_block x1 1; (try clear zA0 zA1); (try have zA0 := cell_block pA 0); (try have zA1 := cell_block pA 1); (try clear zB0 zB1); (try have zB0 := cell_block pB 0); (try have zB1 := cell_block pB 1)))
      clear hk
      go_ret
      exact ⟨rfl, BW⟩
    · as_aux_lemma =>
      obtain ⟨u1, u2, u3⟩ := HB3.out hFe HR2.out
      rw [HZ.out] at u3
      subst u1
      obtain rfl : step = S2 := u2.symm
      obtain rfl : Z = X2 := u3.symm
      obtain rfl : n = nZ := by have h := sZ.len; rw [← HZ.out, echL_len] at h; omega
      have hm2 := sZ.max
      have hc2 := sZ.cap
      go_wp2_with fail
      refine (rCorrected_any a n c xs e _ (h1.keep BW) hn H5.out he1 he2 true Z HR2.out (fun h => by cases h) (fun _ => HZ.out.symm)).mono ?_
      rintro r wa ⟨aL, nL, cL, rfl, sL, hs⟩
      replace x1 := blk_keep x1 hs; (try replace pA := blk_keep pA hs); (try replace pB := blk_keep pB hs); (try replace sY := sY.keep hs); (try replace sZ := sZ.keep hs); (try replace sL := sL.keep hs); replace BW := BW.trans (hs.mono BW.size); clear hs
      obtain rfl : n = nL := by have h := sL.len; rw [← HZ.out, echL_len] at h; omega
      go_wp2_with fail
      refine Calmly.wp_region_mix 26 (.fl 0 <| .fl 1 <| .fl 2 <| .gl 3 <| .gl 4 <| .gl 5 <| .gl 6 <| .gl 7 <| .gf 8 <| .gl 9 <| .gl 10 <| .fl 11 <| .fl 12 <| .gl 13 <| .gl 14 <| .gl 15 <| .gl 16 <| .gl 17 <| .gl 18 <| .gl 19 <| .gl 20 <| .gf 21 <| .gf 22 <| .gl 23 <| .gl 24 <| .gl 25 <| .tail [26]) (by kernel_rfl) (by kernel_rfl) ?_
      have hs := (Below.refl wa.heap.size wa).drew
      replace x1 := blk_keep x1 hs; (try replace pA := blk_keep pA hs); (try replace pB := blk_keep pB hs); (try replace sY := sY.keep hs); (try replace sZ := sZ.keep hs); (try replace sL := sL.keep hs); replace BW := BW.trans (hs.mono BW.size); clear hs; (try clear f0 f1); have f0 := cell_block x1 0; have f1 := cell_block x1 1; (try clear zA0 zA1); (try have zA0 := cell_block pA 0); (try have zA1 := cell_block pA 1); (try clear zB0 zB1); (try have zB0 := cell_block pB 0); (try have zB1 := cell_block pB 1)
      generalize wa.drew = wb at x1 pA pB BW sY sZ sL f0 f1 zA0 zA1 zB0 zB1 ⊢
      have hk := Below.refl wb.heap.size wb
      go_wp2_with (first | ((with_reducible refine Calmly.is_fl ?_); refine Calmly.mix_fl rfl ?_ (fun _ _ => ?_); (first | exact .move _ | exact .load _ _ | exact .fieldAddr _ _ _ (by kernel_rfl) | exact .assign _ | exact .binOp _ _ _ _ _ rfl | exact .indexAddr _ _ _ | exact .len _ _ (by kernel_rfl) | exact .field _ _ _ | exact .extract _ _ | exact .pick _ _ _ | exact .build _ _ | exact .slice _ _ _ _ _ | exact .unOp _ _ _ rfl | exact .index _ _ _ | exact .max _ _ _ rfl rfl | exact .min _ _ _ rfl rfl)) | ((with_reducible refine Calmly.is_gl ?_); refine Calmly.mix_gl rfl rfl rfl ?_; first | ((first | with_reducible refine Calmly.gl_tt ?_ (fun _ _ => ?_) | with_reducible refine Calmly.gl_ff ?_ (fun _ _ => ?_)); (first | exact .move _ | exact .load _ _ | exact .fieldAddr _ _ _ (by kernel_rfl) | exact .assign _ | exact .binOp _ _ _ _ _ rfl | exact .indexAddr _ _ _ | exact .len _ _ (by kernel_rfl) | exact .field _ _ _ | exact .extract _ _ | exact .pick _ _ _ | exact .build _ _ | exact .slice _ _ _ _ _ | exact .unOp _ _ _ rfl | exact .index _ _ _ | exact .max _ _ _ rfl rfl | exact .min _ _ _ rfl rfl)) | with_reducible refine Calmly.gl_tf (fun _ _ => ?_) | with_reducible refine Calmly.gl_ft (fun _ _ => ?_)) | ((with_reducible refine Calmly.is_eff ?_); refine Calmly.mix_eff rfl (fun _ _ => ?_)) | ((with_reducible refine Calmly.is_gf ?_); refine Calmly.mix_gf rfl rfl rfl ?_; first | with_reducible refine Calmly.gf_tt (fun _ _ => ?_) | with_reducible refine Calmly.gf_ff (fun _ _ => ?_) | with_reducible refine Calmly.gf_tf (kept_of hk) (fun _ _ => ?_) | with_reducible refine Calmly.gf_ft (kept_of hk) (fun _ _ => ?_)) | ((with_reducible refine Calmly.is_tail ?_); first | refine Calmly.mix_tail_nil ?_ | refine Calmly.mix_tail rfl (fun _ _ => ?_)) | ((with_reducible refine Calmly.is_kept ?_); refine ⟨kept_of hk, ?_⟩) | (with_reducible refine Calmly.mix_alt ?_ ?_) | ((with_reducible refine Calmly.is_gl ?_); refine Calmly.mix_glu rfl rfl rfl (fun _ _ => ?_)) | ((with_reducible refine Calmly.is_gf ?_); refine Calmly.mix_gfu rfl rfl rfl (kept_of hk) (fun _ _ => ?_)) | (go_at_call 44; refine (with_any step a n c aL n cL Z _ (sL.keep hk) (by omega)).mono ?_; rintro r wc ⟨aW, cW, rfl, sW, hs⟩; replace hk := step_of hk hs; clear hs) | (go_at_call 49; refine (same_any step step aZ aW n n cZ cW Z Z _ (sZ.keep hk) sW true (by simp)).mono ?_; rintro r wd ⟨rfl, hs⟩; replace hk := step_of hk hs; clear hs; clear sW; clear sL; have hs := hk; replace x1 := blk_keep x1 hs; replace pA := blk_keep pA hs; replace pB := blk_keep pB hs; replace sY := sY.keep hs; replace sZ := sZ.keep hs; replace BW := BW.trans (hs.mono BW.size); clear hs; (try clear f0 f1); have f0 := cell_block x1 0; have f1 := cell_block x1 1; (try clear zA0 zA1); (try have zA0 := cell_block pA 0); (try have zA1 := cell_block pA 1); (try clear zB0 zB1); (try have zB0 := cell_block pB 0); (try have zB1 := cell_block pB 1)))
      clear hk
      refine (copy_any step aZ n cZ Z _ sZ (by omega)).mono ?_
      rintro r va ⟨a1, k1, rfl, s1, hs⟩
      replace x1 := blk_keep x1 hs; (try replace pA := blk_keep pA hs); (try replace pB := blk_keep pB hs); (try replace sY := sY.keep hs); (try replace sZ := sZ.keep hs); (try replace sL := sL.keep hs); replace BW := BW.trans (hs.mono BW.size); clear hs; (try clear f0 f1); have f0 := cell_block x1 0; have f1 := cell_block x1 1; (try clear zA0 zA1); (try have zA0 := cell_block pA 0); (try have zA1 := cell_block pA 1); (try clear zB0 zB1); (try have zB0 := cell_block pB 0); (try have zB1 := cell_block pB 1)
      go_wp2_with fail
      refine (Recorded_any step a1 n k1 Z e _ s1 0 0 step xs (by rw [← HZ.out, ech_rec hn1 hn2 H3.out HR2.out]; exact HFF.out) (fun h => absurd rfl h) (fun _ h => by rw [← HZ.out, rec_back H5.out] at h; cases h) (fun _ _ => ⟨rfl, rfl, by rw [← HZ.out, back_rec (by omega)]⟩)).mono ?_
      rintro r vb ⟨aB, nB, cB, rfl, sB, hs⟩
      clear s1
      replace x1 := blk_keep x1 hs; (try replace pA := blk_keep pA hs); (try replace pB := blk_keep pB hs); (try replace sY := sY.keep hs); (try replace sZ := sZ.keep hs); (try replace sL := sL.keep hs); replace BW := BW.trans (hs.mono BW.size); clear hs
      have hs := hA vb (.cells #[.int .i64 step, .slice aB nB cB] 24)
      have pC := alloc_new vb (.cells #[.int .i64 step, .slice aB nB cB] 24)
      replace sB := sB.keep hs
      replace x1 := blk_keep x1 hs; (try replace pA := blk_keep pA hs); (try replace pB := blk_keep pB hs); (try replace sY := sY.keep hs); (try replace sZ := sZ.keep hs); (try replace sL := sL.keep hs); replace BW := BW.trans (hs.mono BW.size); clear hs; (try clear f0 f1); have f0 := cell_block x1 0; have f1 := cell_block x1 1; (try clear zA0 zA1); (try have zA0 := cell_block pA 0); (try have zA1 := cell_block pA 1); (try clear zB0 zB1); (try have zB0 := cell_block pB 0); (try have zB1 := cell_block pB 1)
      have g0 := cell_block pC 0
      have g1 := cell_block pC 1
      go_wp2_with fail
      generalize World.alloc vb _ = vc at x1 pA pB BW sY sZ sB f0 f1 zA0 zA1 zB0 zB1 ⊢
      clear g0 g1 pC
      refine (same_any step step aB a nB n cB c xs xs _ sB (h1.keep BW) true (by simp)).mono ?_
      rintro r vd ⟨rfl, hs⟩
      clear sB
      replace x1 := blk_keep x1 hs; (try replace pA := blk_keep pA hs); (try replace pB := blk_keep pB hs); (try replace sY := sY.keep hs); (try replace sZ := sZ.keep hs); (try replace sL := sL.keep hs); replace BW := BW.trans (hs.mono BW.size); clear hs; (try clear f0 f1); have f0 := cell_block x1 0; have f1 := cell_block x1 1; (try clear zA0 zA1); (try have zA0 := cell_block pA 0); (try have zA1 := cell_block pA 1); (try clear zB0 zB1); (try have zB0 := cell_block pB 0); (try have zB1 := cell_block pB 1)
      go_wp2_with fail
      go_ret
      exact ⟨rfl, BW⟩
  · as_aux_lemma =>
    obtain ⟨u1, u2, u3⟩ := HA3.out hFe HR1.out
    rw [HY.out] at u3
    subst u1
    obtain rfl : step = S1 := u2.symm
    obtain rfl : Y = X1 := u3.symm
    obtain rfl : n = nY := by have h := sY.len; rw [← HY.out, echL_len] at h; omega
    have hm1 := sY.max
    have hc1 := sY.cap
    go_wp2_with fail
    refine (rRecorded_any a n c xs e _ (h1.keep BW) hn H5.out he1 he2 true Y HR1.out (fun h => by cases h) (fun _ => HY.out.symm)).mono ?_
    rintro r wa ⟨aL, nL, cL, rfl, sL, hs⟩
    replace x1 := blk_keep x1 hs; (try replace pA := blk_keep pA hs); (try replace pB := blk_keep pB hs); (try replace sY := sY.keep hs); (try replace sZ := sZ.keep hs); (try replace sL := sL.keep hs); replace BW := BW.trans (hs.mono BW.size); clear hs
    obtain rfl : n = nL := by have h := sL.len; rw [← HY.out, echL_len] at h; omega
    go_wp2_with fail
    refine Calmly.wp_region_mix 26 (.fl 0 <| .fl 1 <| .fl 2 <| .gl 3 <| .gl 4 <| .gl 5 <| .gl 6 <| .gl 7 <| .gf 8 <| .gl 9 <| .gl 10 <| .fl 11 <| .fl 12 <| .gl 13 <| .gl 14 <| .gl 15 <| .gl 16 <| .gl 17 <| .gl 18 <| .gl 19 <| .gl 20 <| .gf 21 <| .gf 22 <| .gl 23 <| .gl 24 <| .gl 25 <| .tail [26]) (by kernel_rfl) (by kernel_rfl) ?_
    have hs := (Below.refl wa.heap.size wa).drew
    replace x1 := blk_keep x1 hs; (try replace pA := blk_keep pA hs); (try replace pB := blk_keep pB hs); (try replace sY := sY.keep hs); (try replace sZ := sZ.keep hs); (try replace sL := sL.keep hs); replace BW := BW.trans (hs.mono BW.size); clear hs; (try clear f0 f1); have f0 := cell_block x1 0; have f1 := cell_block x1 1; (try clear zA0 zA1); (try have zA0 := cell_block pA 0); (try have zA1 := cell_block pA 1); (try clear zB0 zB1); (try have zB0 := cell_block pB 0); (try have zB1 := cell_block pB 1)
    generalize wa.drew = wb at x1 pA pB BW sY sZ sL f0 f1 zA0 zA1 zB0 zB1 ⊢
    have hk := Below.refl wb.heap.size wb
    go_wp2_with (first | ((with_reducible refine Calmly.is_fl ?_); refine Calmly.mix_fl rfl ?_ (fun _ _ => ?_); (first | exact .move _ | exact .load _ _ | exact .fieldAddr _ _ _ (by kernel_rfl) | exact .assign _ | exact .binOp _ _ _ _ _ rfl | exact .indexAddr _ _ _ | exact .len _ _ (by kernel_rfl) | exact .field _ _ _ | exact .extract _ _ | exact .pick _ _ _ | exact .build _ _ | exact .slice _ _ _ _ _ | exact .unOp _ _ _ rfl | exact .index _ _ _ | exact .max _ _ _ rfl rfl | exact .min _ _ _ rfl rfl)) | ((with_reducible refine Calmly.is_gl ?_); refine Calmly.mix_gl rfl rfl rfl ?_; first | ((first | with_reducible refine Calmly.gl_tt ?_ (fun _ _ => ?_) | with_reducible refine Calmly.gl_ff ?_ (fun _ _ => ?_)); (first | exact .move _ | exact .load _ _ | exact .fieldAddr _ _ _ (by kernel_rfl) | exact .assign _ | exact .binOp _ _ _ _ _ rfl | exact .indexAddr _ _ _ | exact .len _ _ (by kernel_rfl) | exact .field _ _ _ | exact .extract _ _ | exact .pick _ _ _ | exact .build _ _ | exact .slice _ _ _ _ _ | exact .unOp _ _ _ rfl | exact .index _ _ _ | exact .max _ _ _ rfl rfl | exact .min _ _ _ rfl rfl)) | with_reducible refine Calmly.gl_tf (fun _ _ => ?_) | with_reducible refine Calmly.gl_ft (fun _ _ => ?_)) | ((with_reducible refine Calmly.is_eff ?_); refine Calmly.mix_eff rfl (fun _ _ => ?_)) | ((with_reducible refine Calmly.is_gf ?_); refine Calmly.mix_gf rfl rfl rfl ?_; first | with_reducible refine Calmly.gf_tt (fun _ _ => ?_) | with_reducible refine Calmly.gf_ff (fun _ _ => ?_) | with_reducible refine Calmly.gf_tf (kept_of hk) (fun _ _ => ?_) | with_reducible refine Calmly.gf_ft (kept_of hk) (fun _ _ => ?_)) | ((with_reducible refine Calmly.is_tail ?_); first | refine Calmly.mix_tail_nil ?_ | refine Calmly.mix_tail rfl (fun _ _ => ?_)) | ((with_reducible refine Calmly.is_kept ?_); refine ⟨kept_of hk, ?_⟩) | (with_reducible refine Calmly.mix_alt ?_ ?_) | ((with_reducible refine Calmly.is_gl ?_); refine Calmly.mix_glu rfl rfl rfl (fun _ _ => ?_)) | ((with_reducible refine Calmly.is_gf ?_); refine Calmly.mix_gfu rfl rfl rfl (kept_of hk) (fun _ _ => ?_)) | (go_at_call 44; refine (with_any step a n c aL n cL Y _ (sL.keep hk) (by omega)).mono ?_; rintro r wc ⟨aW, cW, rfl, sW, hs⟩; replace hk := step_of hk hs; clear hs) | (go_at_call 49; refine (same_any step step aY aW n n cY cW Y Y _ (sY.keep hk) sW true (by simp)).mono ?_; rintro r wd ⟨rfl, hs⟩; replace hk := step_of hk hs; clear hs; clear sW; clear sL; have hs := hk; replace x1 := blk_keep x1 hs; replace pA := blk_keep pA hs; replace pB := blk_keep pB hs; replace sY := sY.keep hs; replace sZ := sZ.keep hs; replace BW := BW.trans (hs.mono BW.size); clear hs; (try clear f0 f1); have f0 := cell_block x1 0; have f1 := cell_block x1 1; (try clear zA0 zA1); (try have zA0 := cell_block pA 0); (try have zA1 := cell_block pA 1); (try clear zB0 zB1); (try have zB0 := cell_block pB 0); (try have zB1 := cell_block pB 1)))
    clear hk
    cases R2
    · as_aux_lemma =>
      obtain ⟨u1, u2, u3⟩ := HB2.out hFe HR2.out
      subst u1 u2 u3
      obtain rfl : nZ = 0 := sZ.len
      have hm2 := sZ.max
      go_wp2_with fail
      refine (rCorrected_any a n c xs e _ (h1.keep BW) hn H5.out he1 he2 false [] HR2.out (fun _ => rfl) (fun h => by cases h)).mono ?_
      rintro r wa ⟨aL, nL, cL, rfl, sL, hs⟩
      clear sL
      replace x1 := blk_keep x1 hs; (try replace pA := blk_keep pA hs); (try replace pB := blk_keep pB hs); (try replace sY := sY.keep hs); (try replace sZ := sZ.keep hs); (try replace sL := sL.keep hs); replace BW := BW.trans (hs.mono BW.size); clear hs
      go_wp2_with fail
      refine Calmly.wp_region_mix 26 (.fl 0 <| .fl 1 <| .fl 2 <| .gl 3 <| .gl 4 <| .gl 5 <| .gl 6 <| .gl 7 <| .gf 8 <| .gl 9 <| .gl 10 <| .fl 11 <| .fl 12 <| .gl 13 <| .gl 14 <| .gl 15 <| .gl 16 <| .gl 17 <| .gl 18 <| .gl 19 <| .gl 20 <| .gf 21 <| .gf 22 <| .gl 23 <| .gl 24 <| .gl 25 <| .tail [26]) (by kernel_rfl) (by kernel_rfl) ?_
      have hs := (Below.refl wa.heap.size wa).drew
      replace x1 := blk_keep x1 hs; (try replace pA := blk_keep pA hs); (try replace pB := blk_keep pB hs); (try replace sY := sY.keep hs); (try replace sZ := sZ.keep hs); (try replace sL := sL.keep hs); replace BW := BW.trans (hs.mono BW.size); clear hs; (try clear f0 f1); have f0 := cell_block x1 0; have f1 := cell_block x1 1; (try clear zA0 zA1); (try have zA0 := cell_block pA 0); (try have zA1 := cell_block pA 1); (try clear zB0 zB1); (try have zB0 := cell_block pB 0); (try have zB1 := cell_block pB 1)
      generalize wa.drew = wb at x1 pA pB BW sY sZ f0 f1 zA0 zA1 zB0 zB1 ⊢
      have hk := Below.refl wb.heap.size wb
      go_wp2_with (first | ((with_reducible refine Calmly.is_fl ?_); refine Calmly.mix_fl rfl ?_ (fun _ _ => ?_); (first | exact .move _ | exact .load _ _ | exact .fieldAddr _ _ _ (by kernel_rfl) | exact .assign _ | exact .binOp _ _ _ _ _ rfl | exact .indexAddr _ _ _ | exact .len _ _ (by kernel_rfl) | exact .field _ _ _ | exact .extract _ _ | exact .pick _ _ _ | exact .build _ _ | exact .slice _ _ _ _ _ | exact .unOp _ _ _ rfl | exact .index _ _ _ | exact .max _ _ _ rfl rfl | exact .min _ _ _ rfl rfl)) | ((with_reducible refine Calmly.is_gl ?_); refine Calmly.mix_gl rfl rfl rfl ?_; first | ((first | with_reducible refine Calmly.gl_tt ?_ (fun _ _ => ?_) | with_reducible refine Calmly.gl_ff ?_ (fun _ _ => ?_)); (first | exact .move _ | exact .load _ _ | exact .fieldAddr _ _ _ (by kernel_rfl) | exact .assign _ | exact .binOp _ _ _ _ _ rfl | exact .indexAddr _ _ _ | exact .len _ _ (by kernel_rfl) | exact .field _ _ _ | exact .extract _ _ | exact .pick _ _ _ | exact .build _ _ | exact .slice _ _ _ _ _ | exact .unOp _ _ _ rfl | exact .index _ _ _ | exact .max _ _ _ rfl rfl | exact .min _ _ _ rfl rfl)) | with_reducible refine Calmly.gl_tf (fun _ _ => ?_) | with_reducible refine Calmly.gl_ft (fun _ _ => ?_)) | ((with_reducible refine Calmly.is_eff ?_); refine Calmly.mix_eff rfl (fun _ _ => ?_)) | ((with_reducible refine Calmly.is_gf ?_); refine Calmly.mix_gf rfl rfl rfl ?_; first | with_reducible refine Calmly.gf_tt (fun _ _ => ?_) | with_reducible refine Calmly.gf_ff (fun _ _ => ?_) | with_reducible refine Calmly.gf_tf (kept_of hk) (fun _ _ => ?_) | with_reducible refine Calmly.gf_ft (kept_of hk) (fun _ _ => ?_)) | ((with_reducible refine Calmly.is_tail ?_); first | refine Calmly.mix_tail_nil ?_ | refine Calmly.mix_tail rfl (fun _ _ => ?_)) | ((with_reducible refine Calmly.is_kept ?_); refine ⟨kept_of hk, ?_⟩) | (with_reducible refine Calmly.mix_alt ?_ ?_) | ((with_reducible refine Calmly.is_gl ?_); refine Calmly.mix_glu rfl rfl rfl (fun _ _ => ?_)) | ((with_reducible refine Calmly.is_gf ?_); refine Calmly.mix_gfu rfl rfl rfl (kept_of hk) (fun _ _ => ?_)) | (go_at_call 49; refine (same_any 0 0 aZ none 0 0 cZ 0 [] [] _ (sZ.keep hk) (Sl.nil _ 1) true (by simp)).mono ?_; rintro r wd ⟨rfl, hs⟩; replace hk := step_of hk hs; clear hs; have hs := hk; replace x1 := blk_keep x1 hs; replace pA := blk_keep pA hs; replace pB := blk_keep pB hs; replace sY := sY.keep hs; replace sZ := sZ.keep hs; replace BW := BW.trans (hs.mono BW.size); clear hs; (try clear f0 f1); have f0 := cell_block x1 0; have f1 := cell_block x1 1; (try clear zA0 zA1); (try have zA0 := cell_block pA 0); (try have zA1 := cell_block pA 1); (try clear zB0 zB1); (try have zB0 := cell_block pB 0); (try have zB1 := cell_block pB 1)))
      clear hk
      refine (copy_any step aY n cY Y _ sY (by omega)).mono ?_
      rintro r va ⟨a1, k1, rfl, s1, hs⟩
      replace x1 := blk_keep x1 hs; (try replace pA := blk_keep pA hs); (try replace pB := blk_keep pB hs); (try replace sY := sY.keep hs); (try replace sZ := sZ.keep hs); (try replace sL := sL.keep hs); replace BW := BW.trans (hs.mono BW.size); clear hs; (try clear f0 f1); have f0 := cell_block x1 0; have f1 := cell_block x1 1; (try clear zA0 zA1); (try have zA0 := cell_block pA 0); (try have zA1 := cell_block pA 1); (try clear zB0 zB1); (try have zB0 := cell_block pB 0); (try have zB1 := cell_block pB 1)
      go_wp2_with fail
      refine (Corrected_any step a1 n k1 Y e _ s1 0 0 step xs (by rw [← HY.out, ech_rec hn1 hn2 H3.out HR1.out]; exact HFF.out) (fun h => absurd rfl h) (fun _ h => by rw [← HY.out, cor_back H5.out] at h; cases h) (fun _ _ => ⟨rfl, rfl, by rw [← HY.out, back_cor (by omega)]⟩)).mono ?_
      rintro r vb ⟨aB, nB, cB, rfl, sB, hs⟩
      clear s1
      replace x1 := blk_keep x1 hs; (try replace pA := blk_keep pA hs); (try replace pB := blk_keep pB hs); (try replace sY := sY.keep hs); (try replace sZ := sZ.keep hs); (try replace sL := sL.keep hs); replace BW := BW.trans (hs.mono BW.size); clear hs
      have hs := hA vb (.cells #[.int .i64 step, .slice aB nB cB] 24)
      have pC := alloc_new vb (.cells #[.int .i64 step, .slice aB nB cB] 24)
      replace sB := sB.keep hs
      replace x1 := blk_keep x1 hs; (try replace pA := blk_keep pA hs); (try replace pB := blk_keep pB hs); (try replace sY := sY.keep hs); (try replace sZ := sZ.keep hs); (try replace sL := sL.keep hs); replace BW := BW.trans (hs.mono BW.size); clear hs; (try clear f0 f1); have f0 := cell_block x1 0; have f1 := cell_block x1 1; (try clear zA0 zA1); (try have zA0 := cell_block pA 0); (try have zA1 := cell_block pA 1); (try clear zB0 zB1); (try have zB0 := cell_block pB 0); (try have zB1 := cell_block pB 1)
      have g0 := cell_block pC 0
      have g1 := cell_block pC 1
      go_wp2_with fail
      generalize World.alloc vb _ = vc at x1 pA pB BW sY sZ sB f0 f1 zA0 zA1 zB0 zB1 ⊢
      clear g0 g1 pC
      refine (same_any step step aB a nB n cB c xs xs _ sB (h1.keep BW) true (by simp)).mono ?_
      rintro r vd ⟨rfl, hs⟩
      clear sB
      replace x1 := blk_keep x1 hs; (try replace pA := blk_keep pA hs); (try replace pB := blk_keep pB hs); (try replace sY := sY.keep hs); (try replace sZ := sZ.keep hs); (try replace sL := sL.keep hs); replace BW := BW.trans (hs.mono BW.size); clear hs; (try clear f0 f1); have f0 := cell_block x1 0; have f1 := cell_block x1 1; (try clear zA0 zA1); (try have zA0 := cell_block pA 0); (try have zA1 := cell_block pA 1); (try clear zB0 zB1); (try have zB0 := cell_block pB 0); (try have zB1 := cell_block pB 1)
      go_wp2_with fail
      go_ret
      exact ⟨rfl, BW⟩
    · as_aux_lemma =>
      obtain ⟨u1, u2, u3⟩ := HB3.out hFe HR2.out
      rw [HZ.out] at u3
      subst u1
      obtain rfl : step = S2 := u2.symm
      obtain rfl : Z = X2 := u3.symm
      obtain rfl : n = nZ := by have h := sZ.len; rw [← HZ.out, echL_len] at h; omega
      have hm2 := sZ.max
      have hc2 := sZ.cap
      go_wp2_with fail
      refine (rCorrected_any a n c xs e _ (h1.keep BW) hn H5.out he1 he2 true Z HR2.out (fun h => by cases h) (fun _ => HZ.out.symm)).mono ?_
      rintro r wa ⟨aL, nL, cL, rfl, sL, hs⟩
      replace x1 := blk_keep x1 hs; (try replace pA := blk_keep pA hs); (try replace pB := blk_keep pB hs); (try replace sY := sY.keep hs); (try replace sZ := sZ.keep hs); (try replace sL := sL.keep hs); replace BW := BW.trans (hs.mono BW.size); clear hs
      obtain rfl : n = nL := by have h := sL.len; rw [← HZ.out, echL_len] at h; omega
      go_wp2_with fail
      refine Calmly.wp_region_mix 26 (.fl 0 <| .fl 1 <| .fl 2 <| .gl 3 <| .gl 4 <| .gl 5 <| .gl 6 <| .gl 7 <| .gf 8 <| .gl 9 <| .gl 10 <| .fl 11 <| .fl 12 <| .gl 13 <| .gl 14 <| .gl 15 <| .gl 16 <| .gl 17 <| .gl 18 <| .gl 19 <| .gl 20 <| .gf 21 <| .gf 22 <| .gl 23 <| .gl 24 <| .gl 25 <| .tail [26]) (by kernel_rfl) (by kernel_rfl) ?_
      have hs := (Below.refl wa.heap.size wa).drew
      replace x1 := blk_keep x1 hs; (try replace pA := blk_keep pA hs); (try replace pB := blk_keep pB hs); (try replace sY := sY.keep hs); (try replace sZ := sZ.keep hs); (try replace sL := sL.keep hs); replace BW := BW.trans (hs.mono BW.size); clear hs; (try clear f0 f1); have f0 := cell_block x1 0; have f1 := cell_block x1 1; (try clear zA0 zA1); (try have zA0 := cell_block pA 0); (try have zA1 := cell_block pA 1); (try clear zB0 zB1); (try have zB0 := cell_block pB 0); (try have zB1 := cell_block pB 1)
      generalize wa.drew = wb at x1 pA pB BW sY sZ sL f0 f1 zA0 zA1 zB0 zB1 ⊢
      have hk := Below.refl wb.heap.size wb
      go_wp2_with (first | ((with_reducible refine Calmly.is_fl ?_); refine Calmly.mix_fl rfl ?_ (fun _ _ => ?_); (first | exact .move _ | exact .load _ _ | exact .fieldAddr _ _ _ (by kernel_rfl) | exact .assign _ | exact .binOp _ _ _ _ _ rfl | exact .indexAddr _ _ _ | exact .len _ _ (by kernel_rfl) | exact .field _ _ _ | exact .extract _ _ | exact .pick _ _ _ | exact .build _ _ | exact .slice _ _ _ _ _ | exact .unOp _ _ _ rfl | exact .index _ _ _ | exact .max _ _ _ rfl rfl | exact .min _ _ _ rfl rfl)) | ((with_reducible refine Calmly.is_gl ?_); refine Calmly.mix_gl rfl rfl rfl ?_; first | ((first | with_reducible refine Calmly.gl_tt ?_ (fun _ _ => ?_) | with_reducible refine Calmly.gl_ff ?_ (fun _ _ => ?_)); (first | exact .move _ | exact .load _ _ | exact .fieldAddr _ _ _ (by kernel_rfl) | exact .assign _ | exact .binOp _ _ _ _ _ rfl | exact .indexAddr _ _ _ | exact .len _ _ (by kernel_rfl) | exact .field _ _ _ | exact .extract _ _ | exact .pick _ _ _ | exact .build _ _ | exact .slice _ _ _ _ _ | exact .unOp _ _ _ rfl | exact .index _ _ _ | exact .max _ _ _ rfl rfl | exact .min _ _ _ rfl rfl)) | with_reducible refine Calmly.gl_tf (fun _ _ => ?_) | with_reducible refine Calmly.gl_ft (fun _ _ => ?_)) | ((with_reducible refine Calmly.is_eff ?_); refine Calmly.mix_eff rfl (fun _ _ => ?_)) | ((with_reducible refine Calmly.is_gf ?_); refine Calmly.mix_gf rfl rfl rfl ?_; first | with_reducible refine Calmly.gf_tt (fun _ _ => ?_) | with_reducible refine Calmly.gf_ff (fun _ _ => ?_) | with_reducible refine Calmly.gf_tf (kept_of hk) (fun _ _ => ?_) | with_reducible refine Calmly.gf_ft (kept_of hk) (fun _ _ => ?_)) | ((with_reducible refine Calmly.is_tail ?_); first | refine Calmly.mix_tail_nil ?_ | refine Calmly.mix_tail rfl (fun _ _ => ?_)) | ((with_reducible refine Calmly.is_kept ?_); refine ⟨kept_of hk, ?_⟩) | (with_reducible refine Calmly.mix_alt ?_ ?_) | ((with_reducible refine Calmly.is_gl ?_); refine Calmly.mix_glu rfl rfl rfl (fun _ _ => ?_)) | ((with_reducible refine Calmly.is_gf ?_); refine Calmly.mix_gfu rfl rfl rfl (kept_of hk) (fun _ _ => ?_)) | (go_at_call 44; refine (with_any step a n c aL n cL Z _ (sL.keep hk) (by omega)).mono ?_; rintro r wc ⟨aW, cW, rfl, sW, hs⟩; replace hk := step_of hk hs; clear hs) | (go_at_call 49; refine (same_any step step aZ aW n n cZ cW Z Z _ (sZ.keep hk) sW true (by simp)).mono ?_; rintro r wd ⟨rfl, hs⟩; replace hk := step_of hk hs; clear hs; clear sW; clear sL; have hs := hk; replace x1 := blk_keep x1 hs; replace pA := blk_keep pA hs; replace pB := blk_keep pB hs; replace sY := sY.keep hs; replace sZ := sZ.keep hs; replace BW := BW.trans (hs.mono BW.size); clear hs; (try clear f0 f1); have f0 := cell_block x1 0; have f1 := cell_block x1 1; (try clear zA0 zA1); (try have zA0 := cell_block pA 0); (try have zA1 := cell_block pA 1); (try clear zB0 zB1); (try have zB0 := cell_block pB 0); (try have zB1 := cell_block pB 1)))
      clear hk
      refine (copy_any step aY n cY Y _ sY (by omega)).mono ?_
      rintro r va ⟨a1, k1, rfl, s1, hs⟩
      replace x1 := blk_keep x1 hs; (try replace pA := blk_keep pA hs); (try replace pB := blk_keep pB hs); (try replace sY := sY.keep hs); (try replace sZ := sZ.keep hs); (try replace sL := sL.keep hs); replace BW := BW.trans (hs.mono BW.size); clear hs; (try clear f0 f1); have f0 := cell_block x1 0; have f1 := cell_block x1 1; (try clear zA0 zA1); (try have zA0 := cell_block pA 0); (try have zA1 := cell_block pA 1); (try clear zB0 zB1); (try have zB0 := cell_block pB 0); (try have zB1 := cell_block pB 1)
      go_wp2_with fail
      refine (Corrected_any step a1 n k1 Y e _ s1 0 0 step xs (by rw [← HY.out, ech_rec hn1 hn2 H3.out HR1.out]; exact HFF.out) (fun h => absurd rfl h) (fun _ h => by rw [← HY.out, cor_back H5.out] at h; cases h) (fun _ _ => ⟨rfl, rfl, by rw [← HY.out, back_cor (by omega)]⟩)).mono ?_
      rintro r vb ⟨aB, nB, cB, rfl, sB, hs⟩
      clear s1
      replace x1 := blk_keep x1 hs; (try replace pA := blk_keep pA hs); (try replace pB := blk_keep pB hs); (try replace sY := sY.keep hs); (try replace sZ := sZ.keep hs); (try replace sL := sL.keep hs); replace BW := BW.trans (hs.mono BW.size); clear hs
      have hs := hA vb (.cells #[.int .i64 step, .slice aB nB cB] 24)
      have pC := alloc_new vb (.cells #[.int .i64 step, .slice aB nB cB] 24)
      replace sB := sB.keep hs
      replace x1 := blk_keep x1 hs; (try replace pA := blk_keep pA hs); (try replace pB := blk_keep pB hs); (try replace sY := sY.keep hs); (try replace sZ := sZ.keep hs); (try replace sL := sL.keep hs); replace BW := BW.trans (hs.mono BW.size); clear hs; (try clear f0 f1); have f0 := cell_block x1 0; have f1 := cell_block x1 1; (try clear zA0 zA1); (try have zA0 := cell_block pA 0); (try have zA1 := cell_block pA 1); (try clear zB0 zB1); (try have zB0 := cell_block pB 0); (try have zB1 := cell_block pB 1)
      have g0 := cell_block pC 0
      have g1 := cell_block pC 1
      go_wp2_with fail
      generalize World.alloc vb _ = vc at x1 pA pB BW sY sZ sB f0 f1 zA0 zA1 zB0 zB1 ⊢
      clear g0 g1 pC
      refine (same_any step step aB a nB n cB c xs xs _ sB (h1.keep BW) true (by simp)).mono ?_
      rintro r vd ⟨rfl, hs⟩
      clear sB
      replace x1 := blk_keep x1 hs; (try replace pA := blk_keep pA hs); (try replace pB := blk_keep pB hs); (try replace sY := sY.keep hs); (try replace sZ := sZ.keep hs); (try replace sL := sL.keep hs); replace BW := BW.trans (hs.mono BW.size); clear hs; (try clear f0 f1); have f0 := cell_block x1 0; have f1 := cell_block x1 1; (try clear zA0 zA1); (try have zA0 := cell_block pA 0); (try have zA1 := cell_block pA 1); (try clear zB0 zB1); (try have zB0 := cell_block pB 0); (try have zB1 := cell_block pB 1)
      go_wp2_with fail
      refine (copy_any step aZ n cZ Z _ sZ (by omega)).mono ?_
      rintro r va ⟨a1, k1, rfl, s1, hs⟩
      replace x1 := blk_keep x1 hs; (try replace pA := blk_keep pA hs); (try replace pB := blk_keep pB hs); (try replace sY := sY.keep hs); (try replace sZ := sZ.keep hs); (try replace sL := sL.keep hs); replace BW := BW.trans (hs.mono BW.size); clear hs; (try clear f0 f1); have f0 := cell_block x1 0; have f1 := cell_block x1 1; (try clear zA0 zA1); (try have zA0 := cell_block pA 0); (try have zA1 := cell_block pA 1); (try clear zB0 zB1); (try have zB0 := cell_block pB 0); (try have zB1 := cell_block pB 1)
      go_wp2_with fail
      refine (Recorded_any step a1 n k1 Z e _ s1 0 0 step xs (by rw [← HZ.out, ech_rec hn1 hn2 H3.out HR2.out]; exact HFF.out) (fun h => absurd rfl h) (fun _ h => by rw [← HZ.out, rec_back H5.out] at h; cases h) (fun _ _ => ⟨rfl, rfl, by rw [← HZ.out, back_rec (by omega)]⟩)).mono ?_
      rintro r vb ⟨aB, nB, cB, rfl, sB, hs⟩
      clear s1
      replace x1 := blk_keep x1 hs; (try replace pA := blk_keep pA hs); (try replace pB := blk_keep pB hs); (try replace sY := sY.keep hs); (try replace sZ := sZ.keep hs); (try replace sL := sL.keep hs); replace BW := BW.trans (hs.mono BW.size); clear hs
      have hs := hA vb (.cells #[.int .i64 step, .slice aB nB cB] 24)
      have pC := alloc_new vb (.cells #[.int .i64 step, .slice aB nB cB] 24)
      replace sB := sB.keep hs
      replace x1 := blk_keep x1 hs; (try replace pA := blk_keep pA hs); (try replace pB := blk_keep pB hs); (try replace sY := sY.keep hs); (try replace sZ := sZ.keep hs); (try replace sL := sL.keep hs); replace BW := BW.trans (hs.mono BW.size); clear hs; (try clear f0 f1); have f0 := cell_block x1 0; have f1 := cell_block x1 1; (try clear zA0 zA1); (try have zA0 := cell_block pA 0); (try have zA1 := cell_block pA 1); (try clear zB0 zB1); (try have zB0 := cell_block pB 0); (try have zB1 := cell_block pB 1)
      have g0 := cell_block pC 0
      have g1 := cell_block pC 1
      go_wp2_with fail
      generalize World.alloc vb _ = vc at x1 pA pB BW sY sZ sB f0 f1 zA0 zA1 zB0 zB1 ⊢
      clear g0 g1 pC
      refine (same_any step step aB a nB n cB c xs xs _ sB (h1.keep BW) true (by simp)).mono ?_
      rintro r vd ⟨rfl, hs⟩
      clear sB
      replace x1 := blk_keep x1 hs; (try replace pA := blk_keep pA hs); (try replace pB := blk_keep pB hs); (try replace sY := sY.keep hs); (try replace sZ := sZ.keep hs); (try replace sL := sL.keep hs); replace BW := BW.trans (hs.mono BW.size); clear hs; (try clear f0 f1); have f0 := cell_block x1 0; have f1 := cell_block x1 1; (try clear zA0 zA1); (try have zA0 := cell_block pA 0); (try have zA1 := cell_block pA 1); (try clear zB0 zB1); (try have zB0 := cell_block pB 0); (try have zB1 := cell_block pB 1)
      go_wp2_with fail
      go_ret
      exact ⟨rfl, BW⟩
end Go.Proofs.Ytiibdndchkbefaa

namespace Go.Proofs.Ytiibdndchkbefaa
open Go.ChangeShapes Go.WideShapes Go.ChangeAt Go.RowKit

set_option maxRecDepth 100000 in
set_option maxHeartbeats 1000000 in
theorem MotionInstruments_lifted (os : Os) (started : os.Started) (H : Type) (enc : TypeId × Value → H) :
    ReturnsInHanded {} Try.checked os 8 .any (Rows.motionInstrumentsSpec.pre6 enc Try.prog Try.f8 Rows.motionInstrumentsRow.domain false) (Rows.motionInstrumentsSpec.post enc Try.prog Try.f8 false true false false) := by
  refine returnsInHanded_of_change (C := Try.checked) Try.own' started (by kernel_rfl) Try.func8
    (ChangeSpec.witness6 (enc := enc) (C := Try.checked) false ⟨#[], #[.agg #[.int .i64 0, .slice none 0 0], .int .i64 0], []⟩ 8 (by kernel_rfl) (by kernel_rfl) (by kernel_rfl) (by kernel_rfl)) ?_
  intro W base args ds gs before hval0 hW _ _
  have hval : ∀ (j : Nat) t v, Try.f8.params[j]? = some t → args[j]? = some v → Value.okWide Try.prog W .any base t v := hval0
  have hW' := hW
  obtain ⟨p, q, hA0, hV, rfl, _, _⟩ := hW
  have hA : DataW.TrodAll enc Try.prog W 0 (fun _ => true) true Try.f8.params.toList args.toList ds p := hA0
  rw [Try.params8] at hA hval
  obtain ⟨v0, v1, d0, d1, p0, p1, rfl, rfl, rfl, h0, h1⟩ := trodAll_two hA
  obtain ⟨rfl, rfl⟩ := trodVars_none hV
  clear hA0 hA hval0
  have hlt : ∀ x ∈ p0 ++ p1, x.block < W.heap.size := fun x hx => by simpa using hW'.lt x (by simpa using hx)
  obtain ⟨s0, a0, n0, c0, l0, rfl, hw0, hs0, hw0'⟩ := open_record (hval 0 24 v0 rfl rfl) h0
  obtain ⟨x1, rfl, hw1⟩ := open_num (hval 1 3 v1 rfl rfl) h1
  refine (MotionInstruments_walk s0 a0 n0 c0 l0 x1 W hs0).mono fun e W' ⟨he, hb⟩ => ?_
  subst he
  exact ⟨_, rfl, _, _, _, [], _, [], hW', trodAll_mk1 (shut_bool Try.underlying4 _),
    trodAll_mk2 (Below.trod Try.laidOut' (by kernel_rfl) (of_decide_eq_true (by kernel_rfl)) h0 hb (fun x hx => hlt x (List.mem_append_left _ hx))) (Below.trod Try.laidOut' (by kernel_rfl) (of_decide_eq_true (by kernel_rfl)) h1 hb (fun x hx => hlt x (List.mem_append_right _ hx))),
    rfl, hb.frame _, fun h => by cases h⟩

theorem MotionInstruments_holds : Rows.MotionInstrumentsSaid :=
  OpenClaim.holds_of_wide 8 Try.f8 rfl rfl rfl rfl rfl rfl rfl ⟨rfl, rfl, rfl, rfl, rfl⟩ rfl rfl rfl rfl rfl (by kernel_rfl) Try.func8 (by kernel_rfl)
    (of_decide_eq_true (by kernel_rfl)) (by unfold Func.isWrapper; first | (rw [if_pos (by decide +kernel)]; kernel_rfl) | (rw [if_neg (by decide +kernel)]; exact ⟨rfl, rfl⟩))
    (fun os started H enc _ => MotionInstruments_lifted os started H enc)
#print axioms MotionInstruments_holds
end Go.Proofs.Ytiibdndchkbefaa
