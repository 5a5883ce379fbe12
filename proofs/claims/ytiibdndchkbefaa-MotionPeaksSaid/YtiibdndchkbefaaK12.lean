/- Contracts of chapter 2: the reference's greatest scale, and the error of limits. The law MotionRecords, walked. -/
import Derived.Test.YtiibdndchkbefaaK11
namespace Go.Proofs.Ytiibdndchkbefaa
open Go.RowKit
open Calmly (Kept)


theorem blk_set2 {w : World} {b r : Nat} {o : Obj} (h : w.heap[r]? = some o) (hne : r ≠ b) (u v : Value) : ((w.setCell ⟨b, 0, none⟩ u).setCell ⟨b, 1, none⟩ v).heap[r]? = some o := by
  rw [Below.heap_setCell _ _ _ _ hne, Below.heap_setCell _ _ _ _ hne]
  exact h
theorem scS_no {b : Int × Int} {x p : Int} (h : ¬ 0 < p) : scS b x p = b := if_neg h
set_option maxRecDepth 100000 in
set_option maxHeartbeats 1000000 in
theorem rLimitsErr_any (xa xv xd : Int) (w : World) (E : Int) (hE : (if limB xa xv xd = true then (0 : Int) else 2) = E) :
    Calls Try.prog 78 #[.agg #[.int .i64 xa, .int .i64 xv, .int .i64 xd]] w fun e w' => e = .returned (.int .i64 E) ∧ Below w.heap.size w w' := by
  have hb : ∀ o, Below w.heap.size w (w.alloc o) := fun o => (Below.refl _ _).alloc (Nat.le_refl _) _
  unfold limB at hE
  have HE := Lib.hid hE
  clear hE
  go_enter Try.func78, Try.ntmps78
  cases ha : wIn xa 0 1000000
  · go_wp2_with (first | (go_at_call 28; refine (within_any _ _ _ _).mono ?_; rintro e w' ⟨rfl, rfl⟩))
    go_ret
    exact ⟨ret_int (by rw [← HE.out, ha]; rfl), hb _⟩
  · cases hv : wIn xv 0 1000000
    · go_wp2_with (first | (go_at_call 28; refine (within_any _ _ _ _).mono ?_; rintro e w' ⟨rfl, rfl⟩))
      go_ret
      exact ⟨ret_int (by rw [← HE.out, ha, hv]; rfl), hb _⟩
    · cases hd : wIn xd 0 1000000
      · go_wp2_with (first | (go_at_call 28; refine (within_any _ _ _ _).mono ?_; rintro e w' ⟨rfl, rfl⟩))
        go_ret
        exact ⟨ret_int (by rw [← HE.out, ha, hv, hd]; rfl), hb _⟩
      · go_wp2_with (first | (go_at_call 28; refine (within_any _ _ _ _).mono ?_; rintro e w' ⟨rfl, rfl⟩))
        go_ret
        exact ⟨ret_int (by rw [← HE.out, ha, hv, hd]; rfl), hb _⟩

set_option maxRecDepth 100000 in
set_option maxHeartbeats 4000000 in
theorem rScale_any (a : Option Addr) (n c : Nat) (xs : List Int) (xa xv xd : Int) (w : World) (h1 : SI w a n c xs) (hn : n ≤ 26) (hb : ∀ j : Nat, -1000 ≤ xs[j]?.getD 0 ∧ xs[j]?.getD 0 ≤ 1000) (la : 0 ≤ xa ∧ xa ≤ 1000000) (lv : 0 ≤ xv ∧ xv ≤ 1000000) (ld : 0 ≤ xd ∧ xd ≤ 1000000) (A V D P Q : Int) (R : Bool) (hA' : gsT xs n = A) (hV : gsT (sumsF xs) n = V) (hD : gsT (sumsF (sumsF xs)) n = D)
    (hz : A = 0 → R = false ∧ P = 0 ∧ Q = 0) (hok : A ≠ 0 → R = true ∧ (scF xa xv xd A V D).1 = P ∧ (scF xa xv xd A V D).2 = Q) :
    Calls Try.prog 79 #[.slice a n c, .agg #[.int .i64 xa, .int .i64 xv, .int .i64 xd]] w fun e w' => e = .returned (.tuple #[.agg #[.int .i64 P, .int .i64 Q], .bool R]) ∧ Below w.heap.size w w' := by
  have hA : ∀ (A : World) (o : Obj), Below A.heap.size A (A.alloc o) := fun A o => (Below.refl _ _).alloc (Nat.le_refl _) _
  obtain ⟨l1, l2⟩ : n ≤ xs.length ∧ xs.length ≤ n := by have := h1.len; omega
  have m1 := h1.max
  have c1 := h1.cap
  have hp : 0 ≤ A ∧ A ≤ 1000000 ∧ 0 ≤ V ∧ V ≤ 1000000 ∧ 0 ≤ D ∧ D ≤ 1000000 := by
    obtain ⟨p1, p2⟩ := pk_bd (xs := xs) (by omega) hb
    rw [← hA', ← hV, ← hD]
    refine ⟨gsT_nn _ _, ?_, gsT_nn _ _, ?_, gsT_nn _ _, ?_⟩ <;> refine (gsT_le _ 1000000 (by omega) n).2 fun j _ => ?_
    · have := hb j; omega
    · have := p1 j; omega
    · have := p2 j; omega
  obtain ⟨pa0, pa1, pv0, pv1, pd0, pd1⟩ := hp
  obtain ⟨la0, la1⟩ := la
  obtain ⟨lv0, lv1⟩ := lv
  obtain ⟨ld0, ld1⟩ := ld
  have HB := Lib.hid hb
  have HA := Lib.hid hA'
  have HV := Lib.hid hV
  have HD := Lib.hid hD
  have HZ := Lib.hid hz
  have HOK := Lib.hid hok
  clear hb hA' hV hD hz hok
  obtain ⟨W, hW⟩ : ∃ W, (w.alloc (.cells #[.int .i64 xa, .int .i64 xv, .int .i64 xd] 75)).alloc (.cells #[.int .i64 0, .int .i64 0] 86) = W := ⟨_, rfl⟩
  have BW : Below w.heap.size w W := by rw [← hW]; exact ((Below.refl _ _).alloc (Nat.le_refl _) _).alloc (by simp) _
  have x3 : W.heap[w.heap.size]? = some (.cells #[.int .i64 xa, .int .i64 xv, .int .i64 xd] 75) := by
    rw [← hW]
    exact blk_keep (alloc_new w _) (hA _ _)
  have x4 : W.heap[w.heap.size + 1]? = some (.cells #[.int .i64 0, .int .i64 0] 86) := by
    rw [← hW]
    have := alloc_new (w.alloc (.cells #[.int .i64 xa, .int .i64 xv, .int .i64 xd] 75)) (.cells #[.int .i64 0, .int .i64 0] 86)
    simpa only [World.size_alloc] using this
  have HW := Lib.hid hW
  clear hW
  go_enter Try.func79, Try.ntmps79
  go_wp2_with fail
  rw [HW.out]
  refine (rPeaks_any a n c xs _ (h1.keep BW) hn HB.out A V D HA.out HV.out HD.out).mono ?_
  rintro e w1 ⟨rfl, hs⟩
  replace x3 := blk_keep x3 hs
  replace x4 := blk_keep x4 hs
  replace BW := BW.trans (hs.mono BW.size)
  clear hs
  have hs := hA w1 (.cells #[.int .i64 A, .int .i64 V, .int .i64 D] 75)
  have x6 := alloc_new w1 (.cells #[.int .i64 A, .int .i64 V, .int .i64 D] 75)
  replace x3 := blk_keep x3 hs
  replace x4 := blk_keep x4 hs
  have hB6 := BW.size
  replace BW := BW.trans (hs.mono BW.size)
  clear hs
  (try clear f0 f1 f2 g0 g1 g2 r0 r1 r2 r3); have f0 := cell_block x3 0; have f1 := cell_block x3 1; have f2 := cell_block x3 2; have g0 := cell_block x6 0; have g1 := cell_block x6 1; have g2 := cell_block x6 2; have r0 := cell_block x4 0; have r1 := cell_block x4 1; have r2 := frozen_block x4 0; have r3 := frozen_block x4 1; (try clear z0 z1 z2 z3); (try have z0 := cell_block x7 0); (try have z1 := cell_block x7 1); (try have z2 := frozen_block x7 0); (try have z3 := frozen_block x7 1)
  by_cases hA0 : A = 0
  · obtain ⟨rfl, rfl, rfl⟩ := HZ.out hA0
    have b1 : (A == 0) = true := by simpa using hA0
    clear hA0
    go_wp2_with fail
    obtain ⟨s1, s2, _, _⟩ := set2 (x := .int .i64 0) (y := .int .i64 0) r0 r1
    refine bodyPost_ret (v := .tuple #[.agg #[.int .i64 0, .int .i64 0], .bool false]) (by simp [results, Try.results79, go_sem, s1, s2]) rfl ⟨rfl, ?_⟩
    exact (BW.setCell (by simp) _).setCell (by simp) _
  obtain ⟨rfl, hP, hQ⟩ := HOK.out hA0
  have b1 : (A == 0) = false := by simpa using hA0
  have hA1 : 0 < A := by omega
  obtain ⟨k1, k2, hk⟩ : ∃ k1 k2, fracF xa A = (k1, k2) := ⟨_, _, rfl⟩
  have hbd := fracF_bd xa A hA1 1000000 (by omega) la1 pa1
  unfold scF at hP hQ
  rw [hk] at hbd hP hQ
  obtain ⟨d1, d2, d3, d4⟩ := hbd
  dsimp only at d1 d2 d3 d4
  have HK1 : Hid ((fracF xa A).1 = k1) := Lib.hid (by rw [hk])
  have HK2 : Hid ((fracF xa A).2 = k2) := Lib.hid (by rw [hk])
  have HP := Lib.hid hP
  have HQ := Lib.hid hQ
  clear hk hP hQ hA0 HZ HOK
  go_wp2_with fail
  refine (Lowest_fr xa A _ (by omega) (by omega) hA1 (by omega) k1 k2 HK1.out HK2.out).mono ?_
  rintro e w2 ⟨rfl, hs⟩
  replace x3 := blk_keep x3 hs; replace x4 := blk_keep x4 hs; replace x6 := blk_keep x6 hs; (try replace x7 := blk_keep x7 hs); replace BW := BW.trans (hs.mono BW.size); clear hs; (try clear f0 f1 f2 g0 g1 g2 r0 r1 r2 r3); have f0 := cell_block x3 0; have f1 := cell_block x3 1; have f2 := cell_block x3 2; have g0 := cell_block x6 0; have g1 := cell_block x6 1; have g2 := cell_block x6 2; have r0 := cell_block x4 0; have r1 := cell_block x4 1; have r2 := frozen_block x4 0; have r3 := frozen_block x4 1; (try clear z0 z1 z2 z3); (try have z0 := cell_block x7 0); (try have z1 := cell_block x7 1); (try have z2 := frozen_block x7 0); (try have z3 := frozen_block x7 1)
  have n3 : w.heap.size ≠ w2.heap.size := Nat.ne_of_lt (blk_lt x3)
  have n4 : w.heap.size + 1 ≠ w2.heap.size := Nat.ne_of_lt (blk_lt x4)
  have n6 : w1.heap.size ≠ w2.heap.size := Nat.ne_of_lt (blk_lt x6)
  have hs := hA w2 (.cells #[.int .i64 k1, .int .i64 k2] 86)
  have x7 := alloc_new w2 (.cells #[.int .i64 k1, .int .i64 k2] 86)
  have hB7 := BW.size
  replace x3 := blk_keep x3 hs; replace x4 := blk_keep x4 hs; replace x6 := blk_keep x6 hs; (try replace x7 := blk_keep x7 hs); replace BW := BW.trans (hs.mono BW.size); clear hs; (try clear f0 f1 f2 g0 g1 g2 r0 r1 r2 r3); have f0 := cell_block x3 0; have f1 := cell_block x3 1; have f2 := cell_block x3 2; have g0 := cell_block x6 0; have g1 := cell_block x6 1; have g2 := cell_block x6 2; have r0 := cell_block x4 0; have r1 := cell_block x4 1; have r2 := frozen_block x4 0; have r3 := frozen_block x4 1; (try clear z0 z1 z2 z3); (try have z0 := cell_block x7 0); (try have z1 := cell_block x7 1); (try have z2 := frozen_block x7 0); (try have z3 := frozen_block x7 1)
  by_cases hv0 : 0 < V
  · by_cases hd0 : 0 < D
    · as_aux_lemma =>
      obtain ⟨fa1, fb1, hf⟩ : ∃ f1 f2, fracF xv V = (f1, f2) := ⟨_, _, rfl⟩
      have hbd := fracF_bd xv V hv0 1000000 (by omega) lv1 (by omega)
      rw [hf] at hbd
      obtain ⟨ea1, eb1, ec1, ed1⟩ := hbd
      dsimp only at ea1 eb1 ec1 ed1
      have HFa1 : Hid ((fracF xv V).1 = fa1) := Lib.hid (by rw [hf])
      have HFb1 : Hid ((fracF xv V).2 = fb1) := Lib.hid (by rw [hf])
      have HSn1 : Hid (k1 * fb1 ≤ fa1 * k2 → scS (k1, k2) xv V = (k1, k2)) := Lib.hid (fun h => by unfold scS minQ; rw [hf, if_pos hv0, if_neg (Int.not_lt.2 h)])
      have HSp1 : Hid (fa1 * k2 < k1 * fb1 → scS (k1, k2) xv V = (fa1, fb1)) := Lib.hid (fun h => by unfold scS minQ; rw [hf, if_pos hv0, if_pos h])
      clear hf
      go_wp2_with fail
      clear f0 f1 f2 g0 g1 g2 r0 r1 r2 r3 z0 z1 z2 z3
      generalize World.alloc w2 _ = v0 at x3 x4 x6 x7 BW ⊢
      generalize w2.heap.size = b7 at x7 hB7 n3 n4 n6 ⊢
      refine (Lowest_fr xv V _ (by omega) (by omega) hv0 (by omega) fa1 fb1 HFa1.out HFb1.out).mono ?_
      rintro e wa1 ⟨rfl, hs⟩
      replace x3 := blk_keep x3 hs; replace x4 := blk_keep x4 hs; replace x6 := blk_keep x6 hs; (try replace x7 := blk_keep x7 hs); replace BW := BW.trans (hs.mono BW.size); clear hs; (try clear f0 f1 f2 g0 g1 g2 r0 r1 r2 r3); have f0 := cell_block x3 0; have f1 := cell_block x3 1; have f2 := cell_block x3 2; have g0 := cell_block x6 0; have g1 := cell_block x6 1; have g2 := cell_block x6 2; have r0 := cell_block x4 0; have r1 := cell_block x4 1; have r2 := frozen_block x4 0; have r3 := frozen_block x4 1; (try clear z0 z1 z2 z3); (try have z0 := cell_block x7 0); (try have z1 := cell_block x7 1); (try have z2 := frozen_block x7 0); (try have z3 := frozen_block x7 1)
      have hs := hA wa1 (.cells #[.int .i64 fa1, .int .i64 fb1] 86)
      have x8 := alloc_new wa1 (.cells #[.int .i64 fa1, .int .i64 fb1] 86)
      have n8 : wa1.heap.size ≠ b7 := by have := blk_lt x7; omega
      replace x3 := blk_keep x3 hs; replace x4 := blk_keep x4 hs; replace x6 := blk_keep x6 hs; (try replace x7 := blk_keep x7 hs); replace BW := BW.trans (hs.mono BW.size); clear hs; (try clear f0 f1 f2 g0 g1 g2 r0 r1 r2 r3); have f0 := cell_block x3 0; have f1 := cell_block x3 1; have f2 := cell_block x3 2; have g0 := cell_block x6 0; have g1 := cell_block x6 1; have g2 := cell_block x6 2; have r0 := cell_block x4 0; have r1 := cell_block x4 1; have r2 := frozen_block x4 0; have r3 := frozen_block x4 1; (try clear z0 z1 z2 z3); (try have z0 := cell_block x7 0); (try have z1 := cell_block x7 1); (try have z2 := frozen_block x7 0); (try have z3 := frozen_block x7 1)
      have y0 := cell_block x8 0
      have y1 := cell_block x8 1
      go_wp2_with fail
      generalize World.alloc wa1 _ = wb1 at x3 x4 x6 x7 x8 BW ⊢
      generalize wa1.heap.size = b81 at x8 n8 ⊢
      clear y0 y1 f0 f1 f2 g0 g1 g2 r0 r1 r2 r3 z0 z1 z2 z3
      refine (Cmp_fr fa1 fb1 k1 k2 _ ea1 eb1 (by omega) ed1 (by omega) (by omega) (by omega) (by omega)).mono ?_
      rintro e wc1 ⟨rfl, hs⟩
      replace x8 := blk_keep x8 hs
      replace x3 := blk_keep x3 hs; replace x4 := blk_keep x4 hs; replace x6 := blk_keep x6 hs; (try replace x7 := blk_keep x7 hs); replace BW := BW.trans (hs.mono BW.size); clear hs; (try clear f0 f1 f2 g0 g1 g2 r0 r1 r2 r3); have f0 := cell_block x3 0; have f1 := cell_block x3 1; have f2 := cell_block x3 2; have g0 := cell_block x6 0; have g1 := cell_block x6 1; have g2 := cell_block x6 2; have r0 := cell_block x4 0; have r1 := cell_block x4 1; have r2 := frozen_block x4 0; have r3 := frozen_block x4 1; (try clear z0 z1 z2 z3); (try have z0 := cell_block x7 0); (try have z1 := cell_block x7 1); (try have z2 := frozen_block x7 0); (try have z3 := frozen_block x7 1)
      have y0 := cell_block x8 0
      have y1 := cell_block x8 1
      by_cases hq : fa1 * k2 < k1 * fb1
      · rw [show cmpQ (fa1 * k2) (k1 * fb1) = -1 from if_pos hq]
        replace HSp1 := Lib.hid (HSp1.out hq)
        clear hq
        have x3' := blk_set2 x3 n3 (.int .i64 fa1) (.int .i64 fb1)
        have x4' := blk_set2 x4 n4 (.int .i64 fa1) (.int .i64 fb1)
        have x6' := blk_set2 x6 n6 (.int .i64 fa1) (.int .i64 fb1)
        have x7' := blk_setAt (blk_setAt x7 0 (.int .i64 fa1)) 1 (.int .i64 fb1)
        have BW' : Below w.heap.size w ((wc1.setCell ⟨b7, 0, none⟩ (.int .i64 fa1)).setCell ⟨b7, 1, none⟩ (.int .i64 fb1)) := (BW.setCell hB7 _).setCell hB7 _
        have f0' := cell_block x3' 0
        have f1' := cell_block x3' 1
        have f2' := cell_block x3' 2
        have g0' := cell_block x6' 0
        have g1' := cell_block x6' 1
        have g2' := cell_block x6' 2
        have r0' := cell_block x4' 0
        have r1' := cell_block x4' 1
        have r2' := frozen_block x4' 0
        have r3' := frozen_block x4' 1
        have z0' := cell_block x7' 0
        have z1' := cell_block x7' 1
        have z2' := frozen_block x7' 0
        have z3' := frozen_block x7' 1
        obtain ⟨fa2, fb2, hf⟩ : ∃ f1 f2, fracF xd D = (f1, f2) := ⟨_, _, rfl⟩
        have hbd := fracF_bd xd D hd0 1000000 (by omega) ld1 (by omega)
        rw [hf] at hbd
        obtain ⟨ea2, eb2, ec2, ed2⟩ := hbd
        dsimp only at ea2 eb2 ec2 ed2
        have HFa2 : Hid ((fracF xd D).1 = fa2) := Lib.hid (by rw [hf])
        have HFb2 : Hid ((fracF xd D).2 = fb2) := Lib.hid (by rw [hf])
        have HSn2 : Hid (fa1 * fb2 ≤ fa2 * fb1 → scS (fa1, fb1) xd D = (fa1, fb1)) := Lib.hid (fun h => by unfold scS minQ; rw [hf, if_pos hd0, if_neg (Int.not_lt.2 h)])
        have HSp2 : Hid (fa2 * fb1 < fa1 * fb2 → scS (fa1, fb1) xd D = (fa2, fb2)) := Lib.hid (fun h => by unfold scS minQ; rw [hf, if_pos hd0, if_pos h])
        clear hf
        go_wp2_with fail
        replace x3 := x3'
        replace x4 := x4'
        replace x6 := x6'
        replace x7 := x7'
        replace BW := BW'
        clear x3' x4' x6' x7' BW' f0' f1' f2' g0' g1' g2' r0' r1' r2' r3' z0' z1' z2' z3' f0 f1 f2 g0 g1 g2 r0 r1 r2 r3 z0 z1 z2 z3 x8 y0 y1 n8
        generalize World.setCell (World.setCell _ _ _) _ _ = ws at x3 x4 x6 x7 BW ⊢
        refine (Lowest_fr xd D _ (by omega) (by omega) hd0 (by omega) fa2 fb2 HFa2.out HFb2.out).mono ?_
        rintro e wa2 ⟨rfl, hs⟩
        replace x3 := blk_keep x3 hs; replace x4 := blk_keep x4 hs; replace x6 := blk_keep x6 hs; (try replace x7 := blk_keep x7 hs); replace BW := BW.trans (hs.mono BW.size); clear hs; (try clear f0 f1 f2 g0 g1 g2 r0 r1 r2 r3); have f0 := cell_block x3 0; have f1 := cell_block x3 1; have f2 := cell_block x3 2; have g0 := cell_block x6 0; have g1 := cell_block x6 1; have g2 := cell_block x6 2; have r0 := cell_block x4 0; have r1 := cell_block x4 1; have r2 := frozen_block x4 0; have r3 := frozen_block x4 1; (try clear z0 z1 z2 z3); (try have z0 := cell_block x7 0); (try have z1 := cell_block x7 1); (try have z2 := frozen_block x7 0); (try have z3 := frozen_block x7 1)
        have hs := hA wa2 (.cells #[.int .i64 fa2, .int .i64 fb2] 86)
        have x8 := alloc_new wa2 (.cells #[.int .i64 fa2, .int .i64 fb2] 86)
        have n8 : wa2.heap.size ≠ b7 := by have := blk_lt x7; omega
        replace x3 := blk_keep x3 hs; replace x4 := blk_keep x4 hs; replace x6 := blk_keep x6 hs; (try replace x7 := blk_keep x7 hs); replace BW := BW.trans (hs.mono BW.size); clear hs; (try clear f0 f1 f2 g0 g1 g2 r0 r1 r2 r3); have f0 := cell_block x3 0; have f1 := cell_block x3 1; have f2 := cell_block x3 2; have g0 := cell_block x6 0; have g1 := cell_block x6 1; have g2 := cell_block x6 2; have r0 := cell_block x4 0; have r1 := cell_block x4 1; have r2 := frozen_block x4 0; have r3 := frozen_block x4 1; (try clear z0 z1 z2 z3); (try have z0 := cell_block x7 0); (try have z1 := cell_block x7 1); (try have z2 := frozen_block x7 0); (try have z3 := frozen_block x7 1)
        have y0 := cell_block x8 0
        have y1 := cell_block x8 1
        go_wp2_with fail
        generalize World.alloc wa2 _ = wb2 at x3 x4 x6 x7 x8 BW ⊢
        generalize wa2.heap.size = b82 at x8 n8 ⊢
        clear y0 y1 f0 f1 f2 g0 g1 g2 r0 r1 r2 r3 z0 z1 z2 z3
        refine (Cmp_fr fa2 fb2 fa1 fb1 _ ea2 eb2 (by omega) ed2 (by omega) (by omega) (by omega) (by omega)).mono ?_
        rintro e wc2 ⟨rfl, hs⟩
        replace x8 := blk_keep x8 hs
        replace x3 := blk_keep x3 hs; replace x4 := blk_keep x4 hs; replace x6 := blk_keep x6 hs; (try replace x7 := blk_keep x7 hs); replace BW := BW.trans (hs.mono BW.size); clear hs; (try clear f0 f1 f2 g0 g1 g2 r0 r1 r2 r3); have f0 := cell_block x3 0; have f1 := cell_block x3 1; have f2 := cell_block x3 2; have g0 := cell_block x6 0; have g1 := cell_block x6 1; have g2 := cell_block x6 2; have r0 := cell_block x4 0; have r1 := cell_block x4 1; have r2 := frozen_block x4 0; have r3 := frozen_block x4 1; (try clear z0 z1 z2 z3); (try have z0 := cell_block x7 0); (try have z1 := cell_block x7 1); (try have z2 := frozen_block x7 0); (try have z3 := frozen_block x7 1)
        have y0 := cell_block x8 0
        have y1 := cell_block x8 1
        by_cases hq : fa2 * fb1 < fa1 * fb2
        · rw [show cmpQ (fa2 * fb1) (fa1 * fb2) = -1 from if_pos hq]
          replace HSp2 := Lib.hid (HSp2.out hq)
          clear hq
          have x3' := blk_set2 x3 n3 (.int .i64 fa2) (.int .i64 fb2)
          have x4' := blk_set2 x4 n4 (.int .i64 fa2) (.int .i64 fb2)
          have x6' := blk_set2 x6 n6 (.int .i64 fa2) (.int .i64 fb2)
          have x7' := blk_setAt (blk_setAt x7 0 (.int .i64 fa2)) 1 (.int .i64 fb2)
          have BW' : Below w.heap.size w ((wc2.setCell ⟨b7, 0, none⟩ (.int .i64 fa2)).setCell ⟨b7, 1, none⟩ (.int .i64 fb2)) := (BW.setCell hB7 _).setCell hB7 _
          have f0' := cell_block x3' 0
          have f1' := cell_block x3' 1
          have f2' := cell_block x3' 2
          have g0' := cell_block x6' 0
          have g1' := cell_block x6' 1
          have g2' := cell_block x6' 2
          have r0' := cell_block x4' 0
          have r1' := cell_block x4' 1
          have r2' := frozen_block x4' 0
          have r3' := frozen_block x4' 1
          have z0' := cell_block x7' 0
          have z1' := cell_block x7' 1
          have z2' := frozen_block x7' 0
          have z3' := frozen_block x7' 1
          go_wp2_with fail
          obtain ⟨s1, s2, _, _⟩ := set2 (x := .int .i64 fa2) (y := .int .i64 fb2) r0' r1'
          have hP := HP.out
          have hQ := HQ.out
          rw [HSp1.out, HSp2.out] at hP hQ
          dsimp only at hP hQ
          refine bodyPost_ret (v := .tuple #[.agg #[.int .i64 fa2, .int .i64 fb2], .bool true]) (by simp [results, Try.results79, go_sem, s1, s2]) rfl ⟨by rw [hP, hQ], ?_⟩
          exact (BW'.setCell (by simp) _).setCell (by simp) _
        · obtain ⟨cc2, hcc⟩ : ∃ cc, cmpQ (fa2 * fb1) (fa1 * fb2) = cc := ⟨_, rfl⟩
          have hc0 : 0 ≤ cc2 := by rw [← hcc]; unfold cmpQ; rw [if_neg hq]; split <;> decide
          rw [hcc]
          replace HSn2 := Lib.hid (HSn2.out (Int.not_lt.1 hq))
          clear hq hcc
          go_wp2_with fail
          obtain ⟨s1, s2, _, _⟩ := set2 (x := .int .i64 fa1) (y := .int .i64 fb1) r0 r1
          have hP := HP.out
          have hQ := HQ.out
          rw [HSp1.out, HSn2.out] at hP hQ
          dsimp only at hP hQ
          refine bodyPost_ret (v := .tuple #[.agg #[.int .i64 fa1, .int .i64 fb1], .bool true]) (by simp [results, Try.results79, go_sem, s1, s2]) rfl ⟨by rw [hP, hQ], ?_⟩
          exact (BW.setCell (by simp) _).setCell (by simp) _
      · obtain ⟨cc1, hcc⟩ : ∃ cc, cmpQ (fa1 * k2) (k1 * fb1) = cc := ⟨_, rfl⟩
        have hc0 : 0 ≤ cc1 := by rw [← hcc]; unfold cmpQ; rw [if_neg hq]; split <;> decide
        rw [hcc]
        replace HSn1 := Lib.hid (HSn1.out (Int.not_lt.1 hq))
        clear hq hcc
        obtain ⟨fa3, fb3, hf⟩ : ∃ f1 f2, fracF xd D = (f1, f2) := ⟨_, _, rfl⟩
        have hbd := fracF_bd xd D hd0 1000000 (by omega) ld1 (by omega)
        rw [hf] at hbd
        obtain ⟨ea3, eb3, ec3, ed3⟩ := hbd
        dsimp only at ea3 eb3 ec3 ed3
        have HFa3 : Hid ((fracF xd D).1 = fa3) := Lib.hid (by rw [hf])
        have HFb3 : Hid ((fracF xd D).2 = fb3) := Lib.hid (by rw [hf])
        have HSn3 : Hid (k1 * fb3 ≤ fa3 * k2 → scS (k1, k2) xd D = (k1, k2)) := Lib.hid (fun h => by unfold scS minQ; rw [hf, if_pos hd0, if_neg (Int.not_lt.2 h)])
        have HSp3 : Hid (fa3 * k2 < k1 * fb3 → scS (k1, k2) xd D = (fa3, fb3)) := Lib.hid (fun h => by unfold scS minQ; rw [hf, if_pos hd0, if_pos h])
        clear hf
        go_wp2_with fail
        (try clear x8 y0 y1 n8)
        refine (Lowest_fr xd D _ (by omega) (by omega) hd0 (by omega) fa3 fb3 HFa3.out HFb3.out).mono ?_
        rintro e wa3 ⟨rfl, hs⟩
        replace x3 := blk_keep x3 hs; replace x4 := blk_keep x4 hs; replace x6 := blk_keep x6 hs; (try replace x7 := blk_keep x7 hs); replace BW := BW.trans (hs.mono BW.size); clear hs; (try clear f0 f1 f2 g0 g1 g2 r0 r1 r2 r3); have f0 := cell_block x3 0; have f1 := cell_block x3 1; have f2 := cell_block x3 2; have g0 := cell_block x6 0; have g1 := cell_block x6 1; have g2 := cell_block x6 2; have r0 := cell_block x4 0; have r1 := cell_block x4 1; have r2 := frozen_block x4 0; have r3 := frozen_block x4 1; (try clear z0 z1 z2 z3); (try have z0 := cell_block x7 0); (try have z1 := cell_block x7 1); (try have z2 := frozen_block x7 0); (try have z3 := frozen_block x7 1)
        have hs := hA wa3 (.cells #[.int .i64 fa3, .int .i64 fb3] 86)
        have x8 := alloc_new wa3 (.cells #[.int .i64 fa3, .int .i64 fb3] 86)
        have n8 : wa3.heap.size ≠ b7 := by have := blk_lt x7; omega
        replace x3 := blk_keep x3 hs; replace x4 := blk_keep x4 hs; replace x6 := blk_keep x6 hs; (try replace x7 := blk_keep x7 hs); replace BW := BW.trans (hs.mono BW.size); clear hs; (try clear f0 f1 f2 g0 g1 g2 r0 r1 r2 r3); have f0 := cell_block x3 0; have f1 := cell_block x3 1; have f2 := cell_block x3 2; have g0 := cell_block x6 0; have g1 := cell_block x6 1; have g2 := cell_block x6 2; have r0 := cell_block x4 0; have r1 := cell_block x4 1; have r2 := frozen_block x4 0; have r3 := frozen_block x4 1; (try clear z0 z1 z2 z3); (try have z0 := cell_block x7 0); (try have z1 := cell_block x7 1); (try have z2 := frozen_block x7 0); (try have z3 := frozen_block x7 1)
        have y0 := cell_block x8 0
        have y1 := cell_block x8 1
        go_wp2_with fail
        generalize World.alloc wa3 _ = wb3 at x3 x4 x6 x7 x8 BW ⊢
        generalize wa3.heap.size = b83 at x8 n8 ⊢
        clear y0 y1 f0 f1 f2 g0 g1 g2 r0 r1 r2 r3 z0 z1 z2 z3
        refine (Cmp_fr fa3 fb3 k1 k2 _ ea3 eb3 (by omega) ed3 (by omega) (by omega) (by omega) (by omega)).mono ?_
        rintro e wc3 ⟨rfl, hs⟩
        replace x8 := blk_keep x8 hs
        replace x3 := blk_keep x3 hs; replace x4 := blk_keep x4 hs; replace x6 := blk_keep x6 hs; (try replace x7 := blk_keep x7 hs); replace BW := BW.trans (hs.mono BW.size); clear hs; (try clear f0 f1 f2 g0 g1 g2 r0 r1 r2 r3); have f0 := cell_block x3 0; have f1 := cell_block x3 1; have f2 := cell_block x3 2; have g0 := cell_block x6 0; have g1 := cell_block x6 1; have g2 := cell_block x6 2; have r0 := cell_block x4 0; have r1 := cell_block x4 1; have r2 := frozen_block x4 0; have r3 := frozen_block x4 1; (try clear z0 z1 z2 z3); (try have z0 := cell_block x7 0); (try have z1 := cell_block x7 1); (try have z2 := frozen_block x7 0); (try have z3 := frozen_block x7 1)
        have y0 := cell_block x8 0
        have y1 := cell_block x8 1
        by_cases hq : fa3 * k2 < k1 * fb3
        · rw [show cmpQ (fa3 * k2) (k1 * fb3) = -1 from if_pos hq]
          replace HSp3 := Lib.hid (HSp3.out hq)
          clear hq
          have x3' := blk_set2 x3 n3 (.int .i64 fa3) (.int .i64 fb3)
          have x4' := blk_set2 x4 n4 (.int .i64 fa3) (.int .i64 fb3)
          have x6' := blk_set2 x6 n6 (.int .i64 fa3) (.int .i64 fb3)
          have x7' := blk_setAt (blk_setAt x7 0 (.int .i64 fa3)) 1 (.int .i64 fb3)
          have BW' : Below w.heap.size w ((wc3.setCell ⟨b7, 0, none⟩ (.int .i64 fa3)).setCell ⟨b7, 1, none⟩ (.int .i64 fb3)) := (BW.setCell hB7 _).setCell hB7 _
          have f0' := cell_block x3' 0
          have f1' := cell_block x3' 1
          have f2' := cell_block x3' 2
          have g0' := cell_block x6' 0
          have g1' := cell_block x6' 1
          have g2' := cell_block x6' 2
          have r0' := cell_block x4' 0
          have r1' := cell_block x4' 1
          have r2' := frozen_block x4' 0
          have r3' := frozen_block x4' 1
          have z0' := cell_block x7' 0
          have z1' := cell_block x7' 1
          have z2' := frozen_block x7' 0
          have z3' := frozen_block x7' 1
          go_wp2_with fail
          obtain ⟨s1, s2, _, _⟩ := set2 (x := .int .i64 fa3) (y := .int .i64 fb3) r0' r1'
          have hP := HP.out
          have hQ := HQ.out
          rw [HSn1.out, HSp3.out] at hP hQ
          dsimp only at hP hQ
          refine bodyPost_ret (v := .tuple #[.agg #[.int .i64 fa3, .int .i64 fb3], .bool true]) (by simp [results, Try.results79, go_sem, s1, s2]) rfl ⟨by rw [hP, hQ], ?_⟩
          exact (BW'.setCell (by simp) _).setCell (by simp) _
        · obtain ⟨cc3, hcc⟩ : ∃ cc, cmpQ (fa3 * k2) (k1 * fb3) = cc := ⟨_, rfl⟩
          have hc0 : 0 ≤ cc3 := by rw [← hcc]; unfold cmpQ; rw [if_neg hq]; split <;> decide
          rw [hcc]
          replace HSn3 := Lib.hid (HSn3.out (Int.not_lt.1 hq))
          clear hq hcc
          go_wp2_with fail
          obtain ⟨s1, s2, _, _⟩ := set2 (x := .int .i64 k1) (y := .int .i64 k2) r0 r1
          have hP := HP.out
          have hQ := HQ.out
          rw [HSn1.out, HSn3.out] at hP hQ
          dsimp only at hP hQ
          refine bodyPost_ret (v := .tuple #[.agg #[.int .i64 k1, .int .i64 k2], .bool true]) (by simp [results, Try.results79, go_sem, s1, s2]) rfl ⟨by rw [hP, hQ], ?_⟩
          exact (BW.setCell (by simp) _).setCell (by simp) _
    · as_aux_lemma =>
      have hd1 : D ≤ 0 := by omega
      obtain ⟨fa4, fb4, hf⟩ : ∃ f1 f2, fracF xv V = (f1, f2) := ⟨_, _, rfl⟩
      have hbd := fracF_bd xv V hv0 1000000 (by omega) lv1 (by omega)
      rw [hf] at hbd
      obtain ⟨ea4, eb4, ec4, ed4⟩ := hbd
      dsimp only at ea4 eb4 ec4 ed4
      have HFa4 : Hid ((fracF xv V).1 = fa4) := Lib.hid (by rw [hf])
      have HFb4 : Hid ((fracF xv V).2 = fb4) := Lib.hid (by rw [hf])
      have HSn4 : Hid (k1 * fb4 ≤ fa4 * k2 → scS (k1, k2) xv V = (k1, k2)) := Lib.hid (fun h => by unfold scS minQ; rw [hf, if_pos hv0, if_neg (Int.not_lt.2 h)])
      have HSp4 : Hid (fa4 * k2 < k1 * fb4 → scS (k1, k2) xv V = (fa4, fb4)) := Lib.hid (fun h => by unfold scS minQ; rw [hf, if_pos hv0, if_pos h])
      clear hf
      go_wp2_with fail
      clear f0 f1 f2 g0 g1 g2 r0 r1 r2 r3 z0 z1 z2 z3
      generalize World.alloc w2 _ = v0 at x3 x4 x6 x7 BW ⊢
      generalize w2.heap.size = b7 at x7 hB7 n3 n4 n6 ⊢
      refine (Lowest_fr xv V _ (by omega) (by omega) hv0 (by omega) fa4 fb4 HFa4.out HFb4.out).mono ?_
      rintro e wa4 ⟨rfl, hs⟩
      replace x3 := blk_keep x3 hs; replace x4 := blk_keep x4 hs; replace x6 := blk_keep x6 hs; (try replace x7 := blk_keep x7 hs); replace BW := BW.trans (hs.mono BW.size); clear hs; (try clear f0 f1 f2 g0 g1 g2 r0 r1 r2 r3); have f0 := cell_block x3 0; have f1 := cell_block x3 1; have f2 := cell_block x3 2; have g0 := cell_block x6 0; have g1 := cell_block x6 1; have g2 := cell_block x6 2; have r0 := cell_block x4 0; have r1 := cell_block x4 1; have r2 := frozen_block x4 0; have r3 := frozen_block x4 1; (try clear z0 z1 z2 z3); (try have z0 := cell_block x7 0); (try have z1 := cell_block x7 1); (try have z2 := frozen_block x7 0); (try have z3 := frozen_block x7 1)
      have hs := hA wa4 (.cells #[.int .i64 fa4, .int .i64 fb4] 86)
      have x8 := alloc_new wa4 (.cells #[.int .i64 fa4, .int .i64 fb4] 86)
      have n8 : wa4.heap.size ≠ b7 := by have := blk_lt x7; omega
      replace x3 := blk_keep x3 hs; replace x4 := blk_keep x4 hs; replace x6 := blk_keep x6 hs; (try replace x7 := blk_keep x7 hs); replace BW := BW.trans (hs.mono BW.size); clear hs; (try clear f0 f1 f2 g0 g1 g2 r0 r1 r2 r3); have f0 := cell_block x3 0; have f1 := cell_block x3 1; have f2 := cell_block x3 2; have g0 := cell_block x6 0; have g1 := cell_block x6 1; have g2 := cell_block x6 2; have r0 := cell_block x4 0; have r1 := cell_block x4 1; have r2 := frozen_block x4 0; have r3 := frozen_block x4 1; (try clear z0 z1 z2 z3); (try have z0 := cell_block x7 0); (try have z1 := cell_block x7 1); (try have z2 := frozen_block x7 0); (try have z3 := frozen_block x7 1)
      have y0 := cell_block x8 0
      have y1 := cell_block x8 1
      go_wp2_with fail
      generalize World.alloc wa4 _ = wb4 at x3 x4 x6 x7 x8 BW ⊢
      generalize wa4.heap.size = b84 at x8 n8 ⊢
      clear y0 y1 f0 f1 f2 g0 g1 g2 r0 r1 r2 r3 z0 z1 z2 z3
      refine (Cmp_fr fa4 fb4 k1 k2 _ ea4 eb4 (by omega) ed4 (by omega) (by omega) (by omega) (by omega)).mono ?_
      rintro e wc4 ⟨rfl, hs⟩
      replace x8 := blk_keep x8 hs
      replace x3 := blk_keep x3 hs; replace x4 := blk_keep x4 hs; replace x6 := blk_keep x6 hs; (try replace x7 := blk_keep x7 hs); replace BW := BW.trans (hs.mono BW.size); clear hs; (try clear f0 f1 f2 g0 g1 g2 r0 r1 r2 r3); have f0 := cell_block x3 0; have f1 := cell_block x3 1; have f2 := cell_block x3 2; have g0 := cell_block x6 0; have g1 := cell_block x6 1; have g2 := cell_block x6 2; have r0 := cell_block x4 0; have r1 := cell_block x4 1; have r2 := frozen_block x4 0; have r3 := frozen_block x4 1; (try clear z0 z1 z2 z3); (try have z0 := cell_block x7 0); (try have z1 := cell_block x7 1); (try have z2 := frozen_block x7 0); (try have z3 := frozen_block x7 1)
      have y0 := cell_block x8 0
      have y1 := cell_block x8 1
      by_cases hq : fa4 * k2 < k1 * fb4
      · rw [show cmpQ (fa4 * k2) (k1 * fb4) = -1 from if_pos hq]
        replace HSp4 := Lib.hid (HSp4.out hq)
        clear hq
        have x3' := blk_set2 x3 n3 (.int .i64 fa4) (.int .i64 fb4)
        have x4' := blk_set2 x4 n4 (.int .i64 fa4) (.int .i64 fb4)
        have x6' := blk_set2 x6 n6 (.int .i64 fa4) (.int .i64 fb4)
        have x7' := blk_setAt (blk_setAt x7 0 (.int .i64 fa4)) 1 (.int .i64 fb4)
        have BW' : Below w.heap.size w ((wc4.setCell ⟨b7, 0, none⟩ (.int .i64 fa4)).setCell ⟨b7, 1, none⟩ (.int .i64 fb4)) := (BW.setCell hB7 _).setCell hB7 _
        have f0' := cell_block x3' 0
        have f1' := cell_block x3' 1
        have f2' := cell_block x3' 2
        have g0' := cell_block x6' 0
        have g1' := cell_block x6' 1
        have g2' := cell_block x6' 2
        have r0' := cell_block x4' 0
        have r1' := cell_block x4' 1
        have r2' := frozen_block x4' 0
        have r3' := frozen_block x4' 1
        have z0' := cell_block x7' 0
        have z1' := cell_block x7' 1
        have z2' := frozen_block x7' 0
        have z3' := frozen_block x7' 1
        go_wp2_with fail
        obtain ⟨s1, s2, _, _⟩ := set2 (x := .int .i64 fa4) (y := .int .i64 fb4) r0' r1'
        have hP := HP.out
        have hQ := HQ.out
        rw [HSp4.out, scS_no (Int.not_lt.2 hd1)] at hP hQ
        dsimp only at hP hQ
        refine bodyPost_ret (v := .tuple #[.agg #[.int .i64 fa4, .int .i64 fb4], .bool true]) (by simp [results, Try.results79, go_sem, s1, s2]) rfl ⟨by rw [hP, hQ], ?_⟩
        exact (BW'.setCell (by simp) _).setCell (by simp) _
      · obtain ⟨cc4, hcc⟩ : ∃ cc, cmpQ (fa4 * k2) (k1 * fb4) = cc := ⟨_, rfl⟩
        have hc0 : 0 ≤ cc4 := by rw [← hcc]; unfold cmpQ; rw [if_neg hq]; split <;> decide
        rw [hcc]
        replace HSn4 := Lib.hid (HSn4.out (Int.not_lt.1 hq))
        clear hq hcc
        go_wp2_with fail
        obtain ⟨s1, s2, _, _⟩ := set2 (x := .int .i64 k1) (y := .int .i64 k2) r0 r1
        have hP := HP.out
        have hQ := HQ.out
        rw [HSn4.out, scS_no (Int.not_lt.2 hd1)] at hP hQ
        dsimp only at hP hQ
        refine bodyPost_ret (v := .tuple #[.agg #[.int .i64 k1, .int .i64 k2], .bool true]) (by simp [results, Try.results79, go_sem, s1, s2]) rfl ⟨by rw [hP, hQ], ?_⟩
        exact (BW.setCell (by simp) _).setCell (by simp) _
  · have hv1 : V ≤ 0 := by omega
    by_cases hd0 : 0 < D
    · as_aux_lemma =>
      obtain ⟨fa5, fb5, hf⟩ : ∃ f1 f2, fracF xd D = (f1, f2) := ⟨_, _, rfl⟩
      have hbd := fracF_bd xd D hd0 1000000 (by omega) ld1 (by omega)
      rw [hf] at hbd
      obtain ⟨ea5, eb5, ec5, ed5⟩ := hbd
      dsimp only at ea5 eb5 ec5 ed5
      have HFa5 : Hid ((fracF xd D).1 = fa5) := Lib.hid (by rw [hf])
      have HFb5 : Hid ((fracF xd D).2 = fb5) := Lib.hid (by rw [hf])
      have HSn5 : Hid (k1 * fb5 ≤ fa5 * k2 → scS (k1, k2) xd D = (k1, k2)) := Lib.hid (fun h => by unfold scS minQ; rw [hf, if_pos hd0, if_neg (Int.not_lt.2 h)])
      have HSp5 : Hid (fa5 * k2 < k1 * fb5 → scS (k1, k2) xd D = (fa5, fb5)) := Lib.hid (fun h => by unfold scS minQ; rw [hf, if_pos hd0, if_pos h])
      clear hf
      go_wp2_with fail
      clear f0 f1 f2 g0 g1 g2 r0 r1 r2 r3 z0 z1 z2 z3
      generalize World.alloc w2 _ = v0 at x3 x4 x6 x7 BW ⊢
      generalize w2.heap.size = b7 at x7 hB7 n3 n4 n6 ⊢
      (try clear x8 y0 y1 n8)
      refine (Lowest_fr xd D _ (by omega) (by omega) hd0 (by omega) fa5 fb5 HFa5.out HFb5.out).mono ?_
      rintro e wa5 ⟨rfl, hs⟩
      replace x3 := blk_keep x3 hs; replace x4 := blk_keep x4 hs; replace x6 := blk_keep x6 hs; (try replace x7 := blk_keep x7 hs); replace BW := BW.trans (hs.mono BW.size); clear hs; (try clear f0 f1 f2 g0 g1 g2 r0 r1 r2 r3); have f0 := cell_block x3 0; have f1 := cell_block x3 1; have f2 := cell_block x3 2; have g0 := cell_block x6 0; have g1 := cell_block x6 1; have g2 := cell_block x6 2; have r0 := cell_block x4 0; have r1 := cell_block x4 1; have r2 := frozen_block x4 0; have r3 := frozen_block x4 1; (try clear z0 z1 z2 z3); (try have z0 := cell_block x7 0); (try have z1 := cell_block x7 1); (try have z2 := frozen_block x7 0); (try have z3 := frozen_block x7 1)
      have hs := hA wa5 (.cells #[.int .i64 fa5, .int .i64 fb5] 86)
      have x8 := alloc_new wa5 (.cells #[.int .i64 fa5, .int .i64 fb5] 86)
      have n8 : wa5.heap.size ≠ b7 := by have := blk_lt x7; omega
      replace x3 := blk_keep x3 hs; replace x4 := blk_keep x4 hs; replace x6 := blk_keep x6 hs; (try replace x7 := blk_keep x7 hs); replace BW := BW.trans (hs.mono BW.size); clear hs; (try clear f0 f1 f2 g0 g1 g2 r0 r1 r2 r3); have f0 := cell_block x3 0; have f1 := cell_block x3 1; have f2 := cell_block x3 2; have g0 := cell_block x6 0; have g1 := cell_block x6 1; have g2 := cell_block x6 2; have r0 := cell_block x4 0; have r1 := cell_block x4 1; have r2 := frozen_block x4 0; have r3 := frozen_block x4 1; (try clear z0 z1 z2 z3); (try have z0 := cell_block x7 0); (try have z1 := cell_block x7 1); (try have z2 := frozen_block x7 0); (try have z3 := frozen_block x7 1)
      have y0 := cell_block x8 0
      have y1 := cell_block x8 1
      go_wp2_with fail
      generalize World.alloc wa5 _ = wb5 at x3 x4 x6 x7 x8 BW ⊢
      generalize wa5.heap.size = b85 at x8 n8 ⊢
      clear y0 y1 f0 f1 f2 g0 g1 g2 r0 r1 r2 r3 z0 z1 z2 z3
      refine (Cmp_fr fa5 fb5 k1 k2 _ ea5 eb5 (by omega) ed5 (by omega) (by omega) (by omega) (by omega)).mono ?_
      rintro e wc5 ⟨rfl, hs⟩
      replace x8 := blk_keep x8 hs
      replace x3 := blk_keep x3 hs; replace x4 := blk_keep x4 hs; replace x6 := blk_keep x6 hs; (try replace x7 := blk_keep x7 hs); replace BW := BW.trans (hs.mono BW.size); clear hs; (try clear f0 f1 f2 g0 g1 g2 r0 r1 r2 r3); have f0 := cell_block x3 0; have f1 := cell_block x3 1; have f2 := cell_block x3 2; have g0 := cell_block x6 0; have g1 := cell_block x6 1; have g2 := cell_block x6 2; have r0 := cell_block x4 0; have r1 := cell_block x4 1; have r2 := frozen_block x4 0; have r3 := frozen_block x4 1; (try clear z0 z1 z2 z3); (try have z0 := cell_block x7 0); (try have z1 := cell_block x7 1); (try have z2 := frozen_block x7 0); (try have z3 := frozen_block x7 1)
      have y0 := cell_block x8 0
      have y1 := cell_block x8 1
      by_cases hq : fa5 * k2 < k1 * fb5
      · rw [show cmpQ (fa5 * k2) (k1 * fb5) = -1 from if_pos hq]
        replace HSp5 := Lib.hid (HSp5.out hq)
        clear hq
        have x3' := blk_set2 x3 n3 (.int .i64 fa5) (.int .i64 fb5)
        have x4' := blk_set2 x4 n4 (.int .i64 fa5) (.int .i64 fb5)
        have x6' := blk_set2 x6 n6 (.int .i64 fa5) (.int .i64 fb5)
        have x7' := blk_setAt (blk_setAt x7 0 (.int .i64 fa5)) 1 (.int .i64 fb5)
        have BW' : Below w.heap.size w ((wc5.setCell ⟨b7, 0, none⟩ (.int .i64 fa5)).setCell ⟨b7, 1, none⟩ (.int .i64 fb5)) := (BW.setCell hB7 _).setCell hB7 _
        have f0' := cell_block x3' 0
        have f1' := cell_block x3' 1
        have f2' := cell_block x3' 2
        have g0' := cell_block x6' 0
        have g1' := cell_block x6' 1
        have g2' := cell_block x6' 2
        have r0' := cell_block x4' 0
        have r1' := cell_block x4' 1
        have r2' := frozen_block x4' 0
        have r3' := frozen_block x4' 1
        have z0' := cell_block x7' 0
        have z1' := cell_block x7' 1
        have z2' := frozen_block x7' 0
        have z3' := frozen_block x7' 1
        go_wp2_with fail
        obtain ⟨s1, s2, _, _⟩ := set2 (x := .int .i64 fa5) (y := .int .i64 fb5) r0' r1'
        have hP := HP.out
        have hQ := HQ.out
        rw [scS_no (Int.not_lt.2 hv1), HSp5.out] at hP hQ
        dsimp only at hP hQ
        refine bodyPost_ret (v := .tuple #[.agg #[.int .i64 fa5, .int .i64 fb5], .bool true]) (by simp [results, Try.results79, go_sem, s1, s2]) rfl ⟨by rw [hP, hQ], ?_⟩
        exact (BW'.setCell (by simp) _).setCell (by simp) _
      · obtain ⟨cc5, hcc⟩ : ∃ cc, cmpQ (fa5 * k2) (k1 * fb5) = cc := ⟨_, rfl⟩
        have hc0 : 0 ≤ cc5 := by rw [← hcc]; unfold cmpQ; rw [if_neg hq]; split <;> decide
        rw [hcc]
        replace HSn5 := Lib.hid (HSn5.out (Int.not_lt.1 hq))
        clear hq hcc
        go_wp2_with fail
        obtain ⟨s1, s2, _, _⟩ := set2 (x := .int .i64 k1) (y := .int .i64 k2) r0 r1
        have hP := HP.out
        have hQ := HQ.out
        rw [scS_no (Int.not_lt.2 hv1), HSn5.out] at hP hQ
        dsimp only at hP hQ
        refine bodyPost_ret (v := .tuple #[.agg #[.int .i64 k1, .int .i64 k2], .bool true]) (by simp [results, Try.results79, go_sem, s1, s2]) rfl ⟨by rw [hP, hQ], ?_⟩
        exact (BW.setCell (by simp) _).setCell (by simp) _
    · as_aux_lemma =>
      have hd1 : D ≤ 0 := by omega
      go_wp2_with fail
      obtain ⟨s1, s2, _, _⟩ := set2 (x := .int .i64 k1) (y := .int .i64 k2) r0 r1
      have hP := HP.out
      have hQ := HQ.out
      rw [scS_no (Int.not_lt.2 hv1), scS_no (Int.not_lt.2 hd1)] at hP hQ
      dsimp only at hP hQ
      refine bodyPost_ret (v := .tuple #[.agg #[.int .i64 k1, .int .i64 k2], .bool true]) (by simp [results, Try.results79, go_sem, s1, s2]) rfl ⟨by rw [hP, hQ], ?_⟩
      exact (BW.setCell (by simp) _).setCell (by simp) _
end Go.Proofs.Ytiibdndchkbefaa

namespace Go.Proofs.Ytiibdndchkbefaa
open Go.RowKit
open Calmly (Kept)

theorem decide_refl (l : List Int) : decide (l = l) = true := by simp

set_option maxRecDepth 100000 in
set_option maxHeartbeats 4000000 in
theorem MotionRecords_walk (step : Int) (a : Option Addr) (n c : Nat) (xs : List Int) (w : World) (h1 : SI w a n c xs) :
    Calls Try.prog 5 #[.agg #[.int .i64 step, .slice a n c]] w fun e w' => e = .returned (.bool true) ∧ Below w.heap.size w w' := by
  have hA : ∀ (A : World) (o : Obj), Below A.heap.size A (A.alloc o) := fun A o => (Below.refl _ _).alloc (Nat.le_refl _) _
  obtain ⟨l1, l2⟩ : n ≤ xs.length ∧ xs.length ≤ n := by have := h1.len; omega
  have m1 := h1.max
  have c1 := h1.cap
  have x1 := alloc_new w (.cells #[.int .i64 step, .slice a n c] 24)
  have BW := hA w (.cells #[.int .i64 step, .slice a n c] 24)
  go_enter Try.func5, Try.ntmps5
  go_wp2_with fail
  refine (awake_any _).mono ?_
  rintro e w1 ⟨rfl, hs⟩
  replace x1 := blk_keep x1 hs
  replace BW := BW.trans (hs.mono BW.size)
  clear hs
  have f0 := cell_block x1 0
  have f1 := cell_block x1 1
  go_wp2_with fail
  refine (few_any step a n c _ c1 m1).mono ?_
  rintro e w2 ⟨rfl, hs⟩
  replace x1 := blk_keep x1 hs
  replace BW := BW.trans (hs.mono BW.size)
  clear hs f0 f1
  have f0 := cell_block x1 0
  have f1 := cell_block x1 1
  by_cases hn : n ≤ 26
  case neg =>
    rw [show decide (n ≤ 26) = false from by simpa using hn]
    go_wp2_with fail
    go_ret
    exact ⟨rfl, BW⟩
  rw [show decide (n ≤ 26) = true from by simpa using hn]
  obtain ⟨I, E, hR⟩ : ∃ I E, recF step xs = (I, E) := ⟨_, _, rfl⟩
  obtain ⟨X1, hX1, hX1'⟩ : ∃ X : List Int, (E ≠ 0 → X = []) ∧ (E = 0 → X = sumsF xs) := by
    by_cases h : E = 0
    · exact ⟨_, fun hh => absurd h hh, fun _ => rfl⟩
    · exact ⟨_, fun _ => rfl, fun hh => absurd hh h⟩
  obtain ⟨X2, hX2, hX2'⟩ : ∃ X : List Int, (E ≠ 0 → X = []) ∧ (E = 0 → X = sumsF (sumsF xs)) := by
    by_cases h : E = 0
    · exact ⟨_, fun hh => absurd h hh, fun _ => rfl⟩
    · exact ⟨_, fun _ => rfl, fun hh => absurd hh h⟩
  obtain ⟨V, D, hV, hV'⟩ : ∃ V D : Int, (E ≠ 0 → V = 0 ∧ D = 0) ∧ (E = 0 → sumT xs n = V ∧ sumT (sumsF xs) n = D) := by
    by_cases h : E = 0
    · exact ⟨_, _, fun hh => absurd h hh, fun _ => ⟨rfl, rfl⟩⟩
    · exact ⟨_, _, fun _ => ⟨rfl, rfl⟩, fun hh => absurd hh h⟩
  have HR := Lib.hid hR
  have HX1 := Lib.hid hX1
  have HX1' := Lib.hid hX1'
  have HX2 := Lib.hid hX2
  have HX2' := Lib.hid hX2'
  have HV := Lib.hid hV
  have HV' := Lib.hid hV'
  clear hR hX1 hX1' hX2 hX2' hV hV'
  go_wp2_with fail
  refine (copy_any step a n c xs _ (h1.keep BW) (by omega)).mono ?_
  rintro e w3 ⟨a3, c3, rfl, s3, hs⟩
  replace x1 := blk_keep x1 hs
  replace BW := BW.trans (hs.mono BW.size)
  clear hs f0 f1
  have f0 := cell_block x1 0
  have f1 := cell_block x1 1
  go_wp2_with fail
  refine (CheckRecord_any step a3 n c3 xs _ s3 I E HR.out).mono ?_
  rintro e w4 ⟨rfl, hs⟩
  replace x1 := blk_keep x1 hs
  replace BW := BW.trans (hs.mono BW.size)
  clear hs f0 f1 s3
  have f0 := cell_block x1 0
  have f1 := cell_block x1 1
  go_wp2_with fail
  refine (copy_any step a n c xs _ (h1.keep BW) (by omega)).mono ?_
  rintro e w5 ⟨a5, c5, rfl, s5, hs⟩
  replace x1 := blk_keep x1 hs
  replace BW := BW.trans (hs.mono BW.size)
  clear hs f0 f1
  have f0 := cell_block x1 0
  have f1 := cell_block x1 1
  go_wp2_with fail
  refine (VelocitiesOf_any step a5 n c5 xs _ s5 E X1 (by rw [HR.out]) HX1.out HX1'.out).mono ?_
  rintro e w6 ⟨av, nv, cv, rfl, sv, hs⟩
  replace x1 := blk_keep x1 hs
  replace BW := BW.trans (hs.mono BW.size)
  clear hs f0 f1 s5
  have f0 := cell_block x1 0
  have f1 := cell_block x1 1
  go_wp2_with fail
  refine (copy_any step a n c xs _ (h1.keep BW) (by omega)).mono ?_
  rintro e w7 ⟨a7, c7, rfl, s7, hs⟩
  replace x1 := blk_keep x1 hs
  replace BW := BW.trans (hs.mono BW.size)
  replace sv := sv.keep hs
  clear hs f0 f1
  have f0 := cell_block x1 0
  have f1 := cell_block x1 1
  go_wp2_with fail
  refine (DisplacementsOf_any step a7 n c7 xs _ s7 E X2 (by rw [HR.out]) HX2.out HX2'.out).mono ?_
  rintro e w8 ⟨ad, nd, cd, rfl, sd, hs⟩
  replace x1 := blk_keep x1 hs
  replace BW := BW.trans (hs.mono BW.size)
  replace sv := sv.keep hs
  clear hs f0 f1 s7
  have f0 := cell_block x1 0
  have f1 := cell_block x1 1
  go_wp2_with fail
  refine (copy_any step a n c xs _ (h1.keep BW) (by omega)).mono ?_
  rintro e w9 ⟨a9, c9, rfl, s9, hs⟩
  replace x1 := blk_keep x1 hs
  replace BW := BW.trans (hs.mono BW.size)
  replace sv := sv.keep hs
  replace sd := sd.keep hs
  clear hs f0 f1
  have f0 := cell_block x1 0
  have f1 := cell_block x1 1
  go_wp2_with fail
  refine (EndOf_any step a9 n c9 xs _ s9 E V D (by rw [HR.out]) HV.out HV'.out).mono ?_
  rintro e w10 ⟨rfl, hs⟩
  replace x1 := blk_keep x1 hs
  have hbl := blk_lt x1
  have hk := hA w10 (.cells #[.int .i64 V, .int .i64 D] 58)
  have y1 := alloc_new w10 (.cells #[.int .i64 V, .int .i64 D] 58)
  replace x1 := blk_keep x1 hk
  replace BW := BW.trans (hs.mono BW.size)
  replace BW := BW.trans (hk.mono BW.size)
  replace sv := (sv.keep hs).keep hk
  replace sd := (sd.keep hs).keep hk
  clear hs f0 f1 s9 hk
  have f0 := cell_block x1 0
  have f1 := cell_block x1 1
  go_wp2_with fail
  obtain ⟨bx, hbx⟩ : ∃ b, w10.heap.size = b := ⟨_, rfl⟩
  obtain ⟨W, hW⟩ : ∃ W, w10.alloc (.cells #[.int .i64 V, .int .i64 D] 58) = W := ⟨_, rfl⟩
  rw [hW] at x1 y1 BW sv sd f0 f1 ⊢
  rw [hbx] at y1 hbl ⊢
  clear hW hbx
  refine (rCheckRecord_any step a n c xs _ (h1.keep BW) I E HR.out).mono ?_
  rintro e w11 ⟨rfl, hs⟩
  replace x1 := blk_keep x1 hs
  replace y1 := blk_keep y1 hs
  replace BW := BW.trans (hs.mono BW.size)
  replace sv := sv.keep hs
  replace sd := sd.keep hs
  clear hs f0 f1
  have f0 := cell_block x1 0
  have f1 := cell_block x1 1
  have f2 := cell_block y1 0
  have f3 := cell_block y1 1
  by_cases hz : E = 0
  case neg =>
    obtain ⟨rfl, rfl⟩ := HV.out hz
    have e1 := sv.len
    have e2 := sd.len
    rw [HX1.out hz] at e1
    rw [HX2.out hz] at e2
    obtain rfl : nv = 0 := e1
    obtain rfl : nd = 0 := e2
    have b1 : (E != 0) = true := by simpa using hz
    clear hz
    go_wp2_with fail
    go_ret
    exact ⟨rfl, BW⟩
  subst hz
  have e1 := sv.len
  have e2 := sd.len
  have q1 := HX1'.out rfl
  have q2 := HX2'.out rfl
  obtain ⟨q3, q4⟩ := HV'.out rfl
  subst q1 q2
  rw [sumsF_len] at e1
  rw [sumsF_len, sumsF_len] at e2
  obtain rfl : n = nv := by omega
  obtain rfl : n = nd := by omega
  obtain ⟨g1, g2, g3, g4, g5⟩ := recF_ok (step := step) (xs := xs) (by rw [HR.out])
  have H5 := Lib.hid g5
  have Q3 := Lib.hid q3
  have Q4 := Lib.hid q4
  have hn0 : 0 < n := by omega
  have hlv : (sumsF xs)[n - 1]?.getD 0 = V := by rw [sumsF_get xs (n - 1) (by omega), ← q3]; congr 1; omega
  have hld : (sumsF (sumsF xs))[n - 1]?.getD 0 = D := by rw [sumsF_get (sumsF xs) (n - 1) (by rw [sumsF_len]; omega), ← q4]; congr 1; omega
  have HLV := Lib.hid hlv
  have HLD := Lib.hid hld
  clear g1 g2 g3 g4 g5 q3 q4 e1 e2 hlv hld
  go_wp2_with fail
  refine Calmly.wp_region_mix 33 (.fl 0 <| .fl 1 <| .fl 2 <| .gl 3 <| .gl 4 <| .gl 5 <| .gf 6 <| .gf 7 <| .gl 8 <| .fl 9 <| .fl 10 <| .gl 11 <| .gl 12 <| .fl 13 <| .fl 14 <| .gl 15 <| .gl 16 <| .gl 17 <| .gf 18 <| .gf 19 <| .gl 20 <| .fl 21 <| .fl 22 <| .gl 23 <| .gl 24 <| .fl 25 <| .fl 26 <| .gl 27 <| .gl 28 <| .gl 29 <| .gf 30 <| .gf 31 <| .fl 32 <| .tail []) (by kernel_rfl) (by kernel_rfl) ?_
  have hkd : Below w11.heap.size w11 w11.drew := (Below.refl _ _).drew
  generalize w11.drew = U at hkd ⊢
  replace x1 := blk_keep x1 hkd
  replace y1 := blk_keep y1 hkd
  replace BW := BW.trans (hkd.mono BW.size)
  replace sv := sv.keep hkd
  replace sd := sd.keep hkd
  clear f0 f1 f2 f3 hkd
  have f0 := cell_block x1 0
  have f1 := cell_block x1 1
  have f2 := cell_block y1 0
  have f3 := cell_block y1 1
  have hk := Below.refl U.heap.size U
  have S1 := Lib.hid True.intro
  go_wp2_with (first | ((with_reducible refine Calmly.is_fl ?_); refine Calmly.mix_fl rfl ?_ (fun _ _ => ?_); (first | exact .move _ | exact .load _ _ | exact .fieldAddr _ _ _ (by kernel_rfl) | exact .assign _ | exact .binOp _ _ _ _ _ rfl | exact .indexAddr _ _ _ | exact .len _ _ (by kernel_rfl) | exact .field _ _ _ | exact .extract _ _ | exact .pick _ _ _ | exact .build _ _ | exact .slice _ _ _ _ _ | exact .unOp _ _ _ rfl | exact .index _ _ _ | exact .max _ _ _ rfl rfl | exact .min _ _ _ rfl rfl)) | ((with_reducible refine Calmly.is_gl ?_); refine Calmly.mix_gl rfl rfl rfl ?_; first | ((first | with_reducible refine Calmly.gl_tt ?_ (fun _ _ => ?_) | with_reducible refine Calmly.gl_ff ?_ (fun _ _ => ?_)); (first | exact .move _ | exact .load _ _ | exact .fieldAddr _ _ _ (by kernel_rfl) | exact .assign _ | exact .binOp _ _ _ _ _ rfl | exact .indexAddr _ _ _ | exact .len _ _ (by kernel_rfl) | exact .field _ _ _ | exact .extract _ _ | exact .pick _ _ _ | exact .build _ _ | exact .slice _ _ _ _ _ | exact .unOp _ _ _ rfl | exact .index _ _ _ | exact .max _ _ _ rfl rfl | exact .min _ _ _ rfl rfl)) | with_reducible refine Calmly.gl_tf (fun _ _ => ?_) | with_reducible refine Calmly.gl_ft (fun _ _ => ?_)) | ((with_reducible refine Calmly.is_eff ?_); refine Calmly.mix_eff rfl (fun _ _ => ?_)) | ((with_reducible refine Calmly.is_gf ?_); refine Calmly.mix_gf rfl rfl rfl ?_; first | with_reducible refine Calmly.gf_tt (fun _ _ => ?_) | with_reducible refine Calmly.gf_ff (fun _ _ => ?_) | with_reducible refine Calmly.gf_tf (kept_of hk) (fun _ _ => ?_) | with_reducible refine Calmly.gf_ft (kept_of hk) (fun _ _ => ?_)) | ((with_reducible refine Calmly.is_tail ?_); first | refine Calmly.mix_tail_nil ?_ | refine Calmly.mix_tail rfl (fun _ _ => ?_)) | ((with_reducible refine Calmly.is_kept ?_); refine ⟨kept_of hk, ?_⟩) | (with_reducible refine Calmly.mix_alt ?_ ?_) | (go_at_call 35; refine (rVelocities_any a n c xs _ ((h1.keep BW).keep hk) (by omega) (fun j => by have := H5.out j; omega)).mono ?_; rintro e u1 ⟨a11, c11, rfl, s11, hs1⟩; replace hk := step_of hk hs1) | (go_at_call 25; have _ := S1.out; clear S1; refine (ints_any av a11 n n cv c11 _ _ _ (sv.keep hk) s11).mono ?_; rintro e u2 ⟨rfl, q2, rfl⟩; rw [decide_refl]; replace hk := below_drewN hk q2) | (go_at_call 36; refine (rDisplacements_any a n c xs _ ((h1.keep BW).keep hk) (by omega) H5.out).mono ?_; rintro e u3 ⟨a12, c12, rfl, s12, hs2⟩; replace hk := step_of hk hs2) | (go_at_call 25; refine (ints_any ad a12 n n cd c12 _ _ _ (sd.keep hk) s12).mono ?_; rintro e u2 ⟨rfl, q3, rfl⟩; rw [decide_refl]; replace hk := below_drewN hk q3) | (go_at_call 37; refine (rEnd_any a n c xs _ ((h1.keep BW).keep hk) hn (fun j => by have := H5.out j; omega) V D Q3.out Q4.out).mono ?_; rintro e u4 ⟨rfl, hs3⟩; replace hk := step_of hk hs3))
  have hkd : Below U.heap.size U u4.drew := hk.trans ((Below.refl _ _).drew.mono hk.size)
  replace y1 := blk_keep y1 hkd
  replace BW := BW.trans (hkd.mono BW.size)
  replace sv := sv.keep hkd
  replace sd := sd.keep hkd
  clear f0 f1 f2 f3 hk hs1 hs2 hs3 s11 s12 x1
  obtain ⟨bv, ov, rfl, hcv⟩ := sv.at_ hn0
  obtain ⟨bd, od, rfl, hcd⟩ := sd.at_ hn0
  have ev := hcv (n - 1) (by omega)
  have ed := hcd (n - 1) (by omega)
  rw [HLV.out] at ev
  rw [HLD.out] at ed
  have hn1 : ((n : Int) - 1).toNat = n - 1 := by omega
  have hn2 : (0 : Int) ≤ (n : Int) - 1 := by omega
  have hn3 : (n : Int) - 1 < (n : Int) := by omega
  clear hcv hcd
  refine Calmly.wp_region_mix 19 (.fl 0 <| .fl 1 <| .fl 2 <| .fl 3 <| .fl 4 <| .fl 5 <| .fl 6 <| .fl 7 <| .fl 8 <| .fl 9 <| .gl 10 <| .gl 11 <| .gl 12 <| .gl 13 <| .gl 14 <| .gl 15 <| .gl 16 <| .gl 17 <| .gl 18 <| .tail [19, 20]) (by kernel_rfl) (by kernel_rfl) ?_
  generalize u4.drew = Z at y1 BW sv sd ev ed ⊢
  have f2 := cell_block y1 0
  have f3 := cell_block y1 1
  have hk := Below.refl Z.heap.size Z
  go_wp2_with (first | ((with_reducible refine Calmly.is_fl ?_); refine Calmly.mix_fl rfl ?_ (fun _ _ => ?_); (first | exact .move _ | exact .load _ _ | exact .fieldAddr _ _ _ (by kernel_rfl) | exact .assign _ | exact .binOp _ _ _ _ _ rfl | exact .indexAddr _ _ _ | exact .len _ _ (by kernel_rfl) | exact .field _ _ _ | exact .extract _ _ | exact .pick _ _ _ | exact .build _ _ | exact .slice _ _ _ _ _ | exact .unOp _ _ _ rfl | exact .index _ _ _ | exact .max _ _ _ rfl rfl | exact .min _ _ _ rfl rfl)) | ((with_reducible refine Calmly.is_gl ?_); refine Calmly.mix_gl rfl rfl rfl ?_; first | ((first | with_reducible refine Calmly.gl_tt ?_ (fun _ _ => ?_) | with_reducible refine Calmly.gl_ff ?_ (fun _ _ => ?_)); (first | exact .move _ | exact .load _ _ | exact .fieldAddr _ _ _ (by kernel_rfl) | exact .assign _ | exact .binOp _ _ _ _ _ rfl | exact .indexAddr _ _ _ | exact .len _ _ (by kernel_rfl) | exact .field _ _ _ | exact .extract _ _ | exact .pick _ _ _ | exact .build _ _ | exact .slice _ _ _ _ _ | exact .unOp _ _ _ rfl | exact .index _ _ _ | exact .max _ _ _ rfl rfl | exact .min _ _ _ rfl rfl)) | with_reducible refine Calmly.gl_tf (fun _ _ => ?_) | with_reducible refine Calmly.gl_ft (fun _ _ => ?_)) | ((with_reducible refine Calmly.is_eff ?_); refine Calmly.mix_eff rfl (fun _ _ => ?_)) | ((with_reducible refine Calmly.is_gf ?_); refine Calmly.mix_gf rfl rfl rfl ?_; first | with_reducible refine Calmly.gf_tt (fun _ _ => ?_) | with_reducible refine Calmly.gf_ff (fun _ _ => ?_) | with_reducible refine Calmly.gf_tf (kept_of hk) (fun _ _ => ?_) | with_reducible refine Calmly.gf_ft (kept_of hk) (fun _ _ => ?_)) | ((with_reducible refine Calmly.is_tail ?_); first | refine Calmly.mix_tail_nil ?_ | refine Calmly.mix_tail rfl (fun _ _ => ?_)) | ((with_reducible refine Calmly.is_kept ?_); refine ⟨kept_of hk, ?_⟩) | (with_reducible refine Calmly.mix_alt ?_ ?_))
  go_ret
  exact ⟨rfl, BW⟩
end Go.Proofs.Ytiibdndchkbefaa
