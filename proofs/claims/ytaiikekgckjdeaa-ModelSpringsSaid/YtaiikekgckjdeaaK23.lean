/- There and back: the law's walk. Printed by gen_m49.py. -/
import Derived.Test.YtaiikekgckjdeaaK22
import Derived.LoopN
namespace Go.Proofs.Ytaiikekgckjdeaa
open Go.RowKit Go.Maps
open Calmly (Kept)
theorem two_row {V W : World} {g h : Nat} {cs ds : Array Value} {t : TypeId} (hb : Below V.heap.size V W) (hg : V.heap.size ≤ g) (hh : V.heap.size ≤ h) (hgh : g ≠ h) (zg : W.heap[g]? = some (.cells cs t)) (zh : W.heap[h]? = some (.cells ds t)) (i j : Nat) (u v : Value) :
    Below V.heap.size V (W.setCell ⟨g, i, none⟩ u) ∧ (W.setCell ⟨g, i, none⟩ u).heap[h]? = some (.cells ds t) ∧ Below V.heap.size V ((W.setCell ⟨g, i, none⟩ u).setCell ⟨h, j, none⟩ v) ∧ ((W.setCell ⟨g, i, none⟩ u).setCell ⟨h, j, none⟩ v).heap[g]? = some (.cells (cs.setIfInBounds i u) t) ∧ ((W.setCell ⟨g, i, none⟩ u).setCell ⟨h, j, none⟩ v).heap[h]? = some (.cells (ds.setIfInBounds j v) t) := by
  have e : (W.setCell ⟨g, i, none⟩ u).heap[h]? = some (.cells ds t) := by
    rw [Below.heap_setCell _ _ _ _ (Ne.symm hgh)]
    exact zh
  refine ⟨hb.setCell hg _, e, (hb.setCell hg _).setCell hh _, ?_, setBlk e j v⟩
  rw [Below.heap_setCell _ _ _ _ hgh]
  exact setBlk zg i u
set_option maxRecDepth 100000 in
set_option maxHeartbeats 8000000 in
theorem ModelThere_walk (n1 d1 n2 d2 n3 d3 a b c p q r x y : Int) (w : World) (h1 : F64 n1 d1) (h2 : F64 n2 d2) (h3 : F64 n3 d3) (hxy : F64 x y) :
    Calls Try.prog 7 #[.agg #[.int .i64 n1, .int .i64 d1, .int .i64 n2, .int .i64 d2, .int .i64 n3, .int .i64 d3], .agg #[.int .i64 a, .int .i64 b, .int .i64 c, .int .i64 p, .int .i64 q, .int .i64 r], .agg #[.int .i64 x, .int .i64 y]] w fun e w' => e = .returned (.bool true) ∧ Below w.heap.size w w' := by
  obtain ⟨V, hV⟩ : ∃ V, facV n1 d1 n2 d2 n3 d3 a b c = V := ⟨_, rfl⟩
  obtain ⟨F, hF⟩ : ∃ F, facE n1 d1 n2 d2 n3 d3 a b c = F := ⟨_, rfl⟩
  obtain ⟨U, hU⟩ : ∃ V, facV n1 d1 n2 d2 n3 d3 p q r = V := ⟨_, rfl⟩
  obtain ⟨G, hG⟩ : ∃ F, facE n1 d1 n2 d2 n3 d3 p q r = F := ⟨_, rfl⟩
  obtain ⟨R1, hR1⟩ : ∃ R, scR x y V 1 = R := ⟨_, rfl⟩
  obtain ⟨R2, hR2⟩ : ∃ R, scR x y V (-1) = R := ⟨_, rfl⟩
  obtain ⟨SI, hSI⟩ : ∃ S, (sclE (fs3 n1 d1 n2 d2 n3 d3)).1 = S := ⟨_, rfl⟩
  obtain ⟨SE, hSE⟩ : ∃ S, (sclE (fs3 n1 d1 n2 d2 n3 d3)).2 = S := ⟨_, rfl⟩
  obtain ⟨QA, hQA⟩ : ∃ S, qtyE a b c = S := ⟨_, rfl⟩
  obtain ⟨QB, hQB⟩ : ∃ S, qtyE p q r = S := ⟨_, rfl⟩
  obtain ⟨VE, hVE⟩ : ∃ S, valE x y = S := ⟨_, rfl⟩
  obtain ⟨E1, hE1⟩ : ∃ E, scE F x y R1 = E := ⟨_, rfl⟩
  obtain ⟨E2, hE2⟩ : ∃ E, scE F x y R2 = E := ⟨_, rfl⟩
  obtain ⟨an, han⟩ : ∃ t, qN F V = t := ⟨_, rfl⟩
  obtain ⟨ad, had⟩ : ∃ t, qD F V = t := ⟨_, rfl⟩
  obtain ⟨bn, hbn⟩ : ∃ t, qN G U = t := ⟨_, rfl⟩
  obtain ⟨bd, hbd⟩ : ∃ t, qD G U = t := ⟨_, rfl⟩
  obtain ⟨a1, ha1⟩ : ∃ t, qN E1 R1 = t := ⟨_, rfl⟩
  obtain ⟨a2, ha2⟩ : ∃ t, qD E1 R1 = t := ⟨_, rfl⟩
  obtain ⟨b1, hb1⟩ : ∃ t, qN E2 R2 = t := ⟨_, rfl⟩
  obtain ⟨b2, hb2⟩ : ∃ t, qD E2 R2 = t := ⟨_, rfl⟩
  have hbad : F ≠ 0 → ¬ E1 = 0 ∧ ¬ E2 = 0 ∧ True := fun h => by
    have k : ∀ R, scE F x y R = F := fun R => by
      have h5 : scH F x y = F := by
        show (if F = 0 then _ else F) = F
        rw [if_neg h]
      rw [scE, h5, if_neg h]
    exact ⟨by rw [← hE1, k]; exact h, by rw [← hE2, k]; exact h, trivial⟩
  have HV := Lib.hid hV
  have HF := Lib.hid hF
  have HU := Lib.hid hU
  have HG := Lib.hid hG
  have HR1 := Lib.hid hR1
  have HR2 := Lib.hid hR2
  have HSI := Lib.hid hSI
  have HSE := Lib.hid hSE
  have HQA := Lib.hid hQA
  have HQB := Lib.hid hQB
  have HVE := Lib.hid hVE
  have HE1 := Lib.hid hE1
  have HE2 := Lib.hid hE2
  have HAN := Lib.hid han
  have HAD := Lib.hid had
  have HBN := Lib.hid hbn
  have HBD := Lib.hid hbd
  have HA1 := Lib.hid ha1
  have HA2 := Lib.hid ha2
  have HB1 := Lib.hid hb1
  have HB2 := Lib.hid hb2
  clear hV hF hU hG hR1 hR2 hSI hSE hQA hQB hVE hE1 hE2 han had hbn hbd ha1 ha2 hb1 hb2
  have y3 := blk_keep (blk_keep (alloc_new w (.cells #[.int .i64 n1, .int .i64 d1, .int .i64 n2, .int .i64 d2, .int .i64 n3, .int .i64 d3] 78)) ((Below.refl _ _).alloc (Nat.le_refl _) (.cells #[.int .i64 a, .int .i64 b, .int .i64 c, .int .i64 p, .int .i64 q, .int .i64 r] 92))) ((Below.refl _ _).alloc (Nat.le_refl _) (.cells #[.int .i64 x, .int .i64 y] 77))
  have y4 := blk_keep (alloc_new (w.alloc (.cells #[.int .i64 n1, .int .i64 d1, .int .i64 n2, .int .i64 d2, .int .i64 n3, .int .i64 d3] 78)) (.cells #[.int .i64 a, .int .i64 b, .int .i64 c, .int .i64 p, .int .i64 q, .int .i64 r] 92)) ((Below.refl _ _).alloc (Nat.le_refl _) (.cells #[.int .i64 x, .int .i64 y] 77))
  have y5 := alloc_new ((w.alloc (.cells #[.int .i64 n1, .int .i64 d1, .int .i64 n2, .int .i64 d2, .int .i64 n3, .int .i64 d3] 78)).alloc (.cells #[.int .i64 a, .int .i64 b, .int .i64 c, .int .i64 p, .int .i64 q, .int .i64 r] 92)) (.cells #[.int .i64 x, .int .i64 y] 77)
  have BW : Below w.heap.size w (((w.alloc (.cells #[.int .i64 n1, .int .i64 d1, .int .i64 n2, .int .i64 d2, .int .i64 n3, .int .i64 d3] 78)).alloc (.cells #[.int .i64 a, .int .i64 b, .int .i64 c, .int .i64 p, .int .i64 q, .int .i64 r] 92)).alloc (.cells #[.int .i64 x, .int .i64 y] 77)) := (((Below.refl _ _).alloc (Nat.le_refl _) _).alloc (by simp) _).alloc (by simp; omega) _
  simp only [World.size_alloc] at y4 y5
  go_enter Try.func7, Try.ntmps7
  have y3_0 := cell_block y3 0
  have y3_1 := cell_block y3 1
  have y3_2 := cell_block y3 2
  have y3_3 := cell_block y3 3
  have y3_4 := cell_block y3 4
  have y3_5 := cell_block y3 5
  have y4_0 := cell_block y4 0
  have y4_1 := cell_block y4 1
  have y4_2 := cell_block y4 2
  have y4_3 := cell_block y4 3
  have y4_4 := cell_block y4 4
  have y4_5 := cell_block y4 5
  have y5_0 := cell_block y5 0
  have y5_1 := cell_block y5 1
  go_wp2_with fail
  clear y3_0 y3_1 y3_2 y3_3 y3_4 y3_5 y4_0 y4_1 y4_2 y4_3 y4_4 y4_5 y5_0 y5_1
  refine (awake_any _).mono ?_
  rintro e w1 ⟨rfl, hs⟩
  replace y3 := blk_keep y3 hs
  replace y4 := blk_keep y4 hs
  replace y5 := blk_keep y5 hs
  replace BW := BW.trans (hs.mono BW.size)
  clear hs
  have y3_0 := cell_block y3 0
  have y3_1 := cell_block y3 1
  have y3_2 := cell_block y3 2
  have y3_3 := cell_block y3 3
  have y3_4 := cell_block y3 4
  have y3_5 := cell_block y3 5
  have y4_0 := cell_block y4 0
  have y4_1 := cell_block y4 1
  have y4_2 := cell_block y4 2
  have y4_3 := cell_block y4 3
  have y4_4 := cell_block y4 4
  have y4_5 := cell_block y4 5
  have y5_0 := cell_block y5 0
  have y5_1 := cell_block y5 1
  go_wp2_with fail
  clear y3_0 y3_1 y3_2 y3_3 y3_4 y3_5 y4_0 y4_1 y4_2 y4_3 y4_4 y4_5 y5_0 y5_1
  refine (rCheckScales_any n1 d1 n2 d2 n3 d3 _ h1 h2 h3).mono ?_
  rintro e w2 ⟨rfl, hs⟩
  replace y3 := blk_keep y3 hs
  replace y4 := blk_keep y4 hs
  replace y5 := blk_keep y5 hs
  replace BW := BW.trans (hs.mono BW.size)
  clear hs
  rw [HSI.out, HSE.out]
  by_cases hz : SE = 0
  case neg => as_aux_lemma =>
    have g1 : (SE != 0) = true := by simpa using hz
    have g2 : (SE == 0) = false := by simpa using hz
    have y3_0 := cell_block y3 0
    have y3_1 := cell_block y3 1
    have y3_2 := cell_block y3 2
    have y3_3 := cell_block y3 3
    have y3_4 := cell_block y3 4
    have y3_5 := cell_block y3 5
    have y4_0 := cell_block y4 0
    have y4_1 := cell_block y4 1
    have y4_2 := cell_block y4 2
    have y4_3 := cell_block y4 3
    have y4_4 := cell_block y4 4
    have y4_5 := cell_block y4 5
    have y5_0 := cell_block y5 0
    have y5_1 := cell_block y5 1
    go_wp2_with fail
    go_ret
    exact ⟨ret_bool (by simp), BW⟩
  case pos =>
    subst hz
    have y3_0 := cell_block y3 0
    have y3_1 := cell_block y3 1
    have y3_2 := cell_block y3 2
    have y3_3 := cell_block y3 3
    have y3_4 := cell_block y3 4
    have y3_5 := cell_block y3 5
    have y4_0 := cell_block y4 0
    have y4_1 := cell_block y4 1
    have y4_2 := cell_block y4 2
    have y4_3 := cell_block y4 3
    have y4_4 := cell_block y4 4
    have y4_5 := cell_block y4 5
    have y5_0 := cell_block y5 0
    have y5_1 := cell_block y5 1
    go_wp2_with fail
    clear y3_0 y3_1 y3_2 y3_3 y3_4 y3_5 y4_0 y4_1 y4_2 y4_3 y4_4 y4_5 y5_0 y5_1
    refine (rQuantityErr_any a b c _).mono ?_
    rintro e w3 ⟨rfl, hs⟩
    replace y3 := blk_keep y3 hs
    replace y4 := blk_keep y4 hs
    replace y5 := blk_keep y5 hs
    replace BW := BW.trans (hs.mono BW.size)
    clear hs
    rw [HQA.out]
    by_cases hz : QA = 0
    case neg => as_aux_lemma =>
      have g1 : (QA != 0) = true := by simpa using hz
      have g2 : (QA == 0) = false := by simpa using hz
      have y3_0 := cell_block y3 0
      have y3_1 := cell_block y3 1
      have y3_2 := cell_block y3 2
      have y3_3 := cell_block y3 3
      have y3_4 := cell_block y3 4
      have y3_5 := cell_block y3 5
      have y4_0 := cell_block y4 0
      have y4_1 := cell_block y4 1
      have y4_2 := cell_block y4 2
      have y4_3 := cell_block y4 3
      have y4_4 := cell_block y4 4
      have y4_5 := cell_block y4 5
      have y5_0 := cell_block y5 0
      have y5_1 := cell_block y5 1
      go_wp2_with fail
      go_ret
      exact ⟨ret_bool (by simp), BW⟩
    case pos =>
      subst hz
      have y3_0 := cell_block y3 0
      have y3_1 := cell_block y3 1
      have y3_2 := cell_block y3 2
      have y3_3 := cell_block y3 3
      have y3_4 := cell_block y3 4
      have y3_5 := cell_block y3 5
      have y4_0 := cell_block y4 0
      have y4_1 := cell_block y4 1
      have y4_2 := cell_block y4 2
      have y4_3 := cell_block y4 3
      have y4_4 := cell_block y4 4
      have y4_5 := cell_block y4 5
      have y5_0 := cell_block y5 0
      have y5_1 := cell_block y5 1
      go_wp2_with fail
      clear y3_0 y3_1 y3_2 y3_3 y3_4 y3_5 y4_0 y4_1 y4_2 y4_3 y4_4 y4_5 y5_0 y5_1
      refine (rQuantityErr_any p q r _).mono ?_
      rintro e w4 ⟨rfl, hs⟩
      replace y3 := blk_keep y3 hs
      replace y4 := blk_keep y4 hs
      replace y5 := blk_keep y5 hs
      replace BW := BW.trans (hs.mono BW.size)
      clear hs
      rw [HQB.out]
      by_cases hz : QB = 0
      case neg => as_aux_lemma =>
        have g1 : (QB != 0) = true := by simpa using hz
        have g2 : (QB == 0) = false := by simpa using hz
        have y3_0 := cell_block y3 0
        have y3_1 := cell_block y3 1
        have y3_2 := cell_block y3 2
        have y3_3 := cell_block y3 3
        have y3_4 := cell_block y3 4
        have y3_5 := cell_block y3 5
        have y4_0 := cell_block y4 0
        have y4_1 := cell_block y4 1
        have y4_2 := cell_block y4 2
        have y4_3 := cell_block y4 3
        have y4_4 := cell_block y4 4
        have y4_5 := cell_block y4 5
        have y5_0 := cell_block y5 0
        have y5_1 := cell_block y5 1
        go_wp2_with fail
        go_ret
        exact ⟨ret_bool (by simp), BW⟩
      case pos =>
        subst hz
        have y3_0 := cell_block y3 0
        have y3_1 := cell_block y3 1
        have y3_2 := cell_block y3 2
        have y3_3 := cell_block y3 3
        have y3_4 := cell_block y3 4
        have y3_5 := cell_block y3 5
        have y4_0 := cell_block y4 0
        have y4_1 := cell_block y4 1
        have y4_2 := cell_block y4 2
        have y4_3 := cell_block y4 3
        have y4_4 := cell_block y4 4
        have y4_5 := cell_block y4 5
        have y5_0 := cell_block y5 0
        have y5_1 := cell_block y5 1
        go_wp2_with fail
        clear y3_0 y3_1 y3_2 y3_3 y3_4 y3_5 y4_0 y4_1 y4_2 y4_3 y4_4 y4_5 y5_0 y5_1
        refine (rValueErr_any x y _ hxy).mono ?_
        rintro e w5 ⟨rfl, hs⟩
        replace y3 := blk_keep y3 hs
        replace y4 := blk_keep y4 hs
        replace y5 := blk_keep y5 hs
        replace BW := BW.trans (hs.mono BW.size)
        clear hs
        rw [HVE.out]
        by_cases hz : VE = 0
        case neg => as_aux_lemma =>
          have g1 : (VE != 0) = true := by simpa using hz
          have g2 : (VE == 0) = false := by simpa using hz
          have y3_0 := cell_block y3 0
          have y3_1 := cell_block y3 1
          have y3_2 := cell_block y3 2
          have y3_3 := cell_block y3 3
          have y3_4 := cell_block y3 4
          have y3_5 := cell_block y3 5
          have y4_0 := cell_block y4 0
          have y4_1 := cell_block y4 1
          have y4_2 := cell_block y4 2
          have y4_3 := cell_block y4 3
          have y4_4 := cell_block y4 4
          have y4_5 := cell_block y4 5
          have y5_0 := cell_block y5 0
          have y5_1 := cell_block y5 1
          go_wp2_with fail
          go_ret
          exact ⟨ret_bool (by simp), BW⟩
        case pos =>
          subst hz
          obtain ⟨FD, hT⟩ := thr_of HSE.out HQA.out HQB.out HF.out HV.out HG.out HU.out HAN.out HAD.out HBN.out HBD.out
          have HT := Lib.hid hT
          have hA' := qty_ok HQA.out
          have hB' := qty_ok HQB.out
          obtain ⟨⟨l1, u1⟩, ⟨l2, u2⟩, ⟨l3, u3⟩⟩ := hA'
          obtain ⟨⟨l4, u4⟩, ⟨l5, u5⟩, ⟨l6, u6⟩⟩ := hB'
          have H1N := Lib.hid (show qN 0 1 = 1 from rfl)
          have H1D := Lib.hid (show qD 0 1 = 1 from rfl)
          have hv := HVE.out
          have v0 := hT.v0
          have HK1 := fun (e1 : F = 0) (e2 : E1 = 0) => back_ok (pw := 1) (qw := -1) hv v0 (.inl ⟨rfl, rfl⟩) (by have h := HE1.out; rw [e1, e2] at h; rw [HR1.out]; exact h)
          have HK2 := fun (e1 : F = 0) (e2 : E2 = 0) => back_ok (pw := -1) (qw := 1) hv v0 (.inr ⟨rfl, rfl⟩) (by have h := HE2.out; rw [e1, e2] at h; rw [HR2.out]; exact h)
          rw [HR1.out] at HK1
          rw [HR2.out] at HK2
          replace HK1 := Lib.hid HK1
          replace HK2 := Lib.hid HK2
          clear hT hv v0
          have y3_0 := cell_block y3 0
          have y3_1 := cell_block y3 1
          have y3_2 := cell_block y3 2
          have y3_3 := cell_block y3 3
          have y3_4 := cell_block y3 4
          have y3_5 := cell_block y3 5
          have y4_0 := cell_block y4 0
          have y4_1 := cell_block y4 1
          have y4_2 := cell_block y4 2
          have y4_3 := cell_block y4 3
          have y4_4 := cell_block y4 4
          have y4_5 := cell_block y4 5
          have y5_0 := cell_block y5 0
          have y5_1 := cell_block y5 1
          go_wp2_with fail
          clear y3_0 y3_1 y3_2 y3_3 y3_4 y3_5 y4_0 y4_1 y4_2 y4_3 y4_4 y4_5 y5_0 y5_1
          refine (FactorOf_any n1 d1 n2 d2 n3 d3 0 0 0 _ h1 h2 h3).mono ?_
          rintro e w6 ⟨rfl, hs⟩
          replace y3 := blk_keep y3 hs
          replace y4 := blk_keep y4 hs
          replace y5 := blk_keep y5 hs
          replace BW := BW.trans (hs.mono BW.size)
          clear hs
          rw [HT.out.zE, HT.out.zV, H1N.out, H1D.out]
          have z9 := alloc_new w6 (.cells #[.int .i64 1, .int .i64 1] 77)
          have hk := (Below.refl w6.heap.size w6).alloc (Nat.le_refl _) (.cells #[.int .i64 1, .int .i64 1] 77)
          replace y3 := blk_keep y3 hk
          replace y4 := blk_keep y4 hk
          replace y5 := blk_keep y5 hk
          replace BW := BW.trans (hk.mono BW.size)
          clear hk
          have y3_0 := cell_block y3 0
          have y3_1 := cell_block y3 1
          have y3_2 := cell_block y3 2
          have y3_3 := cell_block y3 3
          have y3_4 := cell_block y3 4
          have y3_5 := cell_block y3 5
          have y4_0 := cell_block y4 0
          have y4_1 := cell_block y4 1
          have y4_2 := cell_block y4 2
          have y4_3 := cell_block y4 3
          have y4_4 := cell_block y4 4
          have y4_5 := cell_block y4 5
          have y5_0 := cell_block y5 0
          have y5_1 := cell_block y5 1
          have z9_0 := cell_block z9 0
          have z9_1 := cell_block z9 1
          have c1 : ((1 : Int) != 1) = false := rfl
          go_wp2_with fail
          clear z9_0 z9_1
          obtain ⟨q1, hq1⟩ : ∃ q, w6.heap.size = q := ⟨_, rfl⟩
          rw [hq1] at z9 ⊢
          generalize w6.alloc (.cells #[.int .i64 1, .int .i64 1] 77) = W1 at *
          clear y3_0 y3_1 y3_2 y3_3 y3_4 y3_5 y4_0 y4_1 y4_2 y4_3 y4_4 y4_5 y5_0 y5_1
          refine (ToModel_any n1 d1 n2 d2 n3 d3 a b c x y _ h1 h2 h3 hxy F V R1 HF.out HV.out HR1.out).mono ?_
          rintro e w7 ⟨rfl, hs⟩
          replace y3 := blk_keep y3 hs
          replace y4 := blk_keep y4 hs
          replace y5 := blk_keep y5 hs
          replace BW := BW.trans (hs.mono BW.size)
          clear hs
          rw [HE1.out, HA1.out, HA2.out]
          have z11 := alloc_new w7 (.cells #[.int .i64 a1, .int .i64 a2] 77)
          have hk := (Below.refl w7.heap.size w7).alloc (Nat.le_refl _) (.cells #[.int .i64 a1, .int .i64 a2] 77)
          replace y3 := blk_keep y3 hk
          replace y4 := blk_keep y4 hk
          replace y5 := blk_keep y5 hk
          replace BW := BW.trans (hk.mono BW.size)
          clear hk
          by_cases hf : F = 0
          case neg => as_aux_lemma =>
            have HN := Lib.hid (hbad hf)
            have hz : ¬ E1 = 0 := HN.out.1
            have g2 : (E1 == 0) = false := by simpa using hz
            have z11_0 := cell_block z11 0
            have z11_1 := cell_block z11 1
            have y3_0 := cell_block y3 0
            have y3_1 := cell_block y3 1
            have y3_2 := cell_block y3 2
            have y3_3 := cell_block y3 3
            have y3_4 := cell_block y3 4
            have y3_5 := cell_block y3 5
            have y4_0 := cell_block y4 0
            have y4_1 := cell_block y4 1
            have y4_2 := cell_block y4 2
            have y4_3 := cell_block y4 3
            have y4_4 := cell_block y4 4
            have y4_5 := cell_block y4 5
            have y5_0 := cell_block y5 0
            have y5_1 := cell_block y5 1
            go_wp2_with fail
            obtain ⟨q2, hq2⟩ : ∃ q, w7.heap.size = q := ⟨_, rfl⟩
            rw [hq2] at z11 ⊢
            generalize w7.alloc (.cells #[.int .i64 a1, .int .i64 a2] 77) = W2 at *
            clear hz g2
            clear z11_0 z11_1 y3_0 y3_1 y3_2 y3_3 y3_4 y3_5 y4_0 y4_1 y4_2 y4_3 y4_4 y4_5 y5_0 y5_1
            refine (ToFull_any n1 d1 n2 d2 n3 d3 a b c x y _ h1 h2 h3 hxy F V R2 HF.out HV.out HR2.out).mono ?_
            rintro e w8 ⟨rfl, hs⟩
            replace y3 := blk_keep y3 hs
            replace y4 := blk_keep y4 hs
            replace y5 := blk_keep y5 hs
            replace BW := BW.trans (hs.mono BW.size)
            clear hs
            rw [HE2.out, HB1.out, HB2.out]
            have z15 := alloc_new w8 (.cells #[.int .i64 b1, .int .i64 b2] 77)
            have hk := (Below.refl w8.heap.size w8).alloc (Nat.le_refl _) (.cells #[.int .i64 b1, .int .i64 b2] 77)
            replace y3 := blk_keep y3 hk
            replace y4 := blk_keep y4 hk
            replace y5 := blk_keep y5 hk
            replace BW := BW.trans (hk.mono BW.size)
            clear hk
            have hz : ¬ E2 = 0 := HN.out.2.1
            have g2 : (E2 == 0) = false := by simpa using hz
            have z15_0 := cell_block z15 0
            have z15_1 := cell_block z15 1
            have y3_0 := cell_block y3 0
            have y3_1 := cell_block y3 1
            have y3_2 := cell_block y3 2
            have y3_3 := cell_block y3 3
            have y3_4 := cell_block y3 4
            have y3_5 := cell_block y3 5
            have y4_0 := cell_block y4 0
            have y4_1 := cell_block y4 1
            have y4_2 := cell_block y4 2
            have y4_3 := cell_block y4 3
            have y4_4 := cell_block y4 4
            have y4_5 := cell_block y4 5
            have y5_0 := cell_block y5 0
            have y5_1 := cell_block y5 1
            go_wp2_with fail
            obtain ⟨q3, hq3⟩ : ∃ q, w8.heap.size = q := ⟨_, rfl⟩
            rw [hq3] at z15 ⊢
            generalize w8.alloc (.cells #[.int .i64 b1, .int .i64 b2] 77) = W3 at *
            clear z15_0 z15_1 y3_0 y3_1 y3_2 y3_3 y3_4 y3_5 y4_0 y4_1 y4_2 y4_3 y4_4 y4_5 y5_0 y5_1
            refine (FactorOf_any n1 d1 n2 d2 n3 d3 a b c _ h1 h2 h3).mono ?_
            rintro e w9 ⟨rfl, hs⟩
            replace y3 := blk_keep y3 hs
            replace y4 := blk_keep y4 hs
            replace y5 := blk_keep y5 hs
            replace BW := BW.trans (hs.mono BW.size)
            clear hs
            rw [HF.out, HV.out, HAN.out, HAD.out]
            have z19 := alloc_new w9 (.cells #[.int .i64 an, .int .i64 ad] 77)
            have hk := (Below.refl w9.heap.size w9).alloc (Nat.le_refl _) (.cells #[.int .i64 an, .int .i64 ad] 77)
            replace y3 := blk_keep y3 hk
            replace y4 := blk_keep y4 hk
            replace y5 := blk_keep y5 hk
            replace BW := BW.trans (hk.mono BW.size)
            clear hk
            have y3_0 := cell_block y3 0
            have y3_1 := cell_block y3 1
            have y3_2 := cell_block y3 2
            have y3_3 := cell_block y3 3
            have y3_4 := cell_block y3 4
            have y3_5 := cell_block y3 5
            have y4_0 := cell_block y4 0
            have y4_1 := cell_block y4 1
            have y4_2 := cell_block y4 2
            have y4_3 := cell_block y4 3
            have y4_4 := cell_block y4 4
            have y4_5 := cell_block y4 5
            have y5_0 := cell_block y5 0
            have y5_1 := cell_block y5 1
            go_wp2_with fail
            obtain ⟨q4, hq4⟩ : ∃ q, w9.heap.size = q := ⟨_, rfl⟩
            rw [hq4] at z19 ⊢
            generalize w9.alloc (.cells #[.int .i64 an, .int .i64 ad] 77) = W4 at *
            clear y3_0 y3_1 y3_2 y3_3 y3_4 y3_5 y4_0 y4_1 y4_2 y4_3 y4_4 y4_5 y5_0 y5_1
            refine (FactorOf_any n1 d1 n2 d2 n3 d3 p q r _ h1 h2 h3).mono ?_
            rintro e w10 ⟨rfl, hs⟩
            replace y3 := blk_keep y3 hs
            replace y4 := blk_keep y4 hs
            replace y5 := blk_keep y5 hs
            replace z19 := blk_keep z19 hs
            replace BW := BW.trans (hs.mono BW.size)
            clear hs
            rw [HG.out, HU.out, HBN.out, HBD.out]
            have z21 := alloc_new w10 (.cells #[.int .i64 bn, .int .i64 bd] 77)
            have hk := (Below.refl w10.heap.size w10).alloc (Nat.le_refl _) (.cells #[.int .i64 bn, .int .i64 bd] 77)
            replace y3 := blk_keep y3 hk
            replace y4 := blk_keep y4 hk
            replace y5 := blk_keep y5 hk
            replace z19 := blk_keep z19 hk
            replace BW := BW.trans (hk.mono BW.size)
            clear hk
            have hs5 : (w10.alloc (.cells #[.int .i64 bn, .int .i64 bd] 77)).heap.size = w10.heap.size + 1 := by simp
            go_wp2_with fail
            generalize w10.alloc (.cells #[.int .i64 bn, .int .i64 bd] 77) = V5 at *
            generalize w10.heap.size = q5 at *
            have z23 := blk_keep (alloc_new V5 (.cells #[.int .i64 0, .int .i64 0, .int .i64 0] 79)) ((Below.refl _ _).alloc (Nat.le_refl _) (.cells #[.int .i64 0, .int .i64 0, .int .i64 0] 79))
            have z24 := alloc_new (V5.alloc (.cells #[.int .i64 0, .int .i64 0, .int .i64 0] 79)) (.cells #[.int .i64 0, .int .i64 0, .int .i64 0] 79)
            have hb := ((Below.refl V5.heap.size V5).alloc (Nat.le_refl _) (.cells #[.int .i64 0, .int .i64 0, .int .i64 0] 79)).alloc (by simp) (.cells #[.int .i64 0, .int .i64 0, .int .i64 0] 79)
            simp only [World.size_alloc] at z23 z24
            rw [hs5] at z23 z24
            generalize (V5.alloc (.cells #[.int .i64 0, .int .i64 0, .int .i64 0] 79)).alloc (.cells #[.int .i64 0, .int .i64 0, .int .i64 0] 79) = W5 at *
            go_loopw [25] (fun i wr => (i = .int .i64 0 ∧ Below V5.heap.size V5 wr ∧ wr.heap[q5 + 1]? = some (.cells #[.int .i64 0, .int .i64 0, .int .i64 0] 79) ∧ wr.heap[q5 + 1 + 1]? = some (.cells #[.int .i64 0, .int .i64 0, .int .i64 0] 79)) ∨ (i = .int .i64 1 ∧ Below V5.heap.size V5 wr ∧ wr.heap[q5 + 1]? = some (.cells #[.int .i64 (a + p), .int .i64 0, .int .i64 0] 79) ∧ wr.heap[q5 + 1 + 1]? = some (.cells #[.int .i64 (-a), .int .i64 0, .int .i64 0] 79)) ∨ (i = .int .i64 2 ∧ Below V5.heap.size V5 wr ∧ wr.heap[q5 + 1]? = some (.cells #[.int .i64 (a + p), .int .i64 (b + q), .int .i64 0] 79) ∧ wr.heap[q5 + 1 + 1]? = some (.cells #[.int .i64 (-a), .int .i64 (-b), .int .i64 0] 79)) ∨ (i = .int .i64 3 ∧ Below V5.heap.size V5 wr ∧ wr.heap[q5 + 1]? = some (.cells #[.int .i64 (a + p), .int .i64 (b + q), .int .i64 (c + r)] 79) ∧ wr.heap[q5 + 1 + 1]? = some (.cells #[.int .i64 (-a), .int .i64 (-b), .int .i64 (-c)] 79))) (fun i _ => 3 - (intOf i).toNat)
            case atStart => exact .inl ⟨rfl, hb, z23, z24⟩
            case round =>
              clear hb z23 z24
              rcases hrel with ⟨rfl, hb, z23, z24⟩ | ⟨rfl, hb, z23, z24⟩ | ⟨rfl, hb, z23, z24⟩ | ⟨rfl, hb, z23, z24⟩
              · as_aux_lemma =>
                  go_wp2_with fail
                  refine Calmly.wp_region_mix_at V5 (kept_of hb) 18 (.fl 0 <| .fl 1 <| .fl 2 <| .fl 3 <| .fl 4 <| .fl 5 <| .fl 6 <| .fl 7 <| .fl 8 <| .fl 9 <| .fl 10 <| .fl 11 <| .fl 12 <| .fl 13 <| .fl 14 <| .fl 15 <| .fl 16 <| .eff 17 <| .tail [18, 19]) (by kernel_rfl) (by kernel_rfl) ?_
                  replace z23 := blk_keep z23 (Below.refl _ _).drew
                  replace z24 := blk_keep z24 (Below.refl _ _).drew
                  replace hb := hb.drew
                  generalize wr.drew = Z at *
                  obtain ⟨hk, z24s, hb2, z23b, z24b⟩ := two_row hb (by omega) (by omega) (by omega) z23 z24 0 0 (.int .i64 (a + p)) (.int .i64 (-a))
                  have r0 := cell_block (blk_keep y4 hb) 0
                  have r1 := cell_block (blk_keep y4 hb) 3
                  have s0 := cell_block y4 0
                  have s1 := cell_block y4 3
                  have z23_c := cell_block z23 0
                  have z23_f := frozen_block z23 0
                  have z24_c := cell_block z24s 0
                  have z24_f := frozen_block z24s 0
                  go_wp2_with (first | ((with_reducible refine Calmly.is_fl ?_); refine Calmly.mix_fl rfl ?_ (fun _ _ => ?_); (first | exact .move _ | exact .load _ _ | exact .fieldAddr _ _ _ (by kernel_rfl) | exact .assign _ | exact .binOp _ _ _ _ _ rfl | exact .indexAddr _ _ _ | exact .len _ _ (by kernel_rfl) | exact .field _ _ _ | exact .extract _ _ | exact .pick _ _ _ | exact .build _ _ | exact .slice _ _ _ _ _ | exact .unOp _ _ _ rfl | exact .index _ _ _ | exact .max _ _ _ rfl rfl | exact .min _ _ _ rfl rfl | exact .nilCheck _ _ rfl)) | ((with_reducible refine Calmly.is_gl ?_); refine Calmly.mix_gl rfl rfl rfl ?_; first | ((first | with_reducible refine Calmly.gl_tt ?_ (fun _ _ => ?_) | with_reducible refine Calmly.gl_ff ?_ (fun _ _ => ?_)); (first | exact .move _ | exact .load _ _ | exact .fieldAddr _ _ _ (by kernel_rfl) | exact .assign _ | exact .binOp _ _ _ _ _ rfl | exact .indexAddr _ _ _ | exact .len _ _ (by kernel_rfl) | exact .field _ _ _ | exact .extract _ _ | exact .pick _ _ _ | exact .build _ _ | exact .slice _ _ _ _ _ | exact .unOp _ _ _ rfl | exact .index _ _ _ | exact .max _ _ _ rfl rfl | exact .min _ _ _ rfl rfl | exact .nilCheck _ _ rfl)) | with_reducible refine Calmly.gl_tf (fun _ _ => ?_) | with_reducible refine Calmly.gl_ft (fun _ _ => ?_)) | ((with_reducible refine Calmly.is_eff ?_); refine Calmly.mix_eff rfl (fun _ _ => ?_)) | ((with_reducible refine Calmly.is_gf ?_); refine Calmly.mix_gf rfl rfl rfl ?_; first | with_reducible refine Calmly.gf_tt (fun _ _ => ?_) | with_reducible refine Calmly.gf_ff (fun _ _ => ?_) | with_reducible refine Calmly.gf_tf (kept_of hk) (fun _ _ => ?_) | with_reducible refine Calmly.gf_ft (kept_of hk) (fun _ _ => ?_)) | ((with_reducible refine Calmly.is_tail ?_); first | refine Calmly.mix_tail_nil ?_ | refine Calmly.mix_tail rfl (fun _ _ => ?_)) | ((with_reducible refine Calmly.is_kept ?_); refine ⟨kept_of hk, ?_⟩) | (with_reducible refine Calmly.mix_alt ?_ ?_))
                  go_roundw
                  case rel => exact .inr (.inl ⟨rfl, hb2, by simpa using z23b, by simpa using z24b⟩)
                  case measure => simp [intOf]
              · as_aux_lemma =>
                  go_wp2_with fail
                  refine Calmly.wp_region_mix_at V5 (kept_of hb) 18 (.fl 0 <| .fl 1 <| .fl 2 <| .fl 3 <| .fl 4 <| .fl 5 <| .fl 6 <| .fl 7 <| .fl 8 <| .fl 9 <| .fl 10 <| .fl 11 <| .fl 12 <| .fl 13 <| .fl 14 <| .fl 15 <| .fl 16 <| .eff 17 <| .tail [18, 19]) (by kernel_rfl) (by kernel_rfl) ?_
                  replace z23 := blk_keep z23 (Below.refl _ _).drew
                  replace z24 := blk_keep z24 (Below.refl _ _).drew
                  replace hb := hb.drew
                  generalize wr.drew = Z at *
                  obtain ⟨hk, z24s, hb2, z23b, z24b⟩ := two_row hb (by omega) (by omega) (by omega) z23 z24 1 1 (.int .i64 (b + q)) (.int .i64 (-b))
                  have r0 := cell_block (blk_keep y4 hb) 1
                  have r1 := cell_block (blk_keep y4 hb) 4
                  have s0 := cell_block y4 1
                  have s1 := cell_block y4 4
                  have z23_c := cell_block z23 1
                  have z23_f := frozen_block z23 1
                  have z24_c := cell_block z24s 1
                  have z24_f := frozen_block z24s 1
                  go_wp2_with (first | ((with_reducible refine Calmly.is_fl ?_); refine Calmly.mix_fl rfl ?_ (fun _ _ => ?_); (first | exact .move _ | exact .load _ _ | exact .fieldAddr _ _ _ (by kernel_rfl) | exact .assign _ | exact .binOp _ _ _ _ _ rfl | exact .indexAddr _ _ _ | exact .len _ _ (by kernel_rfl) | exact .field _ _ _ | exact .extract _ _ | exact .pick _ _ _ | exact .build _ _ | exact .slice _ _ _ _ _ | exact .unOp _ _ _ rfl | exact .index _ _ _ | exact .max _ _ _ rfl rfl | exact .min _ _ _ rfl rfl | exact .nilCheck _ _ rfl)) | ((with_reducible refine Calmly.is_gl ?_); refine Calmly.mix_gl rfl rfl rfl ?_; first | ((first | with_reducible refine Calmly.gl_tt ?_ (fun _ _ => ?_) | with_reducible refine Calmly.gl_ff ?_ (fun _ _ => ?_)); (first | exact .move _ | exact .load _ _ | exact .fieldAddr _ _ _ (by kernel_rfl) | exact .assign _ | exact .binOp _ _ _ _ _ rfl | exact .indexAddr _ _ _ | exact .len _ _ (by kernel_rfl) | exact .field _ _ _ | exact .extract _ _ | exact .pick _ _ _ | exact .build _ _ | exact .slice _ _ _ _ _ | exact .unOp _ _ _ rfl | exact .index _ _ _ | exact .max _ _ _ rfl rfl | exact .min _ _ _ rfl rfl | exact .nilCheck _ _ rfl)) | with_reducible refine Calmly.gl_tf (fun _ _ => ?_) | with_reducible refine Calmly.gl_ft (fun _ _ => ?_)) | ((with_reducible refine Calmly.is_eff ?_); refine Calmly.mix_eff rfl (fun _ _ => ?_)) | ((with_reducible refine Calmly.is_gf ?_); refine Calmly.mix_gf rfl rfl rfl ?_; first | with_reducible refine Calmly.gf_tt (fun _ _ => ?_) | with_reducible refine Calmly.gf_ff (fun _ _ => ?_) | with_reducible refine Calmly.gf_tf (kept_of hk) (fun _ _ => ?_) | with_reducible refine Calmly.gf_ft (kept_of hk) (fun _ _ => ?_)) | ((with_reducible refine Calmly.is_tail ?_); first | refine Calmly.mix_tail_nil ?_ | refine Calmly.mix_tail rfl (fun _ _ => ?_)) | ((with_reducible refine Calmly.is_kept ?_); refine ⟨kept_of hk, ?_⟩) | (with_reducible refine Calmly.mix_alt ?_ ?_))
                  go_roundw
                  case rel => exact .inr (.inr (.inl ⟨rfl, hb2, by simpa using z23b, by simpa using z24b⟩))
                  case measure => simp [intOf]
              · as_aux_lemma =>
                  go_wp2_with fail
                  refine Calmly.wp_region_mix_at V5 (kept_of hb) 18 (.fl 0 <| .fl 1 <| .fl 2 <| .fl 3 <| .fl 4 <| .fl 5 <| .fl 6 <| .fl 7 <| .fl 8 <| .fl 9 <| .fl 10 <| .fl 11 <| .fl 12 <| .fl 13 <| .fl 14 <| .fl 15 <| .fl 16 <| .eff 17 <| .tail [18, 19]) (by kernel_rfl) (by kernel_rfl) ?_
                  replace z23 := blk_keep z23 (Below.refl _ _).drew
                  replace z24 := blk_keep z24 (Below.refl _ _).drew
                  replace hb := hb.drew
                  generalize wr.drew = Z at *
                  obtain ⟨hk, z24s, hb2, z23b, z24b⟩ := two_row hb (by omega) (by omega) (by omega) z23 z24 2 2 (.int .i64 (c + r)) (.int .i64 (-c))
                  have r0 := cell_block (blk_keep y4 hb) 2
                  have r1 := cell_block (blk_keep y4 hb) 5
                  have s0 := cell_block y4 2
                  have s1 := cell_block y4 5
                  have z23_c := cell_block z23 2
                  have z23_f := frozen_block z23 2
                  have z24_c := cell_block z24s 2
                  have z24_f := frozen_block z24s 2
                  go_wp2_with (first | ((with_reducible refine Calmly.is_fl ?_); refine Calmly.mix_fl rfl ?_ (fun _ _ => ?_); (first | exact .move _ | exact .load _ _ | exact .fieldAddr _ _ _ (by kernel_rfl) | exact .assign _ | exact .binOp _ _ _ _ _ rfl | exact .indexAddr _ _ _ | exact .len _ _ (by kernel_rfl) | exact .field _ _ _ | exact .extract _ _ | exact .pick _ _ _ | exact .build _ _ | exact .slice _ _ _ _ _ | exact .unOp _ _ _ rfl | exact .index _ _ _ | exact .max _ _ _ rfl rfl | exact .min _ _ _ rfl rfl | exact .nilCheck _ _ rfl)) | ((with_reducible refine Calmly.is_gl ?_); refine Calmly.mix_gl rfl rfl rfl ?_; first | ((first | with_reducible refine Calmly.gl_tt ?_ (fun _ _ => ?_) | with_reducible refine Calmly.gl_ff ?_ (fun _ _ => ?_)); (first | exact .move _ | exact .load _ _ | exact .fieldAddr _ _ _ (by kernel_rfl) | exact .assign _ | exact .binOp _ _ _ _ _ rfl | exact .indexAddr _ _ _ | exact .len _ _ (by kernel_rfl) | exact .field _ _ _ | exact .extract _ _ | exact .pick _ _ _ | exact .build _ _ | exact .slice _ _ _ _ _ | exact .unOp _ _ _ rfl | exact .index _ _ _ | exact .max _ _ _ rfl rfl | exact .min _ _ _ rfl rfl | exact .nilCheck _ _ rfl)) | with_reducible refine Calmly.gl_tf (fun _ _ => ?_) | with_reducible refine Calmly.gl_ft (fun _ _ => ?_)) | ((with_reducible refine Calmly.is_eff ?_); refine Calmly.mix_eff rfl (fun _ _ => ?_)) | ((with_reducible refine Calmly.is_gf ?_); refine Calmly.mix_gf rfl rfl rfl ?_; first | with_reducible refine Calmly.gf_tt (fun _ _ => ?_) | with_reducible refine Calmly.gf_ff (fun _ _ => ?_) | with_reducible refine Calmly.gf_tf (kept_of hk) (fun _ _ => ?_) | with_reducible refine Calmly.gf_ft (kept_of hk) (fun _ _ => ?_)) | ((with_reducible refine Calmly.is_tail ?_); first | refine Calmly.mix_tail_nil ?_ | refine Calmly.mix_tail rfl (fun _ _ => ?_)) | ((with_reducible refine Calmly.is_kept ?_); refine ⟨kept_of hk, ?_⟩) | (with_reducible refine Calmly.mix_alt ?_ ?_))
                  go_roundw
                  case rel => exact .inr (.inr (.inr ⟨rfl, hb2, by simpa using z23b, by simpa using z24b⟩))
                  case measure => simp [intOf]
              · as_aux_lemma =>
                  replace y3 := blk_keep y3 hb
                  replace y4 := blk_keep y4 hb
                  replace y5 := blk_keep y5 hb
                  replace z19 := blk_keep z19 hb
                  replace z21 := blk_keep z21 hb
                  replace BW := BW.trans (hb.mono BW.size)
                  clear hb hs5
                  have y3_0 := cell_block y3 0
                  have y3_1 := cell_block y3 1
                  have y3_2 := cell_block y3 2
                  have y3_3 := cell_block y3 3
                  have y3_4 := cell_block y3 4
                  have y3_5 := cell_block y3 5
                  have z24_0 := cell_block z24 0
                  have z24_1 := cell_block z24 1
                  have z24_2 := cell_block z24 2
                  go_wp2_with fail
                  clear y3_0 y3_1 y3_2 y3_3 y3_4 y3_5 z24_0 z24_1 z24_2
                  refine (FactorOf_any n1 d1 n2 d2 n3 d3 (-a) (-b) (-c) _ h1 h2 h3).mono ?_
                  rintro e w11 ⟨rfl, hs⟩
                  replace y3 := blk_keep y3 hs
                  replace y4 := blk_keep y4 hs
                  replace y5 := blk_keep y5 hs
                  replace z19 := blk_keep z19 hs
                  replace z21 := blk_keep z21 hs
                  replace z23 := blk_keep z23 hs
                  replace z24 := blk_keep z24 hs
                  replace BW := BW.trans (hs.mono BW.size)
                  clear hs
                  rw [HT.out.oE, HT.out.oV]
                  obtain ⟨_, _, t3, t4⟩ := HT.out.big hf
                  rw [t3, t4]
                  clear t3 t4
                  have g1 : (F != 0) = true := by simpa using hf
                  have g2' : (F == 0) = false := by simpa using hf
                  have c1' : (F != F) = false := by simp
                  have z26 := alloc_new w11 (.cells #[.int .i64 0, .int .i64 0] 77)
                  have hk := (Below.refl w11.heap.size w11).alloc (Nat.le_refl _) (.cells #[.int .i64 0, .int .i64 0] 77)
                  replace y3 := blk_keep y3 hk
                  replace y4 := blk_keep y4 hk
                  replace y5 := blk_keep y5 hk
                  replace z19 := blk_keep z19 hk
                  replace z21 := blk_keep z21 hk
                  replace z23 := blk_keep z23 hk
                  replace BW := BW.trans (hk.mono BW.size)
                  clear hk
                  have z19_0 := cell_block z19 0
                  have z19_1 := cell_block z19 1
                  have z26_0 := cell_block z26 0
                  have z26_1 := cell_block z26 1
                  go_wp2_with fail
                  go_ret
                  exact ⟨ret_bool (by simp), BW⟩
          case pos => as_aux_lemma =>
            subst hf
            by_cases hz : E1 = 0
            case neg => as_aux_lemma =>
              have g2 : (E1 == 0) = false := by simpa using hz
              have z11_0 := cell_block z11 0
              have z11_1 := cell_block z11 1
              have y3_0 := cell_block y3 0
              have y3_1 := cell_block y3 1
              have y3_2 := cell_block y3 2
              have y3_3 := cell_block y3 3
              have y3_4 := cell_block y3 4
              have y3_5 := cell_block y3 5
              have y4_0 := cell_block y4 0
              have y4_1 := cell_block y4 1
              have y4_2 := cell_block y4 2
              have y4_3 := cell_block y4 3
              have y4_4 := cell_block y4 4
              have y4_5 := cell_block y4 5
              have y5_0 := cell_block y5 0
              have y5_1 := cell_block y5 1
              go_wp2_with fail
              obtain ⟨q2, hq2⟩ : ∃ q, w7.heap.size = q := ⟨_, rfl⟩
              rw [hq2] at z11 ⊢
              generalize w7.alloc (.cells #[.int .i64 a1, .int .i64 a2] 77) = W2 at *
              clear hz g2
              clear z11_0 z11_1 y3_0 y3_1 y3_2 y3_3 y3_4 y3_5 y4_0 y4_1 y4_2 y4_3 y4_4 y4_5 y5_0 y5_1
              refine (ToFull_any n1 d1 n2 d2 n3 d3 a b c x y _ h1 h2 h3 hxy 0 V R2 HF.out HV.out HR2.out).mono ?_
              rintro e w8 ⟨rfl, hs⟩
              replace y3 := blk_keep y3 hs
              replace y4 := blk_keep y4 hs
              replace y5 := blk_keep y5 hs
              replace BW := BW.trans (hs.mono BW.size)
              clear hs
              rw [HE2.out, HB1.out, HB2.out]
              have z15 := alloc_new w8 (.cells #[.int .i64 b1, .int .i64 b2] 77)
              have hk := (Below.refl w8.heap.size w8).alloc (Nat.le_refl _) (.cells #[.int .i64 b1, .int .i64 b2] 77)
              replace y3 := blk_keep y3 hk
              replace y4 := blk_keep y4 hk
              replace y5 := blk_keep y5 hk
              replace BW := BW.trans (hk.mono BW.size)
              clear hk
              by_cases hz : E2 = 0
              case neg => as_aux_lemma =>
                have g2 : (E2 == 0) = false := by simpa using hz
                have z15_0 := cell_block z15 0
                have z15_1 := cell_block z15 1
                have y3_0 := cell_block y3 0
                have y3_1 := cell_block y3 1
                have y3_2 := cell_block y3 2
                have y3_3 := cell_block y3 3
                have y3_4 := cell_block y3 4
                have y3_5 := cell_block y3 5
                have y4_0 := cell_block y4 0
                have y4_1 := cell_block y4 1
                have y4_2 := cell_block y4 2
                have y4_3 := cell_block y4 3
                have y4_4 := cell_block y4 4
                have y4_5 := cell_block y4 5
                have y5_0 := cell_block y5 0
                have y5_1 := cell_block y5 1
                go_wp2_with fail
                obtain ⟨q3, hq3⟩ : ∃ q, w8.heap.size = q := ⟨_, rfl⟩
                rw [hq3] at z15 ⊢
                generalize w8.alloc (.cells #[.int .i64 b1, .int .i64 b2] 77) = W3 at *
                clear z15_0 z15_1 y3_0 y3_1 y3_2 y3_3 y3_4 y3_5 y4_0 y4_1 y4_2 y4_3 y4_4 y4_5 y5_0 y5_1
                refine (FactorOf_any n1 d1 n2 d2 n3 d3 a b c _ h1 h2 h3).mono ?_
                rintro e w9 ⟨rfl, hs⟩
                replace y3 := blk_keep y3 hs
                replace y4 := blk_keep y4 hs
                replace y5 := blk_keep y5 hs
                replace BW := BW.trans (hs.mono BW.size)
                clear hs
                rw [HF.out, HV.out, HAN.out, HAD.out]
                have z19 := alloc_new w9 (.cells #[.int .i64 an, .int .i64 ad] 77)
                have hk := (Below.refl w9.heap.size w9).alloc (Nat.le_refl _) (.cells #[.int .i64 an, .int .i64 ad] 77)
                replace y3 := blk_keep y3 hk
                replace y4 := blk_keep y4 hk
                replace y5 := blk_keep y5 hk
                replace BW := BW.trans (hk.mono BW.size)
                clear hk
                have y3_0 := cell_block y3 0
                have y3_1 := cell_block y3 1
                have y3_2 := cell_block y3 2
                have y3_3 := cell_block y3 3
                have y3_4 := cell_block y3 4
                have y3_5 := cell_block y3 5
                have y4_0 := cell_block y4 0
                have y4_1 := cell_block y4 1
                have y4_2 := cell_block y4 2
                have y4_3 := cell_block y4 3
                have y4_4 := cell_block y4 4
                have y4_5 := cell_block y4 5
                have y5_0 := cell_block y5 0
                have y5_1 := cell_block y5 1
                go_wp2_with fail
                obtain ⟨q4, hq4⟩ : ∃ q, w9.heap.size = q := ⟨_, rfl⟩
                rw [hq4] at z19 ⊢
                generalize w9.alloc (.cells #[.int .i64 an, .int .i64 ad] 77) = W4 at *
                clear y3_0 y3_1 y3_2 y3_3 y3_4 y3_5 y4_0 y4_1 y4_2 y4_3 y4_4 y4_5 y5_0 y5_1
                refine (FactorOf_any n1 d1 n2 d2 n3 d3 p q r _ h1 h2 h3).mono ?_
                rintro e w10 ⟨rfl, hs⟩
                replace y3 := blk_keep y3 hs
                replace y4 := blk_keep y4 hs
                replace y5 := blk_keep y5 hs
                replace z19 := blk_keep z19 hs
                replace BW := BW.trans (hs.mono BW.size)
                clear hs
                rw [HG.out, HU.out, HBN.out, HBD.out]
                have z21 := alloc_new w10 (.cells #[.int .i64 bn, .int .i64 bd] 77)
                have hk := (Below.refl w10.heap.size w10).alloc (Nat.le_refl _) (.cells #[.int .i64 bn, .int .i64 bd] 77)
                replace y3 := blk_keep y3 hk
                replace y4 := blk_keep y4 hk
                replace y5 := blk_keep y5 hk
                replace z19 := blk_keep z19 hk
                replace BW := BW.trans (hk.mono BW.size)
                clear hk
                have hs5 : (w10.alloc (.cells #[.int .i64 bn, .int .i64 bd] 77)).heap.size = w10.heap.size + 1 := by simp
                go_wp2_with fail
                generalize w10.alloc (.cells #[.int .i64 bn, .int .i64 bd] 77) = V5 at *
                generalize w10.heap.size = q5 at *
                have z23 := blk_keep (alloc_new V5 (.cells #[.int .i64 0, .int .i64 0, .int .i64 0] 79)) ((Below.refl _ _).alloc (Nat.le_refl _) (.cells #[.int .i64 0, .int .i64 0, .int .i64 0] 79))
                have z24 := alloc_new (V5.alloc (.cells #[.int .i64 0, .int .i64 0, .int .i64 0] 79)) (.cells #[.int .i64 0, .int .i64 0, .int .i64 0] 79)
                have hb := ((Below.refl V5.heap.size V5).alloc (Nat.le_refl _) (.cells #[.int .i64 0, .int .i64 0, .int .i64 0] 79)).alloc (by simp) (.cells #[.int .i64 0, .int .i64 0, .int .i64 0] 79)
                simp only [World.size_alloc] at z23 z24
                rw [hs5] at z23 z24
                generalize (V5.alloc (.cells #[.int .i64 0, .int .i64 0, .int .i64 0] 79)).alloc (.cells #[.int .i64 0, .int .i64 0, .int .i64 0] 79) = W5 at *
                go_loopw [25] (fun i wr => (i = .int .i64 0 ∧ Below V5.heap.size V5 wr ∧ wr.heap[q5 + 1]? = some (.cells #[.int .i64 0, .int .i64 0, .int .i64 0] 79) ∧ wr.heap[q5 + 1 + 1]? = some (.cells #[.int .i64 0, .int .i64 0, .int .i64 0] 79)) ∨ (i = .int .i64 1 ∧ Below V5.heap.size V5 wr ∧ wr.heap[q5 + 1]? = some (.cells #[.int .i64 (a + p), .int .i64 0, .int .i64 0] 79) ∧ wr.heap[q5 + 1 + 1]? = some (.cells #[.int .i64 (-a), .int .i64 0, .int .i64 0] 79)) ∨ (i = .int .i64 2 ∧ Below V5.heap.size V5 wr ∧ wr.heap[q5 + 1]? = some (.cells #[.int .i64 (a + p), .int .i64 (b + q), .int .i64 0] 79) ∧ wr.heap[q5 + 1 + 1]? = some (.cells #[.int .i64 (-a), .int .i64 (-b), .int .i64 0] 79)) ∨ (i = .int .i64 3 ∧ Below V5.heap.size V5 wr ∧ wr.heap[q5 + 1]? = some (.cells #[.int .i64 (a + p), .int .i64 (b + q), .int .i64 (c + r)] 79) ∧ wr.heap[q5 + 1 + 1]? = some (.cells #[.int .i64 (-a), .int .i64 (-b), .int .i64 (-c)] 79))) (fun i _ => 3 - (intOf i).toNat)
                case atStart => exact .inl ⟨rfl, hb, z23, z24⟩
                case round =>
                  clear hb z23 z24
                  rcases hrel with ⟨rfl, hb, z23, z24⟩ | ⟨rfl, hb, z23, z24⟩ | ⟨rfl, hb, z23, z24⟩ | ⟨rfl, hb, z23, z24⟩
                  · as_aux_lemma =>
                      go_wp2_with fail
                      refine Calmly.wp_region_mix_at V5 (kept_of hb) 18 (.fl 0 <| .fl 1 <| .fl 2 <| .fl 3 <| .fl 4 <| .fl 5 <| .fl 6 <| .fl 7 <| .fl 8 <| .fl 9 <| .fl 10 <| .fl 11 <| .fl 12 <| .fl 13 <| .fl 14 <| .fl 15 <| .fl 16 <| .eff 17 <| .tail [18, 19]) (by kernel_rfl) (by kernel_rfl) ?_
                      replace z23 := blk_keep z23 (Below.refl _ _).drew
                      replace z24 := blk_keep z24 (Below.refl _ _).drew
                      replace hb := hb.drew
                      generalize wr.drew = Z at *
                      obtain ⟨hk, z24s, hb2, z23b, z24b⟩ := two_row hb (by omega) (by omega) (by omega) z23 z24 0 0 (.int .i64 (a + p)) (.int .i64 (-a))
                      have r0 := cell_block (blk_keep y4 hb) 0
                      have r1 := cell_block (blk_keep y4 hb) 3
                      have s0 := cell_block y4 0
                      have s1 := cell_block y4 3
                      have z23_c := cell_block z23 0
                      have z23_f := frozen_block z23 0
                      have z24_c := cell_block z24s 0
                      have z24_f := frozen_block z24s 0
                      go_wp2_with (first | ((with_reducible refine Calmly.is_fl ?_); refine Calmly.mix_fl rfl ?_ (fun _ _ => ?_); (first | exact .move _ | exact .load _ _ | exact .fieldAddr _ _ _ (by kernel_rfl) | exact .assign _ | exact .binOp _ _ _ _ _ rfl | exact .indexAddr _ _ _ | exact .len _ _ (by kernel_rfl) | exact .field _ _ _ | exact .extract _ _ | exact .pick _ _ _ | exact .build _ _ | exact .slice _ _ _ _ _ | exact .unOp _ _ _ rfl | exact .index _ _ _ | exact .max _ _ _ rfl rfl | exact .min _ _ _ rfl rfl | exact .nilCheck _ _ rfl)) | ((with_reducible refine Calmly.is_gl ?_); refine Calmly.mix_gl rfl rfl rfl ?_; first | ((first | with_reducible refine Calmly.gl_tt ?_ (fun _ _ => ?_) | with_reducible refine Calmly.gl_ff ?_ (fun _ _ => ?_)); (first | exact .move _ | exact .load _ _ | exact .fieldAddr _ _ _ (by kernel_rfl) | exact .assign _ | exact .binOp _ _ _ _ _ rfl | exact .indexAddr _ _ _ | exact .len _ _ (by kernel_rfl) | exact .field _ _ _ | exact .extract _ _ | exact .pick _ _ _ | exact .build _ _ | exact .slice _ _ _ _ _ | exact .unOp _ _ _ rfl | exact .index _ _ _ | exact .max _ _ _ rfl rfl | exact .min _ _ _ rfl rfl | exact .nilCheck _ _ rfl)) | with_reducible refine Calmly.gl_tf (fun _ _ => ?_) | with_reducible refine Calmly.gl_ft (fun _ _ => ?_)) | ((with_reducible refine Calmly.is_eff ?_); refine Calmly.mix_eff rfl (fun _ _ => ?_)) | ((with_reducible refine Calmly.is_gf ?_); refine Calmly.mix_gf rfl rfl rfl ?_; first | with_reducible refine Calmly.gf_tt (fun _ _ => ?_) | with_reducible refine Calmly.gf_ff (fun _ _ => ?_) | with_reducible refine Calmly.gf_tf (kept_of hk) (fun _ _ => ?_) | with_reducible refine Calmly.gf_ft (kept_of hk) (fun _ _ => ?_)) | ((with_reducible refine Calmly.is_tail ?_); first | refine Calmly.mix_tail_nil ?_ | refine Calmly.mix_tail rfl (fun _ _ => ?_)) | ((with_reducible refine Calmly.is_kept ?_); refine ⟨kept_of hk, ?_⟩) | (with_reducible refine Calmly.mix_alt ?_ ?_))
                      go_roundw
                      case rel => exact .inr (.inl ⟨rfl, hb2, by simpa using z23b, by simpa using z24b⟩)
                      case measure => simp [intOf]
                  · as_aux_lemma =>
                      go_wp2_with fail
                      refine Calmly.wp_region_mix_at V5 (kept_of hb) 18 (.fl 0 <| .fl 1 <| .fl 2 <| .fl 3 <| .fl 4 <| .fl 5 <| .fl 6 <| .fl 7 <| .fl 8 <| .fl 9 <| .fl 10 <| .fl 11 <| .fl 12 <| .fl 13 <| .fl 14 <| .fl 15 <| .fl 16 <| .eff 17 <| .tail [18, 19]) (by kernel_rfl) (by kernel_rfl) ?_
                      replace z23 := blk_keep z23 (Below.refl _ _).drew
                      replace z24 := blk_keep z24 (Below.refl _ _).drew
                      replace hb := hb.drew
                      generalize wr.drew = Z at *
                      obtain ⟨hk, z24s, hb2, z23b, z24b⟩ := two_row hb (by omega) (by omega) (by omega) z23 z24 1 1 (.int .i64 (b + q)) (.int .i64 (-b))
                      have r0 := cell_block (blk_keep y4 hb) 1
                      have r1 := cell_block (blk_keep y4 hb) 4
                      have s0 := cell_block y4 1
                      have s1 := cell_block y4 4
                      have z23_c := cell_block z23 1
                      have z23_f := frozen_block z23 1
                      have z24_c := cell_block z24s 1
                      have z24_f := frozen_block z24s 1
                      go_wp2_with (first | ((with_reducible refine Calmly.is_fl ?_); refine Calmly.mix_fl rfl ?_ (fun _ _ => ?_); (first | exact .move _ | exact .load _ _ | exact .fieldAddr _ _ _ (by kernel_rfl) | exact .assign _ | exact .binOp _ _ _ _ _ rfl | exact .indexAddr _ _ _ | exact .len _ _ (by kernel_rfl) | exact .field _ _ _ | exact .extract _ _ | exact .pick _ _ _ | exact .build _ _ | exact .slice _ _ _ _ _ | exact .unOp _ _ _ rfl | exact .index _ _ _ | exact .max _ _ _ rfl rfl | exact .min _ _ _ rfl rfl | exact .nilCheck _ _ rfl)) | ((with_reducible refine Calmly.is_gl ?_); refine Calmly.mix_gl rfl rfl rfl ?_; first | ((first | with_reducible refine Calmly.gl_tt ?_ (fun _ _ => ?_) | with_reducible refine Calmly.gl_ff ?_ (fun _ _ => ?_)); (first | exact .move _ | exact .load _ _ | exact .fieldAddr _ _ _ (by kernel_rfl) | exact .assign _ | exact .binOp _ _ _ _ _ rfl | exact .indexAddr _ _ _ | exact .len _ _ (by kernel_rfl) | exact .field _ _ _ | exact .extract _ _ | exact .pick _ _ _ | exact .build _ _ | exact .slice _ _ _ _ _ | exact .unOp _ _ _ rfl | exact .index _ _ _ | exact .max _ _ _ rfl rfl | exact .min _ _ _ rfl rfl | exact .nilCheck _ _ rfl)) | with_reducible refine Calmly.gl_tf (fun _ _ => ?_) | with_reducible refine Calmly.gl_ft (fun _ _ => ?_)) | ((with_reducible refine Calmly.is_eff ?_); refine Calmly.mix_eff rfl (fun _ _ => ?_)) | ((with_reducible refine Calmly.is_gf ?_); refine Calmly.mix_gf rfl rfl rfl ?_; first | with_reducible refine Calmly.gf_tt (fun _ _ => ?_) | with_reducible refine Calmly.gf_ff (fun _ _ => ?_) | with_reducible refine Calmly.gf_tf (kept_of hk) (fun _ _ => ?_) | with_reducible refine Calmly.gf_ft (kept_of hk) (fun _ _ => ?_)) | ((with_reducible refine Calmly.is_tail ?_); first | refine Calmly.mix_tail_nil ?_ | refine Calmly.mix_tail rfl (fun _ _ => ?_)) | ((with_reducible refine Calmly.is_kept ?_); refine ⟨kept_of hk, ?_⟩) | (with_reducible refine Calmly.mix_alt ?_ ?_))
                      go_roundw
                      case rel => exact .inr (.inr (.inl ⟨rfl, hb2, by simpa using z23b, by simpa using z24b⟩))
                      case measure => simp [intOf]
                  · as_aux_lemma =>
                      go_wp2_with fail
                      refine Calmly.wp_region_mix_at V5 (kept_of hb) 18 (.fl 0 <| .fl 1 <| .fl 2 <| .fl 3 <| .fl 4 <| .fl 5 <| .fl 6 <| .fl 7 <| .fl 8 <| .fl 9 <| .fl 10 <| .fl 11 <| .fl 12 <| .fl 13 <| .fl 14 <| .fl 15 <| .fl 16 <| .eff 17 <| .tail [18, 19]) (by kernel_rfl) (by kernel_rfl) ?_
                      replace z23 := blk_keep z23 (Below.refl _ _).drew
                      replace z24 := blk_keep z24 (Below.refl _ _).drew
                      replace hb := hb.drew
                      generalize wr.drew = Z at *
                      obtain ⟨hk, z24s, hb2, z23b, z24b⟩ := two_row hb (by omega) (by omega) (by omega) z23 z24 2 2 (.int .i64 (c + r)) (.int .i64 (-c))
                      have r0 := cell_block (blk_keep y4 hb) 2
                      have r1 := cell_block (blk_keep y4 hb) 5
                      have s0 := cell_block y4 2
                      have s1 := cell_block y4 5
                      have z23_c := cell_block z23 2
                      have z23_f := frozen_block z23 2
                      have z24_c := cell_block z24s 2
                      have z24_f := frozen_block z24s 2
                      go_wp2_with (first | ((with_reducible refine Calmly.is_fl ?_); refine Calmly.mix_fl rfl ?_ (fun _ _ => ?_); (first | exact .move _ | exact .load _ _ | exact .fieldAddr _ _ _ (by kernel_rfl) | exact .assign _ | exact .binOp _ _ _ _ _ rfl | exact .indexAddr _ _ _ | exact .len _ _ (by kernel_rfl) | exact .field _ _ _ | exact .extract _ _ | exact .pick _ _ _ | exact .build _ _ | exact .slice _ _ _ _ _ | exact .unOp _ _ _ rfl | exact .index _ _ _ | exact .max _ _ _ rfl rfl | exact .min _ _ _ rfl rfl | exact .nilCheck _ _ rfl)) | ((with_reducible refine Calmly.is_gl ?_); refine Calmly.mix_gl rfl rfl rfl ?_; first | ((first | with_reducible refine Calmly.gl_tt ?_ (fun _ _ => ?_) | with_reducible refine Calmly.gl_ff ?_ (fun _ _ => ?_)); (first | exact .move _ | exact .load _ _ | exact .fieldAddr _ _ _ (by kernel_rfl) | exact .assign _ | exact .binOp _ _ _ _ _ rfl | exact .indexAddr _ _ _ | exact .len _ _ (by kernel_rfl) | exact .field _ _ _ | exact .extract _ _ | exact .pick _ _ _ | exact .build _ _ | exact .slice _ _ _ _ _ | exact .unOp _ _ _ rfl | exact .index _ _ _ | exact .max _ _ _ rfl rfl | exact .min _ _ _ rfl rfl | exact .nilCheck _ _ rfl)) | with_reducible refine Calmly.gl_tf (fun _ _ => ?_) | with_reducible refine Calmly.gl_ft (fun _ _ => ?_)) | ((with_reducible refine Calmly.is_eff ?_); refine Calmly.mix_eff rfl (fun _ _ => ?_)) | ((with_reducible refine Calmly.is_gf ?_); refine Calmly.mix_gf rfl rfl rfl ?_; first | with_reducible refine Calmly.gf_tt (fun _ _ => ?_) | with_reducible refine Calmly.gf_ff (fun _ _ => ?_) | with_reducible refine Calmly.gf_tf (kept_of hk) (fun _ _ => ?_) | with_reducible refine Calmly.gf_ft (kept_of hk) (fun _ _ => ?_)) | ((with_reducible refine Calmly.is_tail ?_); first | refine Calmly.mix_tail_nil ?_ | refine Calmly.mix_tail rfl (fun _ _ => ?_)) | ((with_reducible refine Calmly.is_kept ?_); refine ⟨kept_of hk, ?_⟩) | (with_reducible refine Calmly.mix_alt ?_ ?_))
                      go_roundw
                      case rel => exact .inr (.inr (.inr ⟨rfl, hb2, by simpa using z23b, by simpa using z24b⟩))
                      case measure => simp [intOf]
                  · as_aux_lemma =>
                      replace y3 := blk_keep y3 hb
                      replace y4 := blk_keep y4 hb
                      replace y5 := blk_keep y5 hb
                      replace z19 := blk_keep z19 hb
                      replace z21 := blk_keep z21 hb
                      replace BW := BW.trans (hb.mono BW.size)
                      clear hb hs5
                      have y3_0 := cell_block y3 0
                      have y3_1 := cell_block y3 1
                      have y3_2 := cell_block y3 2
                      have y3_3 := cell_block y3 3
                      have y3_4 := cell_block y3 4
                      have y3_5 := cell_block y3 5
                      have z24_0 := cell_block z24 0
                      have z24_1 := cell_block z24 1
                      have z24_2 := cell_block z24 2
                      go_wp2_with fail
                      clear y3_0 y3_1 y3_2 y3_3 y3_4 y3_5 z24_0 z24_1 z24_2
                      refine (FactorOf_any n1 d1 n2 d2 n3 d3 (-a) (-b) (-c) _ h1 h2 h3).mono ?_
                      rintro e w11 ⟨rfl, hs⟩
                      replace y3 := blk_keep y3 hs
                      replace y4 := blk_keep y4 hs
                      replace y5 := blk_keep y5 hs
                      replace z19 := blk_keep z19 hs
                      replace z21 := blk_keep z21 hs
                      replace z23 := blk_keep z23 hs
                      replace z24 := blk_keep z24 hs
                      replace BW := BW.trans (hs.mono BW.size)
                      clear hs
                      rw [HT.out.oE, HT.out.oV]
                      obtain ⟨t3, t4⟩ := HT.out.fit rfl
                      rw [t3, t4]
                      clear t3 t4
                      have z26 := alloc_new w11 (.cells #[.int .i64 ad, .int .i64 an] 77)
                      have hk := (Below.refl w11.heap.size w11).alloc (Nat.le_refl _) (.cells #[.int .i64 ad, .int .i64 an] 77)
                      replace y3 := blk_keep y3 hk
                      replace y4 := blk_keep y4 hk
                      replace y5 := blk_keep y5 hk
                      replace z19 := blk_keep z19 hk
                      replace z21 := blk_keep z21 hk
                      replace z23 := blk_keep z23 hk
                      replace BW := BW.trans (hk.mono BW.size)
                      clear hk
                      have d1' : (an != an) = false := by simp
                      have d2' : (ad != ad) = false := by simp
                      have z26_0 := cell_block z26 0
                      have z26_1 := cell_block z26 1
                      by_cases hz : G = 0
                      case neg => as_aux_lemma =>
                        have g1 : (G != 0) = true := by simpa using hz
                        have z19_0 := cell_block z19 0
                        have z19_1 := cell_block z19 1
                        go_wp2_with fail
                        go_ret
                        exact ⟨ret_bool (by simp), BW⟩
                      case pos => as_aux_lemma =>
                        subst hz
                        have z19_0 := cell_block z19 0
                        have z19_1 := cell_block z19 1
                        have z23_0 := cell_block z23 0
                        have z23_1 := cell_block z23 1
                        have z23_2 := cell_block z23 2
                        go_wp2_with fail
                        clear z26_0 z26_1
                        obtain ⟨q5, hq5⟩ : ∃ q, w11.heap.size = q := ⟨_, rfl⟩
                        rw [hq5] at z26 ⊢
                        generalize w11.alloc (.cells #[.int .i64 ad, .int .i64 an] 77) = W5 at *
                        clear z19_0 z19_1 z23_0 z23_1 z23_2
                        refine (rQuantityErr_any (a + p) (b + q) (c + r) _).mono ?_
                        rintro e w12 ⟨rfl, hs⟩
                        replace y3 := blk_keep y3 hs
                        replace y4 := blk_keep y4 hs
                        replace y5 := blk_keep y5 hs
                        replace z19 := blk_keep z19 hs
                        replace z21 := blk_keep z21 hs
                        replace z23 := blk_keep z23 hs
                        replace BW := BW.trans (hs.mono BW.size)
                        clear hs
                        obtain ⟨QS, hQS⟩ : ∃ S, qtyE (a + p) (b + q) (c + r) = S := ⟨_, rfl⟩
                        rw [hQS]
                        have HQS := Lib.hid hQS
                        clear hQS
                        by_cases hz : QS = 0
                        case neg => as_aux_lemma =>
                          have g1 : (QS != 0) = true := by simpa using hz
                          go_wp2_with fail
                          go_ret
                          exact ⟨ret_bool (by simp), BW⟩
                        case pos => as_aux_lemma =>
                          subst hz
                          obtain ⟨⟨i1, i2, i3, i4, i5, i6, i7, i8⟩, hP⟩ := HT.out.par rfl rfl
                          obtain ⟨P, hPP⟩ : ∃ P, V * U = P := ⟨_, rfl⟩
                          rw [hPP] at hP HT
                          obtain ⟨p1, hp1⟩ : ∃ t, (if smQ P then P.num else 0) = t := ⟨_, rfl⟩
                          obtain ⟨o1, ho1⟩ : ∃ t, (if smQ P then (P.den : Int) else 0) = t := ⟨_, rfl⟩
                          obtain ⟨s1, hs1⟩ : ∃ t, smQ P = t := ⟨_, rfl⟩
                          have m1 := sm_two HT.out.sm rfl rfl hp1 ho1
                          rw [hs1] at m1
                          have M1 := Lib.hid m1
                          have P1 := Lib.hid hp1
                          have O1 := Lib.hid ho1
                          have S1 := Lib.hid hs1
                          clear hp1 ho1 hs1 m1 hPP
                          have HP := Lib.hid hP
                          clear hP
                          have z19_0 := cell_block z19 0
                          have z19_1 := cell_block z19 1
                          have z21_0 := cell_block z21 0
                          have z21_1 := cell_block z21 1
                          go_wp2_with fail
                          clear z19_0 z19_1 z21_0 z21_1
                          refine (Product_any an ad bn bd _ i1 i2 i3 i4 i5 i6 i7 i8 P HP.out).mono ?_
                          rintro e w13 ⟨rfl, hs⟩
                          replace y3 := blk_keep y3 hs
                          replace y4 := blk_keep y4 hs
                          replace y5 := blk_keep y5 hs
                          replace z19 := blk_keep z19 hs
                          replace z21 := blk_keep z21 hs
                          replace z23 := blk_keep z23 hs
                          replace BW := BW.trans (hs.mono BW.size)
                          clear hs
                          rw [P1.out, O1.out, S1.out]
                          have z28 := alloc_new w13 (.cells #[.int .i64 p1, .int .i64 o1] 77)
                          have hk := (Below.refl w13.heap.size w13).alloc (Nat.le_refl _) (.cells #[.int .i64 p1, .int .i64 o1] 77)
                          replace y3 := blk_keep y3 hk
                          replace y4 := blk_keep y4 hk
                          replace y5 := blk_keep y5 hk
                          replace z19 := blk_keep z19 hk
                          replace z21 := blk_keep z21 hk
                          replace z23 := blk_keep z23 hk
                          replace BW := BW.trans (hk.mono BW.size)
                          clear hk
                          have y3_0 := cell_block y3 0
                          have y3_1 := cell_block y3 1
                          have y3_2 := cell_block y3 2
                          have y3_3 := cell_block y3 3
                          have y3_4 := cell_block y3 4
                          have y3_5 := cell_block y3 5
                          have z23_0 := cell_block z23 0
                          have z23_1 := cell_block z23 1
                          have z23_2 := cell_block z23 2
                          go_wp2_with fail
                          obtain ⟨q6, hq6⟩ : ∃ q, w13.heap.size = q := ⟨_, rfl⟩
                          rw [hq6] at z28 ⊢
                          generalize w13.alloc (.cells #[.int .i64 p1, .int .i64 o1] 77) = W6 at *
                          clear y3_0 y3_1 y3_2 y3_3 y3_4 y3_5 z23_0 z23_1 z23_2
                          refine (FactorOf_any n1 d1 n2 d2 n3 d3 (a + p) (b + q) (c + r) _ h1 h2 h3).mono ?_
                          rintro e w14 ⟨rfl, hs⟩
                          replace y3 := blk_keep y3 hs
                          replace y4 := blk_keep y4 hs
                          replace y5 := blk_keep y5 hs
                          replace z19 := blk_keep z19 hs
                          replace z21 := blk_keep z21 hs
                          replace z23 := blk_keep z23 hs
                          replace z28 := blk_keep z28 hs
                          replace BW := BW.trans (hs.mono BW.size)
                          clear hs
                          rw [HT.out.bE HQS.out, HT.out.bV]
                          have M2 := M1.out
                          obtain ⟨dn, hdn⟩ : ∃ t, qN FD P = t := ⟨_, rfl⟩
                          obtain ⟨dd, hdd⟩ : ∃ t, qD FD P = t := ⟨_, rfl⟩
                          rw [hdn, hdd] at M2 ⊢
                          clear hdn hdd M1
                          have z30 := alloc_new w14 (.cells #[.int .i64 dn, .int .i64 dd] 77)
                          have hk := (Below.refl w14.heap.size w14).alloc (Nat.le_refl _) (.cells #[.int .i64 dn, .int .i64 dd] 77)
                          replace y3 := blk_keep y3 hk
                          replace y4 := blk_keep y4 hk
                          replace y5 := blk_keep y5 hk
                          replace z19 := blk_keep z19 hk
                          replace z21 := blk_keep z21 hk
                          replace z23 := blk_keep z23 hk
                          replace z28 := blk_keep z28 hk
                          replace BW := BW.trans (hk.mono BW.size)
                          clear hk
                          have z28_0 := cell_block z28 0
                          have z28_1 := cell_block z28 1
                          have z30_0 := cell_block z30 0
                          have z30_1 := cell_block z30 1
                          clear HT i1 i2 i3 i4 i5 i6 i7 i8 HP P1 O1 S1 HK1 HK2 HQS hbad
                          rcases M2 with ⟨rfl, rfl, rfl, rfl⟩ | ⟨rfl, rfl, rfl, rfl⟩
                          all_goals as_aux_lemma =>
                            go_wp2_with fail
                            go_ret
                            exact ⟨ret_bool (by simp), BW⟩
              case pos => as_aux_lemma =>
                subst hz
                have z15_0 := cell_block z15 0
                have z15_1 := cell_block z15 1
                have y3_0 := cell_block y3 0
                have y3_1 := cell_block y3 1
                have y3_2 := cell_block y3 2
                have y3_3 := cell_block y3 3
                have y3_4 := cell_block y3 4
                have y3_5 := cell_block y3 5
                have y4_0 := cell_block y4 0
                have y4_1 := cell_block y4 1
                have y4_2 := cell_block y4 2
                have y4_3 := cell_block y4 3
                have y4_4 := cell_block y4 4
                have y4_5 := cell_block y4 5
                have y5_0 := cell_block y5 0
                have y5_1 := cell_block y5 1
                go_wp2_with fail
                obtain ⟨q3, hq3⟩ : ∃ q, w8.heap.size = q := ⟨_, rfl⟩
                rw [hq3] at z15 ⊢
                generalize w8.alloc (.cells #[.int .i64 b1, .int .i64 b2] 77) = W3 at *
                obtain ⟨k1, k2, k3, k4⟩ := HK2.out (by simp) (by simp)
                have e1 : R2.num = b1 := HB1.out
                have e2 : (R2.den : Int) = b2 := HB2.out
                rw [e1, e2] at k1 k2 k3 k4
                clear e1 e2
                have K2 := Lib.hid k2
                have K3 := Lib.hid (show qN 0 (scR b1 b2 V 1) = x from k3)
                have K4 := Lib.hid (show qD 0 (scR b1 b2 V 1) = y from k4)
                clear k2 k3 k4
                clear z15_0 z15_1 y3_0 y3_1 y3_2 y3_3 y3_4 y3_5 y4_0 y4_1 y4_2 y4_3 y4_4 y4_5 y5_0 y5_1
                refine (ToModel_any n1 d1 n2 d2 n3 d3 a b c b1 b2 _ h1 h2 h3 k1 0 V _ HF.out HV.out rfl).mono ?_
                rintro e w9 ⟨rfl, hs⟩
                replace y3 := blk_keep y3 hs
                replace y4 := blk_keep y4 hs
                replace y5 := blk_keep y5 hs
                replace z15 := blk_keep z15 hs
                replace BW := BW.trans (hs.mono BW.size)
                clear hs
                rw [K2.out, K3.out, K4.out]
                have z17 := alloc_new w9 (.cells #[.int .i64 x, .int .i64 y] 77)
                have hk := (Below.refl w9.heap.size w9).alloc (Nat.le_refl _) (.cells #[.int .i64 x, .int .i64 y] 77)
                replace y3 := blk_keep y3 hk
                replace y4 := blk_keep y4 hk
                replace y5 := blk_keep y5 hk
                replace z15 := blk_keep z15 hk
                replace BW := BW.trans (hk.mono BW.size)
                clear hk
                have z17_0 := cell_block z17 0
                have z17_1 := cell_block z17 1
                have c3 : (x != x) = false := by simp
                have c4 : (y != y) = false := by simp
                have y3_0 := cell_block y3 0
                have y3_1 := cell_block y3 1
                have y3_2 := cell_block y3 2
                have y3_3 := cell_block y3 3
                have y3_4 := cell_block y3 4
                have y3_5 := cell_block y3 5
                have y4_0 := cell_block y4 0
                have y4_1 := cell_block y4 1
                have y4_2 := cell_block y4 2
                have y4_3 := cell_block y4 3
                have y4_4 := cell_block y4 4
                have y4_5 := cell_block y4 5
                have y5_0 := cell_block y5 0
                have y5_1 := cell_block y5 1
                go_wp2_with fail
                clear z17_0 z17_1
                obtain ⟨q4, hq4⟩ : ∃ q, w9.heap.size = q := ⟨_, rfl⟩
                rw [hq4] at z17 ⊢
                generalize w9.alloc (.cells #[.int .i64 x, .int .i64 y] 77) = W4 at *
                clear y3_0 y3_1 y3_2 y3_3 y3_4 y3_5 y4_0 y4_1 y4_2 y4_3 y4_4 y4_5 y5_0 y5_1
                refine (FactorOf_any n1 d1 n2 d2 n3 d3 a b c _ h1 h2 h3).mono ?_
                rintro e w10 ⟨rfl, hs⟩
                replace y3 := blk_keep y3 hs
                replace y4 := blk_keep y4 hs
                replace y5 := blk_keep y5 hs
                replace BW := BW.trans (hs.mono BW.size)
                clear hs
                rw [HF.out, HV.out, HAN.out, HAD.out]
                have z19 := alloc_new w10 (.cells #[.int .i64 an, .int .i64 ad] 77)
                have hk := (Below.refl w10.heap.size w10).alloc (Nat.le_refl _) (.cells #[.int .i64 an, .int .i64 ad] 77)
                replace y3 := blk_keep y3 hk
                replace y4 := blk_keep y4 hk
                replace y5 := blk_keep y5 hk
                replace BW := BW.trans (hk.mono BW.size)
                clear hk
                have y3_0 := cell_block y3 0
                have y3_1 := cell_block y3 1
                have y3_2 := cell_block y3 2
                have y3_3 := cell_block y3 3
                have y3_4 := cell_block y3 4
                have y3_5 := cell_block y3 5
                have y4_0 := cell_block y4 0
                have y4_1 := cell_block y4 1
                have y4_2 := cell_block y4 2
                have y4_3 := cell_block y4 3
                have y4_4 := cell_block y4 4
                have y4_5 := cell_block y4 5
                have y5_0 := cell_block y5 0
                have y5_1 := cell_block y5 1
                go_wp2_with fail
                obtain ⟨q5, hq5⟩ : ∃ q, w10.heap.size = q := ⟨_, rfl⟩
                rw [hq5] at z19 ⊢
                generalize w10.alloc (.cells #[.int .i64 an, .int .i64 ad] 77) = W5 at *
                clear y3_0 y3_1 y3_2 y3_3 y3_4 y3_5 y4_0 y4_1 y4_2 y4_3 y4_4 y4_5 y5_0 y5_1
                refine (FactorOf_any n1 d1 n2 d2 n3 d3 p q r _ h1 h2 h3).mono ?_
                rintro e w11 ⟨rfl, hs⟩
                replace y3 := blk_keep y3 hs
                replace y4 := blk_keep y4 hs
                replace y5 := blk_keep y5 hs
                replace z19 := blk_keep z19 hs
                replace BW := BW.trans (hs.mono BW.size)
                clear hs
                rw [HG.out, HU.out, HBN.out, HBD.out]
                have z21 := alloc_new w11 (.cells #[.int .i64 bn, .int .i64 bd] 77)
                have hk := (Below.refl w11.heap.size w11).alloc (Nat.le_refl _) (.cells #[.int .i64 bn, .int .i64 bd] 77)
                replace y3 := blk_keep y3 hk
                replace y4 := blk_keep y4 hk
                replace y5 := blk_keep y5 hk
                replace z19 := blk_keep z19 hk
                replace BW := BW.trans (hk.mono BW.size)
                clear hk
                have hs5 : (w11.alloc (.cells #[.int .i64 bn, .int .i64 bd] 77)).heap.size = w11.heap.size + 1 := by simp
                go_wp2_with fail
                generalize w11.alloc (.cells #[.int .i64 bn, .int .i64 bd] 77) = V5 at *
                generalize w11.heap.size = q5 at *
                have z23 := blk_keep (alloc_new V5 (.cells #[.int .i64 0, .int .i64 0, .int .i64 0] 79)) ((Below.refl _ _).alloc (Nat.le_refl _) (.cells #[.int .i64 0, .int .i64 0, .int .i64 0] 79))
                have z24 := alloc_new (V5.alloc (.cells #[.int .i64 0, .int .i64 0, .int .i64 0] 79)) (.cells #[.int .i64 0, .int .i64 0, .int .i64 0] 79)
                have hb := ((Below.refl V5.heap.size V5).alloc (Nat.le_refl _) (.cells #[.int .i64 0, .int .i64 0, .int .i64 0] 79)).alloc (by simp) (.cells #[.int .i64 0, .int .i64 0, .int .i64 0] 79)
                simp only [World.size_alloc] at z23 z24
                rw [hs5] at z23 z24
                generalize (V5.alloc (.cells #[.int .i64 0, .int .i64 0, .int .i64 0] 79)).alloc (.cells #[.int .i64 0, .int .i64 0, .int .i64 0] 79) = W5 at *
                go_loopw [25] (fun i wr => (i = .int .i64 0 ∧ Below V5.heap.size V5 wr ∧ wr.heap[q5 + 1]? = some (.cells #[.int .i64 0, .int .i64 0, .int .i64 0] 79) ∧ wr.heap[q5 + 1 + 1]? = some (.cells #[.int .i64 0, .int .i64 0, .int .i64 0] 79)) ∨ (i = .int .i64 1 ∧ Below V5.heap.size V5 wr ∧ wr.heap[q5 + 1]? = some (.cells #[.int .i64 (a + p), .int .i64 0, .int .i64 0] 79) ∧ wr.heap[q5 + 1 + 1]? = some (.cells #[.int .i64 (-a), .int .i64 0, .int .i64 0] 79)) ∨ (i = .int .i64 2 ∧ Below V5.heap.size V5 wr ∧ wr.heap[q5 + 1]? = some (.cells #[.int .i64 (a + p), .int .i64 (b + q), .int .i64 0] 79) ∧ wr.heap[q5 + 1 + 1]? = some (.cells #[.int .i64 (-a), .int .i64 (-b), .int .i64 0] 79)) ∨ (i = .int .i64 3 ∧ Below V5.heap.size V5 wr ∧ wr.heap[q5 + 1]? = some (.cells #[.int .i64 (a + p), .int .i64 (b + q), .int .i64 (c + r)] 79) ∧ wr.heap[q5 + 1 + 1]? = some (.cells #[.int .i64 (-a), .int .i64 (-b), .int .i64 (-c)] 79))) (fun i _ => 3 - (intOf i).toNat)
                case atStart => exact .inl ⟨rfl, hb, z23, z24⟩
                case round =>
                  clear hb z23 z24
                  rcases hrel with ⟨rfl, hb, z23, z24⟩ | ⟨rfl, hb, z23, z24⟩ | ⟨rfl, hb, z23, z24⟩ | ⟨rfl, hb, z23, z24⟩
                  · as_aux_lemma =>
                      go_wp2_with fail
                      refine Calmly.wp_region_mix_at V5 (kept_of hb) 18 (.fl 0 <| .fl 1 <| .fl 2 <| .fl 3 <| .fl 4 <| .fl 5 <| .fl 6 <| .fl 7 <| .fl 8 <| .fl 9 <| .fl 10 <| .fl 11 <| .fl 12 <| .fl 13 <| .fl 14 <| .fl 15 <| .fl 16 <| .eff 17 <| .tail [18, 19]) (by kernel_rfl) (by kernel_rfl) ?_
                      replace z23 := blk_keep z23 (Below.refl _ _).drew
                      replace z24 := blk_keep z24 (Below.refl _ _).drew
                      replace hb := hb.drew
                      generalize wr.drew = Z at *
                      obtain ⟨hk, z24s, hb2, z23b, z24b⟩ := two_row hb (by omega) (by omega) (by omega) z23 z24 0 0 (.int .i64 (a + p)) (.int .i64 (-a))
                      have r0 := cell_block (blk_keep y4 hb) 0
                      have r1 := cell_block (blk_keep y4 hb) 3
                      have s0 := cell_block y4 0
                      have s1 := cell_block y4 3
                      have z23_c := cell_block z23 0
                      have z23_f := frozen_block z23 0
                      have z24_c := cell_block z24s 0
                      have z24_f := frozen_block z24s 0
                      go_wp2_with (first | ((with_reducible refine Calmly.is_fl ?_); refine Calmly.mix_fl rfl ?_ (fun _ _ => ?_); (first | exact .move _ | exact .load _ _ | exact .fieldAddr _ _ _ (by kernel_rfl) | exact .assign _ | exact .binOp _ _ _ _ _ rfl | exact .indexAddr _ _ _ | exact .len _ _ (by kernel_rfl) | exact .field _ _ _ | exact .extract _ _ | exact .pick _ _ _ | exact .build _ _ | exact .slice _ _ _ _ _ | exact .unOp _ _ _ rfl | exact .index _ _ _ | exact .max _ _ _ rfl rfl | exact .min _ _ _ rfl rfl | exact .nilCheck _ _ rfl)) | ((with_reducible refine Calmly.is_gl ?_); refine Calmly.mix_gl rfl rfl rfl ?_; first | ((first | with_reducible refine Calmly.gl_tt ?_ (fun _ _ => ?_) | with_reducible refine Calmly.gl_ff ?_ (fun _ _ => ?_)); (first | exact .move _ | exact .load _ _ | exact .fieldAddr _ _ _ (by kernel_rfl) | exact .assign _ | exact .binOp _ _ _ _ _ rfl | exact .indexAddr _ _ _ | exact .len _ _ (by kernel_rfl) | exact .field _ _ _ | exact .extract _ _ | exact .pick _ _ _ | exact .build _ _ | exact .slice _ _ _ _ _ | exact .unOp _ _ _ rfl | exact .index _ _ _ | exact .max _ _ _ rfl rfl | exact .min _ _ _ rfl rfl | exact .nilCheck _ _ rfl)) | with_reducible refine Calmly.gl_tf (fun _ _ => ?_) | with_reducible refine Calmly.gl_ft (fun _ _ => ?_)) | ((with_reducible refine Calmly.is_eff ?_); refine Calmly.mix_eff rfl (fun _ _ => ?_)) | ((with_reducible refine Calmly.is_gf ?_); refine Calmly.mix_gf rfl rfl rfl ?_; first | with_reducible refine Calmly.gf_tt (fun _ _ => ?_) | with_reducible refine Calmly.gf_ff (fun _ _ => ?_) | with_reducible refine Calmly.gf_tf (kept_of hk) (fun _ _ => ?_) | with_reducible refine Calmly.gf_ft (kept_of hk) (fun _ _ => ?_)) | ((with_reducible refine Calmly.is_tail ?_); first | refine Calmly.mix_tail_nil ?_ | refine Calmly.mix_tail rfl (fun _ _ => ?_)) | ((with_reducible refine Calmly.is_kept ?_); refine ⟨kept_of hk, ?_⟩) | (with_reducible refine Calmly.mix_alt ?_ ?_))
                      go_roundw
                      case rel => exact .inr (.inl ⟨rfl, hb2, by simpa using z23b, by simpa using z24b⟩)
                      case measure => simp [intOf]
                  · as_aux_lemma =>
                      go_wp2_with fail
                      refine Calmly.wp_region_mix_at V5 (kept_of hb) 18 (.fl 0 <| .fl 1 <| .fl 2 <| .fl 3 <| .fl 4 <| .fl 5 <| .fl 6 <| .fl 7 <| .fl 8 <| .fl 9 <| .fl 10 <| .fl 11 <| .fl 12 <| .fl 13 <| .fl 14 <| .fl 15 <| .fl 16 <| .eff 17 <| .tail [18, 19]) (by kernel_rfl) (by kernel_rfl) ?_
                      replace z23 := blk_keep z23 (Below.refl _ _).drew
                      replace z24 := blk_keep z24 (Below.refl _ _).drew
                      replace hb := hb.drew
                      generalize wr.drew = Z at *
                      obtain ⟨hk, z24s, hb2, z23b, z24b⟩ := two_row hb (by omega) (by omega) (by omega) z23 z24 1 1 (.int .i64 (b + q)) (.int .i64 (-b))
                      have r0 := cell_block (blk_keep y4 hb) 1
                      have r1 := cell_block (blk_keep y4 hb) 4
                      have s0 := cell_block y4 1
                      have s1 := cell_block y4 4
                      have z23_c := cell_block z23 1
                      have z23_f := frozen_block z23 1
                      have z24_c := cell_block z24s 1
                      have z24_f := frozen_block z24s 1
                      go_wp2_with (first | ((with_reducible refine Calmly.is_fl ?_); refine Calmly.mix_fl rfl ?_ (fun _ _ => ?_); (first | exact .move _ | exact .load _ _ | exact .fieldAddr _ _ _ (by kernel_rfl) | exact .assign _ | exact .binOp _ _ _ _ _ rfl | exact .indexAddr _ _ _ | exact .len _ _ (by kernel_rfl) | exact .field _ _ _ | exact .extract _ _ | exact .pick _ _ _ | exact .build _ _ | exact .slice _ _ _ _ _ | exact .unOp _ _ _ rfl | exact .index _ _ _ | exact .max _ _ _ rfl rfl | exact .min _ _ _ rfl rfl | exact .nilCheck _ _ rfl)) | ((with_reducible refine Calmly.is_gl ?_); refine Calmly.mix_gl rfl rfl rfl ?_; first | ((first | with_reducible refine Calmly.gl_tt ?_ (fun _ _ => ?_) | with_reducible refine Calmly.gl_ff ?_ (fun _ _ => ?_)); (first | exact .move _ | exact .load _ _ | exact .fieldAddr _ _ _ (by kernel_rfl) | exact .assign _ | exact .binOp _ _ _ _ _ rfl | exact .indexAddr _ _ _ | exact .len _ _ (by kernel_rfl) | exact .field _ _ _ | exact .extract _ _ | exact .pick _ _ _ | exact .build _ _ | exact .slice _ _ _ _ _ | exact .unOp _ _ _ rfl | exact .index _ _ _ | exact .max _ _ _ rfl rfl | exact .min _ _ _ rfl rfl | exact .nilCheck _ _ rfl)) | with_reducible refine Calmly.gl_tf (fun _ _ => ?_) | with_reducible refine Calmly.gl_ft (fun _ _ => ?_)) | ((with_reducible refine Calmly.is_eff ?_); refine Calmly.mix_eff rfl (fun _ _ => ?_)) | ((with_reducible refine Calmly.is_gf ?_); refine Calmly.mix_gf rfl rfl rfl ?_; first | with_reducible refine Calmly.gf_tt (fun _ _ => ?_) | with_reducible refine Calmly.gf_ff (fun _ _ => ?_) | with_reducible refine Calmly.gf_tf (kept_of hk) (fun _ _ => ?_) | with_reducible refine Calmly.gf_ft (kept_of hk) (fun _ _ => ?_)) | ((with_reducible refine Calmly.is_tail ?_); first | refine Calmly.mix_tail_nil ?_ | refine Calmly.mix_tail rfl (fun _ _ => ?_)) | ((with_reducible refine Calmly.is_kept ?_); refine ⟨kept_of hk, ?_⟩) | (with_reducible refine Calmly.mix_alt ?_ ?_))
                      go_roundw
                      case rel => exact .inr (.inr (.inl ⟨rfl, hb2, by simpa using z23b, by simpa using z24b⟩))
                      case measure => simp [intOf]
                  · as_aux_lemma =>
                      go_wp2_with fail
                      refine Calmly.wp_region_mix_at V5 (kept_of hb) 18 (.fl 0 <| .fl 1 <| .fl 2 <| .fl 3 <| .fl 4 <| .fl 5 <| .fl 6 <| .fl 7 <| .fl 8 <| .fl 9 <| .fl 10 <| .fl 11 <| .fl 12 <| .fl 13 <| .fl 14 <| .fl 15 <| .fl 16 <| .eff 17 <| .tail [18, 19]) (by kernel_rfl) (by kernel_rfl) ?_
                      replace z23 := blk_keep z23 (Below.refl _ _).drew
                      replace z24 := blk_keep z24 (Below.refl _ _).drew
                      replace hb := hb.drew
                      generalize wr.drew = Z at *
                      obtain ⟨hk, z24s, hb2, z23b, z24b⟩ := two_row hb (by omega) (by omega) (by omega) z23 z24 2 2 (.int .i64 (c + r)) (.int .i64 (-c))
                      have r0 := cell_block (blk_keep y4 hb) 2
                      have r1 := cell_block (blk_keep y4 hb) 5
                      have s0 := cell_block y4 2
                      have s1 := cell_block y4 5
                      have z23_c := cell_block z23 2
                      have z23_f := frozen_block z23 2
                      have z24_c := cell_block z24s 2
                      have z24_f := frozen_block z24s 2
                      go_wp2_with (first | ((with_reducible refine Calmly.is_fl ?_); refine Calmly.mix_fl rfl ?_ (fun _ _ => ?_); (first | exact .move _ | exact .load _ _ | exact .fieldAddr _ _ _ (by kernel_rfl) | exact .assign _ | exact .binOp _ _ _ _ _ rfl | exact .indexAddr _ _ _ | exact .len _ _ (by kernel_rfl) | exact .field _ _ _ | exact .extract _ _ | exact .pick _ _ _ | exact .build _ _ | exact .slice _ _ _ _ _ | exact .unOp _ _ _ rfl | exact .index _ _ _ | exact .max _ _ _ rfl rfl | exact .min _ _ _ rfl rfl | exact .nilCheck _ _ rfl)) | ((with_reducible refine Calmly.is_gl ?_); refine Calmly.mix_gl rfl rfl rfl ?_; first | ((first | with_reducible refine Calmly.gl_tt ?_ (fun _ _ => ?_) | with_reducible refine Calmly.gl_ff ?_ (fun _ _ => ?_)); (first | exact .move _ | exact .load _ _ | exact .fieldAddr _ _ _ (by kernel_rfl) | exact .assign _ | exact .binOp _ _ _ _ _ rfl | exact .indexAddr _ _ _ | exact .len _ _ (by kernel_rfl) | exact .field _ _ _ | exact .extract _ _ | exact .pick _ _ _ | exact .build _ _ | exact .slice _ _ _ _ _ | exact .unOp _ _ _ rfl | exact .index _ _ _ | exact .max _ _ _ rfl rfl | exact .min _ _ _ rfl rfl | exact .nilCheck _ _ rfl)) | with_reducible refine Calmly.gl_tf (fun _ _ => ?_) | with_reducible refine Calmly.gl_ft (fun _ _ => ?_)) | ((with_reducible refine Calmly.is_eff ?_); refine Calmly.mix_eff rfl (fun _ _ => ?_)) | ((with_reducible refine Calmly.is_gf ?_); refine Calmly.mix_gf rfl rfl rfl ?_; first | with_reducible refine Calmly.gf_tt (fun _ _ => ?_) | with_reducible refine Calmly.gf_ff (fun _ _ => ?_) | with_reducible refine Calmly.gf_tf (kept_of hk) (fun _ _ => ?_) | with_reducible refine Calmly.gf_ft (kept_of hk) (fun _ _ => ?_)) | ((with_reducible refine Calmly.is_tail ?_); first | refine Calmly.mix_tail_nil ?_ | refine Calmly.mix_tail rfl (fun _ _ => ?_)) | ((with_reducible refine Calmly.is_kept ?_); refine ⟨kept_of hk, ?_⟩) | (with_reducible refine Calmly.mix_alt ?_ ?_))
                      go_roundw
                      case rel => exact .inr (.inr (.inr ⟨rfl, hb2, by simpa using z23b, by simpa using z24b⟩))
                      case measure => simp [intOf]
                  · as_aux_lemma =>
                      replace y3 := blk_keep y3 hb
                      replace y4 := blk_keep y4 hb
                      replace y5 := blk_keep y5 hb
                      replace z19 := blk_keep z19 hb
                      replace z21 := blk_keep z21 hb
                      replace BW := BW.trans (hb.mono BW.size)
                      clear hb hs5
                      have y3_0 := cell_block y3 0
                      have y3_1 := cell_block y3 1
                      have y3_2 := cell_block y3 2
                      have y3_3 := cell_block y3 3
                      have y3_4 := cell_block y3 4
                      have y3_5 := cell_block y3 5
                      have z24_0 := cell_block z24 0
                      have z24_1 := cell_block z24 1
                      have z24_2 := cell_block z24 2
                      go_wp2_with fail
                      clear y3_0 y3_1 y3_2 y3_3 y3_4 y3_5 z24_0 z24_1 z24_2
                      refine (FactorOf_any n1 d1 n2 d2 n3 d3 (-a) (-b) (-c) _ h1 h2 h3).mono ?_
                      rintro e w12 ⟨rfl, hs⟩
                      replace y3 := blk_keep y3 hs
                      replace y4 := blk_keep y4 hs
                      replace y5 := blk_keep y5 hs
                      replace z19 := blk_keep z19 hs
                      replace z21 := blk_keep z21 hs
                      replace z23 := blk_keep z23 hs
                      replace z24 := blk_keep z24 hs
                      replace BW := BW.trans (hs.mono BW.size)
                      clear hs
                      rw [HT.out.oE, HT.out.oV]
                      obtain ⟨t3, t4⟩ := HT.out.fit rfl
                      rw [t3, t4]
                      clear t3 t4
                      have z26 := alloc_new w12 (.cells #[.int .i64 ad, .int .i64 an] 77)
                      have hk := (Below.refl w12.heap.size w12).alloc (Nat.le_refl _) (.cells #[.int .i64 ad, .int .i64 an] 77)
                      replace y3 := blk_keep y3 hk
                      replace y4 := blk_keep y4 hk
                      replace y5 := blk_keep y5 hk
                      replace z19 := blk_keep z19 hk
                      replace z21 := blk_keep z21 hk
                      replace z23 := blk_keep z23 hk
                      replace BW := BW.trans (hk.mono BW.size)
                      clear hk
                      have d1' : (an != an) = false := by simp
                      have d2' : (ad != ad) = false := by simp
                      have z26_0 := cell_block z26 0
                      have z26_1 := cell_block z26 1
                      by_cases hz : G = 0
                      case neg => as_aux_lemma =>
                        have g1 : (G != 0) = true := by simpa using hz
                        have z19_0 := cell_block z19 0
                        have z19_1 := cell_block z19 1
                        go_wp2_with fail
                        go_ret
                        exact ⟨ret_bool (by simp), BW⟩
                      case pos => as_aux_lemma =>
                        subst hz
                        have z19_0 := cell_block z19 0
                        have z19_1 := cell_block z19 1
                        have z23_0 := cell_block z23 0
                        have z23_1 := cell_block z23 1
                        have z23_2 := cell_block z23 2
                        go_wp2_with fail
                        clear z26_0 z26_1
                        obtain ⟨q6, hq6⟩ : ∃ q, w12.heap.size = q := ⟨_, rfl⟩
                        rw [hq6] at z26 ⊢
                        generalize w12.alloc (.cells #[.int .i64 ad, .int .i64 an] 77) = W6 at *
                        clear z19_0 z19_1 z23_0 z23_1 z23_2
                        refine (rQuantityErr_any (a + p) (b + q) (c + r) _).mono ?_
                        rintro e w13 ⟨rfl, hs⟩
                        replace y3 := blk_keep y3 hs
                        replace y4 := blk_keep y4 hs
                        replace y5 := blk_keep y5 hs
                        replace z19 := blk_keep z19 hs
                        replace z21 := blk_keep z21 hs
                        replace z23 := blk_keep z23 hs
                        replace BW := BW.trans (hs.mono BW.size)
                        clear hs
                        obtain ⟨QS, hQS⟩ : ∃ S, qtyE (a + p) (b + q) (c + r) = S := ⟨_, rfl⟩
                        rw [hQS]
                        have HQS := Lib.hid hQS
                        clear hQS
                        by_cases hz : QS = 0
                        case neg => as_aux_lemma =>
                          have g1 : (QS != 0) = true := by simpa using hz
                          go_wp2_with fail
                          go_ret
                          exact ⟨ret_bool (by simp), BW⟩
                        case pos => as_aux_lemma =>
                          subst hz
                          obtain ⟨⟨i1, i2, i3, i4, i5, i6, i7, i8⟩, hP⟩ := HT.out.par rfl rfl
                          obtain ⟨P, hPP⟩ : ∃ P, V * U = P := ⟨_, rfl⟩
                          rw [hPP] at hP HT
                          obtain ⟨p1, hp1⟩ : ∃ t, (if smQ P then P.num else 0) = t := ⟨_, rfl⟩
                          obtain ⟨o1, ho1⟩ : ∃ t, (if smQ P then (P.den : Int) else 0) = t := ⟨_, rfl⟩
                          obtain ⟨s1, hs1⟩ : ∃ t, smQ P = t := ⟨_, rfl⟩
                          have m1 := sm_two HT.out.sm rfl rfl hp1 ho1
                          rw [hs1] at m1
                          have M1 := Lib.hid m1
                          have P1 := Lib.hid hp1
                          have O1 := Lib.hid ho1
                          have S1 := Lib.hid hs1
                          clear hp1 ho1 hs1 m1 hPP
                          have HP := Lib.hid hP
                          clear hP
                          have z19_0 := cell_block z19 0
                          have z19_1 := cell_block z19 1
                          have z21_0 := cell_block z21 0
                          have z21_1 := cell_block z21 1
                          go_wp2_with fail
                          clear z19_0 z19_1 z21_0 z21_1
                          refine (Product_any an ad bn bd _ i1 i2 i3 i4 i5 i6 i7 i8 P HP.out).mono ?_
                          rintro e w14 ⟨rfl, hs⟩
                          replace y3 := blk_keep y3 hs
                          replace y4 := blk_keep y4 hs
                          replace y5 := blk_keep y5 hs
                          replace z19 := blk_keep z19 hs
                          replace z21 := blk_keep z21 hs
                          replace z23 := blk_keep z23 hs
                          replace BW := BW.trans (hs.mono BW.size)
                          clear hs
                          rw [P1.out, O1.out, S1.out]
                          have z28 := alloc_new w14 (.cells #[.int .i64 p1, .int .i64 o1] 77)
                          have hk := (Below.refl w14.heap.size w14).alloc (Nat.le_refl _) (.cells #[.int .i64 p1, .int .i64 o1] 77)
                          replace y3 := blk_keep y3 hk
                          replace y4 := blk_keep y4 hk
                          replace y5 := blk_keep y5 hk
                          replace z19 := blk_keep z19 hk
                          replace z21 := blk_keep z21 hk
                          replace z23 := blk_keep z23 hk
                          replace BW := BW.trans (hk.mono BW.size)
                          clear hk
                          have y3_0 := cell_block y3 0
                          have y3_1 := cell_block y3 1
                          have y3_2 := cell_block y3 2
                          have y3_3 := cell_block y3 3
                          have y3_4 := cell_block y3 4
                          have y3_5 := cell_block y3 5
                          have z23_0 := cell_block z23 0
                          have z23_1 := cell_block z23 1
                          have z23_2 := cell_block z23 2
                          go_wp2_with fail
                          obtain ⟨q7, hq7⟩ : ∃ q, w14.heap.size = q := ⟨_, rfl⟩
                          rw [hq7] at z28 ⊢
                          generalize w14.alloc (.cells #[.int .i64 p1, .int .i64 o1] 77) = W7 at *
                          clear y3_0 y3_1 y3_2 y3_3 y3_4 y3_5 z23_0 z23_1 z23_2
                          refine (FactorOf_any n1 d1 n2 d2 n3 d3 (a + p) (b + q) (c + r) _ h1 h2 h3).mono ?_
                          rintro e w15 ⟨rfl, hs⟩
                          replace y3 := blk_keep y3 hs
                          replace y4 := blk_keep y4 hs
                          replace y5 := blk_keep y5 hs
                          replace z19 := blk_keep z19 hs
                          replace z21 := blk_keep z21 hs
                          replace z23 := blk_keep z23 hs
                          replace z28 := blk_keep z28 hs
                          replace BW := BW.trans (hs.mono BW.size)
                          clear hs
                          rw [HT.out.bE HQS.out, HT.out.bV]
                          have M2 := M1.out
                          obtain ⟨dn, hdn⟩ : ∃ t, qN FD P = t := ⟨_, rfl⟩
                          obtain ⟨dd, hdd⟩ : ∃ t, qD FD P = t := ⟨_, rfl⟩
                          rw [hdn, hdd] at M2 ⊢
                          clear hdn hdd M1
                          have z30 := alloc_new w15 (.cells #[.int .i64 dn, .int .i64 dd] 77)
                          have hk := (Below.refl w15.heap.size w15).alloc (Nat.le_refl _) (.cells #[.int .i64 dn, .int .i64 dd] 77)
                          replace y3 := blk_keep y3 hk
                          replace y4 := blk_keep y4 hk
                          replace y5 := blk_keep y5 hk
                          replace z19 := blk_keep z19 hk
                          replace z21 := blk_keep z21 hk
                          replace z23 := blk_keep z23 hk
                          replace z28 := blk_keep z28 hk
                          replace BW := BW.trans (hk.mono BW.size)
                          clear hk
                          have z28_0 := cell_block z28 0
                          have z28_1 := cell_block z28 1
                          have z30_0 := cell_block z30 0
                          have z30_1 := cell_block z30 1
                          clear HT i1 i2 i3 i4 i5 i6 i7 i8 HP P1 O1 S1 HK1 HK2 HQS hbad
                          rcases M2 with ⟨rfl, rfl, rfl, rfl⟩ | ⟨rfl, rfl, rfl, rfl⟩
                          all_goals as_aux_lemma =>
                            go_wp2_with fail
                            go_ret
                            exact ⟨ret_bool (by simp), BW⟩
            case pos => as_aux_lemma =>
              subst hz
              have z11_0 := cell_block z11 0
              have z11_1 := cell_block z11 1
              have y3_0 := cell_block y3 0
              have y3_1 := cell_block y3 1
              have y3_2 := cell_block y3 2
              have y3_3 := cell_block y3 3
              have y3_4 := cell_block y3 4
              have y3_5 := cell_block y3 5
              have y4_0 := cell_block y4 0
              have y4_1 := cell_block y4 1
              have y4_2 := cell_block y4 2
              have y4_3 := cell_block y4 3
              have y4_4 := cell_block y4 4
              have y4_5 := cell_block y4 5
              have y5_0 := cell_block y5 0
              have y5_1 := cell_block y5 1
              go_wp2_with fail
              obtain ⟨q2, hq2⟩ : ∃ q, w7.heap.size = q := ⟨_, rfl⟩
              rw [hq2] at z11 ⊢
              generalize w7.alloc (.cells #[.int .i64 a1, .int .i64 a2] 77) = W2 at *
              obtain ⟨k1, k2, k3, k4⟩ := HK1.out (by simp) (by simp)
              have e1 : R1.num = a1 := HA1.out
              have e2 : (R1.den : Int) = a2 := HA2.out
              rw [e1, e2] at k1 k2 k3 k4
              clear e1 e2
              have K2 := Lib.hid k2
              have K3 := Lib.hid (show qN 0 (scR a1 a2 V (-1)) = x from k3)
              have K4 := Lib.hid (show qD 0 (scR a1 a2 V (-1)) = y from k4)
              clear k2 k3 k4
              clear z11_0 z11_1 y3_0 y3_1 y3_2 y3_3 y3_4 y3_5 y4_0 y4_1 y4_2 y4_3 y4_4 y4_5 y5_0 y5_1
              refine (ToFull_any n1 d1 n2 d2 n3 d3 a b c a1 a2 _ h1 h2 h3 k1 0 V _ HF.out HV.out rfl).mono ?_
              rintro e w8 ⟨rfl, hs⟩
              replace y3 := blk_keep y3 hs
              replace y4 := blk_keep y4 hs
              replace y5 := blk_keep y5 hs
              replace z11 := blk_keep z11 hs
              replace BW := BW.trans (hs.mono BW.size)
              clear hs
              rw [K2.out, K3.out, K4.out]
              have z13 := alloc_new w8 (.cells #[.int .i64 x, .int .i64 y] 77)
              have hk := (Below.refl w8.heap.size w8).alloc (Nat.le_refl _) (.cells #[.int .i64 x, .int .i64 y] 77)
              replace y3 := blk_keep y3 hk
              replace y4 := blk_keep y4 hk
              replace y5 := blk_keep y5 hk
              replace z11 := blk_keep z11 hk
              replace BW := BW.trans (hk.mono BW.size)
              clear hk
              have z13_0 := cell_block z13 0
              have z13_1 := cell_block z13 1
              have c3 : (x != x) = false := by simp
              have c4 : (y != y) = false := by simp
              have y3_0 := cell_block y3 0
              have y3_1 := cell_block y3 1
              have y3_2 := cell_block y3 2
              have y3_3 := cell_block y3 3
              have y3_4 := cell_block y3 4
              have y3_5 := cell_block y3 5
              have y4_0 := cell_block y4 0
              have y4_1 := cell_block y4 1
              have y4_2 := cell_block y4 2
              have y4_3 := cell_block y4 3
              have y4_4 := cell_block y4 4
              have y4_5 := cell_block y4 5
              have y5_0 := cell_block y5 0
              have y5_1 := cell_block y5 1
              go_wp2_with fail
              clear z13_0 z13_1
              obtain ⟨q3, hq3⟩ : ∃ q, w8.heap.size = q := ⟨_, rfl⟩
              rw [hq3] at z13 ⊢
              generalize w8.alloc (.cells #[.int .i64 x, .int .i64 y] 77) = W3 at *
              clear c3 c4 K2 K3 K4 k1
              clear y3_0 y3_1 y3_2 y3_3 y3_4 y3_5 y4_0 y4_1 y4_2 y4_3 y4_4 y4_5 y5_0 y5_1
              refine (ToFull_any n1 d1 n2 d2 n3 d3 a b c x y _ h1 h2 h3 hxy 0 V R2 HF.out HV.out HR2.out).mono ?_
              rintro e w9 ⟨rfl, hs⟩
              replace y3 := blk_keep y3 hs
              replace y4 := blk_keep y4 hs
              replace y5 := blk_keep y5 hs
              replace BW := BW.trans (hs.mono BW.size)
              clear hs
              rw [HE2.out, HB1.out, HB2.out]
              have z15 := alloc_new w9 (.cells #[.int .i64 b1, .int .i64 b2] 77)
              have hk := (Below.refl w9.heap.size w9).alloc (Nat.le_refl _) (.cells #[.int .i64 b1, .int .i64 b2] 77)
              replace y3 := blk_keep y3 hk
              replace y4 := blk_keep y4 hk
              replace y5 := blk_keep y5 hk
              replace BW := BW.trans (hk.mono BW.size)
              clear hk
              by_cases hz : E2 = 0
              case neg => as_aux_lemma =>
                have g2 : (E2 == 0) = false := by simpa using hz
                have z15_0 := cell_block z15 0
                have z15_1 := cell_block z15 1
                have y3_0 := cell_block y3 0
                have y3_1 := cell_block y3 1
                have y3_2 := cell_block y3 2
                have y3_3 := cell_block y3 3
                have y3_4 := cell_block y3 4
                have y3_5 := cell_block y3 5
                have y4_0 := cell_block y4 0
                have y4_1 := cell_block y4 1
                have y4_2 := cell_block y4 2
                have y4_3 := cell_block y4 3
                have y4_4 := cell_block y4 4
                have y4_5 := cell_block y4 5
                have y5_0 := cell_block y5 0
                have y5_1 := cell_block y5 1
                go_wp2_with fail
                obtain ⟨q4, hq4⟩ : ∃ q, w9.heap.size = q := ⟨_, rfl⟩
                rw [hq4] at z15 ⊢
                generalize w9.alloc (.cells #[.int .i64 b1, .int .i64 b2] 77) = W4 at *
                clear z15_0 z15_1 y3_0 y3_1 y3_2 y3_3 y3_4 y3_5 y4_0 y4_1 y4_2 y4_3 y4_4 y4_5 y5_0 y5_1
                refine (FactorOf_any n1 d1 n2 d2 n3 d3 a b c _ h1 h2 h3).mono ?_
                rintro e w10 ⟨rfl, hs⟩
                replace y3 := blk_keep y3 hs
                replace y4 := blk_keep y4 hs
                replace y5 := blk_keep y5 hs
                replace BW := BW.trans (hs.mono BW.size)
                clear hs
                rw [HF.out, HV.out, HAN.out, HAD.out]
                have z19 := alloc_new w10 (.cells #[.int .i64 an, .int .i64 ad] 77)
                have hk := (Below.refl w10.heap.size w10).alloc (Nat.le_refl _) (.cells #[.int .i64 an, .int .i64 ad] 77)
                replace y3 := blk_keep y3 hk
                replace y4 := blk_keep y4 hk
                replace y5 := blk_keep y5 hk
                replace BW := BW.trans (hk.mono BW.size)
                clear hk
                have y3_0 := cell_block y3 0
                have y3_1 := cell_block y3 1
                have y3_2 := cell_block y3 2
                have y3_3 := cell_block y3 3
                have y3_4 := cell_block y3 4
                have y3_5 := cell_block y3 5
                have y4_0 := cell_block y4 0
                have y4_1 := cell_block y4 1
                have y4_2 := cell_block y4 2
                have y4_3 := cell_block y4 3
                have y4_4 := cell_block y4 4
                have y4_5 := cell_block y4 5
                have y5_0 := cell_block y5 0
                have y5_1 := cell_block y5 1
                go_wp2_with fail
                obtain ⟨q5, hq5⟩ : ∃ q, w10.heap.size = q := ⟨_, rfl⟩
                rw [hq5] at z19 ⊢
                generalize w10.alloc (.cells #[.int .i64 an, .int .i64 ad] 77) = W5 at *
                clear y3_0 y3_1 y3_2 y3_3 y3_4 y3_5 y4_0 y4_1 y4_2 y4_3 y4_4 y4_5 y5_0 y5_1
                refine (FactorOf_any n1 d1 n2 d2 n3 d3 p q r _ h1 h2 h3).mono ?_
                rintro e w11 ⟨rfl, hs⟩
                replace y3 := blk_keep y3 hs
                replace y4 := blk_keep y4 hs
                replace y5 := blk_keep y5 hs
                replace z19 := blk_keep z19 hs
                replace BW := BW.trans (hs.mono BW.size)
                clear hs
                rw [HG.out, HU.out, HBN.out, HBD.out]
                have z21 := alloc_new w11 (.cells #[.int .i64 bn, .int .i64 bd] 77)
                have hk := (Below.refl w11.heap.size w11).alloc (Nat.le_refl _) (.cells #[.int .i64 bn, .int .i64 bd] 77)
                replace y3 := blk_keep y3 hk
                replace y4 := blk_keep y4 hk
                replace y5 := blk_keep y5 hk
                replace z19 := blk_keep z19 hk
                replace BW := BW.trans (hk.mono BW.size)
                clear hk
                have hs5 : (w11.alloc (.cells #[.int .i64 bn, .int .i64 bd] 77)).heap.size = w11.heap.size + 1 := by simp
                go_wp2_with fail
                generalize w11.alloc (.cells #[.int .i64 bn, .int .i64 bd] 77) = V5 at *
                generalize w11.heap.size = q5 at *
                have z23 := blk_keep (alloc_new V5 (.cells #[.int .i64 0, .int .i64 0, .int .i64 0] 79)) ((Below.refl _ _).alloc (Nat.le_refl _) (.cells #[.int .i64 0, .int .i64 0, .int .i64 0] 79))
                have z24 := alloc_new (V5.alloc (.cells #[.int .i64 0, .int .i64 0, .int .i64 0] 79)) (.cells #[.int .i64 0, .int .i64 0, .int .i64 0] 79)
                have hb := ((Below.refl V5.heap.size V5).alloc (Nat.le_refl _) (.cells #[.int .i64 0, .int .i64 0, .int .i64 0] 79)).alloc (by simp) (.cells #[.int .i64 0, .int .i64 0, .int .i64 0] 79)
                simp only [World.size_alloc] at z23 z24
                rw [hs5] at z23 z24
                generalize (V5.alloc (.cells #[.int .i64 0, .int .i64 0, .int .i64 0] 79)).alloc (.cells #[.int .i64 0, .int .i64 0, .int .i64 0] 79) = W5 at *
                go_loopw [25] (fun i wr => (i = .int .i64 0 ∧ Below V5.heap.size V5 wr ∧ wr.heap[q5 + 1]? = some (.cells #[.int .i64 0, .int .i64 0, .int .i64 0] 79) ∧ wr.heap[q5 + 1 + 1]? = some (.cells #[.int .i64 0, .int .i64 0, .int .i64 0] 79)) ∨ (i = .int .i64 1 ∧ Below V5.heap.size V5 wr ∧ wr.heap[q5 + 1]? = some (.cells #[.int .i64 (a + p), .int .i64 0, .int .i64 0] 79) ∧ wr.heap[q5 + 1 + 1]? = some (.cells #[.int .i64 (-a), .int .i64 0, .int .i64 0] 79)) ∨ (i = .int .i64 2 ∧ Below V5.heap.size V5 wr ∧ wr.heap[q5 + 1]? = some (.cells #[.int .i64 (a + p), .int .i64 (b + q), .int .i64 0] 79) ∧ wr.heap[q5 + 1 + 1]? = some (.cells #[.int .i64 (-a), .int .i64 (-b), .int .i64 0] 79)) ∨ (i = .int .i64 3 ∧ Below V5.heap.size V5 wr ∧ wr.heap[q5 + 1]? = some (.cells #[.int .i64 (a + p), .int .i64 (b + q), .int .i64 (c + r)] 79) ∧ wr.heap[q5 + 1 + 1]? = some (.cells #[.int .i64 (-a), .int .i64 (-b), .int .i64 (-c)] 79))) (fun i _ => 3 - (intOf i).toNat)
                case atStart => exact .inl ⟨rfl, hb, z23, z24⟩
                case round =>
                  clear hb z23 z24
                  rcases hrel with ⟨rfl, hb, z23, z24⟩ | ⟨rfl, hb, z23, z24⟩ | ⟨rfl, hb, z23, z24⟩ | ⟨rfl, hb, z23, z24⟩
                  · as_aux_lemma =>
                      go_wp2_with fail
                      refine Calmly.wp_region_mix_at V5 (kept_of hb) 18 (.fl 0 <| .fl 1 <| .fl 2 <| .fl 3 <| .fl 4 <| .fl 5 <| .fl 6 <| .fl 7 <| .fl 8 <| .fl 9 <| .fl 10 <| .fl 11 <| .fl 12 <| .fl 13 <| .fl 14 <| .fl 15 <| .fl 16 <| .eff 17 <| .tail [18, 19]) (by kernel_rfl) (by kernel_rfl) ?_
                      replace z23 := blk_keep z23 (Below.refl _ _).drew
                      replace z24 := blk_keep z24 (Below.refl _ _).drew
                      replace hb := hb.drew
                      generalize wr.drew = Z at *
                      obtain ⟨hk, z24s, hb2, z23b, z24b⟩ := two_row hb (by omega) (by omega) (by omega) z23 z24 0 0 (.int .i64 (a + p)) (.int .i64 (-a))
                      have r0 := cell_block (blk_keep y4 hb) 0
                      have r1 := cell_block (blk_keep y4 hb) 3
                      have s0 := cell_block y4 0
                      have s1 := cell_block y4 3
                      have z23_c := cell_block z23 0
                      have z23_f := frozen_block z23 0
                      have z24_c := cell_block z24s 0
                      have z24_f := frozen_block z24s 0
                      go_wp2_with (first | ((with_reducible refine Calmly.is_fl ?_); refine Calmly.mix_fl rfl ?_ (fun _ _ => ?_); (first | exact .move _ | exact .load _ _ | exact .fieldAddr _ _ _ (by kernel_rfl) | exact .assign _ | exact .binOp _ _ _ _ _ rfl | exact .indexAddr _ _ _ | exact .len _ _ (by kernel_rfl) | exact .field _ _ _ | exact .extract _ _ | exact .pick _ _ _ | exact .build _ _ | exact .slice _ _ _ _ _ | exact .unOp _ _ _ rfl | exact .index _ _ _ | exact .max _ _ _ rfl rfl | exact .min _ _ _ rfl rfl | exact .nilCheck _ _ rfl)) | ((with_reducible refine Calmly.is_gl ?_); refine Calmly.mix_gl rfl rfl rfl ?_; first | ((first | with_reducible refine Calmly.gl_tt ?_ (fun _ _ => ?_) | with_reducible refine Calmly.gl_ff ?_ (fun _ _ => ?_)); (first | exact .move _ | exact .load _ _ | exact .fieldAddr _ _ _ (by kernel_rfl) | exact .assign _ | exact .binOp _ _ _ _ _ rfl | exact .indexAddr _ _ _ | exact .len _ _ (by kernel_rfl) | exact .field _ _ _ | exact .extract _ _ | exact .pick _ _ _ | exact .build _ _ | exact .slice _ _ _ _ _ | exact .unOp _ _ _ rfl | exact .index _ _ _ | exact .max _ _ _ rfl rfl | exact .min _ _ _ rfl rfl | exact .nilCheck _ _ rfl)) | with_reducible refine Calmly.gl_tf (fun _ _ => ?_) | with_reducible refine Calmly.gl_ft (fun _ _ => ?_)) | ((with_reducible refine Calmly.is_eff ?_); refine Calmly.mix_eff rfl (fun _ _ => ?_)) | ((with_reducible refine Calmly.is_gf ?_); refine Calmly.mix_gf rfl rfl rfl ?_; first | with_reducible refine Calmly.gf_tt (fun _ _ => ?_) | with_reducible refine Calmly.gf_ff (fun _ _ => ?_) | with_reducible refine Calmly.gf_tf (kept_of hk) (fun _ _ => ?_) | with_reducible refine Calmly.gf_ft (kept_of hk) (fun _ _ => ?_)) | ((with_reducible refine Calmly.is_tail ?_); first | refine Calmly.mix_tail_nil ?_ | refine Calmly.mix_tail rfl (fun _ _ => ?_)) | ((with_reducible refine Calmly.is_kept ?_); refine ⟨kept_of hk, ?_⟩) | (with_reducible refine Calmly.mix_alt ?_ ?_))
                      go_roundw
                      case rel => exact .inr (.inl ⟨rfl, hb2, by simpa using z23b, by simpa using z24b⟩)
                      case measure => simp [intOf]
                  · as_aux_lemma =>
                      go_wp2_with fail
                      refine Calmly.wp_region_mix_at V5 (kept_of hb) 18 (.fl 0 <| .fl 1 <| .fl 2 <| .fl 3 <| .fl 4 <| .fl 5 <| .fl 6 <| .fl 7 <| .fl 8 <| .fl 9 <| .fl 10 <| .fl 11 <| .fl 12 <| .fl 13 <| .fl 14 <| .fl 15 <| .fl 16 <| .eff 17 <| .tail [18, 19]) (by kernel_rfl) (by kernel_rfl) ?_
                      replace z23 := blk_keep z23 (Below.refl _ _).drew
                      replace z24 := blk_keep z24 (Below.refl _ _).drew
                      replace hb := hb.drew
                      generalize wr.drew = Z at *
                      obtain ⟨hk, z24s, hb2, z23b, z24b⟩ := two_row hb (by omega) (by omega) (by omega) z23 z24 1 1 (.int .i64 (b + q)) (.int .i64 (-b))
                      have r0 := cell_block (blk_keep y4 hb) 1
                      have r1 := cell_block (blk_keep y4 hb) 4
                      have s0 := cell_block y4 1
                      have s1 := cell_block y4 4
                      have z23_c := cell_block z23 1
                      have z23_f := frozen_block z23 1
                      have z24_c := cell_block z24s 1
                      have z24_f := frozen_block z24s 1
                      go_wp2_with (first | ((with_reducible refine Calmly.is_fl ?_); refine Calmly.mix_fl rfl ?_ (fun _ _ => ?_); (first | exact .move _ | exact .load _ _ | exact .fieldAddr _ _ _ (by kernel_rfl) | exact .assign _ | exact .binOp _ _ _ _ _ rfl | exact .indexAddr _ _ _ | exact .len _ _ (by kernel_rfl) | exact .field _ _ _ | exact .extract _ _ | exact .pick _ _ _ | exact .build _ _ | exact .slice _ _ _ _ _ | exact .unOp _ _ _ rfl | exact .index _ _ _ | exact .max _ _ _ rfl rfl | exact .min _ _ _ rfl rfl | exact .nilCheck _ _ rfl)) | ((with_reducible refine Calmly.is_gl ?_); refine Calmly.mix_gl rfl rfl rfl ?_; first | ((first | with_reducible refine Calmly.gl_tt ?_ (fun _ _ => ?_) | with_reducible refine Calmly.gl_ff ?_ (fun _ _ => ?_)); (first | exact .move _ | exact .load _ _ | exact .fieldAddr _ _ _ (by kernel_rfl) | exact .assign _ | exact .binOp _ _ _ _ _ rfl | exact .indexAddr _ _ _ | exact .len _ _ (by kernel_rfl) | exact .field _ _ _ | exact .extract _ _ | exact .pick _ _ _ | exact .build _ _ | exact .slice _ _ _ _ _ | exact .unOp _ _ _ rfl | exact .index _ _ _ | exact .max _ _ _ rfl rfl | exact .min _ _ _ rfl rfl | exact .nilCheck _ _ rfl)) | with_reducible refine Calmly.gl_tf (fun _ _ => ?_) | with_reducible refine Calmly.gl_ft (fun _ _ => ?_)) | ((with_reducible refine Calmly.is_eff ?_); refine Calmly.mix_eff rfl (fun _ _ => ?_)) | ((with_reducible refine Calmly.is_gf ?_); refine Calmly.mix_gf rfl rfl rfl ?_; first | with_reducible refine Calmly.gf_tt (fun _ _ => ?_) | with_reducible refine Calmly.gf_ff (fun _ _ => ?_) | with_reducible refine Calmly.gf_tf (kept_of hk) (fun _ _ => ?_) | with_reducible refine Calmly.gf_ft (kept_of hk) (fun _ _ => ?_)) | ((with_reducible refine Calmly.is_tail ?_); first | refine Calmly.mix_tail_nil ?_ | refine Calmly.mix_tail rfl (fun _ _ => ?_)) | ((with_reducible refine Calmly.is_kept ?_); refine ⟨kept_of hk, ?_⟩) | (with_reducible refine Calmly.mix_alt ?_ ?_))
                      go_roundw
                      case rel => exact .inr (.inr (.inl ⟨rfl, hb2, by simpa using z23b, by simpa using z24b⟩))
                      case measure => simp [intOf]
                  · as_aux_lemma =>
                      go_wp2_with fail
                      refine Calmly.wp_region_mix_at V5 (kept_of hb) 18 (.fl 0 <| .fl 1 <| .fl 2 <| .fl 3 <| .fl 4 <| .fl 5 <| .fl 6 <| .fl 7 <| .fl 8 <| .fl 9 <| .fl 10 <| .fl 11 <| .fl 12 <| .fl 13 <| .fl 14 <| .fl 15 <| .fl 16 <| .eff 17 <| .tail [18, 19]) (by kernel_rfl) (by kernel_rfl) ?_
                      replace z23 := blk_keep z23 (Below.refl _ _).drew
                      replace z24 := blk_keep z24 (Below.refl _ _).drew
                      replace hb := hb.drew
                      generalize wr.drew = Z at *
                      obtain ⟨hk, z24s, hb2, z23b, z24b⟩ := two_row hb (by omega) (by omega) (by omega) z23 z24 2 2 (.int .i64 (c + r)) (.int .i64 (-c))
                      have r0 := cell_block (blk_keep y4 hb) 2
                      have r1 := cell_block (blk_keep y4 hb) 5
                      have s0 := cell_block y4 2
                      have s1 := cell_block y4 5
                      have z23_c := cell_block z23 2
                      have z23_f := frozen_block z23 2
                      have z24_c := cell_block z24s 2
                      have z24_f := frozen_block z24s 2
                      go_wp2_with (first | ((with_reducible refine Calmly.is_fl ?_); refine Calmly.mix_fl rfl ?_ (fun _ _ => ?_); (first | exact .move _ | exact .load _ _ | exact .fieldAddr _ _ _ (by kernel_rfl) | exact .assign _ | exact .binOp _ _ _ _ _ rfl | exact .indexAddr _ _ _ | exact .len _ _ (by kernel_rfl) | exact .field _ _ _ | exact .extract _ _ | exact .pick _ _ _ | exact .build _ _ | exact .slice _ _ _ _ _ | exact .unOp _ _ _ rfl | exact .index _ _ _ | exact .max _ _ _ rfl rfl | exact .min _ _ _ rfl rfl | exact .nilCheck _ _ rfl)) | ((with_reducible refine Calmly.is_gl ?_); refine Calmly.mix_gl rfl rfl rfl ?_; first | ((first | with_reducible refine Calmly.gl_tt ?_ (fun _ _ => ?_) | with_reducible refine Calmly.gl_ff ?_ (fun _ _ => ?_)); (first | exact .move _ | exact .load _ _ | exact .fieldAddr _ _ _ (by kernel_rfl) | exact .assign _ | exact .binOp _ _ _ _ _ rfl | exact .indexAddr _ _ _ | exact .len _ _ (by kernel_rfl) | exact .field _ _ _ | exact .extract _ _ | exact .pick _ _ _ | exact .build _ _ | exact .slice _ _ _ _ _ | exact .unOp _ _ _ rfl | exact .index _ _ _ | exact .max _ _ _ rfl rfl | exact .min _ _ _ rfl rfl | exact .nilCheck _ _ rfl)) | with_reducible refine Calmly.gl_tf (fun _ _ => ?_) | with_reducible refine Calmly.gl_ft (fun _ _ => ?_)) | ((with_reducible refine Calmly.is_eff ?_); refine Calmly.mix_eff rfl (fun _ _ => ?_)) | ((with_reducible refine Calmly.is_gf ?_); refine Calmly.mix_gf rfl rfl rfl ?_; first | with_reducible refine Calmly.gf_tt (fun _ _ => ?_) | with_reducible refine Calmly.gf_ff (fun _ _ => ?_) | with_reducible refine Calmly.gf_tf (kept_of hk) (fun _ _ => ?_) | with_reducible refine Calmly.gf_ft (kept_of hk) (fun _ _ => ?_)) | ((with_reducible refine Calmly.is_tail ?_); first | refine Calmly.mix_tail_nil ?_ | refine Calmly.mix_tail rfl (fun _ _ => ?_)) | ((with_reducible refine Calmly.is_kept ?_); refine ⟨kept_of hk, ?_⟩) | (with_reducible refine Calmly.mix_alt ?_ ?_))
                      go_roundw
                      case rel => exact .inr (.inr (.inr ⟨rfl, hb2, by simpa using z23b, by simpa using z24b⟩))
                      case measure => simp [intOf]
                  · as_aux_lemma =>
                      replace y3 := blk_keep y3 hb
                      replace y4 := blk_keep y4 hb
                      replace y5 := blk_keep y5 hb
                      replace z19 := blk_keep z19 hb
                      replace z21 := blk_keep z21 hb
                      replace BW := BW.trans (hb.mono BW.size)
                      clear hb hs5
                      have y3_0 := cell_block y3 0
                      have y3_1 := cell_block y3 1
                      have y3_2 := cell_block y3 2
                      have y3_3 := cell_block y3 3
                      have y3_4 := cell_block y3 4
                      have y3_5 := cell_block y3 5
                      have z24_0 := cell_block z24 0
                      have z24_1 := cell_block z24 1
                      have z24_2 := cell_block z24 2
                      go_wp2_with fail
                      clear y3_0 y3_1 y3_2 y3_3 y3_4 y3_5 z24_0 z24_1 z24_2
                      refine (FactorOf_any n1 d1 n2 d2 n3 d3 (-a) (-b) (-c) _ h1 h2 h3).mono ?_
                      rintro e w12 ⟨rfl, hs⟩
                      replace y3 := blk_keep y3 hs
                      replace y4 := blk_keep y4 hs
                      replace y5 := blk_keep y5 hs
                      replace z19 := blk_keep z19 hs
                      replace z21 := blk_keep z21 hs
                      replace z23 := blk_keep z23 hs
                      replace z24 := blk_keep z24 hs
                      replace BW := BW.trans (hs.mono BW.size)
                      clear hs
                      rw [HT.out.oE, HT.out.oV]
                      obtain ⟨t3, t4⟩ := HT.out.fit rfl
                      rw [t3, t4]
                      clear t3 t4
                      have z26 := alloc_new w12 (.cells #[.int .i64 ad, .int .i64 an] 77)
                      have hk := (Below.refl w12.heap.size w12).alloc (Nat.le_refl _) (.cells #[.int .i64 ad, .int .i64 an] 77)
                      replace y3 := blk_keep y3 hk
                      replace y4 := blk_keep y4 hk
                      replace y5 := blk_keep y5 hk
                      replace z19 := blk_keep z19 hk
                      replace z21 := blk_keep z21 hk
                      replace z23 := blk_keep z23 hk
                      replace BW := BW.trans (hk.mono BW.size)
                      clear hk
                      have d1' : (an != an) = false := by simp
                      have d2' : (ad != ad) = false := by simp
                      have z26_0 := cell_block z26 0
                      have z26_1 := cell_block z26 1
                      by_cases hz : G = 0
                      case neg => as_aux_lemma =>
                        have g1 : (G != 0) = true := by simpa using hz
                        have z19_0 := cell_block z19 0
                        have z19_1 := cell_block z19 1
                        go_wp2_with fail
                        go_ret
                        exact ⟨ret_bool (by simp), BW⟩
                      case pos => as_aux_lemma =>
                        subst hz
                        have z19_0 := cell_block z19 0
                        have z19_1 := cell_block z19 1
                        have z23_0 := cell_block z23 0
                        have z23_1 := cell_block z23 1
                        have z23_2 := cell_block z23 2
                        go_wp2_with fail
                        clear z26_0 z26_1
                        obtain ⟨q6, hq6⟩ : ∃ q, w12.heap.size = q := ⟨_, rfl⟩
                        rw [hq6] at z26 ⊢
                        generalize w12.alloc (.cells #[.int .i64 ad, .int .i64 an] 77) = W6 at *
                        clear z19_0 z19_1 z23_0 z23_1 z23_2
                        refine (rQuantityErr_any (a + p) (b + q) (c + r) _).mono ?_
                        rintro e w13 ⟨rfl, hs⟩
                        replace y3 := blk_keep y3 hs
                        replace y4 := blk_keep y4 hs
                        replace y5 := blk_keep y5 hs
                        replace z19 := blk_keep z19 hs
                        replace z21 := blk_keep z21 hs
                        replace z23 := blk_keep z23 hs
                        replace BW := BW.trans (hs.mono BW.size)
                        clear hs
                        obtain ⟨QS, hQS⟩ : ∃ S, qtyE (a + p) (b + q) (c + r) = S := ⟨_, rfl⟩
                        rw [hQS]
                        have HQS := Lib.hid hQS
                        clear hQS
                        by_cases hz : QS = 0
                        case neg => as_aux_lemma =>
                          have g1 : (QS != 0) = true := by simpa using hz
                          go_wp2_with fail
                          go_ret
                          exact ⟨ret_bool (by simp), BW⟩
                        case pos => as_aux_lemma =>
                          subst hz
                          obtain ⟨⟨i1, i2, i3, i4, i5, i6, i7, i8⟩, hP⟩ := HT.out.par rfl rfl
                          obtain ⟨P, hPP⟩ : ∃ P, V * U = P := ⟨_, rfl⟩
                          rw [hPP] at hP HT
                          obtain ⟨p1, hp1⟩ : ∃ t, (if smQ P then P.num else 0) = t := ⟨_, rfl⟩
                          obtain ⟨o1, ho1⟩ : ∃ t, (if smQ P then (P.den : Int) else 0) = t := ⟨_, rfl⟩
                          obtain ⟨s1, hs1⟩ : ∃ t, smQ P = t := ⟨_, rfl⟩
                          have m1 := sm_two HT.out.sm rfl rfl hp1 ho1
                          rw [hs1] at m1
                          have M1 := Lib.hid m1
                          have P1 := Lib.hid hp1
                          have O1 := Lib.hid ho1
                          have S1 := Lib.hid hs1
                          clear hp1 ho1 hs1 m1 hPP
                          have HP := Lib.hid hP
                          clear hP
                          have z19_0 := cell_block z19 0
                          have z19_1 := cell_block z19 1
                          have z21_0 := cell_block z21 0
                          have z21_1 := cell_block z21 1
                          go_wp2_with fail
                          clear z19_0 z19_1 z21_0 z21_1
                          refine (Product_any an ad bn bd _ i1 i2 i3 i4 i5 i6 i7 i8 P HP.out).mono ?_
                          rintro e w14 ⟨rfl, hs⟩
                          replace y3 := blk_keep y3 hs
                          replace y4 := blk_keep y4 hs
                          replace y5 := blk_keep y5 hs
                          replace z19 := blk_keep z19 hs
                          replace z21 := blk_keep z21 hs
                          replace z23 := blk_keep z23 hs
                          replace BW := BW.trans (hs.mono BW.size)
                          clear hs
                          rw [P1.out, O1.out, S1.out]
                          have z28 := alloc_new w14 (.cells #[.int .i64 p1, .int .i64 o1] 77)
                          have hk := (Below.refl w14.heap.size w14).alloc (Nat.le_refl _) (.cells #[.int .i64 p1, .int .i64 o1] 77)
                          replace y3 := blk_keep y3 hk
                          replace y4 := blk_keep y4 hk
                          replace y5 := blk_keep y5 hk
                          replace z19 := blk_keep z19 hk
                          replace z21 := blk_keep z21 hk
                          replace z23 := blk_keep z23 hk
                          replace BW := BW.trans (hk.mono BW.size)
                          clear hk
                          have y3_0 := cell_block y3 0
                          have y3_1 := cell_block y3 1
                          have y3_2 := cell_block y3 2
                          have y3_3 := cell_block y3 3
                          have y3_4 := cell_block y3 4
                          have y3_5 := cell_block y3 5
                          have z23_0 := cell_block z23 0
                          have z23_1 := cell_block z23 1
                          have z23_2 := cell_block z23 2
                          go_wp2_with fail
                          obtain ⟨q7, hq7⟩ : ∃ q, w14.heap.size = q := ⟨_, rfl⟩
                          rw [hq7] at z28 ⊢
                          generalize w14.alloc (.cells #[.int .i64 p1, .int .i64 o1] 77) = W7 at *
                          clear y3_0 y3_1 y3_2 y3_3 y3_4 y3_5 z23_0 z23_1 z23_2
                          refine (FactorOf_any n1 d1 n2 d2 n3 d3 (a + p) (b + q) (c + r) _ h1 h2 h3).mono ?_
                          rintro e w15 ⟨rfl, hs⟩
                          replace y3 := blk_keep y3 hs
                          replace y4 := blk_keep y4 hs
                          replace y5 := blk_keep y5 hs
                          replace z19 := blk_keep z19 hs
                          replace z21 := blk_keep z21 hs
                          replace z23 := blk_keep z23 hs
                          replace z28 := blk_keep z28 hs
                          replace BW := BW.trans (hs.mono BW.size)
                          clear hs
                          rw [HT.out.bE HQS.out, HT.out.bV]
                          have M2 := M1.out
                          obtain ⟨dn, hdn⟩ : ∃ t, qN FD P = t := ⟨_, rfl⟩
                          obtain ⟨dd, hdd⟩ : ∃ t, qD FD P = t := ⟨_, rfl⟩
                          rw [hdn, hdd] at M2 ⊢
                          clear hdn hdd M1
                          have z30 := alloc_new w15 (.cells #[.int .i64 dn, .int .i64 dd] 77)
                          have hk := (Below.refl w15.heap.size w15).alloc (Nat.le_refl _) (.cells #[.int .i64 dn, .int .i64 dd] 77)
                          replace y3 := blk_keep y3 hk
                          replace y4 := blk_keep y4 hk
                          replace y5 := blk_keep y5 hk
                          replace z19 := blk_keep z19 hk
                          replace z21 := blk_keep z21 hk
                          replace z23 := blk_keep z23 hk
                          replace z28 := blk_keep z28 hk
                          replace BW := BW.trans (hk.mono BW.size)
                          clear hk
                          have z28_0 := cell_block z28 0
                          have z28_1 := cell_block z28 1
                          have z30_0 := cell_block z30 0
                          have z30_1 := cell_block z30 1
                          clear HT i1 i2 i3 i4 i5 i6 i7 i8 HP P1 O1 S1 HK1 HK2 HQS hbad
                          rcases M2 with ⟨rfl, rfl, rfl, rfl⟩ | ⟨rfl, rfl, rfl, rfl⟩
                          all_goals as_aux_lemma =>
                            go_wp2_with fail
                            go_ret
                            exact ⟨ret_bool (by simp), BW⟩
              case pos => as_aux_lemma =>
                subst hz
                have z15_0 := cell_block z15 0
                have z15_1 := cell_block z15 1
                have y3_0 := cell_block y3 0
                have y3_1 := cell_block y3 1
                have y3_2 := cell_block y3 2
                have y3_3 := cell_block y3 3
                have y3_4 := cell_block y3 4
                have y3_5 := cell_block y3 5
                have y4_0 := cell_block y4 0
                have y4_1 := cell_block y4 1
                have y4_2 := cell_block y4 2
                have y4_3 := cell_block y4 3
                have y4_4 := cell_block y4 4
                have y4_5 := cell_block y4 5
                have y5_0 := cell_block y5 0
                have y5_1 := cell_block y5 1
                go_wp2_with fail
                obtain ⟨q4, hq4⟩ : ∃ q, w9.heap.size = q := ⟨_, rfl⟩
                rw [hq4] at z15 ⊢
                generalize w9.alloc (.cells #[.int .i64 b1, .int .i64 b2] 77) = W4 at *
                obtain ⟨k1, k2, k3, k4⟩ := HK2.out (by simp) (by simp)
                have e1 : R2.num = b1 := HB1.out
                have e2 : (R2.den : Int) = b2 := HB2.out
                rw [e1, e2] at k1 k2 k3 k4
                clear e1 e2
                have K2 := Lib.hid k2
                have K3 := Lib.hid (show qN 0 (scR b1 b2 V 1) = x from k3)
                have K4 := Lib.hid (show qD 0 (scR b1 b2 V 1) = y from k4)
                clear k2 k3 k4
                clear z15_0 z15_1 y3_0 y3_1 y3_2 y3_3 y3_4 y3_5 y4_0 y4_1 y4_2 y4_3 y4_4 y4_5 y5_0 y5_1
                refine (ToModel_any n1 d1 n2 d2 n3 d3 a b c b1 b2 _ h1 h2 h3 k1 0 V _ HF.out HV.out rfl).mono ?_
                rintro e w10 ⟨rfl, hs⟩
                replace y3 := blk_keep y3 hs
                replace y4 := blk_keep y4 hs
                replace y5 := blk_keep y5 hs
                replace z15 := blk_keep z15 hs
                replace BW := BW.trans (hs.mono BW.size)
                clear hs
                rw [K2.out, K3.out, K4.out]
                have z17 := alloc_new w10 (.cells #[.int .i64 x, .int .i64 y] 77)
                have hk := (Below.refl w10.heap.size w10).alloc (Nat.le_refl _) (.cells #[.int .i64 x, .int .i64 y] 77)
                replace y3 := blk_keep y3 hk
                replace y4 := blk_keep y4 hk
                replace y5 := blk_keep y5 hk
                replace z15 := blk_keep z15 hk
                replace BW := BW.trans (hk.mono BW.size)
                clear hk
                have z17_0 := cell_block z17 0
                have z17_1 := cell_block z17 1
                have c3 : (x != x) = false := by simp
                have c4 : (y != y) = false := by simp
                have y3_0 := cell_block y3 0
                have y3_1 := cell_block y3 1
                have y3_2 := cell_block y3 2
                have y3_3 := cell_block y3 3
                have y3_4 := cell_block y3 4
                have y3_5 := cell_block y3 5
                have y4_0 := cell_block y4 0
                have y4_1 := cell_block y4 1
                have y4_2 := cell_block y4 2
                have y4_3 := cell_block y4 3
                have y4_4 := cell_block y4 4
                have y4_5 := cell_block y4 5
                have y5_0 := cell_block y5 0
                have y5_1 := cell_block y5 1
                go_wp2_with fail
                clear z17_0 z17_1
                obtain ⟨q5, hq5⟩ : ∃ q, w10.heap.size = q := ⟨_, rfl⟩
                rw [hq5] at z17 ⊢
                generalize w10.alloc (.cells #[.int .i64 x, .int .i64 y] 77) = W5 at *
                clear y3_0 y3_1 y3_2 y3_3 y3_4 y3_5 y4_0 y4_1 y4_2 y4_3 y4_4 y4_5 y5_0 y5_1
                refine (FactorOf_any n1 d1 n2 d2 n3 d3 a b c _ h1 h2 h3).mono ?_
                rintro e w11 ⟨rfl, hs⟩
                replace y3 := blk_keep y3 hs
                replace y4 := blk_keep y4 hs
                replace y5 := blk_keep y5 hs
                replace BW := BW.trans (hs.mono BW.size)
                clear hs
                rw [HF.out, HV.out, HAN.out, HAD.out]
                have z19 := alloc_new w11 (.cells #[.int .i64 an, .int .i64 ad] 77)
                have hk := (Below.refl w11.heap.size w11).alloc (Nat.le_refl _) (.cells #[.int .i64 an, .int .i64 ad] 77)
                replace y3 := blk_keep y3 hk
                replace y4 := blk_keep y4 hk
                replace y5 := blk_keep y5 hk
                replace BW := BW.trans (hk.mono BW.size)
                clear hk
                have y3_0 := cell_block y3 0
                have y3_1 := cell_block y3 1
                have y3_2 := cell_block y3 2
                have y3_3 := cell_block y3 3
                have y3_4 := cell_block y3 4
                have y3_5 := cell_block y3 5
                have y4_0 := cell_block y4 0
                have y4_1 := cell_block y4 1
                have y4_2 := cell_block y4 2
                have y4_3 := cell_block y4 3
                have y4_4 := cell_block y4 4
                have y4_5 := cell_block y4 5
                have y5_0 := cell_block y5 0
                have y5_1 := cell_block y5 1
                go_wp2_with fail
                obtain ⟨q6, hq6⟩ : ∃ q, w11.heap.size = q := ⟨_, rfl⟩
                rw [hq6] at z19 ⊢
                generalize w11.alloc (.cells #[.int .i64 an, .int .i64 ad] 77) = W6 at *
                clear y3_0 y3_1 y3_2 y3_3 y3_4 y3_5 y4_0 y4_1 y4_2 y4_3 y4_4 y4_5 y5_0 y5_1
                refine (FactorOf_any n1 d1 n2 d2 n3 d3 p q r _ h1 h2 h3).mono ?_
                rintro e w12 ⟨rfl, hs⟩
                replace y3 := blk_keep y3 hs
                replace y4 := blk_keep y4 hs
                replace y5 := blk_keep y5 hs
                replace z19 := blk_keep z19 hs
                replace BW := BW.trans (hs.mono BW.size)
                clear hs
                rw [HG.out, HU.out, HBN.out, HBD.out]
                have z21 := alloc_new w12 (.cells #[.int .i64 bn, .int .i64 bd] 77)
                have hk := (Below.refl w12.heap.size w12).alloc (Nat.le_refl _) (.cells #[.int .i64 bn, .int .i64 bd] 77)
                replace y3 := blk_keep y3 hk
                replace y4 := blk_keep y4 hk
                replace y5 := blk_keep y5 hk
                replace z19 := blk_keep z19 hk
                replace BW := BW.trans (hk.mono BW.size)
                clear hk
                have hs5 : (w12.alloc (.cells #[.int .i64 bn, .int .i64 bd] 77)).heap.size = w12.heap.size + 1 := by simp
                go_wp2_with fail
                generalize w12.alloc (.cells #[.int .i64 bn, .int .i64 bd] 77) = V5 at *
                generalize w12.heap.size = q5 at *
                have z23 := blk_keep (alloc_new V5 (.cells #[.int .i64 0, .int .i64 0, .int .i64 0] 79)) ((Below.refl _ _).alloc (Nat.le_refl _) (.cells #[.int .i64 0, .int .i64 0, .int .i64 0] 79))
                have z24 := alloc_new (V5.alloc (.cells #[.int .i64 0, .int .i64 0, .int .i64 0] 79)) (.cells #[.int .i64 0, .int .i64 0, .int .i64 0] 79)
                have hb := ((Below.refl V5.heap.size V5).alloc (Nat.le_refl _) (.cells #[.int .i64 0, .int .i64 0, .int .i64 0] 79)).alloc (by simp) (.cells #[.int .i64 0, .int .i64 0, .int .i64 0] 79)
                simp only [World.size_alloc] at z23 z24
                rw [hs5] at z23 z24
                generalize (V5.alloc (.cells #[.int .i64 0, .int .i64 0, .int .i64 0] 79)).alloc (.cells #[.int .i64 0, .int .i64 0, .int .i64 0] 79) = W5 at *
                go_loopw [25] (fun i wr => (i = .int .i64 0 ∧ Below V5.heap.size V5 wr ∧ wr.heap[q5 + 1]? = some (.cells #[.int .i64 0, .int .i64 0, .int .i64 0] 79) ∧ wr.heap[q5 + 1 + 1]? = some (.cells #[.int .i64 0, .int .i64 0, .int .i64 0] 79)) ∨ (i = .int .i64 1 ∧ Below V5.heap.size V5 wr ∧ wr.heap[q5 + 1]? = some (.cells #[.int .i64 (a + p), .int .i64 0, .int .i64 0] 79) ∧ wr.heap[q5 + 1 + 1]? = some (.cells #[.int .i64 (-a), .int .i64 0, .int .i64 0] 79)) ∨ (i = .int .i64 2 ∧ Below V5.heap.size V5 wr ∧ wr.heap[q5 + 1]? = some (.cells #[.int .i64 (a + p), .int .i64 (b + q), .int .i64 0] 79) ∧ wr.heap[q5 + 1 + 1]? = some (.cells #[.int .i64 (-a), .int .i64 (-b), .int .i64 0] 79)) ∨ (i = .int .i64 3 ∧ Below V5.heap.size V5 wr ∧ wr.heap[q5 + 1]? = some (.cells #[.int .i64 (a + p), .int .i64 (b + q), .int .i64 (c + r)] 79) ∧ wr.heap[q5 + 1 + 1]? = some (.cells #[.int .i64 (-a), .int .i64 (-b), .int .i64 (-c)] 79))) (fun i _ => 3 - (intOf i).toNat)
                case atStart => exact .inl ⟨rfl, hb, z23, z24⟩
                case round =>
                  clear hb z23 z24
                  rcases hrel with ⟨rfl, hb, z23, z24⟩ | ⟨rfl, hb, z23, z24⟩ | ⟨rfl, hb, z23, z24⟩ | ⟨rfl, hb, z23, z24⟩
                  · as_aux_lemma =>
                      go_wp2_with fail
                      refine Calmly.wp_region_mix_at V5 (kept_of hb) 18 (.fl 0 <| .fl 1 <| .fl 2 <| .fl 3 <| .fl 4 <| .fl 5 <| .fl 6 <| .fl 7 <| .fl 8 <| .fl 9 <| .fl 10 <| .fl 11 <| .fl 12 <| .fl 13 <| .fl 14 <| .fl 15 <| .fl 16 <| .eff 17 <| .tail [18, 19]) (by kernel_rfl) (by kernel_rfl) ?_
                      replace z23 := blk_keep z23 (Below.refl _ _).drew
                      replace z24 := blk_keep z24 (Below.refl _ _).drew
                      replace hb := hb.drew
                      generalize wr.drew = Z at *
                      obtain ⟨hk, z24s, hb2, z23b, z24b⟩ := two_row hb (by omega) (by omega) (by omega) z23 z24 0 0 (.int .i64 (a + p)) (.int .i64 (-a))
                      have r0 := cell_block (blk_keep y4 hb) 0
                      have r1 := cell_block (blk_keep y4 hb) 3
                      have s0 := cell_block y4 0
                      have s1 := cell_block y4 3
                      have z23_c := cell_block z23 0
                      have z23_f := frozen_block z23 0
                      have z24_c := cell_block z24s 0
                      have z24_f := frozen_block z24s 0
                      go_wp2_with (first | ((with_reducible refine Calmly.is_fl ?_); refine Calmly.mix_fl rfl ?_ (fun _ _ => ?_); (first | exact .move _ | exact .load _ _ | exact .fieldAddr _ _ _ (by kernel_rfl) | exact .assign _ | exact .binOp _ _ _ _ _ rfl | exact .indexAddr _ _ _ | exact .len _ _ (by kernel_rfl) | exact .field _ _ _ | exact .extract _ _ | exact .pick _ _ _ | exact .build _ _ | exact .slice _ _ _ _ _ | exact .unOp _ _ _ rfl | exact .index _ _ _ | exact .max _ _ _ rfl rfl | exact .min _ _ _ rfl rfl | exact .nilCheck _ _ rfl)) | ((with_reducible refine Calmly.is_gl ?_); refine Calmly.mix_gl rfl rfl rfl ?_; first | ((first | with_reducible refine Calmly.gl_tt ?_ (fun _ _ => ?_) | with_reducible refine Calmly.gl_ff ?_ (fun _ _ => ?_)); (first | exact .move _ | exact .load _ _ | exact .fieldAddr _ _ _ (by kernel_rfl) | exact .assign _ | exact .binOp _ _ _ _ _ rfl | exact .indexAddr _ _ _ | exact .len _ _ (by kernel_rfl) | exact .field _ _ _ | exact .extract _ _ | exact .pick _ _ _ | exact .build _ _ | exact .slice _ _ _ _ _ | exact .unOp _ _ _ rfl | exact .index _ _ _ | exact .max _ _ _ rfl rfl | exact .min _ _ _ rfl rfl | exact .nilCheck _ _ rfl)) | with_reducible refine Calmly.gl_tf (fun _ _ => ?_) | with_reducible refine Calmly.gl_ft (fun _ _ => ?_)) | ((with_reducible refine Calmly.is_eff ?_); refine Calmly.mix_eff rfl (fun _ _ => ?_)) | ((with_reducible refine Calmly.is_gf ?_); refine Calmly.mix_gf rfl rfl rfl ?_; first | with_reducible refine Calmly.gf_tt (fun _ _ => ?_) | with_reducible refine Calmly.gf_ff (fun _ _ => ?_) | with_reducible refine Calmly.gf_tf (kept_of hk) (fun _ _ => ?_) | with_reducible refine Calmly.gf_ft (kept_of hk) (fun _ _ => ?_)) | ((with_reducible refine Calmly.is_tail ?_); first | refine Calmly.mix_tail_nil ?_ | refine Calmly.mix_tail rfl (fun _ _ => ?_)) | ((with_reducible refine Calmly.is_kept ?_); refine ⟨kept_of hk, ?_⟩) | (with_reducible refine Calmly.mix_alt ?_ ?_))
                      go_roundw
                      case rel => exact .inr (.inl ⟨rfl, hb2, by simpa using z23b, by simpa using z24b⟩)
                      case measure => simp [intOf]
                  · as_aux_lemma =>
                      go_wp2_with fail
                      refine Calmly.wp_region_mix_at V5 (kept_of hb) 18 (.fl 0 <| .fl 1 <| .fl 2 <| .fl 3 <| .fl 4 <| .fl 5 <| .fl 6 <| .fl 7 <| .fl 8 <| .fl 9 <| .fl 10 <| .fl 11 <| .fl 12 <| .fl 13 <| .fl 14 <| .fl 15 <| .fl 16 <| .eff 17 <| .tail [18, 19]) (by kernel_rfl) (by kernel_rfl) ?_
                      replace z23 := blk_keep z23 (Below.refl _ _).drew
                      replace z24 := blk_keep z24 (Below.refl _ _).drew
                      replace hb := hb.drew
                      generalize wr.drew = Z at *
                      obtain ⟨hk, z24s, hb2, z23b, z24b⟩ := two_row hb (by omega) (by omega) (by omega) z23 z24 1 1 (.int .i64 (b + q)) (.int .i64 (-b))
                      have r0 := cell_block (blk_keep y4 hb) 1
                      have r1 := cell_block (blk_keep y4 hb) 4
                      have s0 := cell_block y4 1
                      have s1 := cell_block y4 4
                      have z23_c := cell_block z23 1
                      have z23_f := frozen_block z23 1
                      have z24_c := cell_block z24s 1
                      have z24_f := frozen_block z24s 1
                      go_wp2_with (first | ((with_reducible refine Calmly.is_fl ?_); refine Calmly.mix_fl rfl ?_ (fun _ _ => ?_); (first | exact .move _ | exact .load _ _ | exact .fieldAddr _ _ _ (by kernel_rfl) | exact .assign _ | exact .binOp _ _ _ _ _ rfl | exact .indexAddr _ _ _ | exact .len _ _ (by kernel_rfl) | exact .field _ _ _ | exact .extract _ _ | exact .pick _ _ _ | exact .build _ _ | exact .slice _ _ _ _ _ | exact .unOp _ _ _ rfl | exact .index _ _ _ | exact .max _ _ _ rfl rfl | exact .min _ _ _ rfl rfl | exact .nilCheck _ _ rfl)) | ((with_reducible refine Calmly.is_gl ?_); refine Calmly.mix_gl rfl rfl rfl ?_; first | ((first | with_reducible refine Calmly.gl_tt ?_ (fun _ _ => ?_) | with_reducible refine Calmly.gl_ff ?_ (fun _ _ => ?_)); (first | exact .move _ | exact .load _ _ | exact .fieldAddr _ _ _ (by kernel_rfl) | exact .assign _ | exact .binOp _ _ _ _ _ rfl | exact .indexAddr _ _ _ | exact .len _ _ (by kernel_rfl) | exact .field _ _ _ | exact .extract _ _ | exact .pick _ _ _ | exact .build _ _ | exact .slice _ _ _ _ _ | exact .unOp _ _ _ rfl | exact .index _ _ _ | exact .max _ _ _ rfl rfl | exact .min _ _ _ rfl rfl | exact .nilCheck _ _ rfl)) | with_reducible refine Calmly.gl_tf (fun _ _ => ?_) | with_reducible refine Calmly.gl_ft (fun _ _ => ?_)) | ((with_reducible refine Calmly.is_eff ?_); refine Calmly.mix_eff rfl (fun _ _ => ?_)) | ((with_reducible refine Calmly.is_gf ?_); refine Calmly.mix_gf rfl rfl rfl ?_; first | with_reducible refine Calmly.gf_tt (fun _ _ => ?_) | with_reducible refine Calmly.gf_ff (fun _ _ => ?_) | with_reducible refine Calmly.gf_tf (kept_of hk) (fun _ _ => ?_) | with_reducible refine Calmly.gf_ft (kept_of hk) (fun _ _ => ?_)) | ((with_reducible refine Calmly.is_tail ?_); first | refine Calmly.mix_tail_nil ?_ | refine Calmly.mix_tail rfl (fun _ _ => ?_)) | ((with_reducible refine Calmly.is_kept ?_); refine ⟨kept_of hk, ?_⟩) | (with_reducible refine Calmly.mix_alt ?_ ?_))
                      go_roundw
                      case rel => exact .inr (.inr (.inl ⟨rfl, hb2, by simpa using z23b, by simpa using z24b⟩))
                      case measure => simp [intOf]
                  · as_aux_lemma =>
                      go_wp2_with fail
                      refine Calmly.wp_region_mix_at V5 (kept_of hb) 18 (.fl 0 <| .fl 1 <| .fl 2 <| .fl 3 <| .fl 4 <| .fl 5 <| .fl 6 <| .fl 7 <| .fl 8 <| .fl 9 <| .fl 10 <| .fl 11 <| .fl 12 <| .fl 13 <| .fl 14 <| .fl 15 <| .fl 16 <| .eff 17 <| .tail [18, 19]) (by kernel_rfl) (by kernel_rfl) ?_
                      replace z23 := blk_keep z23 (Below.refl _ _).drew
                      replace z24 := blk_keep z24 (Below.refl _ _).drew
                      replace hb := hb.drew
                      generalize wr.drew = Z at *
                      obtain ⟨hk, z24s, hb2, z23b, z24b⟩ := two_row hb (by omega) (by omega) (by omega) z23 z24 2 2 (.int .i64 (c + r)) (.int .i64 (-c))
                      have r0 := cell_block (blk_keep y4 hb) 2
                      have r1 := cell_block (blk_keep y4 hb) 5
                      have s0 := cell_block y4 2
                      have s1 := cell_block y4 5
                      have z23_c := cell_block z23 2
                      have z23_f := frozen_block z23 2
                      have z24_c := cell_block z24s 2
                      have z24_f := frozen_block z24s 2
                      go_wp2_with (first | ((with_reducible refine Calmly.is_fl ?_); refine Calmly.mix_fl rfl ?_ (fun _ _ => ?_); (first | exact .move _ | exact .load _ _ | exact .fieldAddr _ _ _ (by kernel_rfl) | exact .assign _ | exact .binOp _ _ _ _ _ rfl | exact .indexAddr _ _ _ | exact .len _ _ (by kernel_rfl) | exact .field _ _ _ | exact .extract _ _ | exact .pick _ _ _ | exact .build _ _ | exact .slice _ _ _ _ _ | exact .unOp _ _ _ rfl | exact .index _ _ _ | exact .max _ _ _ rfl rfl | exact .min _ _ _ rfl rfl | exact .nilCheck _ _ rfl)) | ((with_reducible refine Calmly.is_gl ?_); refine Calmly.mix_gl rfl rfl rfl ?_; first | ((first | with_reducible refine Calmly.gl_tt ?_ (fun _ _ => ?_) | with_reducible refine Calmly.gl_ff ?_ (fun _ _ => ?_)); (first | exact .move _ | exact .load _ _ | exact .fieldAddr _ _ _ (by kernel_rfl) | exact .assign _ | exact .binOp _ _ _ _ _ rfl | exact .indexAddr _ _ _ | exact .len _ _ (by kernel_rfl) | exact .field _ _ _ | exact .extract _ _ | exact .pick _ _ _ | exact .build _ _ | exact .slice _ _ _ _ _ | exact .unOp _ _ _ rfl | exact .index _ _ _ | exact .max _ _ _ rfl rfl | exact .min _ _ _ rfl rfl | exact .nilCheck _ _ rfl)) | with_reducible refine Calmly.gl_tf (fun _ _ => ?_) | with_reducible refine Calmly.gl_ft (fun _ _ => ?_)) | ((with_reducible refine Calmly.is_eff ?_); refine Calmly.mix_eff rfl (fun _ _ => ?_)) | ((with_reducible refine Calmly.is_gf ?_); refine Calmly.mix_gf rfl rfl rfl ?_; first | with_reducible refine Calmly.gf_tt (fun _ _ => ?_) | with_reducible refine Calmly.gf_ff (fun _ _ => ?_) | with_reducible refine Calmly.gf_tf (kept_of hk) (fun _ _ => ?_) | with_reducible refine Calmly.gf_ft (kept_of hk) (fun _ _ => ?_)) | ((with_reducible refine Calmly.is_tail ?_); first | refine Calmly.mix_tail_nil ?_ | refine Calmly.mix_tail rfl (fun _ _ => ?_)) | ((with_reducible refine Calmly.is_kept ?_); refine ⟨kept_of hk, ?_⟩) | (with_reducible refine Calmly.mix_alt ?_ ?_))
                      go_roundw
                      case rel => exact .inr (.inr (.inr ⟨rfl, hb2, by simpa using z23b, by simpa using z24b⟩))
                      case measure => simp [intOf]
                  · as_aux_lemma =>
                      replace y3 := blk_keep y3 hb
                      replace y4 := blk_keep y4 hb
                      replace y5 := blk_keep y5 hb
                      replace z19 := blk_keep z19 hb
                      replace z21 := blk_keep z21 hb
                      replace BW := BW.trans (hb.mono BW.size)
                      clear hb hs5
                      have y3_0 := cell_block y3 0
                      have y3_1 := cell_block y3 1
                      have y3_2 := cell_block y3 2
                      have y3_3 := cell_block y3 3
                      have y3_4 := cell_block y3 4
                      have y3_5 := cell_block y3 5
                      have z24_0 := cell_block z24 0
                      have z24_1 := cell_block z24 1
                      have z24_2 := cell_block z24 2
                      go_wp2_with fail
                      clear y3_0 y3_1 y3_2 y3_3 y3_4 y3_5 z24_0 z24_1 z24_2
                      refine (FactorOf_any n1 d1 n2 d2 n3 d3 (-a) (-b) (-c) _ h1 h2 h3).mono ?_
                      rintro e w13 ⟨rfl, hs⟩
                      replace y3 := blk_keep y3 hs
                      replace y4 := blk_keep y4 hs
                      replace y5 := blk_keep y5 hs
                      replace z19 := blk_keep z19 hs
                      replace z21 := blk_keep z21 hs
                      replace z23 := blk_keep z23 hs
                      replace z24 := blk_keep z24 hs
                      replace BW := BW.trans (hs.mono BW.size)
                      clear hs
                      rw [HT.out.oE, HT.out.oV]
                      obtain ⟨t3, t4⟩ := HT.out.fit rfl
                      rw [t3, t4]
                      clear t3 t4
                      have z26 := alloc_new w13 (.cells #[.int .i64 ad, .int .i64 an] 77)
                      have hk := (Below.refl w13.heap.size w13).alloc (Nat.le_refl _) (.cells #[.int .i64 ad, .int .i64 an] 77)
                      replace y3 := blk_keep y3 hk
                      replace y4 := blk_keep y4 hk
                      replace y5 := blk_keep y5 hk
                      replace z19 := blk_keep z19 hk
                      replace z21 := blk_keep z21 hk
                      replace z23 := blk_keep z23 hk
                      replace BW := BW.trans (hk.mono BW.size)
                      clear hk
                      have d1' : (an != an) = false := by simp
                      have d2' : (ad != ad) = false := by simp
                      have z26_0 := cell_block z26 0
                      have z26_1 := cell_block z26 1
                      by_cases hz : G = 0
                      case neg => as_aux_lemma =>
                        have g1 : (G != 0) = true := by simpa using hz
                        have z19_0 := cell_block z19 0
                        have z19_1 := cell_block z19 1
                        go_wp2_with fail
                        go_ret
                        exact ⟨ret_bool (by simp), BW⟩
                      case pos => as_aux_lemma =>
                        subst hz
                        have z19_0 := cell_block z19 0
                        have z19_1 := cell_block z19 1
                        have z23_0 := cell_block z23 0
                        have z23_1 := cell_block z23 1
                        have z23_2 := cell_block z23 2
                        go_wp2_with fail
                        clear z26_0 z26_1
                        obtain ⟨q7, hq7⟩ : ∃ q, w13.heap.size = q := ⟨_, rfl⟩
                        rw [hq7] at z26 ⊢
                        generalize w13.alloc (.cells #[.int .i64 ad, .int .i64 an] 77) = W7 at *
                        clear z19_0 z19_1 z23_0 z23_1 z23_2
                        refine (rQuantityErr_any (a + p) (b + q) (c + r) _).mono ?_
                        rintro e w14 ⟨rfl, hs⟩
                        replace y3 := blk_keep y3 hs
                        replace y4 := blk_keep y4 hs
                        replace y5 := blk_keep y5 hs
                        replace z19 := blk_keep z19 hs
                        replace z21 := blk_keep z21 hs
                        replace z23 := blk_keep z23 hs
                        replace BW := BW.trans (hs.mono BW.size)
                        clear hs
                        obtain ⟨QS, hQS⟩ : ∃ S, qtyE (a + p) (b + q) (c + r) = S := ⟨_, rfl⟩
                        rw [hQS]
                        have HQS := Lib.hid hQS
                        clear hQS
                        by_cases hz : QS = 0
                        case neg => as_aux_lemma =>
                          have g1 : (QS != 0) = true := by simpa using hz
                          go_wp2_with fail
                          go_ret
                          exact ⟨ret_bool (by simp), BW⟩
                        case pos => as_aux_lemma =>
                          subst hz
                          obtain ⟨⟨i1, i2, i3, i4, i5, i6, i7, i8⟩, hP⟩ := HT.out.par rfl rfl
                          obtain ⟨P, hPP⟩ : ∃ P, V * U = P := ⟨_, rfl⟩
                          rw [hPP] at hP HT
                          obtain ⟨p1, hp1⟩ : ∃ t, (if smQ P then P.num else 0) = t := ⟨_, rfl⟩
                          obtain ⟨o1, ho1⟩ : ∃ t, (if smQ P then (P.den : Int) else 0) = t := ⟨_, rfl⟩
                          obtain ⟨s1, hs1⟩ : ∃ t, smQ P = t := ⟨_, rfl⟩
                          have m1 := sm_two HT.out.sm rfl rfl hp1 ho1
                          rw [hs1] at m1
                          have M1 := Lib.hid m1
                          have P1 := Lib.hid hp1
                          have O1 := Lib.hid ho1
                          have S1 := Lib.hid hs1
                          clear hp1 ho1 hs1 m1 hPP
                          have HP := Lib.hid hP
                          clear hP
                          have z19_0 := cell_block z19 0
                          have z19_1 := cell_block z19 1
                          have z21_0 := cell_block z21 0
                          have z21_1 := cell_block z21 1
                          go_wp2_with fail
                          clear z19_0 z19_1 z21_0 z21_1
                          refine (Product_any an ad bn bd _ i1 i2 i3 i4 i5 i6 i7 i8 P HP.out).mono ?_
                          rintro e w15 ⟨rfl, hs⟩
                          replace y3 := blk_keep y3 hs
                          replace y4 := blk_keep y4 hs
                          replace y5 := blk_keep y5 hs
                          replace z19 := blk_keep z19 hs
                          replace z21 := blk_keep z21 hs
                          replace z23 := blk_keep z23 hs
                          replace BW := BW.trans (hs.mono BW.size)
                          clear hs
                          rw [P1.out, O1.out, S1.out]
                          have z28 := alloc_new w15 (.cells #[.int .i64 p1, .int .i64 o1] 77)
                          have hk := (Below.refl w15.heap.size w15).alloc (Nat.le_refl _) (.cells #[.int .i64 p1, .int .i64 o1] 77)
                          replace y3 := blk_keep y3 hk
                          replace y4 := blk_keep y4 hk
                          replace y5 := blk_keep y5 hk
                          replace z19 := blk_keep z19 hk
                          replace z21 := blk_keep z21 hk
                          replace z23 := blk_keep z23 hk
                          replace BW := BW.trans (hk.mono BW.size)
                          clear hk
                          have y3_0 := cell_block y3 0
                          have y3_1 := cell_block y3 1
                          have y3_2 := cell_block y3 2
                          have y3_3 := cell_block y3 3
                          have y3_4 := cell_block y3 4
                          have y3_5 := cell_block y3 5
                          have z23_0 := cell_block z23 0
                          have z23_1 := cell_block z23 1
                          have z23_2 := cell_block z23 2
                          go_wp2_with fail
                          obtain ⟨q8, hq8⟩ : ∃ q, w15.heap.size = q := ⟨_, rfl⟩
                          rw [hq8] at z28 ⊢
                          generalize w15.alloc (.cells #[.int .i64 p1, .int .i64 o1] 77) = W8 at *
                          clear y3_0 y3_1 y3_2 y3_3 y3_4 y3_5 z23_0 z23_1 z23_2
                          refine (FactorOf_any n1 d1 n2 d2 n3 d3 (a + p) (b + q) (c + r) _ h1 h2 h3).mono ?_
                          rintro e w16 ⟨rfl, hs⟩
                          replace y3 := blk_keep y3 hs
                          replace y4 := blk_keep y4 hs
                          replace y5 := blk_keep y5 hs
                          replace z19 := blk_keep z19 hs
                          replace z21 := blk_keep z21 hs
                          replace z23 := blk_keep z23 hs
                          replace z28 := blk_keep z28 hs
                          replace BW := BW.trans (hs.mono BW.size)
                          clear hs
                          rw [HT.out.bE HQS.out, HT.out.bV]
                          have M2 := M1.out
                          obtain ⟨dn, hdn⟩ : ∃ t, qN FD P = t := ⟨_, rfl⟩
                          obtain ⟨dd, hdd⟩ : ∃ t, qD FD P = t := ⟨_, rfl⟩
                          rw [hdn, hdd] at M2 ⊢
                          clear hdn hdd M1
                          have z30 := alloc_new w16 (.cells #[.int .i64 dn, .int .i64 dd] 77)
                          have hk := (Below.refl w16.heap.size w16).alloc (Nat.le_refl _) (.cells #[.int .i64 dn, .int .i64 dd] 77)
                          replace y3 := blk_keep y3 hk
                          replace y4 := blk_keep y4 hk
                          replace y5 := blk_keep y5 hk
                          replace z19 := blk_keep z19 hk
                          replace z21 := blk_keep z21 hk
                          replace z23 := blk_keep z23 hk
                          replace z28 := blk_keep z28 hk
                          replace BW := BW.trans (hk.mono BW.size)
                          clear hk
                          have z28_0 := cell_block z28 0
                          have z28_1 := cell_block z28 1
                          have z30_0 := cell_block z30 0
                          have z30_1 := cell_block z30 1
                          clear HT i1 i2 i3 i4 i5 i6 i7 i8 HP P1 O1 S1 HK1 HK2 HQS hbad
                          rcases M2 with ⟨rfl, rfl, rfl, rfl⟩ | ⟨rfl, rfl, rfl, rfl⟩
                          all_goals as_aux_lemma =>
                            go_wp2_with fail
                            go_ret
                            exact ⟨ret_bool (by simp), BW⟩
end Go.Proofs.Ytaiikekgckjdeaa
