/- Each step balances: the law's walk. Printed by gen_b3.py. -/
import Derived.Test.YtaiikekgckjdeaaK29
namespace Go.Proofs.Ytaiikekgckjdeaa
open Go.RowKit
open Calmly (Kept)
/-- A state of a row of states. -/
structure RwC (W : World) (sb so k : Nat) (x : StR) (s : St) : Prop where
  c0 : W.cell? ⟨sb, so + k * 3, none⟩ = some (hv x.1)
  c1 : W.cell? ⟨sb, so + k * 3 + 1, none⟩ = some (hv x.2.1)
  c2 : W.cell? ⟨sb, so + k * 3 + 2, none⟩ = some (hv x.2.2)
  st : StV W x s
theorem RwC.keep {W W' : World} {sb so k : Nat} {x : StR} {s : St} (h : RwC W sb so k x s) (hb : Below W.heap.size W W') : RwC W' sb so k x s := ⟨cell_keep h.c0 hb, cell_keep h.c1 hb, cell_keep h.c2 hb, h.st.keep hb⟩
/-- A box with a state, a box with a balance. -/
structure SbB (W : World) (q : Nat) (s : St) : Prop where
  ex : ∃ x : StR, W.heap[q]? = some (.cells #[hv x.1, hv x.2.1, hv x.2.2] 97) ∧ StV W x s
theorem SbB.keep {W W' : World} {q : Nat} {s : St} (h : SbB W q s) (hb : Below W.heap.size W W') : SbB W' q s := by
  obtain ⟨x, h1, h2⟩ := h
  exact ⟨x, blk_keep h1 hb, h2.keep hb⟩
structure BbB (W : World) (q : Nat) (b1 b2 b3 b4 : Int) : Prop where
  blk : W.heap[q]? = some (.cells #[.int .i64 b1, .int .i64 b2, .int .i64 b3, .int .i64 b4] 103)
theorem BbB.keep {W W' : World} {q : Nat} {b1 b2 b3 b4 : Int} (h : BbB W q b1 b2 b3 b4) (hb : Below W.heap.size W W') : BbB W' q b1 b2 b3 b4 := ⟨blk_keep h.blk hb⟩
theorem kept_st4B {W w : World} {r : Nat} {x y z u u0 u1 u2 u3 : Value} {t : TypeId} {G : Prop} (h : Below W.heap.size W w) (hr : W.heap.size ≤ r) (p : w.heap[r]? = some (.cells #[u0, u1, u2, u3] t))
    (k : Below W.heap.size W ((((w.setCell ⟨r, 0, none⟩ x).setCell ⟨r, 1, none⟩ y).setCell ⟨r, 2, none⟩ z).setCell ⟨r, 3, none⟩ u) →
      ((((w.setCell ⟨r, 0, none⟩ x).setCell ⟨r, 1, none⟩ y).setCell ⟨r, 2, none⟩ z).setCell ⟨r, 3, none⟩ u).heap[r]? = some (.cells #[x, y, z, u] t) → G) : Kept W ((((w.setCell ⟨r, 0, none⟩ x).setCell ⟨r, 1, none⟩ y).setCell ⟨r, 2, none⟩ z).setCell ⟨r, 3, none⟩ u) ∧ G := by
  have h1 := (((h.setCell (p := ⟨r, 0, none⟩) hr x).setCell (p := ⟨r, 1, none⟩) hr y).setCell (p := ⟨r, 2, none⟩) hr z).setCell (p := ⟨r, 3, none⟩) hr u
  refine ⟨kept_of h1, k h1 ?_⟩
  have := setBlk (setBlk (setBlk (setBlk p 0 x) 1 y) 2 z) 3 u
  simpa using this
theorem st_small {fs : List Fl} {s : St} {W : World} {x : StR} (ok : StOk fs s) (h : StV W x s) : x.1.2.1 = fs.length ∧ x.2.1.2.1 = fs.length ∧ x.2.2.2.1 = fs.length ∧ (∀ i, i < x.2.2.2.1 → (s.2.2[i]?.getD ho0).2.length ≤ 1000) := by
  obtain ⟨h1, _, h3, _, ⟨raw, h5⟩, _⟩ := h
  have l3 : x.2.2.2.1 = fs.length := by rw [h5.row.len, h5.len, ok.hol]
  refine ⟨by rw [h1.len, ok.now], by rw [h3.len, ok.bef], l3, fun i hi => ?_⟩
  have hk := ok.ok i (by omega)
  have := hk.same
  have := hk.len
  omega
theorem take_enc : ∀ (l : List StR) (m : Nat), (l.take m).flatMap encStR = (l.flatMap encStR).take (m * 3)
  | [], m => by simp
  | x :: l, 0 => by simp
  | x :: l, m + 1 => by
    rw [List.take_succ_cons, List.flatMap_cons, List.flatMap_cons, take_enc l m, show (m + 1) * 3 = (encStR x).length + m * 3 by rw [encStR_len]; omega, List.take_length_add_append]
theorem SStR.take {w : World} {a : Option Addr} {n c m : Nat} {l : List StR} (h : SStR w a n c l) (hm : m ≤ n) : SStR w a m c (l.take m) := by
  obtain ⟨h1, h2, h3, h4⟩ := h
  unfold SStR
  rw [take_enc]
  refine ⟨by rw [List.length_take, h1]; omega, by omega, h3, ?_⟩
  rcases h4 with h4 | ⟨b, off, ha, hc⟩
  · exact .inl h4
  · refine .inr ⟨b, off, ha, fun i hi => ?_⟩
    rw [hc i (by omega), List.getElem?_take, if_pos (by omega)]
theorem StsV.take {w : World} {a : Option Addr} {n c m : Nat} {raw : List StR} {ss : List St} (h : StsV w a n c raw ss) (hm : m ≤ n) : StsV w a m c (raw.take m) (ss.take m) := by
  have h1 := h.row.len
  have h2 := h.len
  refine ⟨h.row.take hm, by simp; omega, fun i hi => ?_⟩
  rw [List.length_take] at hi
  rw [List.getElem?_take, List.getElem?_take, if_pos (by omega), if_pos (by omega)]
  exact h.st i (by omega)
theorem flag_step {fs : List Fl} {j : Nat} {x0 : Int} (h : (fs[j]?.getD fl0).1 = x0) : decide (∀ i, i < j + 1 → baM fs i = 1) = (decide (∀ i, i < j → baM fs i = 1) && decide (x0 = 1)) := by
  have hb : baM fs j = x0 := h
  rw [← Bool.decide_and, decide_eq_decide]
  refine ⟨fun h => ⟨fun i hi => h i (by omega), by rw [← hb]; exact h j (by omega)⟩, fun h i hi => ?_⟩
  rcases Nat.lt_or_ge i j with h' | h'
  · exact h.1 i h'
  · rw [show i = j by omega, hb]
    exact h.2
theorem wp_actB {P : Program} {c : Code} {Q : Exit → Act → World → Prop} {a : Act} {w : World} (S : Act → Prop) (hS : S a) (h : ∀ b, S b → c.wp P Q b w) : c.wp P Q a w := h a hS
theorem same_refl (a b : Option Addr) (n c m d : Nat) (raw raw' : List StR) (ss : List St) (w : World) (h1 : StsV w a n c raw ss) (h2 : StsV w b m d raw' ss) :
    Calls Try.prog 20 #[.slice a n c, .slice b m d] w fun e w' => e = .returned (.bool true) ∧ Below w.heap.size w w' :=
  (rSameStates_any a b n c m d raw raw' ss ss w h1 h2).mono (fun _ _ h => ⟨h.1.trans (ret_bool (decide_eq_true rfl)), h.2⟩)
set_option maxRecDepth 100000 in
set_option maxHeartbeats 40000000 in
theorem ModelBalance_walk (a ma : Option Addr) (n c mn mc : Nat) (raw : List FlR) (fs : List Fl) (m : List Int) (M : Int) (w : World) (h1 : FrV w a n c raw fs) (h2 : SI w ma mn mc m) :
    Calls Try.prog 10 #[.agg #[.slice a n c], .slice ma mn mc, .int .i64 M] w fun e w' => e = .returned (.bool true) ∧ Below w.heap.size w w' := by
  have hn := h1.n_
  have hmn := h2.len
  have q0 := h1.row.cap
  have m0 := h1.row.max
  have m2 := h2.max
  have q2 := h2.cap
  have HN := Lib.hid hn
  have HMN := Lib.hid hmn
  clear hn hmn
  obtain ⟨FE, hFE⟩ : ∃ x, (frmE fs).2 = x := ⟨_, rfl⟩
  obtain ⟨ME, hME⟩ : ∃ x, rmoE m = x := ⟨_, rfl⟩
  obtain ⟨GE, hGE⟩ : ∃ x, unlessE (grd M) 2 = x := ⟨_, rfl⟩
  have HFE := Lib.hid hFE
  have HME := Lib.hid hME
  have HGE := Lib.hid hGE
  clear hFE hME hGE
  have y3 := alloc_new w (.cells #[.slice a n c] 24)
  have BW : Below w.heap.size w (w.alloc (.cells #[.slice a n c] 24)) := (Below.refl _ _).alloc (Nat.le_refl _) _
  go_enter Try.func10, Try.ntmps10
  go_wp2_with fail
  generalize w.alloc (.cells #[.slice a n c] 24) = W at *
  refine (awake_any _).mono ?_
  rintro e w1 ⟨rfl, hs⟩
  dsimp only
  replace y3 := blk_keep y3 hs
  replace BW := BW.trans (hs.mono BW.size)
  clear hs
  have f0 := cell_block y3 0
  go_wp2_with fail
  refine (Few_any a n c raw fs _ (h1.keep BW)).mono ?_
  rintro e w2 ⟨B, rfl, hB, hs⟩
  dsimp only
  replace y3 := blk_keep y3 hs
  replace BW := BW.trans (hs.mono BW.size)
  clear hs f0
  have f0 := cell_block y3 0
  cases B
  case false =>
    go_wp2_with fail
    go_ret
    exact ⟨ret_bool (by simp), BW⟩
  have hB5 := hB rfl
  have HB5 := Lib.hid hB5
  have hn7 : n ≤ 7 := by have := HN.out; omega
  clear hB hB5
  by_cases d1 : (20 : Int) < (mn : Int)
  case pos =>
    go_wp2_with fail
    go_ret
    exact ⟨ret_bool (by simp), BW⟩
  go_wp2_with fail
  refine (rFrameErr_any a n c raw fs _ (h1.keep BW)).mono ?_
  rintro e w3 ⟨rfl, hs⟩
  dsimp only
  rw [HFE.out]
  replace y3 := blk_keep y3 hs
  replace BW := BW.trans (hs.mono BW.size)
  clear hs f0
  by_cases d2 : FE = 0
  case neg =>
    have b1 : (FE != 0) = true := by simpa using d2
    go_wp2_with fail
    go_ret
    exact ⟨ret_bool (by simp), BW⟩
  subst d2
  go_wp2_with fail
  refine (rMotionErr_any ma mn mc m _ (h2.keep BW)).mono ?_
  rintro e w4 ⟨rfl, rfl⟩
  dsimp only
  rw [HME.out]
  by_cases d2 : ME = 0
  case neg =>
    have b1 : (ME != 0) = true := by simpa using d2
    go_wp2_with fail
    go_ret
    exact ⟨ret_bool (by simp), BW⟩
  subst d2
  go_wp2_with fail
  refine (rGroundErr_any M _).mono ?_
  rintro e w4 ⟨rfl, rfl⟩
  dsimp only
  rw [HGE.out]
  by_cases d2 : GE = 0
  case neg =>
    have b1 : (GE != 0) = true := by simpa using d2
    go_wp2_with fail
    go_ret
    exact ⟨ret_bool (by simp), BW⟩
  subst d2
  have f0 := cell_block y3 0
  go_wp2_with fail
  have hgr : grd M = true := unlessG_zero HGE.out (by decide)
  have hmo := rmoE_ok HME.out
  have HSP := Lib.hid (fun (i : Nat) (hi : i < fs.length) => Nat.le_trans (HB5.out.2 i hi) (show 6 ≤ 1000 by decide))
  have hrE : runE fs m = 0 := by rw [runE_two, if_pos HFE.out]; exact HME.out
  have HGR := Lib.hid hgr
  have HMO := Lib.hid hmo
  have HRE := Lib.hid hrE
  clear hgr hmo hrE
  refine (CopyFrame_any a n c raw fs _ (h1.keep BW) (by omega) HSP.out).mono ?_
  rintro e w5 ⟨a1, c1, raw1, rfl, hF1, hs⟩
  dsimp only
  replace y3 := blk_keep y3 hs
  replace BW := BW.trans (hs.mono BW.size)
  clear hs f0
  go_wp2_with fail
  refine (copyInts_any ma mn mc m _ (h2.keep BW) (by omega)).mono ?_
  rintro e w6 ⟨a2, c2, rfl, hM, hs⟩
  dsimp only
  replace y3 := blk_keep y3 hs
  replace BW := BW.trans (hs.mono BW.size)
  replace hF1 := hF1.keep hs
  clear hs
  go_wp2_with fail
  refine (RunOf_any a1 a2 n c1 mn c2 raw1 fs m _ hF1 hM.si).mono ?_
  rintro e w7 ⟨sa, sn, sc, st, rfl, hR, hs⟩
  dsimp only
  rw [HRE.out] at hR ⊢
  replace y3 := blk_keep y3 hs
  replace BW := BW.trans (hs.mono BW.size)
  clear hs hF1 hM
  have hst := hR.storey
  rw [if_pos rfl] at hst
  obtain ⟨rw1, hSt⟩ := hR.states rfl
  have hSV : StsV w7 sa sn sc rw1 (allS fs m) := hSt.sv
  have hsn : sn = (allS fs m).length := by rw [hSV.row.len, hSV.len]
  obtain ⟨k1, k2, k3, k4⟩ := run_len (fs := fs) m
  rw [← hsn] at k1 k2 k3
  rw [← hst] at k3 k4
  rw [← HMN.out] at k2 k3
  rw [← HN.out] at k4
  have ms1 := hSV.row.max
  have ms2 := hSV.row.cap
  have HST := Lib.hid hst
  have HSN := Lib.hid hsn
  have HSV := Lib.hid hSV
  have K3 := Lib.hid k3
  clear hR hSt hst hsn hSV k3 w1
  generalize w7 = W at *
  have f0 := cell_block y3 0
  iterate 25 go_step
  apply wp_seq_k
  intro KB hKB
  have hKB' := fun a w (h : Stop _) => hKB a w h.out
  clear hKB
  have hSV := HSV.out
  have HKB : ∀ (y28 y29 y30 y31 y32 y33 y34 y35 y36 y37 y38 y39 y40 y41 y42 y43 y44 y45 y46 y47 y48 y49 y50 y51 y52 y53 y54 y55 y56 y57 y58 y59 y60 y61 y62 y63 y64 y65 y66 y67 y68 y69 y70 y71 y72 y73 y74 y75 y76 y77 y78 y79 y80 y81 y82 y83 y84 y85 y86 y87 y88 y89 y90 y91 y92 y93 y94 y95 : Value), KB { tmps := #[.agg #[.slice a n c], .slice ma mn mc, .int .i64 M, .pointer (some ⟨w.heap.size, 0, none⟩), undef, undef, .bool false, .slice sa sn sc, .int .i64 st, .int .i64 0, undef, undef, undef, undef, undef, undef, undef, undef, undef, undef, undef, undef, undef, undef, undef, undef, undef, undef, y28, y29, y30, y31, y32, y33, y34, y35, y36, y37, y38, y39, y40, y41, y42, y43, y44, y45, y46, y47, y48, y49, y50, y51, y52, y53, y54, y55, y56, y57, y58, y59, y60, y61, y62, y63, y64, y65, y66, y67, y68, y69, y70, y71, y72, y73, y74, y75, y76, y77, y78, y79, y80, y81, y82, y83, y84, y85, y86, y87, y88, y89, y90, y91, y92, y93, y94, y95, undef, undef, undef, undef, undef, undef, undef, undef, undef, undef, undef, undef, undef, undef, undef, undef, undef, undef, undef, undef, undef, undef, undef, undef, undef, undef, undef, undef, undef, undef, undef, undef, undef, undef, undef, undef, undef, undef, undef, undef, undef, undef, undef, undef, undef, undef, undef, undef, undef, undef, undef, undef, undef, undef, undef, undef, undef, undef, undef, undef, undef, undef, undef, undef, undef, undef, undef, undef, undef, undef, undef, undef, undef, undef, undef, undef, undef, undef, undef, undef, undef, undef, undef, undef, undef, undef, undef, undef, undef, undef, undef, undef, undef, undef, undef, undef, undef, undef, undef, undef, undef, undef, undef, undef, undef, undef, undef, undef, undef, undef, undef, undef, undef, undef, undef, undef, undef, undef, undef, undef, undef, undef, undef, undef, undef, undef, undef, undef, undef, undef, undef, undef, undef, undef, undef, undef, undef, undef, undef, undef, undef, undef, undef, undef, undef, undef, undef, undef, undef, undef, undef, undef, undef, undef, undef, undef, undef, undef, undef, undef, undef, undef, undef, undef, undef, undef, undef, undef, undef, undef, undef, undef, undef, undef, undef, undef, undef, undef, undef, undef, undef, undef, undef, undef, undef, undef, undef, undef, undef, undef, undef, undef, undef, undef, undef, undef, undef, undef, undef, undef, undef, undef, undef, undef, undef, undef, undef, undef, undef, undef, undef, undef, undef, undef, undef, undef, undef, undef, undef, undef, undef, undef, undef, undef, undef, undef, undef, undef, undef, undef, undef, undef, undef, undef, undef, undef, undef, undef, undef, undef, undef, undef, undef, undef, undef, undef, undef, undef, undef, undef, undef, undef, undef, undef, undef, undef, undef, undef, undef, undef, undef, undef, undef, undef, undef, undef, undef, undef, undef, undef, undef, undef, undef, undef, undef], defers := [] } W := by
    intro y28 y29 y30 y31 y32 y33 y34 y35 y36 y37 y38 y39 y40 y41 y42 y43 y44 y45 y46 y47 y48 y49 y50 y51 y52 y53 y54 y55 y56 y57 y58 y59 y60 y61 y62 y63 y64 y65 y66 y67 y68 y69 y70 y71 y72 y73 y74 y75 y76 y77 y78 y79 y80 y81 y82 y83 y84 y85 y86 y87 y88 y89 y90 y91 y92 y93 y94 y95
    refine hKB' _ _ ⟨?_⟩
    clear hKB'
    try dsimp only
    go_wp2_with fail
    clear f0
    generalize W = W0 at *
    go_loopw [11] (fun i wr => ∃ k : Nat, k ≤ sn ∧ i = .int .i64 (k : Int) ∧ Below W0.heap.size W0 wr) (fun i _ => sn - (intOf i).toNat)
    case atStart => exact ⟨0, by omega, rfl, Below.refl _ _⟩
    case round =>
      obtain ⟨k, hk, rfl, hbr⟩ := hrel
      replace y3 := blk_keep y3 hbr
      replace hSV := hSV.keep hbr
      replace BW := BW.trans (hbr.mono BW.size)
      generalize wr = W at *
      by_cases hlt : k < sn
      case neg =>
        have hle : (sn : Int) ≤ (k : Int) := by omega
        as_aux_lemma =>
          obtain ⟨RR, hR1, hR2⟩ := run_more (fs := fs) m M
          have hE2 : runE fs (m ++ [M]) = 0 := by rw [runE_two, if_pos HFE.out]; exact rmoE_more HME.out (by have := HMN.out; omega) HGR.out
          have HR1 := Lib.hid hR1
          have HR2 := Lib.hid hR2
          have HE2 := Lib.hid hE2
          clear hR1 hR2 hE2
          have f0 := cell_block y3 0
          try dsimp only
          go_wp2_with fail
          refine (CopyFrame_any a n c raw fs _ (h1.keep BW) (by omega) HSP.out).mono ?_
          rintro e w5 ⟨a1, c1, raw1', rfl, hF1, hs⟩
          dsimp only
          clear f0
          replace hSV := hSV.keep hs
          replace y3 := blk_keep y3 hs
          replace BW := BW.trans (hs.mono BW.size)
          clear hs
          try dsimp only
          go_wp2_with fail
          refine (copyInts_any ma mn mc m _ (h2.keep BW) (by omega)).mono ?_
          rintro e w6 ⟨a2, c2, rfl, hM, hs6⟩
          dsimp only
          have hz6 := hs6.size
          try dsimp only
          go_wp2_with (first | (at_builtin; refine appI rfl _ _ rfl hM rfl rfl (by omega) (by omega) ?_; intro a3 c3 w7 ho5 hb5 hs5))
          have hs := hs6.trans hb5
          replace hF1 := hF1.keep hs
          replace hSV := hSV.keep hs
          replace y3 := blk_keep y3 hs
          replace BW := BW.trans (hs.mono BW.size)
          clear hs
          clear hM hs6 hb5 hs5 hz6
          refine (RunOf_any a1 a3 n c1 (mn + 1) c3 raw1' fs (m ++ [M]) _ hF1 ho5.si).mono ?_
          rintro e w8 ⟨la, ln, lc, st2, rfl, hR, hs⟩
          dsimp only
          rw [HE2.out] at hR ⊢
          replace hSV := hSV.keep hs
          replace y3 := blk_keep y3 hs
          replace BW := BW.trans (hs.mono BW.size)
          clear hs
          clear hF1 ho5
          have hst2 := hR.storey
          rw [if_pos rfl] at hst2
          obtain ⟨rw2, hSt2⟩ := hR.states rfl
          have hLV : StsV w8 la ln lc rw2 (allS fs (m ++ [M])) := hSt2.sv
          have hln : ln = (allS fs (m ++ [M])).length := by rw [hLV.row.len, hLV.len]
          have k5 : sn ≤ ln := by rw [hln, HR1.out, HSN.out]; simp
          have k6 : 0 ≤ st → st2 = st ∧ ln = sn := fun h => by
            obtain ⟨e1, e2⟩ := HR2.out (by rw [← HST.out]; exact h)
            exact ⟨by rw [hst2, e2, HST.out], by rw [hln, HR1.out, e1, HSN.out]; simp⟩
          have k7 : (allS fs (m ++ [M])).take sn = allS fs m := by rw [HR1.out, HSN.out, List.take_left]
          have hLT := hLV.take k5
          rw [k7] at hLT
          have hcap : sn ≤ lc := by have := hLV.row.cap; omega
          have hl1 := hLV.row.max
          have HLT := Lib.hid hLT
          clear hR hSt2 hst2 hLV hln k7 hLT
          have c1 : ¬ (ln : Int) < (sn : Int) := by omega
          by_cases hs0 : 0 ≤ st
          case pos =>
            obtain ⟨rfl, rfl⟩ := k6 hs0
            try dsimp only
            go_wp2_with fail
            refine (same_refl la sa _ lc _ sc _ _ _ _ HLT.out hSV).mono ?_
            rintro e w9 ⟨rfl, hb9⟩
            dsimp only
            try dsimp only
            go_wp2_with fail
            go_ret
            exact ⟨ret_bool (by simp), BW.trans (hb9.mono BW.size)⟩
          case neg =>
            clear k6
            try dsimp only
            go_wp2_with fail
            refine (same_refl la sa _ lc _ sc _ _ _ _ HLT.out hSV).mono ?_
            rintro e w9 ⟨rfl, hb9⟩
            dsimp only
            try dsimp only
            go_wp2_with fail
            go_ret
            exact ⟨ret_bool (by simp), BW.trans (hb9.mono BW.size)⟩
      obtain ⟨sb, so, rfl, hcs⟩ := hSV.row.at_ (by omega)
      obtain ⟨s, hs⟩ : ∃ s, (allS fs m)[k]?.getD st0' = s := ⟨_, rfl⟩
      obtain ⟨g, hg⟩ : ∃ g, m[k]?.getD 0 = g := ⟨_, rfl⟩
      have hsk := stpK_at (m := m) HFE.out HMO.out.2 (k := k) (by rw [← HSN.out]; exact hlt)
      rw [hs, hg] at hsk
      have hst := hSV.st k (by rw [← HSN.out]; exact hlt)
      rw [hs] at hst
      obtain ⟨c0, c1', c2'⟩ := hcs k hlt
      obtain ⟨x, hx⟩ : ∃ x, rw1[k]?.getD str0 = x := ⟨_, rfl⟩
      rw [hx] at c0 c1' c2' hst
      have hKc : RwC W sb so k x s := ⟨c0, c1', c2', hst⟩
      have hsm := st_small hsk.ok hst
      have HSK := Lib.hid hsk
      have HS := Lib.hid hs
      have HG := Lib.hid hg
      clear hcs hs hg hsk hst c0 c1' c2' hx
      obtain ⟨⟨x1, x2, x3⟩, ⟨x4, x5, x6⟩, ⟨x7, x8, x9⟩⟩ := x
      dsimp only at hsm
      obtain ⟨l1, l2, l3, hsl⟩ := hsm
      rw [← HN.out] at l1 l2 l3
      have HSL := Lib.hid hsl
      clear hsl
      have n1 : x2 ≤ 1000 := by omega
      have n2 : x5 ≤ 1000 := by omega
      have n3 : x8 ≤ 1000 := by omega
      have L1 := Lib.hid l1
      have L2 := Lib.hid l2
      have L3 := Lib.hid l3
      clear l1 l2 l3
      have hi : (k : Int) < (sn : Int) := by omega
      have hi0 : (0 : Int) ≤ (k : Int) := by omega
      try dsimp only
      go_wp2_with fail
      refine Calmly.wp_region_mix 6 (.fl 0 <| .fl 1 <| .fl 2 <| .fl 3 <| .fl 4 <| .eff 5 <| .tail [6]) (by kernel_rfl) (by kernel_rfl) ?_
      have BD : Below W.heap.size W W.drew := (Below.refl _ _).drew
      replace hSV := hSV.keep BD
      replace hKc := hKc.keep BD
      replace y3 := blk_keep y3 BD
      replace hbr := hbr.trans (BD.mono hbr.size)
      replace BW := BW.trans (BD.mono BW.size)
      clear BD
      generalize W.drew = V at *
      have hk := Below.refl V.heap.size V
      have f0 := cell_block y3 0
      have c0hKc := hKc.c0
      have c1hKc := hKc.c1
      have c2hKc := hKc.c2
      dsimp only [hv] at c0hKc c1hKc c2hKc
      have hF := h1.keep BW
      have hSt := hKc.st.w
      try dsimp only
      go_wp2_with (first | ((with_reducible refine Calmly.is_fl ?_); refine Calmly.mix_fl rfl ?_ (fun _ _ => ?_); (first | exact .move _ | exact .load _ _ | exact .fieldAddr _ _ _ (by kernel_rfl) | exact .assign _ | exact .binOp _ _ _ _ _ rfl | exact .indexAddr _ _ _ | exact .len _ _ (by kernel_rfl) | exact .field _ _ _ | exact .extract _ _ | exact .pick _ _ _ | exact .build _ _ | exact .slice _ _ _ _ _ | exact .unOp _ _ _ rfl | exact .index _ _ _ | exact .max _ _ _ rfl rfl | exact .min _ _ _ rfl rfl | exact .nilCheck _ _ rfl)) | ((with_reducible refine Calmly.is_gl ?_); refine Calmly.mix_gl rfl rfl rfl ?_; first | ((first | with_reducible refine Calmly.gl_tt ?_ (fun _ _ => ?_) | with_reducible refine Calmly.gl_ff ?_ (fun _ _ => ?_)); (first | exact .move _ | exact .load _ _ | exact .fieldAddr _ _ _ (by kernel_rfl) | exact .assign _ | exact .binOp _ _ _ _ _ rfl | exact .indexAddr _ _ _ | exact .len _ _ (by kernel_rfl) | exact .field _ _ _ | exact .extract _ _ | exact .pick _ _ _ | exact .build _ _ | exact .slice _ _ _ _ _ | exact .unOp _ _ _ rfl | exact .index _ _ _ | exact .max _ _ _ rfl rfl | exact .min _ _ _ rfl rfl | exact .nilCheck _ _ rfl)) | with_reducible refine Calmly.gl_tf (fun _ _ => ?_) | with_reducible refine Calmly.gl_ft (fun _ _ => ?_)) | ((with_reducible refine Calmly.is_eff ?_); refine Calmly.mix_eff rfl (fun _ _ => ?_)) | ((with_reducible refine Calmly.is_gf ?_); refine Calmly.mix_gf rfl rfl rfl ?_; first | with_reducible refine Calmly.gf_tt (fun _ _ => ?_) | with_reducible refine Calmly.gf_ff (fun _ _ => ?_) | with_reducible refine Calmly.gf_tf (kept_of hk) (fun _ _ => ?_) | with_reducible refine Calmly.gf_ft (kept_of hk) (fun _ _ => ?_)) | ((with_reducible refine Calmly.is_tail ?_); first | refine Calmly.mix_tail_nil ?_ | refine Calmly.mix_tail rfl (fun _ _ => ?_)) | ((with_reducible refine Calmly.is_kept ?_); refine ⟨kept_of hk, ?_⟩) | (with_reducible refine Calmly.mix_alt ?_ ?_))
      refine (rStateErr_any a x1 x4 x7 n c x2 x3 x5 x6 x8 x9 raw fs s _ (hF.keep hk) (hSt.keep hk) HFE.out).mono ?_
      rintro e w5 ⟨rfl, hb5⟩
      rw [HSK.out.st]
      replace hk := step_of hk hb5
      clear hb5
      by_cases hkm : k = mn
      case pos =>
        have b1 : ((k : Int) == (mn : Int)) = true := by simp; omega
        try dsimp only
        go_wp2_with (first | ((with_reducible refine Calmly.is_fl ?_); refine Calmly.mix_fl rfl ?_ (fun _ _ => ?_); (first | exact .move _ | exact .load _ _ | exact .fieldAddr _ _ _ (by kernel_rfl) | exact .assign _ | exact .binOp _ _ _ _ _ rfl | exact .indexAddr _ _ _ | exact .len _ _ (by kernel_rfl) | exact .field _ _ _ | exact .extract _ _ | exact .pick _ _ _ | exact .build _ _ | exact .slice _ _ _ _ _ | exact .unOp _ _ _ rfl | exact .index _ _ _ | exact .max _ _ _ rfl rfl | exact .min _ _ _ rfl rfl | exact .nilCheck _ _ rfl)) | ((with_reducible refine Calmly.is_gl ?_); refine Calmly.mix_gl rfl rfl rfl ?_; first | ((first | with_reducible refine Calmly.gl_tt ?_ (fun _ _ => ?_) | with_reducible refine Calmly.gl_ff ?_ (fun _ _ => ?_)); (first | exact .move _ | exact .load _ _ | exact .fieldAddr _ _ _ (by kernel_rfl) | exact .assign _ | exact .binOp _ _ _ _ _ rfl | exact .indexAddr _ _ _ | exact .len _ _ (by kernel_rfl) | exact .field _ _ _ | exact .extract _ _ | exact .pick _ _ _ | exact .build _ _ | exact .slice _ _ _ _ _ | exact .unOp _ _ _ rfl | exact .index _ _ _ | exact .max _ _ _ rfl rfl | exact .min _ _ _ rfl rfl | exact .nilCheck _ _ rfl)) | with_reducible refine Calmly.gl_tf (fun _ _ => ?_) | with_reducible refine Calmly.gl_ft (fun _ _ => ?_)) | ((with_reducible refine Calmly.is_eff ?_); refine Calmly.mix_eff rfl (fun _ _ => ?_)) | ((with_reducible refine Calmly.is_gf ?_); refine Calmly.mix_gf rfl rfl rfl ?_; first | with_reducible refine Calmly.gf_tt (fun _ _ => ?_) | with_reducible refine Calmly.gf_ff (fun _ _ => ?_) | with_reducible refine Calmly.gf_tf (kept_of hk) (fun _ _ => ?_) | with_reducible refine Calmly.gf_ft (kept_of hk) (fun _ _ => ?_)) | ((with_reducible refine Calmly.is_tail ?_); first | refine Calmly.mix_tail_nil ?_ | refine Calmly.mix_tail rfl (fun _ _ => ?_)) | ((with_reducible refine Calmly.is_kept ?_); refine ⟨kept_of hk, ?_⟩) | (with_reducible refine Calmly.mix_alt ?_ ?_))
        replace hbr := hbr.trans (hk.mono hbr.size)
        go_roundw
        case rel => exact ⟨k + 1, by omega, by go_num, hbr⟩
        case measure => simp [intOf]; omega
      have hkm2 : k < mn := by omega
      clear hkm
      have b1 : ((k : Int) == (mn : Int)) = false := by simp; omega
      obtain ⟨mb, mo, rfl, hmc⟩ := (h2.keep BW).at_ (by omega)
      have hmk := hmc k hkm2
      rw [HG.out] at hmk
      clear hmc
      have hops := HSK.out.ops (by rw [← HMN.out]; exact hkm2)
      have hgb := HMO.out.2 k (by rw [← HMN.out]; exact hkm2)
      rw [HG.out] at hgb
      have hsb := stf_bd HFE.out HSK.out.st
      have hbb := bal_bd HSK.out.ok hgb hsb.1 hsb.2 (Nat.le_refl fs.length)
      obtain ⟨⟨B1, B2, B3, B4⟩, hB4⟩ : ∃ x, bal4 fs s g = x := ⟨_, rfl⟩
      have hB5 := hB4
      rw [bal4, if_pos hops] at hB5
      injection hB5 with e1 e2
      injection e2 with e2 e3
      injection e3 with e3 e4
      have hsum := bal_sum fs s g fs.length
      have hBS : B1 = B2 + B3 - B4 := by omega
      have hBB : (-3000000000000000000 ≤ B2 ∧ B2 ≤ 3000000000000000000) ∧ (-3000000000000000000 ≤ B3 ∧ B3 ≤ 3000000000000000000) ∧ (-3000000000000000000 ≤ B4 ∧ B4 ≤ 3000000000000000000) := by omega
      obtain ⟨RE, hRE⟩ : ∃ x, stpE fs s g = x := ⟨_, rfl⟩
      obtain ⟨RS, hRS⟩ : ∃ x, stpS fs s g = x := ⟨_, rfl⟩
      have HOP := Lib.hid hops
      have HGB := Lib.hid hgb
      have HSB := Lib.hid hsb
      have HB4 := Lib.hid hB4
      have EK := Lib.hid e1
      have ES := Lib.hid e2
      have EG := Lib.hid e3
      have ER := Lib.hid e4
      have HBS := Lib.hid hBS
      have HBB := Lib.hid hBB
      have HPE := Lib.hid hRE
      have HPS := Lib.hid hRS
      clear hops hgb hsb hbb hB4 e1 e2 e3 e4 hsum hBS hBB hRE hRS
      try dsimp only
      go_wp2_with (first | ((with_reducible refine Calmly.is_fl ?_); refine Calmly.mix_fl rfl ?_ (fun _ _ => ?_); (first | exact .move _ | exact .load _ _ | exact .fieldAddr _ _ _ (by kernel_rfl) | exact .assign _ | exact .binOp _ _ _ _ _ rfl | exact .indexAddr _ _ _ | exact .len _ _ (by kernel_rfl) | exact .field _ _ _ | exact .extract _ _ | exact .pick _ _ _ | exact .build _ _ | exact .slice _ _ _ _ _ | exact .unOp _ _ _ rfl | exact .index _ _ _ | exact .max _ _ _ rfl rfl | exact .min _ _ _ rfl rfl | exact .nilCheck _ _ rfl)) | ((with_reducible refine Calmly.is_gl ?_); refine Calmly.mix_gl rfl rfl rfl ?_; first | ((first | with_reducible refine Calmly.gl_tt ?_ (fun _ _ => ?_) | with_reducible refine Calmly.gl_ff ?_ (fun _ _ => ?_)); (first | exact .move _ | exact .load _ _ | exact .fieldAddr _ _ _ (by kernel_rfl) | exact .assign _ | exact .binOp _ _ _ _ _ rfl | exact .indexAddr _ _ _ | exact .len _ _ (by kernel_rfl) | exact .field _ _ _ | exact .extract _ _ | exact .pick _ _ _ | exact .build _ _ | exact .slice _ _ _ _ _ | exact .unOp _ _ _ rfl | exact .index _ _ _ | exact .max _ _ _ rfl rfl | exact .min _ _ _ rfl rfl | exact .nilCheck _ _ rfl)) | with_reducible refine Calmly.gl_tf (fun _ _ => ?_) | with_reducible refine Calmly.gl_ft (fun _ _ => ?_)) | ((with_reducible refine Calmly.is_eff ?_); refine Calmly.mix_eff rfl (fun _ _ => ?_)) | ((with_reducible refine Calmly.is_gf ?_); refine Calmly.mix_gf rfl rfl rfl ?_; first | with_reducible refine Calmly.gf_tt (fun _ _ => ?_) | with_reducible refine Calmly.gf_ff (fun _ _ => ?_) | with_reducible refine Calmly.gf_tf (kept_of hk) (fun _ _ => ?_) | with_reducible refine Calmly.gf_ft (kept_of hk) (fun _ _ => ?_)) | ((with_reducible refine Calmly.is_tail ?_); first | refine Calmly.mix_tail_nil ?_ | refine Calmly.mix_tail rfl (fun _ _ => ?_)) | ((with_reducible refine Calmly.is_kept ?_); refine ⟨kept_of hk, ?_⟩) | (with_reducible refine Calmly.mix_alt ?_ ?_))
      clear b1
      clear f0 c0hKc c1hKc c2hKc hF hSt
      replace hSV := hSV.keep hk
      replace hKc := hKc.keep hk
      replace hmk := cell_keep hmk hk
      replace y3 := blk_keep y3 hk
      replace hbr := hbr.trans (hk.mono hbr.size)
      replace BW := BW.trans (hk.mono BW.size)
      clear hk
      generalize w5 = W at *
      refine Calmly.wp_region_mix 17 (.fl 0 <| .fl 2 <| .fl 3 <| .fl 4 <| .fl 5 <| .fl 7 <| .fl 8 <| .fl 9 <| .fl 10 <| .alt 1 (.alt 6 (.alt 11 (.fl 12 <| .fl 13 <| .fl 14 <| .eff 15 <| .eff 16 <| .tail [17]) (.eff 15 (.eff 11 <| .fl 12 <| .fl 13 <| .fl 14 <| .eff 16 <| .tail [17]))) (.eff 15 (.eff 6 <| .eff 11 <| .fl 12 <| .fl 13 <| .fl 14 <| .eff 16 <| .tail [17]))) (.eff 15 (.eff 1 <| .eff 6 <| .eff 11 <| .fl 12 <| .fl 13 <| .fl 14 <| .eff 16 <| .tail [17]))) (by kernel_rfl) (by kernel_rfl) ?_
      have BD : Below W.heap.size W W.drew := (Below.refl _ _).drew
      replace hSV := hSV.keep BD
      replace hKc := hKc.keep BD
      replace hmk := cell_keep hmk BD
      replace y3 := blk_keep y3 BD
      replace hbr := hbr.trans (BD.mono hbr.size)
      replace BW := BW.trans (BD.mono BW.size)
      clear BD
      generalize W.drew = V at *
      have hk := Below.refl V.heap.size V
      have f0 := cell_block y3 0
      have c0hKc := hKc.c0
      have c1hKc := hKc.c1
      have c2hKc := hKc.c2
      dsimp only [hv] at c0hKc c1hKc c2hKc
      have hF := h1.keep BW
      have hSt := hKc.st.w
      rename_i K15 hK15
      have hK15' := fun a w (h : Stop _) => hK15 a w h.out
      clear hK15
      have HK15 : ∀ (W : World) (q12 : Nat) (y6 y14 y15 y16 y17 y18 y19 y20 y21 y22 y23 y24 y99 y100 y101 y102 y103 y104 y105 y106 y107 y108 y109 y110 y111 y112 y113 y114 y115 y116 y117 y118 y119 y120 y121 y122 y123 y124 y125 y126 y127 y128 y129 y130 y131 y132 y133 y134 y135 y136 y137 y138 y139 y140 y141 y142 y143 y144 y145 y146 y147 y148 y149 y150 y151 y152 y153 y154 y155 y156 y157 y158 y159 y160 y161 y162 y163 y164 y165 y166 y167 y168 y169 y170 y171 y172 y173 y174 y175 y176 y177 y178 y179 y180 y181 y182 y183 y184 y185 y186 y187 y188 y189 y190 y191 y192 y193 y194 y195 y196 y197 y198 y199 y200 y201 y202 y203 y204 y205 y206 y207 y208 y209 y210 y211 y212 y213 y214 y215 y216 y217 y218 y219 y220 y221 y222 y223 y224 y225 y226 y227 y228 y229 y230 y231 y232 y233 y234 y235 y236 y237 y238 y239 y240 y241 y242 y243 y244 y245 y246 y247 y248 y249 y250 y251 y252 y253 y254 y255 y256 y257 y258 y259 y260 y261 y262 y263 y264 y265 y266 y267 y268 y269 y270 y271 y272 y273 y274 y275 y276 y277 y278 y279 y280 y281 y282 y283 y284 y285 y286 y287 y288 y289 y290 y291 y292 y293 y294 y295 y296 y297 y298 y299 y300 y301 y302 y303 y304 y305 y306 y307 y308 y309 y310 y311 y312 y313 y314 y315 y316 y317 y318 y319 y320 y321 y322 y323 y324 y325 y326 y327 : Value), Below V.heap.size V W → BbB W q12 B1 B2 B3 B4 → K15 { tmps := #[.agg #[.slice a n c], .slice (some ⟨mb, mo, none⟩) mn mc, .int .i64 M, .pointer (some ⟨w.heap.size, 0, none⟩), undef, undef, y6, .slice (some ⟨sb, so, none⟩) sn sc, .int .i64 st, .int .i64 0, .int .i64 (n : Int), .int .i64 (k : Int), .pointer (some ⟨q12, 0, none⟩), .int .i64 0, y14, y15, y16, y17, y18, y19, y20, y21, y22, y23, y24, undef, undef, undef, y28, y29, y30, y31, y32, y33, y34, y35, y36, y37, y38, y39, y40, y41, y42, y43, y44, y45, y46, y47, y48, y49, y50, y51, y52, y53, y54, y55, y56, y57, y58, y59, y60, y61, y62, y63, y64, y65, y66, y67, y68, y69, y70, y71, y72, y73, y74, y75, y76, y77, y78, y79, y80, y81, y82, y83, y84, y85, y86, y87, y88, y89, y90, y91, y92, y93, y94, y95, .pointer (some ⟨w.heap.size, 0, none⟩), .slice a n c, .int .i64 (n : Int), y99, y100, y101, y102, y103, y104, y105, y106, y107, y108, y109, y110, y111, y112, y113, y114, y115, y116, y117, y118, y119, y120, y121, y122, y123, y124, y125, y126, y127, y128, y129, y130, y131, y132, y133, y134, y135, y136, y137, y138, y139, y140, y141, y142, y143, y144, y145, y146, y147, y148, y149, y150, y151, y152, y153, y154, y155, y156, y157, y158, y159, y160, y161, y162, y163, y164, y165, y166, y167, y168, y169, y170, y171, y172, y173, y174, y175, y176, y177, y178, y179, y180, y181, y182, y183, y184, y185, y186, y187, y188, y189, y190, y191, y192, y193, y194, y195, y196, y197, y198, y199, y200, y201, y202, y203, y204, y205, y206, y207, y208, y209, y210, y211, y212, y213, y214, y215, y216, y217, y218, y219, y220, y221, y222, y223, y224, y225, y226, y227, y228, y229, y230, y231, y232, y233, y234, y235, y236, y237, y238, y239, y240, y241, y242, y243, y244, y245, y246, y247, y248, y249, y250, y251, y252, y253, y254, y255, y256, y257, y258, y259, y260, y261, y262, y263, y264, y265, y266, y267, y268, y269, y270, y271, y272, y273, y274, y275, y276, y277, y278, y279, y280, y281, y282, y283, y284, y285, y286, y287, y288, y289, y290, y291, y292, y293, y294, y295, y296, y297, y298, y299, y300, y301, y302, y303, y304, y305, y306, y307, y308, y309, y310, y311, y312, y313, y314, y315, y316, y317, y318, y319, y320, y321, y322, y323, y324, y325, y326, y327, undef, undef, undef, undef, undef, undef, undef, undef, undef, undef, undef, undef, undef, undef, undef, undef, undef, undef, undef, undef, undef, undef, undef, undef, undef, undef, undef, undef, undef, undef, undef, undef, undef, undef, undef, undef, undef, undef, undef, undef, undef, undef, undef], defers := [] } W := by
        intro W q12 y6 y14 y15 y16 y17 y18 y19 y20 y21 y22 y23 y24 y99 y100 y101 y102 y103 y104 y105 y106 y107 y108 y109 y110 y111 y112 y113 y114 y115 y116 y117 y118 y119 y120 y121 y122 y123 y124 y125 y126 y127 y128 y129 y130 y131 y132 y133 y134 y135 y136 y137 y138 y139 y140 y141 y142 y143 y144 y145 y146 y147 y148 y149 y150 y151 y152 y153 y154 y155 y156 y157 y158 y159 y160 y161 y162 y163 y164 y165 y166 y167 y168 y169 y170 y171 y172 y173 y174 y175 y176 y177 y178 y179 y180 y181 y182 y183 y184 y185 y186 y187 y188 y189 y190 y191 y192 y193 y194 y195 y196 y197 y198 y199 y200 y201 y202 y203 y204 y205 y206 y207 y208 y209 y210 y211 y212 y213 y214 y215 y216 y217 y218 y219 y220 y221 y222 y223 y224 y225 y226 y227 y228 y229 y230 y231 y232 y233 y234 y235 y236 y237 y238 y239 y240 y241 y242 y243 y244 y245 y246 y247 y248 y249 y250 y251 y252 y253 y254 y255 y256 y257 y258 y259 y260 y261 y262 y263 y264 y265 y266 y267 y268 y269 y270 y271 y272 y273 y274 y275 y276 y277 y278 y279 y280 y281 y282 y283 y284 y285 y286 y287 y288 y289 y290 y291 y292 y293 y294 y295 y296 y297 y298 y299 y300 y301 y302 y303 y304 y305 y306 y307 y308 y309 y310 y311 y312 y313 y314 y315 y316 y317 y318 y319 y320 y321 y322 y323 y324 y325 y326 y327 hb hV
        refine hK15' _ _ ⟨?_⟩
        clear hK15' hk f0 c0hKc c1hKc c2hKc hF hSt
        replace hSV := hSV.keep hb
        replace hKc := hKc.keep hb
        replace hmk := cell_keep hmk hb
        replace y3 := blk_keep y3 hb
        replace hbr := hbr.trans (hb.mono hbr.size)
        replace BW := BW.trans (hb.mono BW.size)
        clear hb
        clear V
        try dsimp only
        go_wp2_with fail
        refine Calmly.wp_region_mix 17 (.fl 0 <| .fl 2 <| .fl 3 <| .fl 4 <| .fl 5 <| .fl 7 <| .fl 8 <| .fl 9 <| .fl 10 <| .alt 1 (.alt 6 (.alt 11 (.fl 12 <| .fl 13 <| .fl 14 <| .eff 15 <| .eff 16 <| .tail [17]) (.eff 15 (.eff 11 <| .fl 12 <| .fl 13 <| .fl 14 <| .eff 16 <| .tail [17]))) (.eff 15 (.eff 6 <| .eff 11 <| .fl 12 <| .fl 13 <| .fl 14 <| .eff 16 <| .tail [17]))) (.eff 15 (.eff 1 <| .eff 6 <| .eff 11 <| .fl 12 <| .fl 13 <| .fl 14 <| .eff 16 <| .tail [17]))) (by kernel_rfl) (by kernel_rfl) ?_
        have BD : Below W.heap.size W W.drew := (Below.refl _ _).drew
        replace hSV := hSV.keep BD
        replace hKc := hKc.keep BD
        replace hV := hV.keep BD
        replace hmk := cell_keep hmk BD
        replace y3 := blk_keep y3 BD
        replace hbr := hbr.trans (BD.mono hbr.size)
        replace BW := BW.trans (BD.mono BW.size)
        clear BD
        generalize W.drew = V at *
        have hk := Below.refl V.heap.size V
        have f0 := cell_block y3 0
        have c0hKc := hKc.c0
        have c1hKc := hKc.c1
        have c2hKc := hKc.c2
        dsimp only [hv] at c0hKc c1hKc c2hKc
        have hF := h1.keep BW
        have hSt := hKc.st.w
        rename_i K16 hK16
        have hK16' := fun a w (h : Stop _) => hK16 a w h.out
        clear hK16
        have HK16 : ∀ (W : World) (q14 : Nat) (y6 y16 y17 y18 y19 y20 y21 y22 y23 y24 y99 y100 y101 y102 y103 y104 y105 y106 y107 y108 y109 y110 y111 y112 y113 y114 y115 y116 y117 y118 y119 y120 y121 y122 y123 y124 y125 y126 y127 y128 y129 y130 y131 y132 y133 y134 y135 y136 y137 y138 y139 y140 y141 y142 y143 y144 y145 y146 y147 y148 y149 y150 y151 y152 y153 y154 y155 y156 y157 y158 y159 y160 y161 y162 y163 y164 y165 y166 y167 y168 y169 y170 y171 y172 y173 y174 y175 y176 y177 y178 y179 y180 y181 y182 y183 y184 y185 y186 y187 y188 y189 y190 y191 y192 y193 y194 y195 y196 y197 y198 y199 y200 y201 y202 y203 y204 y205 y206 y207 y208 y209 y210 y211 y212 y213 y214 y215 y216 y217 y218 y219 y220 y221 y222 y223 y224 y225 y226 y227 y228 y229 y230 y231 y232 y233 y234 y235 y236 y237 y238 y239 y240 y241 y242 y243 y244 y245 y246 y247 y248 y249 y250 y251 y252 y253 y254 y255 y256 y257 y258 y259 y260 y261 y262 y263 y264 y265 y266 y267 y268 y269 y270 y271 y272 y273 y274 y275 y276 y277 y278 y279 y280 y281 y282 y283 y284 y285 y286 y287 y288 y289 y290 y291 y292 y293 y294 y295 y296 y297 y298 y299 y300 y301 y302 y303 y304 y305 y306 y307 y308 y309 y310 y311 y312 y313 y314 y315 y316 y317 y318 y319 y320 y321 y322 y323 y324 y325 y326 y327 : Value), Below V.heap.size V W → SbB W q14 RS → K16 { tmps := #[.agg #[.slice a n c], .slice (some ⟨mb, mo, none⟩) mn mc, .int .i64 M, .pointer (some ⟨w.heap.size, 0, none⟩), undef, undef, y6, .slice (some ⟨sb, so, none⟩) sn sc, .int .i64 st, .int .i64 0, .int .i64 (n : Int), .int .i64 (k : Int), .pointer (some ⟨q12, 0, none⟩), .int .i64 0, .pointer (some ⟨q14, 0, none⟩), .int .i64 RE, y16, y17, y18, y19, y20, y21, y22, y23, y24, undef, undef, undef, y28, y29, y30, y31, y32, y33, y34, y35, y36, y37, y38, y39, y40, y41, y42, y43, y44, y45, y46, y47, y48, y49, y50, y51, y52, y53, y54, y55, y56, y57, y58, y59, y60, y61, y62, y63, y64, y65, y66, y67, y68, y69, y70, y71, y72, y73, y74, y75, y76, y77, y78, y79, y80, y81, y82, y83, y84, y85, y86, y87, y88, y89, y90, y91, y92, y93, y94, y95, .pointer (some ⟨w.heap.size, 0, none⟩), .slice a n c, .int .i64 (n : Int), y99, y100, y101, y102, y103, y104, y105, y106, y107, y108, y109, y110, y111, y112, y113, y114, y115, y116, y117, y118, y119, y120, y121, y122, y123, y124, y125, y126, y127, y128, y129, y130, y131, y132, y133, y134, y135, y136, y137, y138, y139, y140, y141, y142, y143, y144, y145, y146, y147, y148, y149, y150, y151, y152, y153, y154, y155, y156, y157, y158, y159, y160, y161, y162, y163, y164, y165, y166, y167, y168, y169, y170, y171, y172, y173, y174, y175, y176, y177, y178, y179, y180, y181, y182, y183, y184, y185, y186, y187, y188, y189, y190, y191, y192, y193, y194, y195, y196, y197, y198, y199, y200, y201, y202, y203, y204, y205, y206, y207, y208, y209, y210, y211, y212, y213, y214, y215, y216, y217, y218, y219, y220, y221, y222, y223, y224, y225, y226, y227, y228, y229, y230, y231, y232, y233, y234, y235, y236, y237, y238, y239, y240, y241, y242, y243, y244, y245, y246, y247, y248, y249, y250, y251, y252, y253, y254, y255, y256, y257, y258, y259, y260, y261, y262, y263, y264, y265, y266, y267, y268, y269, y270, y271, y272, y273, y274, y275, y276, y277, y278, y279, y280, y281, y282, y283, y284, y285, y286, y287, y288, y289, y290, y291, y292, y293, y294, y295, y296, y297, y298, y299, y300, y301, y302, y303, y304, y305, y306, y307, y308, y309, y310, y311, y312, y313, y314, y315, y316, y317, y318, y319, y320, y321, y322, y323, y324, y325, y326, y327, undef, undef, undef, undef, undef, undef, undef, undef, undef, undef, undef, undef, undef, undef, undef, undef, undef, undef, undef, undef, undef, undef, undef, undef, undef, undef, undef, undef, undef, undef, undef, undef, undef, undef, undef, undef, undef, undef, undef, undef, undef, undef, undef], defers := [] } W := by
          intro W q14 y6 y16 y17 y18 y19 y20 y21 y22 y23 y24 y99 y100 y101 y102 y103 y104 y105 y106 y107 y108 y109 y110 y111 y112 y113 y114 y115 y116 y117 y118 y119 y120 y121 y122 y123 y124 y125 y126 y127 y128 y129 y130 y131 y132 y133 y134 y135 y136 y137 y138 y139 y140 y141 y142 y143 y144 y145 y146 y147 y148 y149 y150 y151 y152 y153 y154 y155 y156 y157 y158 y159 y160 y161 y162 y163 y164 y165 y166 y167 y168 y169 y170 y171 y172 y173 y174 y175 y176 y177 y178 y179 y180 y181 y182 y183 y184 y185 y186 y187 y188 y189 y190 y191 y192 y193 y194 y195 y196 y197 y198 y199 y200 y201 y202 y203 y204 y205 y206 y207 y208 y209 y210 y211 y212 y213 y214 y215 y216 y217 y218 y219 y220 y221 y222 y223 y224 y225 y226 y227 y228 y229 y230 y231 y232 y233 y234 y235 y236 y237 y238 y239 y240 y241 y242 y243 y244 y245 y246 y247 y248 y249 y250 y251 y252 y253 y254 y255 y256 y257 y258 y259 y260 y261 y262 y263 y264 y265 y266 y267 y268 y269 y270 y271 y272 y273 y274 y275 y276 y277 y278 y279 y280 y281 y282 y283 y284 y285 y286 y287 y288 y289 y290 y291 y292 y293 y294 y295 y296 y297 y298 y299 y300 y301 y302 y303 y304 y305 y306 y307 y308 y309 y310 y311 y312 y313 y314 y315 y316 y317 y318 y319 y320 y321 y322 y323 y324 y325 y326 y327 hb hX
          refine hK16' _ _ ⟨?_⟩
          clear hK16' hk f0 c0hKc c1hKc c2hKc hF hSt
          replace hSV := hSV.keep hb
          replace hKc := hKc.keep hb
          replace hV := hV.keep hb
          replace hmk := cell_keep hmk hb
          replace y3 := blk_keep y3 hb
          replace hbr := hbr.trans (hb.mono hbr.size)
          replace BW := BW.trans (hb.mono BW.size)
          clear hb
          clear V
          obtain ⟨⟨b1, b2⟩, ⟨b3, b4⟩, ⟨b5, b6⟩⟩ := HBB.out
          have cx1 : (B1 != B2 + B3 - B4) = false := by simpa using HBS.out
          have v0 := cell_block hV.blk 0
          have v1 := cell_block hV.blk 1
          have v2 := cell_block hV.blk 2
          have v3 := cell_block hV.blk 3
          by_cases hl1 : k + 1 = sn
          case pos =>
            obtain ⟨k5, k6⟩ := HSK.out.last (by rw [← HSN.out]; exact hl1.symm) (by rw [← HMN.out]; exact hkm2)
            have hre : RE = 22 := by rw [← HPE.out]; exact k5
            rw [← HST.out] at k6
            have cx2 : ((k : Int) + 1 == (sn : Int)) = true := by simp; omega
            have cx3 : ¬ st < 0 := by omega
            clear k5 HPE HPS
            subst hre
            try dsimp only
            go_wp2_with fail
            go_roundw
            case rel => exact ⟨k + 1, by omega, by go_num, hbr⟩
            case measure => simp [intOf]; omega
          obtain ⟨k4', k5, k6, k7, k8, k9⟩ := HSK.out.next (by rw [← HSN.out]; omega)
          have hre : RE = 0 := by rw [← HPE.out]; exact k5
          have hrs : RS = steS fs s (nxts fs s g) := by rw [← HPS.out]; exact k6
          have cx2 : ((k : Int) + 1 == (sn : Int)) = false := by simp; omega
          have HRS := Lib.hid hrs
          have K7 := Lib.hid k7
          have K8 := Lib.hid k8
          have K9 := Lib.hid k9
          have hl2 : k + 1 < sn := by omega
          clear k4' k5 k6 k7 k8 k9 hl1 hrs HPE HPS
          subst hre
          try dsimp only
          go_wp2_with fail
          clear b1 b2 b3 b4 b5 b6 cx1 cx2 v0 v1 v2 v3
          have hst2 := hSV.st (k + 1) (by rw [← HSN.out]; exact hl2)
          rw [K7.out] at hst2
          obtain ⟨sb2, so2, e2, hcs2⟩ := hSV.row.at_ (by omega)
          injection e2 with e2
          injection e2 with e2 e3
          subst e2 e3
          obtain ⟨d0, d1', d2'⟩ := hcs2 (k + 1) hl2
          obtain ⟨x', hx'⟩ : ∃ x, rw1[k + 1]?.getD str0 = x := ⟨_, rfl⟩
          rw [hx'] at d0 d1' d2' hst2
          have hK2 : RwC W sb so (k + 1) x' (steS fs s (nxts fs s g)) := ⟨d0, d1', d2', hst2⟩
          clear hcs2 hx' hst2 d0 d1' d2'
          obtain ⟨⟨z1, z2, z3⟩, ⟨z4, z5, z6⟩, ⟨z7, z8, z9⟩⟩ := x'
          have hi2 : (k : Int) + 1 < (sn : Int) := by omega
          have hi3 : (0 : Int) ≤ (k : Int) + 1 := by omega
          refine Calmly.wp_region_mix 28 (.fl 0 <| .fl 1 <| .fl 2 <| .gl 3 <| .gl 4 <| .gf 5 <| .gl 6 <| .fl 7 <| .fl 8 <| .gl 9 <| .gl 10 <| .gl 11 <| .gl 12 <| .gl 13 <| .gl 14 <| .gf 15 <| .gl 16 <| .fl 17 <| .fl 18 <| .gl 19 <| .gl 20 <| .gl 21 <| .gl 22 <| .gl 23 <| .gl 24 <| .gl 25 <| .gf 26 <| .gl 27 <| .tail [28]) (by kernel_rfl) (by kernel_rfl) ?_
          have BD : Below W.heap.size W W.drew := (Below.refl _ _).drew
          replace hSV := hSV.keep BD
          replace hKc := hKc.keep BD
          replace hV := hV.keep BD
          replace hX := hX.keep BD
          replace hK2 := hK2.keep BD
          replace hmk := cell_keep hmk BD
          replace y3 := blk_keep y3 BD
          replace hbr := hbr.trans (BD.mono hbr.size)
          replace BW := BW.trans (BD.mono BW.size)
          clear BD
          generalize W.drew = V at *
          have hk := Below.refl V.heap.size V
          have f0 := cell_block y3 0
          have c0hKc := hKc.c0
          have c1hKc := hKc.c1
          have c2hKc := hKc.c2
          dsimp only [hv] at c0hKc c1hKc c2hKc
          have hF := h1.keep BW
          have hSt := hKc.st.w
          have c0hK2 := hK2.c0
          have c1hK2 := hK2.c1
          have c2hK2 := hK2.c2
          dsimp only [hv] at c0hK2 c1hK2 c2hK2
          obtain ⟨⟨⟨r1, r2, r3⟩, ⟨r4, r5, r6⟩, ⟨r7, r8, r9⟩⟩, zx, sx⟩ := hX.ex
          rw [HRS.out] at sx
          dsimp only [hv] at zx
          have u0 := cell_block zx 0
          have u1 := cell_block zx 1
          have u2 := cell_block zx 2
          have sxw := sx.w
          have sxb : SI V r4 r5 r6 s.1 := sx.bef
          have snw : SI V x1 x2 x3 s.1 := hKc.st.now
          have s2w := hK2.st
          have SXW := Lib.hid sxw
          have SXB := Lib.hid sxb
          have SNW := Lib.hid snw
          have S2W := Lib.hid s2w
          have SX := Lib.hid sx
          clear sxw sxb snw s2w sx
          try dsimp only
          go_wp2_with (first | ((with_reducible refine Calmly.is_fl ?_); refine Calmly.mix_fl rfl ?_ (fun _ _ => ?_); (first | exact .move _ | exact .load _ _ | exact .fieldAddr _ _ _ (by kernel_rfl) | exact .assign _ | exact .binOp _ _ _ _ _ rfl | exact .indexAddr _ _ _ | exact .len _ _ (by kernel_rfl) | exact .field _ _ _ | exact .extract _ _ | exact .pick _ _ _ | exact .build _ _ | exact .slice _ _ _ _ _ | exact .unOp _ _ _ rfl | exact .index _ _ _ | exact .max _ _ _ rfl rfl | exact .min _ _ _ rfl rfl | exact .nilCheck _ _ rfl)) | ((with_reducible refine Calmly.is_gl ?_); refine Calmly.mix_gl rfl rfl rfl ?_; first | ((first | with_reducible refine Calmly.gl_tt ?_ (fun _ _ => ?_) | with_reducible refine Calmly.gl_ff ?_ (fun _ _ => ?_)); (first | exact .move _ | exact .load _ _ | exact .fieldAddr _ _ _ (by kernel_rfl) | exact .assign _ | exact .binOp _ _ _ _ _ rfl | exact .indexAddr _ _ _ | exact .len _ _ (by kernel_rfl) | exact .field _ _ _ | exact .extract _ _ | exact .pick _ _ _ | exact .build _ _ | exact .slice _ _ _ _ _ | exact .unOp _ _ _ rfl | exact .index _ _ _ | exact .max _ _ _ rfl rfl | exact .min _ _ _ rfl rfl | exact .nilCheck _ _ rfl)) | with_reducible refine Calmly.gl_tf (fun _ _ => ?_) | with_reducible refine Calmly.gl_ft (fun _ _ => ?_)) | ((with_reducible refine Calmly.is_eff ?_); refine Calmly.mix_eff rfl (fun _ _ => ?_)) | ((with_reducible refine Calmly.is_gf ?_); refine Calmly.mix_gf rfl rfl rfl ?_; first | with_reducible refine Calmly.gf_tt (fun _ _ => ?_) | with_reducible refine Calmly.gf_ff (fun _ _ => ?_) | with_reducible refine Calmly.gf_tf (kept_of hk) (fun _ _ => ?_) | with_reducible refine Calmly.gf_ft (kept_of hk) (fun _ _ => ?_)) | ((with_reducible refine Calmly.is_tail ?_); first | refine Calmly.mix_tail_nil ?_ | refine Calmly.mix_tail rfl (fun _ _ => ?_)) | ((with_reducible refine Calmly.is_kept ?_); refine ⟨kept_of hk, ?_⟩) | (with_reducible refine Calmly.mix_alt ?_ ?_))
          refine (rStateErr_any a r1 r4 r7 n c r2 r3 r5 r6 r8 r9 raw fs _ _ (hF.keep hk) (SXW.out.keep hk) HFE.out).mono ?_
          rintro e w5 ⟨rfl, hb5⟩
          rw [K9.out]
          replace hk := step_of hk hb5
          clear hb5
          try dsimp only
          go_wp2_with (first | ((with_reducible refine Calmly.is_fl ?_); refine Calmly.mix_fl rfl ?_ (fun _ _ => ?_); (first | exact .move _ | exact .load _ _ | exact .fieldAddr _ _ _ (by kernel_rfl) | exact .assign _ | exact .binOp _ _ _ _ _ rfl | exact .indexAddr _ _ _ | exact .len _ _ (by kernel_rfl) | exact .field _ _ _ | exact .extract _ _ | exact .pick _ _ _ | exact .build _ _ | exact .slice _ _ _ _ _ | exact .unOp _ _ _ rfl | exact .index _ _ _ | exact .max _ _ _ rfl rfl | exact .min _ _ _ rfl rfl | exact .nilCheck _ _ rfl)) | ((with_reducible refine Calmly.is_gl ?_); refine Calmly.mix_gl rfl rfl rfl ?_; first | ((first | with_reducible refine Calmly.gl_tt ?_ (fun _ _ => ?_) | with_reducible refine Calmly.gl_ff ?_ (fun _ _ => ?_)); (first | exact .move _ | exact .load _ _ | exact .fieldAddr _ _ _ (by kernel_rfl) | exact .assign _ | exact .binOp _ _ _ _ _ rfl | exact .indexAddr _ _ _ | exact .len _ _ (by kernel_rfl) | exact .field _ _ _ | exact .extract _ _ | exact .pick _ _ _ | exact .build _ _ | exact .slice _ _ _ _ _ | exact .unOp _ _ _ rfl | exact .index _ _ _ | exact .max _ _ _ rfl rfl | exact .min _ _ _ rfl rfl | exact .nilCheck _ _ rfl)) | with_reducible refine Calmly.gl_tf (fun _ _ => ?_) | with_reducible refine Calmly.gl_ft (fun _ _ => ?_)) | ((with_reducible refine Calmly.is_eff ?_); refine Calmly.mix_eff rfl (fun _ _ => ?_)) | ((with_reducible refine Calmly.is_gf ?_); refine Calmly.mix_gf rfl rfl rfl ?_; first | with_reducible refine Calmly.gf_tt (fun _ _ => ?_) | with_reducible refine Calmly.gf_ff (fun _ _ => ?_) | with_reducible refine Calmly.gf_tf (kept_of hk) (fun _ _ => ?_) | with_reducible refine Calmly.gf_ft (kept_of hk) (fun _ _ => ?_)) | ((with_reducible refine Calmly.is_tail ?_); first | refine Calmly.mix_tail_nil ?_ | refine Calmly.mix_tail rfl (fun _ _ => ?_)) | ((with_reducible refine Calmly.is_kept ?_); refine ⟨kept_of hk, ?_⟩) | (with_reducible refine Calmly.mix_alt ?_ ?_))
          refine (rSameState_any r1 r4 r7 z1 z4 z7 r2 r3 r5 r6 r8 r9 z2 z3 z5 z6 z8 z9 _ _ _ (SX.out.keep hk) (S2W.out.keep hk)).mono ?_
          rintro e w6 ⟨rfl, hb6⟩
          rw [show decide (steS fs s (nxts fs s g) = steS fs s (nxts fs s g)) = true by simp]
          replace hk := step_of hk hb6
          clear hb6
          try dsimp only
          go_wp2_with (first | ((with_reducible refine Calmly.is_fl ?_); refine Calmly.mix_fl rfl ?_ (fun _ _ => ?_); (first | exact .move _ | exact .load _ _ | exact .fieldAddr _ _ _ (by kernel_rfl) | exact .assign _ | exact .binOp _ _ _ _ _ rfl | exact .indexAddr _ _ _ | exact .len _ _ (by kernel_rfl) | exact .field _ _ _ | exact .extract _ _ | exact .pick _ _ _ | exact .build _ _ | exact .slice _ _ _ _ _ | exact .unOp _ _ _ rfl | exact .index _ _ _ | exact .max _ _ _ rfl rfl | exact .min _ _ _ rfl rfl | exact .nilCheck _ _ rfl)) | ((with_reducible refine Calmly.is_gl ?_); refine Calmly.mix_gl rfl rfl rfl ?_; first | ((first | with_reducible refine Calmly.gl_tt ?_ (fun _ _ => ?_) | with_reducible refine Calmly.gl_ff ?_ (fun _ _ => ?_)); (first | exact .move _ | exact .load _ _ | exact .fieldAddr _ _ _ (by kernel_rfl) | exact .assign _ | exact .binOp _ _ _ _ _ rfl | exact .indexAddr _ _ _ | exact .len _ _ (by kernel_rfl) | exact .field _ _ _ | exact .extract _ _ | exact .pick _ _ _ | exact .build _ _ | exact .slice _ _ _ _ _ | exact .unOp _ _ _ rfl | exact .index _ _ _ | exact .max _ _ _ rfl rfl | exact .min _ _ _ rfl rfl | exact .nilCheck _ _ rfl)) | with_reducible refine Calmly.gl_tf (fun _ _ => ?_) | with_reducible refine Calmly.gl_ft (fun _ _ => ?_)) | ((with_reducible refine Calmly.is_eff ?_); refine Calmly.mix_eff rfl (fun _ _ => ?_)) | ((with_reducible refine Calmly.is_gf ?_); refine Calmly.mix_gf rfl rfl rfl ?_; first | with_reducible refine Calmly.gf_tt (fun _ _ => ?_) | with_reducible refine Calmly.gf_ff (fun _ _ => ?_) | with_reducible refine Calmly.gf_tf (kept_of hk) (fun _ _ => ?_) | with_reducible refine Calmly.gf_ft (kept_of hk) (fun _ _ => ?_)) | ((with_reducible refine Calmly.is_tail ?_); first | refine Calmly.mix_tail_nil ?_ | refine Calmly.mix_tail rfl (fun _ _ => ?_)) | ((with_reducible refine Calmly.is_kept ?_); refine ⟨kept_of hk, ?_⟩) | (with_reducible refine Calmly.mix_alt ?_ ?_))
          refine (ints_any r4 x1 r5 x2 r6 x3 s.1 s.1 _ (SXB.out.keep hk) (SNW.out.keep hk)).mono ?_
          rintro e w7 ⟨rfl, nn, rfl⟩
          rw [show decide (s.1 = s.1) = true by simp]
          replace hk := below_drewN hk nn
          try dsimp only
          go_wp2_with (first | ((with_reducible refine Calmly.is_fl ?_); refine Calmly.mix_fl rfl ?_ (fun _ _ => ?_); (first | exact .move _ | exact .load _ _ | exact .fieldAddr _ _ _ (by kernel_rfl) | exact .assign _ | exact .binOp _ _ _ _ _ rfl | exact .indexAddr _ _ _ | exact .len _ _ (by kernel_rfl) | exact .field _ _ _ | exact .extract _ _ | exact .pick _ _ _ | exact .build _ _ | exact .slice _ _ _ _ _ | exact .unOp _ _ _ rfl | exact .index _ _ _ | exact .max _ _ _ rfl rfl | exact .min _ _ _ rfl rfl | exact .nilCheck _ _ rfl)) | ((with_reducible refine Calmly.is_gl ?_); refine Calmly.mix_gl rfl rfl rfl ?_; first | ((first | with_reducible refine Calmly.gl_tt ?_ (fun _ _ => ?_) | with_reducible refine Calmly.gl_ff ?_ (fun _ _ => ?_)); (first | exact .move _ | exact .load _ _ | exact .fieldAddr _ _ _ (by kernel_rfl) | exact .assign _ | exact .binOp _ _ _ _ _ rfl | exact .indexAddr _ _ _ | exact .len _ _ (by kernel_rfl) | exact .field _ _ _ | exact .extract _ _ | exact .pick _ _ _ | exact .build _ _ | exact .slice _ _ _ _ _ | exact .unOp _ _ _ rfl | exact .index _ _ _ | exact .max _ _ _ rfl rfl | exact .min _ _ _ rfl rfl | exact .nilCheck _ _ rfl)) | with_reducible refine Calmly.gl_tf (fun _ _ => ?_) | with_reducible refine Calmly.gl_ft (fun _ _ => ?_)) | ((with_reducible refine Calmly.is_eff ?_); refine Calmly.mix_eff rfl (fun _ _ => ?_)) | ((with_reducible refine Calmly.is_gf ?_); refine Calmly.mix_gf rfl rfl rfl ?_; first | with_reducible refine Calmly.gf_tt (fun _ _ => ?_) | with_reducible refine Calmly.gf_ff (fun _ _ => ?_) | with_reducible refine Calmly.gf_tf (kept_of hk) (fun _ _ => ?_) | with_reducible refine Calmly.gf_ft (kept_of hk) (fun _ _ => ?_)) | ((with_reducible refine Calmly.is_tail ?_); first | refine Calmly.mix_tail_nil ?_ | refine Calmly.mix_tail rfl (fun _ _ => ?_)) | ((with_reducible refine Calmly.is_kept ?_); refine ⟨kept_of hk, ?_⟩) | (with_reducible refine Calmly.mix_alt ?_ ?_))
          clear u0 u1 u2 zx c0hK2 c1hK2 c2hK2 SXW SXB SNW S2W SX
          clear f0 c0hKc c1hKc c2hKc hF hSt
          replace hSV := hSV.keep hk
          replace hKc := hKc.keep hk
          replace hV := hV.keep hk
          replace hX := hX.keep hk
          replace hK2 := hK2.keep hk
          replace hmk := cell_keep hmk hk
          replace y3 := blk_keep y3 hk
          replace hbr := hbr.trans (hk.mono hbr.size)
          replace BW := BW.trans (hk.mono BW.size)
          clear hk
          generalize w6.drewN nn = W at *
          have HFK := Lib.hid (fun (j : Nat) (hj : j < fs.length) => flK_at HSK.out.ok HGB.out HSB.out.1 HSB.out.2 hj)
          generalize W = W1 at *
          go_loopw [16, 17, 18, 19] (fun t16 t17 t18 i wr => ∃ j : Nat, j ≤ n ∧ i = .int .i64 (j : Int) ∧ t16 = .int .i64 (sumR (baK fs s g) j) ∧ t17 = .int .i64 (sumR (spT fs s g) j) ∧ t18 = .bool (decide (∀ i, i < j → baM fs i = 1)) ∧ Below W1.heap.size W1 wr) (fun _ _ _ i _ => n - (intOf i).toNat)
          case atStart => exact ⟨0, by omega, rfl, rfl, rfl, by simp, Below.refl _ _⟩
          case round =>
            obtain ⟨j, hj, rfl, rfl, rfl, rfl, hbi⟩ := hrel
            replace hSV := hSV.keep hbi
            replace hKc := hKc.keep hbi
            replace hV := hV.keep hbi
            replace hX := hX.keep hbi
            replace hK2 := hK2.keep hbi
            replace hmk := cell_keep hmk hbi
            replace y3 := blk_keep y3 hbi
            replace hbr := hbr.trans (hbi.mono hbr.size)
            replace BW := BW.trans (hbi.mono BW.size)
            generalize wr = W at *
            by_cases hjt : j < n
            case neg =>
              as_aux_lemma =>
                have hjn : j = fs.length := by have := HN.out; omega
                subst hjn
                have k16 : sumR (baK fs s g) fs.length = B1 := EK.out
                have k17 : sumR (spT fs s g) fs.length = B2 := (spT_all fs s g).trans ES.out
                have k18 : decide (∀ i, i < fs.length → baM fs i = 1) = true → B4 = 0 := fun h => by rw [← ER.out]; exact rest_ones _ (of_decide_eq_true h)
                rw [k16, k17]
                obtain ⟨fl, hfl⟩ : ∃ b, decide (∀ i, i < fs.length → baM fs i = 1) = b := ⟨_, rfl⟩
                rw [hfl] at k18 ⊢
                clear hfl k16 k17
                have v0 := cell_block hV.blk 0
                have v1 := cell_block hV.blk 1
                have v3 := cell_block hV.blk 3
                have f0 := cell_block y3 0
                have hj2 : ¬ (fs.length : Int) < (n : Int) := by omega
                cases fl
                case false =>
                  clear k18
                  go_wp2_with fail
                  go_roundw
                  case rel => exact ⟨k + 1, by omega, by go_num, hbr⟩
                  case measure => simp [intOf]; omega
                case true =>
                  have k19 := k18 rfl
                  have cx : (B4 != 0) = false := by simpa using k19
                  clear k18 k19
                  go_wp2_with fail
                  go_roundw
                  case rel => exact ⟨k + 1, by omega, by go_num, hbr⟩
                  case measure => simp [intOf]; omega
            have hjl : j < fs.length := by have := HN.out; omega
            obtain ⟨x0, X, NW, BF, V', U, Wv, VV, UU, DV, KF, FR, SW, P0, PW, T0, K0, hFl⟩ := HFK.out j hjl
            obtain ⟨f1, f2, f3, f4, f5, f6, f7, f8, f9, f10, f11, f12, f13, f14, f15, f16, f17, f18, f19, g1, g2, g3, g4, g5, g6, g7, g8, g9, g10, g11, g12, g13, g14, g15, g16⟩ := hFl
            obtain ⟨fb, fo, rfl, hcf⟩ := (h1.keep BW).row.at_ (by omega)
            obtain ⟨z0, -, z2'⟩ := hcf j hjt
            obtain ⟨d0, -, d2⟩ := (h1.keep BW).fl j hjl
            rw [d0, f1] at z0
            obtain ⟨rr, hrr⟩ : ∃ rr, raw[j]?.getD flr0 = rr := ⟨_, rfl⟩
            obtain ⟨y0', y1', ⟨u1, u2, u3⟩⟩ := rr
            rw [hrr] at z2' d2
            dsimp only [hv] at z2' d2
            obtain ⟨⟨⟨r1, r2, r3⟩, ⟨r4, r5, r6⟩, ⟨r7, r8, r9⟩⟩, zx, sx⟩ := hX.ex
            rw [HRS.out] at sx
            dsimp only [hv] at zx
            have sn1 : SI W r1 r2 r3 (nxts fs s g) := sx.now
            have e1 : r2 = n := by rw [sn1.len, nxts_len, HN.out]
            obtain ⟨e2, e3, e4, -⟩ := st_small HSK.out.ok hKc.st
            dsimp only at e2 e3 e4
            rw [← HN.out] at e2 e3 e4
            obtain ⟨nb, no, rfl, hcn⟩ := sn1.at_ (by omega)
            have so1 : SI W x1 x2 x3 s.1 := hKc.st.now
            have sb1 : SI W x4 x5 x6 s.2.1 := hKc.st.bef
            obtain ⟨ob, oo, rfl, hco⟩ := so1.at_ (by omega)
            obtain ⟨bb, bo, rfl, hcb⟩ := sb1.at_ (by omega)
            obtain ⟨rh, hH⟩ := hKc.st.hol
            dsimp only at hH
            obtain ⟨hb', ho', rfl, hch⟩ := hH.row.at_ (by omega)
            have w1 := hcn j (by omega)
            have w2 := hco j (by omega)
            have w3 := hcb j (by omega)
            rw [show (nxts fs s g)[j]?.getD 0 = X by rw [← f2]; simp [nxts, hjl]] at w1
            rw [f3] at w2
            rw [f4] at w3
            obtain ⟨t0, t1⟩ := hch j (by omega)
            obtain ⟨k0', k1', -⟩ := hH.hl j (by rw [HSK.out.ok.hol]; exact hjl)
            obtain ⟨hh, hhh⟩ : ∃ rr, rh[j]?.getD hor0 = rr := ⟨_, rfl⟩
            obtain ⟨t', ⟨v1, v2, v3⟩⟩ := hh
            rw [hhh] at t0 t1 k0' k1'
            dsimp only [hv] at t0 t1 k0' k1'
            have hok := HSK.out.ok.ok j hjl
            rw [← k0'] at hok
            have hfr : frcS (fs[j]?.getD fl0).2.2 t' (s.2.2[j]?.getD ho0).2 = FR := by rw [← f12, frS, k0']
            have hlen := hok.len
            have hsam := hok.same
            have hu2 : u2 ≤ 1000 := by have := d2.len; omega
            have hv2 : v2 ≤ 1000 := by have := k1'.len; omega
            have hpx : j ≠ 0 → W.cell? ⟨nb, no + (j - 1), none⟩ = some (.int .i64 (nxS fs s g (j - 1))) := fun h0 => by have h5 := hcn (j - 1) (by omega); rw [show (nxts fs s g)[j - 1]?.getD 0 = nxS fs s g (j - 1) by simp [nxts, show j - 1 < fs.length by omega]] at h5; exact h5
            have hpb : j ≠ 0 → W.cell? ⟨bb, bo + (j - 1), none⟩ = some (.int .i64 (s.2.1[j - 1]?.getD 0)) := fun h0 => hcb (j - 1) (by omega)
            have HOKJ := Lib.hid hok
            have HFR := Lib.hid hfr
            have HPX := Lib.hid hpx
            have HPB := Lib.hid hpb
            have HP0 := Lib.hid f14
            have HTN := Lib.hid f18
            have HKN := Lib.hid f19
            have HD2 := Lib.hid d2
            have HK1 := Lib.hid k1'
            have E1 := Lib.hid e1
            have E2 := Lib.hid e2
            have E3 := Lib.hid e3
            have E4 := Lib.hid e4
            have F1 := Lib.hid f1
            have F16 := Lib.hid f16
            have F17 := Lib.hid f17
            skip
            have hr2 : j < r2 := by omega
            have hx2 : j < x2 := by omega
            have hx5 : j < x5 := by omega
            have hx8 : j < x8 := by omega
            clear hok hfr hpx hpb f14 f18 f19 d2 k1' e1 e2 e3 e4 f1 f2 f3 f4 f12 hcf hcn hco hcb hch hhh hrr d0 k0' hH sn1 so1 sb1 sx hlen hsam
            as_aux_lemma =>
              have c4 : (j : Int) < (n : Int) := by omega
              have c5 : (0 : Int) ≤ (j : Int) := by omega
              have f0 := cell_block y3 0
              try dsimp only
              go_wp2_with fail
              clear f0
              refine Calmly.wp_region_mix 32 (.fl 0 <| .fl 1 <| .fl 2 <| .fl 3 <| .fl 4 <| .fl 5 <| .fl 6 <| .fl 7 <| .fl 8 <| .fl 9 <| .fl 10 <| .fl 11 <| .fl 12 <| .fl 13 <| .fl 14 <| .fl 15 <| .fl 16 <| .fl 17 <| .fl 18 <| .fl 19 <| .fl 20 <| .fl 21 <| .fl 22 <| .fl 23 <| .fl 24 <| .fl 25 <| .fl 26 <| .fl 27 <| .fl 28 <| .fl 29 <| .fl 30 <| .fl 31 <| .tail [32]) (by kernel_rfl) (by kernel_rfl) ?_
              have BD : Below W.heap.size W W.drew := (Below.refl _ _).drew
              replace hSV := hSV.keep BD
              replace hKc := hKc.keep BD
              replace hV := hV.keep BD
              replace hX := hX.keep BD
              replace hK2 := hK2.keep BD
              replace hmk := cell_keep hmk BD
              replace y3 := blk_keep y3 BD
              replace hbr := hbr.trans (BD.mono hbr.size)
              replace BW := BW.trans (BD.mono BW.size)
              replace hbi := hbi.trans (BD.mono hbi.size)
              replace z0 := cell_keep z0 BD
              replace z2' := cell_keep z2' BD
              replace w1 := cell_keep w1 BD
              replace w2 := cell_keep w2 BD
              replace w3 := cell_keep w3 BD
              replace t0 := cell_keep t0 BD
              replace t1 := cell_keep t1 BD
              replace zx := blk_keep zx BD
              replace HPX := Lib.hid (fun h0 => cell_keep (HPX.out h0) BD)
              replace HPB := Lib.hid (fun h0 => cell_keep (HPB.out h0) BD)
              replace HD2 := Lib.hid (HD2.out.keep BD)
              replace HK1 := Lib.hid (HK1.out.keep BD)
              clear BD
              generalize W.drew = V at *
              have hk := Below.refl V.heap.size V
              have u0 := cell_block zx 0
              have f0 := cell_block y3 0
              have c0 := hKc.c0
              have c1 := hKc.c1
              have c2 := hKc.c2
              dsimp only [hv] at c0 c1 c2
              try dsimp only
              go_wp2_with (first | ((with_reducible refine Calmly.is_fl ?_); refine Calmly.mix_fl rfl ?_ (fun _ _ => ?_); (first | exact .move _ | exact .load _ _ | exact .fieldAddr _ _ _ (by kernel_rfl) | exact .assign _ | exact .binOp _ _ _ _ _ rfl | exact .indexAddr _ _ _ | exact .len _ _ (by kernel_rfl) | exact .field _ _ _ | exact .extract _ _ | exact .pick _ _ _ | exact .build _ _ | exact .slice _ _ _ _ _ | exact .unOp _ _ _ rfl | exact .index _ _ _ | exact .max _ _ _ rfl rfl | exact .min _ _ _ rfl rfl | exact .nilCheck _ _ rfl)) | ((with_reducible refine Calmly.is_gl ?_); refine Calmly.mix_gl rfl rfl rfl ?_; first | ((first | with_reducible refine Calmly.gl_tt ?_ (fun _ _ => ?_) | with_reducible refine Calmly.gl_ff ?_ (fun _ _ => ?_)); (first | exact .move _ | exact .load _ _ | exact .fieldAddr _ _ _ (by kernel_rfl) | exact .assign _ | exact .binOp _ _ _ _ _ rfl | exact .indexAddr _ _ _ | exact .len _ _ (by kernel_rfl) | exact .field _ _ _ | exact .extract _ _ | exact .pick _ _ _ | exact .build _ _ | exact .slice _ _ _ _ _ | exact .unOp _ _ _ rfl | exact .index _ _ _ | exact .max _ _ _ rfl rfl | exact .min _ _ _ rfl rfl | exact .nilCheck _ _ rfl)) | with_reducible refine Calmly.gl_tf (fun _ _ => ?_) | with_reducible refine Calmly.gl_ft (fun _ _ => ?_)) | ((with_reducible refine Calmly.is_eff ?_); refine Calmly.mix_eff rfl (fun _ _ => ?_)) | ((with_reducible refine Calmly.is_gf ?_); refine Calmly.mix_gf rfl rfl rfl ?_; first | with_reducible refine Calmly.gf_tt (fun _ _ => ?_) | with_reducible refine Calmly.gf_ff (fun _ _ => ?_) | with_reducible refine Calmly.gf_tf (kept_of hk) (fun _ _ => ?_) | with_reducible refine Calmly.gf_ft (kept_of hk) (fun _ _ => ?_)) | ((with_reducible refine Calmly.is_tail ?_); first | refine Calmly.mix_tail_nil ?_ | refine Calmly.mix_tail rfl (fun _ _ => ?_)) | ((with_reducible refine Calmly.is_kept ?_); refine ⟨kept_of hk, ?_⟩) | (with_reducible refine Calmly.mix_alt ?_ ?_))
              clear u0 f0 c0 c1 c2
              replace hSV := hSV.keep hk
              replace hKc := hKc.keep hk
              replace hV := hV.keep hk
              replace hX := hX.keep hk
              replace hK2 := hK2.keep hk
              replace hmk := cell_keep hmk hk
              replace y3 := blk_keep y3 hk
              replace hbr := hbr.trans (hk.mono hbr.size)
              replace BW := BW.trans (hk.mono BW.size)
              replace hbi := hbi.trans (hk.mono hbi.size)
              replace z0 := cell_keep z0 hk
              replace z2' := cell_keep z2' hk
              replace w1 := cell_keep w1 hk
              replace w2 := cell_keep w2 hk
              replace w3 := cell_keep w3 hk
              replace t0 := cell_keep t0 hk
              replace t1 := cell_keep t1 hk
              replace zx := blk_keep zx hk
              replace HPX := Lib.hid (fun h0 => cell_keep (HPX.out h0) hk)
              replace HPB := Lib.hid (fun h0 => cell_keep (HPB.out h0) hk)
              replace HD2 := Lib.hid (HD2.out.keep hk)
              replace HK1 := Lib.hid (HK1.out.keep hk)
              clear hk
              generalize V = W at *
              try dsimp only
              go_wp2_with fail
              refine Calmly.wp_region_mix 21 (.fl 0 <| .fl 1 <| .fl 2 <| .fl 3 <| .fl 4 <| .fl 5 <| .fl 7 <| .fl 8 <| .fl 9 <| .fl 10 <| .fl 11 <| .fl 12 <| .fl 13 <| .fl 14 <| .eff 6 <| .eff 15 <| .eff 16 <| .fl 17 <| .fl 18 <| .fl 19 <| .fl 20 <| .tail [21]) (by kernel_rfl) (by kernel_rfl) ?_
              have BD : Below W.heap.size W W.drew := (Below.refl _ _).drew
              replace hSV := hSV.keep BD
              replace hKc := hKc.keep BD
              replace hV := hV.keep BD
              replace hX := hX.keep BD
              replace hK2 := hK2.keep BD
              replace hmk := cell_keep hmk BD
              replace y3 := blk_keep y3 BD
              replace hbr := hbr.trans (BD.mono hbr.size)
              replace BW := BW.trans (BD.mono BW.size)
              replace hbi := hbi.trans (BD.mono hbi.size)
              replace z0 := cell_keep z0 BD
              replace z2' := cell_keep z2' BD
              replace w1 := cell_keep w1 BD
              replace w2 := cell_keep w2 BD
              replace w3 := cell_keep w3 BD
              replace t0 := cell_keep t0 BD
              replace t1 := cell_keep t1 BD
              replace zx := blk_keep zx BD
              replace HPX := Lib.hid (fun h0 => cell_keep (HPX.out h0) BD)
              replace HPB := Lib.hid (fun h0 => cell_keep (HPB.out h0) BD)
              replace HD2 := Lib.hid (HD2.out.keep BD)
              replace HK1 := Lib.hid (HK1.out.keep BD)
              clear BD
              generalize W.drew = V at *
              have hk := Below.refl V.heap.size V
              have u0 := cell_block zx 0
              have f0 := cell_block y3 0
              have c0 := hKc.c0
              have c1 := hKc.c1
              have c2 := hKc.c2
              dsimp only [hv] at c0 c1 c2
              try dsimp only
              go_wp2_with (first | ((with_reducible refine Calmly.is_fl ?_); refine Calmly.mix_fl rfl ?_ (fun _ _ => ?_); (first | exact .move _ | exact .load _ _ | exact .fieldAddr _ _ _ (by kernel_rfl) | exact .assign _ | exact .binOp _ _ _ _ _ rfl | exact .indexAddr _ _ _ | exact .len _ _ (by kernel_rfl) | exact .field _ _ _ | exact .extract _ _ | exact .pick _ _ _ | exact .build _ _ | exact .slice _ _ _ _ _ | exact .unOp _ _ _ rfl | exact .index _ _ _ | exact .max _ _ _ rfl rfl | exact .min _ _ _ rfl rfl | exact .nilCheck _ _ rfl)) | ((with_reducible refine Calmly.is_gl ?_); refine Calmly.mix_gl rfl rfl rfl ?_; first | ((first | with_reducible refine Calmly.gl_tt ?_ (fun _ _ => ?_) | with_reducible refine Calmly.gl_ff ?_ (fun _ _ => ?_)); (first | exact .move _ | exact .load _ _ | exact .fieldAddr _ _ _ (by kernel_rfl) | exact .assign _ | exact .binOp _ _ _ _ _ rfl | exact .indexAddr _ _ _ | exact .len _ _ (by kernel_rfl) | exact .field _ _ _ | exact .extract _ _ | exact .pick _ _ _ | exact .build _ _ | exact .slice _ _ _ _ _ | exact .unOp _ _ _ rfl | exact .index _ _ _ | exact .max _ _ _ rfl rfl | exact .min _ _ _ rfl rfl | exact .nilCheck _ _ rfl)) | with_reducible refine Calmly.gl_tf (fun _ _ => ?_) | with_reducible refine Calmly.gl_ft (fun _ _ => ?_)) | ((with_reducible refine Calmly.is_eff ?_); refine Calmly.mix_eff rfl (fun _ _ => ?_)) | ((with_reducible refine Calmly.is_gf ?_); refine Calmly.mix_gf rfl rfl rfl ?_; first | with_reducible refine Calmly.gf_tt (fun _ _ => ?_) | with_reducible refine Calmly.gf_ff (fun _ _ => ?_) | with_reducible refine Calmly.gf_tf (kept_of hk) (fun _ _ => ?_) | with_reducible refine Calmly.gf_ft (kept_of hk) (fun _ _ => ?_)) | ((with_reducible refine Calmly.is_tail ?_); first | refine Calmly.mix_tail_nil ?_ | refine Calmly.mix_tail rfl (fun _ _ => ?_)) | ((with_reducible refine Calmly.is_kept ?_); refine ⟨kept_of hk, ?_⟩) | (with_reducible refine Calmly.mix_alt ?_ ?_))
              refine (CopySpring_any u1 u2 u3 _ _ (HD2.out.keep hk) (by omega)).mono ?_
              rintro e wa ⟨q1, q2, rfl, ho1, hb1⟩
              dsimp only
              replace hk := step_of hk hb1
              try dsimp only
              go_wp2_with (first | ((with_reducible refine Calmly.is_fl ?_); refine Calmly.mix_fl rfl ?_ (fun _ _ => ?_); (first | exact .move _ | exact .load _ _ | exact .fieldAddr _ _ _ (by kernel_rfl) | exact .assign _ | exact .binOp _ _ _ _ _ rfl | exact .indexAddr _ _ _ | exact .len _ _ (by kernel_rfl) | exact .field _ _ _ | exact .extract _ _ | exact .pick _ _ _ | exact .build _ _ | exact .slice _ _ _ _ _ | exact .unOp _ _ _ rfl | exact .index _ _ _ | exact .max _ _ _ rfl rfl | exact .min _ _ _ rfl rfl | exact .nilCheck _ _ rfl)) | ((with_reducible refine Calmly.is_gl ?_); refine Calmly.mix_gl rfl rfl rfl ?_; first | ((first | with_reducible refine Calmly.gl_tt ?_ (fun _ _ => ?_) | with_reducible refine Calmly.gl_ff ?_ (fun _ _ => ?_)); (first | exact .move _ | exact .load _ _ | exact .fieldAddr _ _ _ (by kernel_rfl) | exact .assign _ | exact .binOp _ _ _ _ _ rfl | exact .indexAddr _ _ _ | exact .len _ _ (by kernel_rfl) | exact .field _ _ _ | exact .extract _ _ | exact .pick _ _ _ | exact .build _ _ | exact .slice _ _ _ _ _ | exact .unOp _ _ _ rfl | exact .index _ _ _ | exact .max _ _ _ rfl rfl | exact .min _ _ _ rfl rfl | exact .nilCheck _ _ rfl)) | with_reducible refine Calmly.gl_tf (fun _ _ => ?_) | with_reducible refine Calmly.gl_ft (fun _ _ => ?_)) | ((with_reducible refine Calmly.is_eff ?_); refine Calmly.mix_eff rfl (fun _ _ => ?_)) | ((with_reducible refine Calmly.is_gf ?_); refine Calmly.mix_gf rfl rfl rfl ?_; first | with_reducible refine Calmly.gf_tt (fun _ _ => ?_) | with_reducible refine Calmly.gf_ff (fun _ _ => ?_) | with_reducible refine Calmly.gf_tf (kept_of hk) (fun _ _ => ?_) | with_reducible refine Calmly.gf_ft (kept_of hk) (fun _ _ => ?_)) | ((with_reducible refine Calmly.is_tail ?_); first | refine Calmly.mix_tail_nil ?_ | refine Calmly.mix_tail rfl (fun _ _ => ?_)) | ((with_reducible refine Calmly.is_kept ?_); refine ⟨kept_of hk, ?_⟩) | (with_reducible refine Calmly.mix_alt ?_ ?_))
              refine (CopyHold_any t' v1 v2 v3 _ _ (HK1.out.keep hk) (by omega)).mono ?_
              rintro e wb ⟨q3, q4, rfl, ho2, hb2⟩
              dsimp only
              replace hk := step_of hk hb2
              have e1 := ho1.se.keep hb2
              have e2 := ho2.ss
              try dsimp only
              go_wp2_with (first | ((with_reducible refine Calmly.is_fl ?_); refine Calmly.mix_fl rfl ?_ (fun _ _ => ?_); (first | exact .move _ | exact .load _ _ | exact .fieldAddr _ _ _ (by kernel_rfl) | exact .assign _ | exact .binOp _ _ _ _ _ rfl | exact .indexAddr _ _ _ | exact .len _ _ (by kernel_rfl) | exact .field _ _ _ | exact .extract _ _ | exact .pick _ _ _ | exact .build _ _ | exact .slice _ _ _ _ _ | exact .unOp _ _ _ rfl | exact .index _ _ _ | exact .max _ _ _ rfl rfl | exact .min _ _ _ rfl rfl | exact .nilCheck _ _ rfl)) | ((with_reducible refine Calmly.is_gl ?_); refine Calmly.mix_gl rfl rfl rfl ?_; first | ((first | with_reducible refine Calmly.gl_tt ?_ (fun _ _ => ?_) | with_reducible refine Calmly.gl_ff ?_ (fun _ _ => ?_)); (first | exact .move _ | exact .load _ _ | exact .fieldAddr _ _ _ (by kernel_rfl) | exact .assign _ | exact .binOp _ _ _ _ _ rfl | exact .indexAddr _ _ _ | exact .len _ _ (by kernel_rfl) | exact .field _ _ _ | exact .extract _ _ | exact .pick _ _ _ | exact .build _ _ | exact .slice _ _ _ _ _ | exact .unOp _ _ _ rfl | exact .index _ _ _ | exact .max _ _ _ rfl rfl | exact .min _ _ _ rfl rfl | exact .nilCheck _ _ rfl)) | with_reducible refine Calmly.gl_tf (fun _ _ => ?_) | with_reducible refine Calmly.gl_ft (fun _ _ => ?_)) | ((with_reducible refine Calmly.is_eff ?_); refine Calmly.mix_eff rfl (fun _ _ => ?_)) | ((with_reducible refine Calmly.is_gf ?_); refine Calmly.mix_gf rfl rfl rfl ?_; first | with_reducible refine Calmly.gf_tt (fun _ _ => ?_) | with_reducible refine Calmly.gf_ff (fun _ _ => ?_) | with_reducible refine Calmly.gf_tf (kept_of hk) (fun _ _ => ?_) | with_reducible refine Calmly.gf_ft (kept_of hk) (fun _ _ => ?_)) | ((with_reducible refine Calmly.is_tail ?_); first | refine Calmly.mix_tail_nil ?_ | refine Calmly.mix_tail rfl (fun _ _ => ?_)) | ((with_reducible refine Calmly.is_kept ?_); refine ⟨kept_of hk, ?_⟩) | (with_reducible refine Calmly.mix_alt ?_ ?_))
              refine (ForceOf_any q1 q3 u2 q2 v2 q4 _ t' _ _ e1 e2).mono ?_
              rintro e wc ⟨rfl, hb3⟩
              dsimp only
              rw [HOKJ.out.chk, if_pos rfl, HFR.out]
              replace hk := step_of hk hb3
              clear e1 e2 ho1 ho2 hb1 hb2 hb3
              clear u0 f0 c0 c1 c2
              replace hSV := hSV.keep hk
              replace hKc := hKc.keep hk
              replace hV := hV.keep hk
              replace hX := hX.keep hk
              replace hK2 := hK2.keep hk
              replace hmk := cell_keep hmk hk
              replace y3 := blk_keep y3 hk
              replace hbr := hbr.trans (hk.mono hbr.size)
              replace BW := BW.trans (hk.mono BW.size)
              replace hbi := hbi.trans (hk.mono hbi.size)
              replace z0 := cell_keep z0 hk
              replace z2' := cell_keep z2' hk
              replace w1 := cell_keep w1 hk
              replace w2 := cell_keep w2 hk
              replace w3 := cell_keep w3 hk
              replace t0 := cell_keep t0 hk
              replace t1 := cell_keep t1 hk
              replace zx := blk_keep zx hk
              replace HPX := Lib.hid (fun h0 => cell_keep (HPX.out h0) hk)
              replace HPB := Lib.hid (fun h0 => cell_keep (HPB.out h0) hk)
              replace HD2 := Lib.hid (HD2.out.keep hk)
              replace HK1 := Lib.hid (HK1.out.keep hk)
              have hst := flag_step (fs := fs) F1.out
              have c0k := hKc.c0
              have c1k := hKc.c1
              have c2k := hKc.c2
              dsimp only [hv] at c0k c1k c2k
              clear z0 z2' w1 w2 w3 t0 t1 hKc hX hV hSV hK2 hmk HD2 HK1
              obtain ⟨fl, hfl⟩ : ∃ b, decide (∀ i, i < j → baM fs i = 1) = b := ⟨_, rfl⟩
              rw [hfl] at hst ⊢
              have HFL := Lib.hid hst
              clear hst hfl
              by_cases hj0 : j = 0
              case pos =>
                have c6 : ¬ (0 : Int) < (j : Int) := by omega
                have htn : sumR (spT fs s g) (j + 1) = T0 - SW := by rw [HTN.out, if_pos hj0]
                clear HPX HPB HP0 HTN
                have htn' := Lib.hid htn
                clear htn hj0
                cases fl
                case false =>
                  as_aux_lemma =>
                    try dsimp only
                    go_wp2_with (first | ((with_reducible refine Calmly.is_fl ?_); refine Calmly.mix_fl rfl ?_ (fun _ _ => ?_); (first | exact .move _ | exact .load _ _ | exact .fieldAddr _ _ _ (by kernel_rfl) | exact .assign _ | exact .binOp _ _ _ _ _ rfl | exact .indexAddr _ _ _ | exact .len _ _ (by kernel_rfl) | exact .field _ _ _ | exact .extract _ _ | exact .pick _ _ _ | exact .build _ _ | exact .slice _ _ _ _ _ | exact .unOp _ _ _ rfl | exact .index _ _ _ | exact .max _ _ _ rfl rfl | exact .min _ _ _ rfl rfl | exact .nilCheck _ _ rfl)) | ((with_reducible refine Calmly.is_gl ?_); refine Calmly.mix_gl rfl rfl rfl ?_; first | ((first | with_reducible refine Calmly.gl_tt ?_ (fun _ _ => ?_) | with_reducible refine Calmly.gl_ff ?_ (fun _ _ => ?_)); (first | exact .move _ | exact .load _ _ | exact .fieldAddr _ _ _ (by kernel_rfl) | exact .assign _ | exact .binOp _ _ _ _ _ rfl | exact .indexAddr _ _ _ | exact .len _ _ (by kernel_rfl) | exact .field _ _ _ | exact .extract _ _ | exact .pick _ _ _ | exact .build _ _ | exact .slice _ _ _ _ _ | exact .unOp _ _ _ rfl | exact .index _ _ _ | exact .max _ _ _ rfl rfl | exact .min _ _ _ rfl rfl | exact .nilCheck _ _ rfl)) | with_reducible refine Calmly.gl_tf (fun _ _ => ?_) | with_reducible refine Calmly.gl_ft (fun _ _ => ?_)) | ((with_reducible refine Calmly.is_eff ?_); refine Calmly.mix_eff rfl (fun _ _ => ?_)) | ((with_reducible refine Calmly.is_gf ?_); refine Calmly.mix_gf rfl rfl rfl ?_; first | with_reducible refine Calmly.gf_tt (fun _ _ => ?_) | with_reducible refine Calmly.gf_ff (fun _ _ => ?_) | with_reducible refine Calmly.gf_tf (kept_of hk) (fun _ _ => ?_) | with_reducible refine Calmly.gf_ft (kept_of hk) (fun _ _ => ?_)) | ((with_reducible refine Calmly.is_tail ?_); first | refine Calmly.mix_tail_nil ?_ | refine Calmly.mix_tail rfl (fun _ _ => ?_)) | ((with_reducible refine Calmly.is_kept ?_); refine ⟨kept_of hk, ?_⟩) | (with_reducible refine Calmly.mix_alt ?_ ?_))
                    clear hk
                    generalize wc = W at *
                    go_roundw
                    case rel => exact ⟨j + 1, by omega, by go_num, by rw [HKN.out], by rw [htn'.out], by rw [HFL.out]; simp, hbi⟩
                    case measure => simp [intOf]; omega
                case true =>
                  by_cases hx0 : x0 = 1
                  case pos =>
                    as_aux_lemma =>
                      have cm : (x0 == 1) = true := by simpa using hx0
                      have HX0 := Lib.hid hx0
                      clear hx0
                      try dsimp only
                      go_wp2_with (first | ((with_reducible refine Calmly.is_fl ?_); refine Calmly.mix_fl rfl ?_ (fun _ _ => ?_); (first | exact .move _ | exact .load _ _ | exact .fieldAddr _ _ _ (by kernel_rfl) | exact .assign _ | exact .binOp _ _ _ _ _ rfl | exact .indexAddr _ _ _ | exact .len _ _ (by kernel_rfl) | exact .field _ _ _ | exact .extract _ _ | exact .pick _ _ _ | exact .build _ _ | exact .slice _ _ _ _ _ | exact .unOp _ _ _ rfl | exact .index _ _ _ | exact .max _ _ _ rfl rfl | exact .min _ _ _ rfl rfl | exact .nilCheck _ _ rfl)) | ((with_reducible refine Calmly.is_gl ?_); refine Calmly.mix_gl rfl rfl rfl ?_; first | ((first | with_reducible refine Calmly.gl_tt ?_ (fun _ _ => ?_) | with_reducible refine Calmly.gl_ff ?_ (fun _ _ => ?_)); (first | exact .move _ | exact .load _ _ | exact .fieldAddr _ _ _ (by kernel_rfl) | exact .assign _ | exact .binOp _ _ _ _ _ rfl | exact .indexAddr _ _ _ | exact .len _ _ (by kernel_rfl) | exact .field _ _ _ | exact .extract _ _ | exact .pick _ _ _ | exact .build _ _ | exact .slice _ _ _ _ _ | exact .unOp _ _ _ rfl | exact .index _ _ _ | exact .max _ _ _ rfl rfl | exact .min _ _ _ rfl rfl | exact .nilCheck _ _ rfl)) | with_reducible refine Calmly.gl_tf (fun _ _ => ?_) | with_reducible refine Calmly.gl_ft (fun _ _ => ?_)) | ((with_reducible refine Calmly.is_eff ?_); refine Calmly.mix_eff rfl (fun _ _ => ?_)) | ((with_reducible refine Calmly.is_gf ?_); refine Calmly.mix_gf rfl rfl rfl ?_; first | with_reducible refine Calmly.gf_tt (fun _ _ => ?_) | with_reducible refine Calmly.gf_ff (fun _ _ => ?_) | with_reducible refine Calmly.gf_tf (kept_of hk) (fun _ _ => ?_) | with_reducible refine Calmly.gf_ft (kept_of hk) (fun _ _ => ?_)) | ((with_reducible refine Calmly.is_tail ?_); first | refine Calmly.mix_tail_nil ?_ | refine Calmly.mix_tail rfl (fun _ _ => ?_)) | ((with_reducible refine Calmly.is_kept ?_); refine ⟨kept_of hk, ?_⟩) | (with_reducible refine Calmly.mix_alt ?_ ?_))
                      clear hk
                      generalize wc = W at *
                      go_roundw
                      case rel => exact ⟨j + 1, by omega, by go_num, by rw [HKN.out], by rw [htn'.out], by rw [HFL.out]; simp [HX0.out], hbi⟩
                      case measure => simp [intOf]; omega
                  case neg =>
                    as_aux_lemma =>
                      have cm : (x0 == 1) = false := by simpa using hx0
                      have HX0 := Lib.hid hx0
                      clear hx0
                      try dsimp only
                      go_wp2_with (first | ((with_reducible refine Calmly.is_fl ?_); refine Calmly.mix_fl rfl ?_ (fun _ _ => ?_); (first | exact .move _ | exact .load _ _ | exact .fieldAddr _ _ _ (by kernel_rfl) | exact .assign _ | exact .binOp _ _ _ _ _ rfl | exact .indexAddr _ _ _ | exact .len _ _ (by kernel_rfl) | exact .field _ _ _ | exact .extract _ _ | exact .pick _ _ _ | exact .build _ _ | exact .slice _ _ _ _ _ | exact .unOp _ _ _ rfl | exact .index _ _ _ | exact .max _ _ _ rfl rfl | exact .min _ _ _ rfl rfl | exact .nilCheck _ _ rfl)) | ((with_reducible refine Calmly.is_gl ?_); refine Calmly.mix_gl rfl rfl rfl ?_; first | ((first | with_reducible refine Calmly.gl_tt ?_ (fun _ _ => ?_) | with_reducible refine Calmly.gl_ff ?_ (fun _ _ => ?_)); (first | exact .move _ | exact .load _ _ | exact .fieldAddr _ _ _ (by kernel_rfl) | exact .assign _ | exact .binOp _ _ _ _ _ rfl | exact .indexAddr _ _ _ | exact .len _ _ (by kernel_rfl) | exact .field _ _ _ | exact .extract _ _ | exact .pick _ _ _ | exact .build _ _ | exact .slice _ _ _ _ _ | exact .unOp _ _ _ rfl | exact .index _ _ _ | exact .max _ _ _ rfl rfl | exact .min _ _ _ rfl rfl | exact .nilCheck _ _ rfl)) | with_reducible refine Calmly.gl_tf (fun _ _ => ?_) | with_reducible refine Calmly.gl_ft (fun _ _ => ?_)) | ((with_reducible refine Calmly.is_eff ?_); refine Calmly.mix_eff rfl (fun _ _ => ?_)) | ((with_reducible refine Calmly.is_gf ?_); refine Calmly.mix_gf rfl rfl rfl ?_; first | with_reducible refine Calmly.gf_tt (fun _ _ => ?_) | with_reducible refine Calmly.gf_ff (fun _ _ => ?_) | with_reducible refine Calmly.gf_tf (kept_of hk) (fun _ _ => ?_) | with_reducible refine Calmly.gf_ft (kept_of hk) (fun _ _ => ?_)) | ((with_reducible refine Calmly.is_tail ?_); first | refine Calmly.mix_tail_nil ?_ | refine Calmly.mix_tail rfl (fun _ _ => ?_)) | ((with_reducible refine Calmly.is_kept ?_); refine ⟨kept_of hk, ?_⟩) | (with_reducible refine Calmly.mix_alt ?_ ?_))
                      clear hk
                      generalize wc = W at *
                      go_roundw
                      case rel => exact ⟨j + 1, by omega, by go_num, by rw [HKN.out], by rw [htn'.out], by rw [HFL.out]; simp [HX0.out], hbi⟩
                      case measure => simp [intOf]; omega
              case neg =>
                have c6 : (0 : Int) < (j : Int) := by omega
                have htn : sumR (spT fs s g) (j + 1) = T0 - SW + PW := by rw [HTN.out, if_neg hj0]
                have hpx := HPX.out hj0
                have hpb := HPB.out hj0
                have hp0 := HP0.out hj0
                generalize nxS fs s g (j - 1) = XX at *
                generalize s.2.1[j - 1]?.getD 0 = YY at *
                have c7 : ((j : Int) - 1).toNat = j - 1 := by omega
                have c8 : (j : Int) - 1 < (n : Int) := by omega
                have c9 : 0 ≤ (j : Int) - 1 := by omega
                clear HPX HPB HP0 HTN
                have htn' := Lib.hid htn
                clear htn hj0
                cases fl
                case false =>
                  as_aux_lemma =>
                    try dsimp only
                    go_wp2_with (first | ((with_reducible refine Calmly.is_fl ?_); refine Calmly.mix_fl rfl ?_ (fun _ _ => ?_); (first | exact .move _ | exact .load _ _ | exact .fieldAddr _ _ _ (by kernel_rfl) | exact .assign _ | exact .binOp _ _ _ _ _ rfl | exact .indexAddr _ _ _ | exact .len _ _ (by kernel_rfl) | exact .field _ _ _ | exact .extract _ _ | exact .pick _ _ _ | exact .build _ _ | exact .slice _ _ _ _ _ | exact .unOp _ _ _ rfl | exact .index _ _ _ | exact .max _ _ _ rfl rfl | exact .min _ _ _ rfl rfl | exact .nilCheck _ _ rfl)) | ((with_reducible refine Calmly.is_gl ?_); refine Calmly.mix_gl rfl rfl rfl ?_; first | ((first | with_reducible refine Calmly.gl_tt ?_ (fun _ _ => ?_) | with_reducible refine Calmly.gl_ff ?_ (fun _ _ => ?_)); (first | exact .move _ | exact .load _ _ | exact .fieldAddr _ _ _ (by kernel_rfl) | exact .assign _ | exact .binOp _ _ _ _ _ rfl | exact .indexAddr _ _ _ | exact .len _ _ (by kernel_rfl) | exact .field _ _ _ | exact .extract _ _ | exact .pick _ _ _ | exact .build _ _ | exact .slice _ _ _ _ _ | exact .unOp _ _ _ rfl | exact .index _ _ _ | exact .max _ _ _ rfl rfl | exact .min _ _ _ rfl rfl | exact .nilCheck _ _ rfl)) | with_reducible refine Calmly.gl_tf (fun _ _ => ?_) | with_reducible refine Calmly.gl_ft (fun _ _ => ?_)) | ((with_reducible refine Calmly.is_eff ?_); refine Calmly.mix_eff rfl (fun _ _ => ?_)) | ((with_reducible refine Calmly.is_gf ?_); refine Calmly.mix_gf rfl rfl rfl ?_; first | with_reducible refine Calmly.gf_tt (fun _ _ => ?_) | with_reducible refine Calmly.gf_ff (fun _ _ => ?_) | with_reducible refine Calmly.gf_tf (kept_of hk) (fun _ _ => ?_) | with_reducible refine Calmly.gf_ft (kept_of hk) (fun _ _ => ?_)) | ((with_reducible refine Calmly.is_tail ?_); first | refine Calmly.mix_tail_nil ?_ | refine Calmly.mix_tail rfl (fun _ _ => ?_)) | ((with_reducible refine Calmly.is_kept ?_); refine ⟨kept_of hk, ?_⟩) | (with_reducible refine Calmly.mix_alt ?_ ?_))
                    clear hk
                    generalize wc = W at *
                    refine Calmly.wp_region_mix 19 (.fl 0 <| .fl 1 <| .fl 2 <| .fl 3 <| .fl 4 <| .fl 5 <| .fl 6 <| .fl 7 <| .fl 8 <| .fl 9 <| .fl 10 <| .fl 11 <| .fl 12 <| .fl 13 <| .fl 14 <| .fl 15 <| .fl 16 <| .fl 17 <| .fl 18 <| .tail [19, 20]) (by kernel_rfl) (by kernel_rfl) ?_
                    have BD : Below W.heap.size W W.drew := (Below.refl _ _).drew
                    replace hpx := cell_keep hpx BD
                    replace hpb := cell_keep hpb BD
                    replace zx := blk_keep zx BD
                    replace c0k := cell_keep c0k BD
                    replace c1k := cell_keep c1k BD
                    replace c2k := cell_keep c2k BD
                    replace y3 := blk_keep y3 BD
                    replace hbr := hbr.trans (BD.mono hbr.size)
                    replace BW := BW.trans (BD.mono BW.size)
                    replace hbi := hbi.trans (BD.mono hbi.size)
                    clear BD
                    generalize W.drew = V at *
                    have hk := Below.refl V.heap.size V
                    have u0 := cell_block zx 0
                    try dsimp only
                    go_wp2_with (first | ((with_reducible refine Calmly.is_fl ?_); refine Calmly.mix_fl rfl ?_ (fun _ _ => ?_); (first | exact .move _ | exact .load _ _ | exact .fieldAddr _ _ _ (by kernel_rfl) | exact .assign _ | exact .binOp _ _ _ _ _ rfl | exact .indexAddr _ _ _ | exact .len _ _ (by kernel_rfl) | exact .field _ _ _ | exact .extract _ _ | exact .pick _ _ _ | exact .build _ _ | exact .slice _ _ _ _ _ | exact .unOp _ _ _ rfl | exact .index _ _ _ | exact .max _ _ _ rfl rfl | exact .min _ _ _ rfl rfl | exact .nilCheck _ _ rfl)) | ((with_reducible refine Calmly.is_gl ?_); refine Calmly.mix_gl rfl rfl rfl ?_; first | ((first | with_reducible refine Calmly.gl_tt ?_ (fun _ _ => ?_) | with_reducible refine Calmly.gl_ff ?_ (fun _ _ => ?_)); (first | exact .move _ | exact .load _ _ | exact .fieldAddr _ _ _ (by kernel_rfl) | exact .assign _ | exact .binOp _ _ _ _ _ rfl | exact .indexAddr _ _ _ | exact .len _ _ (by kernel_rfl) | exact .field _ _ _ | exact .extract _ _ | exact .pick _ _ _ | exact .build _ _ | exact .slice _ _ _ _ _ | exact .unOp _ _ _ rfl | exact .index _ _ _ | exact .max _ _ _ rfl rfl | exact .min _ _ _ rfl rfl | exact .nilCheck _ _ rfl)) | with_reducible refine Calmly.gl_tf (fun _ _ => ?_) | with_reducible refine Calmly.gl_ft (fun _ _ => ?_)) | ((with_reducible refine Calmly.is_eff ?_); refine Calmly.mix_eff rfl (fun _ _ => ?_)) | ((with_reducible refine Calmly.is_gf ?_); refine Calmly.mix_gf rfl rfl rfl ?_; first | with_reducible refine Calmly.gf_tt (fun _ _ => ?_) | with_reducible refine Calmly.gf_ff (fun _ _ => ?_) | with_reducible refine Calmly.gf_tf (kept_of hk) (fun _ _ => ?_) | with_reducible refine Calmly.gf_ft (kept_of hk) (fun _ _ => ?_)) | ((with_reducible refine Calmly.is_tail ?_); first | refine Calmly.mix_tail_nil ?_ | refine Calmly.mix_tail rfl (fun _ _ => ?_)) | ((with_reducible refine Calmly.is_kept ?_); refine ⟨kept_of hk, ?_⟩) | (with_reducible refine Calmly.mix_alt ?_ ?_))
                    clear c0k c1k c2k u0
                    replace y3 := blk_keep y3 hk
                    replace hbr := hbr.trans (hk.mono hbr.size)
                    replace BW := BW.trans (hk.mono BW.size)
                    replace hbi := hbi.trans (hk.mono hbi.size)
                    clear hpx hpb zx hk
                    try dsimp only
                    go_wp2_with fail
                    go_roundw
                    case rel => exact ⟨j + 1, by omega, by go_num, by rw [HKN.out], by rw [htn'.out], by rw [HFL.out]; simp, hbi⟩
                    case measure => simp [intOf]; omega
                case true =>
                  by_cases hx0 : x0 = 1
                  case pos =>
                    as_aux_lemma =>
                      have cm : (x0 == 1) = true := by simpa using hx0
                      have HX0 := Lib.hid hx0
                      clear hx0
                      try dsimp only
                      go_wp2_with (first | ((with_reducible refine Calmly.is_fl ?_); refine Calmly.mix_fl rfl ?_ (fun _ _ => ?_); (first | exact .move _ | exact .load _ _ | exact .fieldAddr _ _ _ (by kernel_rfl) | exact .assign _ | exact .binOp _ _ _ _ _ rfl | exact .indexAddr _ _ _ | exact .len _ _ (by kernel_rfl) | exact .field _ _ _ | exact .extract _ _ | exact .pick _ _ _ | exact .build _ _ | exact .slice _ _ _ _ _ | exact .unOp _ _ _ rfl | exact .index _ _ _ | exact .max _ _ _ rfl rfl | exact .min _ _ _ rfl rfl | exact .nilCheck _ _ rfl)) | ((with_reducible refine Calmly.is_gl ?_); refine Calmly.mix_gl rfl rfl rfl ?_; first | ((first | with_reducible refine Calmly.gl_tt ?_ (fun _ _ => ?_) | with_reducible refine Calmly.gl_ff ?_ (fun _ _ => ?_)); (first | exact .move _ | exact .load _ _ | exact .fieldAddr _ _ _ (by kernel_rfl) | exact .assign _ | exact .binOp _ _ _ _ _ rfl | exact .indexAddr _ _ _ | exact .len _ _ (by kernel_rfl) | exact .field _ _ _ | exact .extract _ _ | exact .pick _ _ _ | exact .build _ _ | exact .slice _ _ _ _ _ | exact .unOp _ _ _ rfl | exact .index _ _ _ | exact .max _ _ _ rfl rfl | exact .min _ _ _ rfl rfl | exact .nilCheck _ _ rfl)) | with_reducible refine Calmly.gl_tf (fun _ _ => ?_) | with_reducible refine Calmly.gl_ft (fun _ _ => ?_)) | ((with_reducible refine Calmly.is_eff ?_); refine Calmly.mix_eff rfl (fun _ _ => ?_)) | ((with_reducible refine Calmly.is_gf ?_); refine Calmly.mix_gf rfl rfl rfl ?_; first | with_reducible refine Calmly.gf_tt (fun _ _ => ?_) | with_reducible refine Calmly.gf_ff (fun _ _ => ?_) | with_reducible refine Calmly.gf_tf (kept_of hk) (fun _ _ => ?_) | with_reducible refine Calmly.gf_ft (kept_of hk) (fun _ _ => ?_)) | ((with_reducible refine Calmly.is_tail ?_); first | refine Calmly.mix_tail_nil ?_ | refine Calmly.mix_tail rfl (fun _ _ => ?_)) | ((with_reducible refine Calmly.is_kept ?_); refine ⟨kept_of hk, ?_⟩) | (with_reducible refine Calmly.mix_alt ?_ ?_))
                      clear hk
                      generalize wc = W at *
                      refine Calmly.wp_region_mix 19 (.fl 0 <| .fl 1 <| .fl 2 <| .fl 3 <| .fl 4 <| .fl 5 <| .fl 6 <| .fl 7 <| .fl 8 <| .fl 9 <| .fl 10 <| .fl 11 <| .fl 12 <| .fl 13 <| .fl 14 <| .fl 15 <| .fl 16 <| .fl 17 <| .fl 18 <| .tail [19, 20]) (by kernel_rfl) (by kernel_rfl) ?_
                      have BD : Below W.heap.size W W.drew := (Below.refl _ _).drew
                      replace hpx := cell_keep hpx BD
                      replace hpb := cell_keep hpb BD
                      replace zx := blk_keep zx BD
                      replace c0k := cell_keep c0k BD
                      replace c1k := cell_keep c1k BD
                      replace c2k := cell_keep c2k BD
                      replace y3 := blk_keep y3 BD
                      replace hbr := hbr.trans (BD.mono hbr.size)
                      replace BW := BW.trans (BD.mono BW.size)
                      replace hbi := hbi.trans (BD.mono hbi.size)
                      clear BD
                      generalize W.drew = V at *
                      have hk := Below.refl V.heap.size V
                      have u0 := cell_block zx 0
                      try dsimp only
                      go_wp2_with (first | ((with_reducible refine Calmly.is_fl ?_); refine Calmly.mix_fl rfl ?_ (fun _ _ => ?_); (first | exact .move _ | exact .load _ _ | exact .fieldAddr _ _ _ (by kernel_rfl) | exact .assign _ | exact .binOp _ _ _ _ _ rfl | exact .indexAddr _ _ _ | exact .len _ _ (by kernel_rfl) | exact .field _ _ _ | exact .extract _ _ | exact .pick _ _ _ | exact .build _ _ | exact .slice _ _ _ _ _ | exact .unOp _ _ _ rfl | exact .index _ _ _ | exact .max _ _ _ rfl rfl | exact .min _ _ _ rfl rfl | exact .nilCheck _ _ rfl)) | ((with_reducible refine Calmly.is_gl ?_); refine Calmly.mix_gl rfl rfl rfl ?_; first | ((first | with_reducible refine Calmly.gl_tt ?_ (fun _ _ => ?_) | with_reducible refine Calmly.gl_ff ?_ (fun _ _ => ?_)); (first | exact .move _ | exact .load _ _ | exact .fieldAddr _ _ _ (by kernel_rfl) | exact .assign _ | exact .binOp _ _ _ _ _ rfl | exact .indexAddr _ _ _ | exact .len _ _ (by kernel_rfl) | exact .field _ _ _ | exact .extract _ _ | exact .pick _ _ _ | exact .build _ _ | exact .slice _ _ _ _ _ | exact .unOp _ _ _ rfl | exact .index _ _ _ | exact .max _ _ _ rfl rfl | exact .min _ _ _ rfl rfl | exact .nilCheck _ _ rfl)) | with_reducible refine Calmly.gl_tf (fun _ _ => ?_) | with_reducible refine Calmly.gl_ft (fun _ _ => ?_)) | ((with_reducible refine Calmly.is_eff ?_); refine Calmly.mix_eff rfl (fun _ _ => ?_)) | ((with_reducible refine Calmly.is_gf ?_); refine Calmly.mix_gf rfl rfl rfl ?_; first | with_reducible refine Calmly.gf_tt (fun _ _ => ?_) | with_reducible refine Calmly.gf_ff (fun _ _ => ?_) | with_reducible refine Calmly.gf_tf (kept_of hk) (fun _ _ => ?_) | with_reducible refine Calmly.gf_ft (kept_of hk) (fun _ _ => ?_)) | ((with_reducible refine Calmly.is_tail ?_); first | refine Calmly.mix_tail_nil ?_ | refine Calmly.mix_tail rfl (fun _ _ => ?_)) | ((with_reducible refine Calmly.is_kept ?_); refine ⟨kept_of hk, ?_⟩) | (with_reducible refine Calmly.mix_alt ?_ ?_))
                      clear c0k c1k c2k u0
                      replace y3 := blk_keep y3 hk
                      replace hbr := hbr.trans (hk.mono hbr.size)
                      replace BW := BW.trans (hk.mono BW.size)
                      replace hbi := hbi.trans (hk.mono hbi.size)
                      clear hpx hpb zx hk
                      try dsimp only
                      go_wp2_with fail
                      go_roundw
                      case rel => exact ⟨j + 1, by omega, by go_num, by rw [HKN.out], by rw [htn'.out], by rw [HFL.out]; simp [HX0.out], hbi⟩
                      case measure => simp [intOf]; omega
                  case neg =>
                    as_aux_lemma =>
                      have cm : (x0 == 1) = false := by simpa using hx0
                      have HX0 := Lib.hid hx0
                      clear hx0
                      try dsimp only
                      go_wp2_with (first | ((with_reducible refine Calmly.is_fl ?_); refine Calmly.mix_fl rfl ?_ (fun _ _ => ?_); (first | exact .move _ | exact .load _ _ | exact .fieldAddr _ _ _ (by kernel_rfl) | exact .assign _ | exact .binOp _ _ _ _ _ rfl | exact .indexAddr _ _ _ | exact .len _ _ (by kernel_rfl) | exact .field _ _ _ | exact .extract _ _ | exact .pick _ _ _ | exact .build _ _ | exact .slice _ _ _ _ _ | exact .unOp _ _ _ rfl | exact .index _ _ _ | exact .max _ _ _ rfl rfl | exact .min _ _ _ rfl rfl | exact .nilCheck _ _ rfl)) | ((with_reducible refine Calmly.is_gl ?_); refine Calmly.mix_gl rfl rfl rfl ?_; first | ((first | with_reducible refine Calmly.gl_tt ?_ (fun _ _ => ?_) | with_reducible refine Calmly.gl_ff ?_ (fun _ _ => ?_)); (first | exact .move _ | exact .load _ _ | exact .fieldAddr _ _ _ (by kernel_rfl) | exact .assign _ | exact .binOp _ _ _ _ _ rfl | exact .indexAddr _ _ _ | exact .len _ _ (by kernel_rfl) | exact .field _ _ _ | exact .extract _ _ | exact .pick _ _ _ | exact .build _ _ | exact .slice _ _ _ _ _ | exact .unOp _ _ _ rfl | exact .index _ _ _ | exact .max _ _ _ rfl rfl | exact .min _ _ _ rfl rfl | exact .nilCheck _ _ rfl)) | with_reducible refine Calmly.gl_tf (fun _ _ => ?_) | with_reducible refine Calmly.gl_ft (fun _ _ => ?_)) | ((with_reducible refine Calmly.is_eff ?_); refine Calmly.mix_eff rfl (fun _ _ => ?_)) | ((with_reducible refine Calmly.is_gf ?_); refine Calmly.mix_gf rfl rfl rfl ?_; first | with_reducible refine Calmly.gf_tt (fun _ _ => ?_) | with_reducible refine Calmly.gf_ff (fun _ _ => ?_) | with_reducible refine Calmly.gf_tf (kept_of hk) (fun _ _ => ?_) | with_reducible refine Calmly.gf_ft (kept_of hk) (fun _ _ => ?_)) | ((with_reducible refine Calmly.is_tail ?_); first | refine Calmly.mix_tail_nil ?_ | refine Calmly.mix_tail rfl (fun _ _ => ?_)) | ((with_reducible refine Calmly.is_kept ?_); refine ⟨kept_of hk, ?_⟩) | (with_reducible refine Calmly.mix_alt ?_ ?_))
                      clear hk
                      generalize wc = W at *
                      refine Calmly.wp_region_mix 19 (.fl 0 <| .fl 1 <| .fl 2 <| .fl 3 <| .fl 4 <| .fl 5 <| .fl 6 <| .fl 7 <| .fl 8 <| .fl 9 <| .fl 10 <| .fl 11 <| .fl 12 <| .fl 13 <| .fl 14 <| .fl 15 <| .fl 16 <| .fl 17 <| .fl 18 <| .tail [19, 20]) (by kernel_rfl) (by kernel_rfl) ?_
                      have BD : Below W.heap.size W W.drew := (Below.refl _ _).drew
                      replace hpx := cell_keep hpx BD
                      replace hpb := cell_keep hpb BD
                      replace zx := blk_keep zx BD
                      replace c0k := cell_keep c0k BD
                      replace c1k := cell_keep c1k BD
                      replace c2k := cell_keep c2k BD
                      replace y3 := blk_keep y3 BD
                      replace hbr := hbr.trans (BD.mono hbr.size)
                      replace BW := BW.trans (BD.mono BW.size)
                      replace hbi := hbi.trans (BD.mono hbi.size)
                      clear BD
                      generalize W.drew = V at *
                      have hk := Below.refl V.heap.size V
                      have u0 := cell_block zx 0
                      try dsimp only
                      go_wp2_with (first | ((with_reducible refine Calmly.is_fl ?_); refine Calmly.mix_fl rfl ?_ (fun _ _ => ?_); (first | exact .move _ | exact .load _ _ | exact .fieldAddr _ _ _ (by kernel_rfl) | exact .assign _ | exact .binOp _ _ _ _ _ rfl | exact .indexAddr _ _ _ | exact .len _ _ (by kernel_rfl) | exact .field _ _ _ | exact .extract _ _ | exact .pick _ _ _ | exact .build _ _ | exact .slice _ _ _ _ _ | exact .unOp _ _ _ rfl | exact .index _ _ _ | exact .max _ _ _ rfl rfl | exact .min _ _ _ rfl rfl | exact .nilCheck _ _ rfl)) | ((with_reducible refine Calmly.is_gl ?_); refine Calmly.mix_gl rfl rfl rfl ?_; first | ((first | with_reducible refine Calmly.gl_tt ?_ (fun _ _ => ?_) | with_reducible refine Calmly.gl_ff ?_ (fun _ _ => ?_)); (first | exact .move _ | exact .load _ _ | exact .fieldAddr _ _ _ (by kernel_rfl) | exact .assign _ | exact .binOp _ _ _ _ _ rfl | exact .indexAddr _ _ _ | exact .len _ _ (by kernel_rfl) | exact .field _ _ _ | exact .extract _ _ | exact .pick _ _ _ | exact .build _ _ | exact .slice _ _ _ _ _ | exact .unOp _ _ _ rfl | exact .index _ _ _ | exact .max _ _ _ rfl rfl | exact .min _ _ _ rfl rfl | exact .nilCheck _ _ rfl)) | with_reducible refine Calmly.gl_tf (fun _ _ => ?_) | with_reducible refine Calmly.gl_ft (fun _ _ => ?_)) | ((with_reducible refine Calmly.is_eff ?_); refine Calmly.mix_eff rfl (fun _ _ => ?_)) | ((with_reducible refine Calmly.is_gf ?_); refine Calmly.mix_gf rfl rfl rfl ?_; first | with_reducible refine Calmly.gf_tt (fun _ _ => ?_) | with_reducible refine Calmly.gf_ff (fun _ _ => ?_) | with_reducible refine Calmly.gf_tf (kept_of hk) (fun _ _ => ?_) | with_reducible refine Calmly.gf_ft (kept_of hk) (fun _ _ => ?_)) | ((with_reducible refine Calmly.is_tail ?_); first | refine Calmly.mix_tail_nil ?_ | refine Calmly.mix_tail rfl (fun _ _ => ?_)) | ((with_reducible refine Calmly.is_kept ?_); refine ⟨kept_of hk, ?_⟩) | (with_reducible refine Calmly.mix_alt ?_ ?_))
                      clear c0k c1k c2k u0
                      replace y3 := blk_keep y3 hk
                      replace hbr := hbr.trans (hk.mono hbr.size)
                      replace BW := BW.trans (hk.mono BW.size)
                      replace hbi := hbi.trans (hk.mono hbi.size)
                      clear hpx hpb zx hk
                      try dsimp only
                      go_wp2_with fail
                      go_roundw
                      case rel => exact ⟨j + 1, by omega, by go_num, by rw [HKN.out], by rw [htn'.out], by rw [HFL.out]; simp [HX0.out], hbi⟩
                      case measure => simp [intOf]; omega
        clear hK16'
        have HK16' := Lib.hid HK16
        clear HK16
        try dsimp only
        go_wp2_with (first | ((with_reducible refine kept_st3M hk hq z15 (fun hk' ho hn => ?_)); have hS6 := hS5.but (But.set3 (x := .slice r1 r2 r3) (y := .slice r4 r5 r6) (z := .slice r7 r8 r9) z15); replace hk := hk'; clear hk' ho; generalize World.setCell (World.setCell (World.setCell _ _ _) _ _) _ _ = W2 at *) | ((with_reducible refine Calmly.is_fl ?_); refine Calmly.mix_fl rfl ?_ (fun _ _ => ?_); (first | exact .move _ | exact .load _ _ | exact .fieldAddr _ _ _ (by kernel_rfl) | exact .assign _ | exact .binOp _ _ _ _ _ rfl | exact .indexAddr _ _ _ | exact .len _ _ (by kernel_rfl) | exact .field _ _ _ | exact .extract _ _ | exact .pick _ _ _ | exact .build _ _ | exact .slice _ _ _ _ _ | exact .unOp _ _ _ rfl | exact .index _ _ _ | exact .max _ _ _ rfl rfl | exact .min _ _ _ rfl rfl | exact .nilCheck _ _ rfl)) | ((with_reducible refine Calmly.is_gl ?_); refine Calmly.mix_gl rfl rfl rfl ?_; first | ((first | with_reducible refine Calmly.gl_tt ?_ (fun _ _ => ?_) | with_reducible refine Calmly.gl_ff ?_ (fun _ _ => ?_)); (first | exact .move _ | exact .load _ _ | exact .fieldAddr _ _ _ (by kernel_rfl) | exact .assign _ | exact .binOp _ _ _ _ _ rfl | exact .indexAddr _ _ _ | exact .len _ _ (by kernel_rfl) | exact .field _ _ _ | exact .extract _ _ | exact .pick _ _ _ | exact .build _ _ | exact .slice _ _ _ _ _ | exact .unOp _ _ _ rfl | exact .index _ _ _ | exact .max _ _ _ rfl rfl | exact .min _ _ _ rfl rfl | exact .nilCheck _ _ rfl)) | with_reducible refine Calmly.gl_tf (fun _ _ => ?_) | with_reducible refine Calmly.gl_ft (fun _ _ => ?_)) | ((with_reducible refine Calmly.is_eff ?_); refine Calmly.mix_eff rfl (fun _ _ => ?_)) | ((with_reducible refine Calmly.is_gf ?_); refine Calmly.mix_gf rfl rfl rfl ?_; first | with_reducible refine Calmly.gf_tt (fun _ _ => ?_) | with_reducible refine Calmly.gf_ff (fun _ _ => ?_) | with_reducible refine Calmly.gf_tf (kept_of hk) (fun _ _ => ?_) | with_reducible refine Calmly.gf_ft (kept_of hk) (fun _ _ => ?_)) | ((with_reducible refine Calmly.is_tail ?_); first | refine Calmly.mix_tail_nil ?_ | refine Calmly.mix_tail rfl (fun _ _ => ?_)) | ((with_reducible refine Calmly.is_kept ?_); refine ⟨kept_of hk, ?_⟩) | (with_reducible refine Calmly.mix_alt ?_ ?_) | (go_at_call 14; refine (CopyFrame_any a n c raw fs _ (hF.keep hk) (by omega) HSP.out).mono ?_; rintro e w1 ⟨a4, c4, raw4, rfl, hF4, hb1⟩; replace hk := step_of hk hb1; (try replace hS4 := hS4.keep hb1); (try (replace z15 := blk_keep z15 hb1)); (try have z0 := cell_block z15 0); (try have x0' := frozen_block z15 0); (try have z1 := cell_block z15 1); (try have x1' := frozen_block z15 1); (try have z2 := cell_block z15 2); (try have x2' := frozen_block z15 2); clear hb1; (try dsimp only)) | (go_at_call 56; refine (CopyState_any x1 x4 x7 x2 x3 x5 x6 x8 x9 s _ (hSt.keep hk) (by omega) (by omega) (by omega) HSL.out).mono ?_; rintro e w2 ⟨⟨⟨p1, p2, p3⟩, ⟨p4, p5, p6⟩, ⟨p7, p8, p9⟩⟩, rfl, hS4, hb2⟩; dsimp only [hv]; replace hk := step_of hk hb2; replace hF4 := hF4.keep hb2; (try (replace z15 := blk_keep z15 hb2)); (try have z0 := cell_block z15 0); (try have x0' := frozen_block z15 0); (try have z1 := cell_block z15 1); (try have x1' := frozen_block z15 1); (try have z2 := cell_block z15 2); (try have x2' := frozen_block z15 2); clear hb2; (try dsimp only)) | (go_at_call 57; refine (StepOf_any a4 p1 p4 p7 n c4 p2 p3 p5 p6 p8 p9 raw4 fs s g _ hF4 hS4).mono ?_; rintro e w3 ⟨⟨⟨r1, r2, r3⟩, ⟨r4, r5, r6⟩, ⟨r7, r8, r9⟩⟩, rfl, hS5, hb3⟩; dsimp only [hv]; rw [HPE.out]; rw [HPS.out] at hS5; replace hk := step_of hk hb3; (try (replace z15 := blk_keep z15 hb3)); (try have z0 := cell_block z15 0); (try have x0' := frozen_block z15 0); (try have z1 := cell_block z15 1); (try have x1' := frozen_block z15 1); (try have z2 := cell_block z15 2); (try have x2' := frozen_block z15 2); clear hb3; (try dsimp only)) | (refine kept_allocW5 hk (fun hk' hA hblk => ?_); (try replace hF4 := hF4.keep hA); (try replace hS4 := hS4.keep hA); (try replace hS5 := hS5.keep hA); have hq := hk.size; replace hk := hk'; clear hk'; have z15 := hblk; clear hblk hA; (try have z0 := cell_block z15 0); (try have x0' := frozen_block z15 0); (try have z1 := cell_block z15 1); (try have x1' := frozen_block z15 1); (try have z2 := cell_block z15 2); (try have x2' := frozen_block z15 2); generalize World.alloc _ (.cells #[.slice none 0 0, .slice none 0 0, .slice none 0 0] 97) = X15 at *))
        all_goals
          apply HK16'.out
          · exact hk
          · exact ⟨((r1, r2, r3), (r4, r5, r6), (r7, r8, r9)), hn, hS6⟩
      clear hK15'
      have HK15' := Lib.hid HK15
      clear HK15
      try dsimp only
      go_wp2_with (first | ((with_reducible refine kept_st4B hk hq z15 (fun hk' hn => ?_)); replace hk := hk'; clear hk'; generalize World.setCell (World.setCell (World.setCell (World.setCell _ _ _) _ _) _ _) _ _ = W2 at *) | ((with_reducible refine Calmly.is_fl ?_); refine Calmly.mix_fl rfl ?_ (fun _ _ => ?_); (first | exact .move _ | exact .load _ _ | exact .fieldAddr _ _ _ (by kernel_rfl) | exact .assign _ | exact .binOp _ _ _ _ _ rfl | exact .indexAddr _ _ _ | exact .len _ _ (by kernel_rfl) | exact .field _ _ _ | exact .extract _ _ | exact .pick _ _ _ | exact .build _ _ | exact .slice _ _ _ _ _ | exact .unOp _ _ _ rfl | exact .index _ _ _ | exact .max _ _ _ rfl rfl | exact .min _ _ _ rfl rfl | exact .nilCheck _ _ rfl)) | ((with_reducible refine Calmly.is_gl ?_); refine Calmly.mix_gl rfl rfl rfl ?_; first | ((first | with_reducible refine Calmly.gl_tt ?_ (fun _ _ => ?_) | with_reducible refine Calmly.gl_ff ?_ (fun _ _ => ?_)); (first | exact .move _ | exact .load _ _ | exact .fieldAddr _ _ _ (by kernel_rfl) | exact .assign _ | exact .binOp _ _ _ _ _ rfl | exact .indexAddr _ _ _ | exact .len _ _ (by kernel_rfl) | exact .field _ _ _ | exact .extract _ _ | exact .pick _ _ _ | exact .build _ _ | exact .slice _ _ _ _ _ | exact .unOp _ _ _ rfl | exact .index _ _ _ | exact .max _ _ _ rfl rfl | exact .min _ _ _ rfl rfl | exact .nilCheck _ _ rfl)) | with_reducible refine Calmly.gl_tf (fun _ _ => ?_) | with_reducible refine Calmly.gl_ft (fun _ _ => ?_)) | ((with_reducible refine Calmly.is_eff ?_); refine Calmly.mix_eff rfl (fun _ _ => ?_)) | ((with_reducible refine Calmly.is_gf ?_); refine Calmly.mix_gf rfl rfl rfl ?_; first | with_reducible refine Calmly.gf_tt (fun _ _ => ?_) | with_reducible refine Calmly.gf_ff (fun _ _ => ?_) | with_reducible refine Calmly.gf_tf (kept_of hk) (fun _ _ => ?_) | with_reducible refine Calmly.gf_ft (kept_of hk) (fun _ _ => ?_)) | ((with_reducible refine Calmly.is_tail ?_); first | refine Calmly.mix_tail_nil ?_ | refine Calmly.mix_tail rfl (fun _ _ => ?_)) | ((with_reducible refine Calmly.is_kept ?_); refine ⟨kept_of hk, ?_⟩) | (with_reducible refine Calmly.mix_alt ?_ ?_) | (go_at_call 14; refine (CopyFrame_any a n c raw fs _ (hF.keep hk) (by omega) HSP.out).mono ?_; rintro e w1 ⟨a4, c4, raw4, rfl, hF4, hb1⟩; replace hk := step_of hk hb1; (try replace hS4 := hS4.keep hb1); (try (replace z15 := blk_keep z15 hb1)); (try have z0 := cell_block z15 0); (try have x0' := frozen_block z15 0); (try have z1 := cell_block z15 1); (try have x1' := frozen_block z15 1); (try have z2 := cell_block z15 2); (try have x2' := frozen_block z15 2); (try have z3 := cell_block z15 3); (try have x3' := frozen_block z15 3); clear hb1; (try dsimp only)) | (go_at_call 56; refine (CopyState_any x1 x4 x7 x2 x3 x5 x6 x8 x9 s _ (hSt.keep hk) (by omega) (by omega) (by omega) HSL.out).mono ?_; rintro e w2 ⟨⟨⟨p1, p2, p3⟩, ⟨p4, p5, p6⟩, ⟨p7, p8, p9⟩⟩, rfl, hS4, hb2⟩; dsimp only [hv]; replace hk := step_of hk hb2; replace hF4 := hF4.keep hb2; (try (replace z15 := blk_keep z15 hb2)); (try have z0 := cell_block z15 0); (try have x0' := frozen_block z15 0); (try have z1 := cell_block z15 1); (try have x1' := frozen_block z15 1); (try have z2 := cell_block z15 2); (try have x2' := frozen_block z15 2); (try have z3 := cell_block z15 3); (try have x3' := frozen_block z15 3); clear hb2; (try dsimp only)) | (go_at_call 58; refine (BalanceOf_any a4 p1 p4 p7 n c4 p2 p3 p5 p6 p8 p9 raw4 fs s g _ hF4 hS4).mono ?_; rintro e w3 ⟨rfl, hb3⟩; rw [HOP.out, HB4.out]; dsimp only; replace hk := step_of hk hb3; (try (replace z15 := blk_keep z15 hb3)); (try have z0 := cell_block z15 0); (try have x0' := frozen_block z15 0); (try have z1 := cell_block z15 1); (try have x1' := frozen_block z15 1); (try have z2 := cell_block z15 2); (try have x2' := frozen_block z15 2); (try have z3 := cell_block z15 3); (try have x3' := frozen_block z15 3); clear hb3; (try dsimp only)) | (refine kept_allocW5 hk (fun hk' hA hblk => ?_); (try replace hF4 := hF4.keep hA); (try replace hS4 := hS4.keep hA); (try replace hS5 := hS5.keep hA); have hq := hk.size; replace hk := hk'; clear hk'; have z15 := hblk; clear hblk hA; (try have z0 := cell_block z15 0); (try have x0' := frozen_block z15 0); (try have z1 := cell_block z15 1); (try have x1' := frozen_block z15 1); (try have z2 := cell_block z15 2); (try have x2' := frozen_block z15 2); (try have z3 := cell_block z15 3); (try have x3' := frozen_block z15 3); generalize World.alloc _ (.cells #[.int .i64 0, .int .i64 0, .int .i64 0, .int .i64 0] 103) = X15 at *))
      all_goals
        apply HK15'.out
        · exact hk
        · exact ⟨hn⟩
  clear hKB' hSV
  have HKB' := Lib.hid HKB
  clear HKB
  have c1 : ((sn : Int) == 0) = false := by simp; omega
  have c2 : ¬ (mn : Int) + 1 < (sn : Int) := by omega
  have c3 : ¬ (n : Int) ≤ st := by omega
  by_cases hs0 : st < 0
  · have c4 : ((sn : Int) != (mn : Int) + 1) = false := by have := K3.out hs0; simp; omega
    go_wp2_with fail
    apply HKB'.out
  · go_wp2_with fail
    apply HKB'.out
end Go.Proofs.Ytaiikekgckjdeaa
