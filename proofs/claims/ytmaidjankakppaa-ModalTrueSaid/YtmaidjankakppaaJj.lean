/- The law ModalDecays, walked. -/
import Derived.Test.YtmaidjankakppaaJi
import Derived.Test.YtmaidjankakppaaAw
namespace Go.Proofs.Ytmaidjankakppaa
open Go.RowKit
open Calmly (Kept)

theorem fewSamples_any (a : Option Addr) (n c : Nat) (off : Int) (w : World) (b : Bool) (hb : b = decide ((n : Int) ≤ 62)) :
    Calls Try.prog 63 #[.agg #[.slice a n c, .int .i64 off]] w fun e w' => e = .returned (.bool b) ∧ Below w.heap.size w w' := by
  subst hb
  go_enter Try.func63, Try.ntmps63
  go_wp2_with fail
  go_ret
  exact ⟨rfl, (Below.refl _ _).alloc (Nat.le_refl _) _⟩

set_option maxRecDepth 100000 in
set_option maxHeartbeats 4000000 in
theorem ModalDecays_walk (sa : Option Addr) (sn sc : Nat) (xs : List Int) (off : Int) (w : World) (h3 : SI w sa sn sc xs) :
    Calls Try.prog 11 #[.agg #[.slice sa sn sc, .int .i64 off]] w fun e w' => e = .returned (.bool true) ∧ Below w.heap.size w w' := by
  have m1 := h3.max
  have c1 := h3.cap
  have hbx : ∀ o, Below w.heap.size w (w.alloc o) := fun o => (Below.refl _ _).alloc (Nat.le_refl _) _
  by_cases hl : 62 < sn
  · have HB0 := Lib.hid (show false = decide ((sn : Int) ≤ 62) from (decide_eq_false (by omega)).symm)
    go_enter Try.func11, Try.ntmps11
    go_wp2_with fail
    refine (awake_any _).mono ?_
    rintro e w1 ⟨rfl, hb1⟩
    have x1 := box1 (w := w) hb1
    have f0 : w1.cell? ⟨w.heap.size, 0, none⟩ = some (.slice sa sn sc) := cell_block x1 0
    have f1 : w1.cell? ⟨w.heap.size, 1, none⟩ = some (.int .i64 off) := cell_block x1 1
    have B1 := (hbx _).trans (hb1.mono (hbx _).size)
    go_wp2_with fail
    refine (fewSamples_any sa sn sc off _ false HB0.out).mono ?_
    rintro e w2 ⟨rfl, hb2⟩
    have B2 := B1.trans (hb2.mono B1.size)
    go_wp2_with fail
    go_ret
    exact ⟨rfl, B2⟩
  have HB0 := Lib.hid (show true = decide ((sn : Int) ≤ 62) from (decide_eq_true (by omega)).symm)
  have hl62 : (sn : Int) ≤ 62 := by omega
  obtain ⟨p, q, r, s, E1, p1, p2, p3, p4⟩ : ∃ p q r s E1 : Int, periodE xs off = E1 ∧ (E1 ≠ 0 → p = 0 ∧ q = 0 ∧ r = 0 ∧ s = 0) ∧ (E1 = 0 → periodF xs off = ((p, q), (r, s))) ∧ E1 = firstE [decayE xs off, unlessE (decide (1 ≤ ((crossF off 0 (-1) xs).length : Int) - 1)) 12] := by
    by_cases h : periodE xs off = 0
    · exact ⟨_, _, _, _, _, rfl, fun hh => absurd h hh, fun _ => rfl, rfl⟩
    · exact ⟨0, 0, 0, 0, _, rfl, fun _ => ⟨rfl, rfl, rfl, rfl⟩, fun hh => absurd hh h, rfl⟩
  obtain ⟨p', q', r', s', E2, q1, q2, q3, q4⟩ : ∃ p q r s E1 : Int, ratioE xs off = E1 ∧ (E1 ≠ 0 → p = 0 ∧ q = 0 ∧ r = 0 ∧ s = 0) ∧ (E1 = 0 → ratioF xs off = ((p, q), (r, s))) ∧ E1 = firstE [decayE xs off, unlessE (decide (2 ≤ ((sgF xs off).length : Int))) 12] := by
    by_cases h : ratioE xs off = 0
    · exact ⟨_, _, _, _, _, rfl, fun hh => absurd h hh, fun _ => rfl, rfl⟩
    · exact ⟨0, 0, 0, 0, _, rfl, fun _ => ⟨rfl, rfl, rfl, rfl⟩, fun hh => absurd hh h, rfl⟩
  obtain ⟨D, hD⟩ : ∃ D, decayE xs off = D := ⟨_, rfl⟩
  obtain ⟨C, hC⟩ : ∃ C, crF xs off = C := ⟨_, rfl⟩
  obtain ⟨S, hS⟩ : ∃ S, sgF xs off = S := ⟨_, rfl⟩
  rw [hD] at p4 q4
  have P1 := Lib.hid p1
  have P2 := Lib.hid p2
  have P3 := Lib.hid p3
  have P4 := Lib.hid p4
  have Q1 := Lib.hid q1
  have Q2 := Lib.hid q2
  have Q3 := Lib.hid q3
  have Q4 := Lib.hid q4
  have HD := Lib.hid hD
  have HC := Lib.hid hC
  have HS := Lib.hid hS
  clear p1 p2 p3 p4 q1 q2 q3 q4 hl hD hC hS
  have hA : ∀ (A : World) (o : Obj), Below A.heap.size A (A.alloc o) := fun A o => (Below.refl _ _).alloc (Nat.le_refl _) _
  go_enter Try.func11, Try.ntmps11
  go_wp2_with fail
  refine (awake_any _).mono ?_
  rintro e w1 ⟨rfl, hb1⟩
  have x1 := box1 (w := w) hb1
  have f0 : w1.cell? ⟨w.heap.size, 0, none⟩ = some (.slice sa sn sc) := cell_block x1 0
  have f1 : w1.cell? ⟨w.heap.size, 1, none⟩ = some (.int .i64 off) := cell_block x1 1
  have B1 := (hbx _).trans (hb1.mono (hbx _).size)
  go_wp2_with fail
  refine (fewSamples_any sa sn sc off _ true HB0.out).mono ?_
  rintro e w2 ⟨rfl, hb2⟩
  replace x1 := blk_keep x1 hb2
  replace f0 := cell_keep f0 hb2
  replace f1 := cell_keep f1 hb2
  have B2 := B1.trans (hb2.mono B1.size)
  clear hb1 hb2 hbx B1
  go_wp2_with fail
  refine (CopyDecay_any sa sn sc xs off _ (h3.keep B2) (by omega)).mono ?_
  rintro e w3 ⟨a3, c3, rfl, o3, hb3⟩
  have B3 := B2.trans (hb3.mono B2.size)
  replace x1 := blk_keep x1 hb3
  replace f0 := cell_keep f0 hb3
  replace f1 := cell_keep f1 hb3
  go_wp2_with fail
  refine (CrossingsIn_any a3 sn c3 xs off D _ o3 HD.out).mono ?_
  rintro e w4 ⟨aC, nC, cC, rfl, sC, hb4⟩
  rw [HC.out] at sC
  have B4 := B3.trans (hb4.mono B3.size)
  replace x1 := blk_keep x1 hb4
  replace f0 := cell_keep f0 hb4
  replace f1 := cell_keep f1 hb4
  clear B2 B3 hb3 hb4 o3
  go_wp2_with fail
  refine (CopyDecay_any sa sn sc xs off _ (h3.keep B4) (by omega)).mono ?_
  rintro e w5 ⟨a5, c5, rfl, o5, hb5⟩
  have B5 := B4.trans (hb5.mono B4.size)
  replace x1 := blk_keep x1 hb5
  replace f0 := cell_keep f0 hb5
  replace f1 := cell_keep f1 hb5
  replace sC := sC.keep hb5
  go_wp2_with fail
  refine (PeriodIn_any a5 sn c5 xs off E1 p q r s _ o5 P1.out P2.out P3.out).mono ?_
  rintro e w6 ⟨rfl, hb6⟩
  have B6 := B5.trans (hb6.mono B5.size)
  replace x1 := blk_keep x1 hb6
  replace sC := sC.keep hb6
  have hb7 := hA w6 (.cells #[.int .i64 p, .int .i64 q, .int .i64 r, .int .i64 s] 93)
  have x2 := alloc_new w6 (.cells #[.int .i64 p, .int .i64 q, .int .i64 r, .int .i64 s] 93)
  have B7 := B6.trans (hb7.mono B6.size)
  replace x1 := blk_keep x1 hb7
  replace sC := sC.keep hb7
  replace f0 : w6.cell? ⟨w.heap.size, 0, none⟩ = _ := cell_keep f0 hb6
  replace f1 : w6.cell? ⟨w.heap.size, 1, none⟩ = _ := cell_keep f1 hb6
  have hl6 := cell_lt f0
  clear hb5 hb6 hb7 o5 B4 B5
  go_wp2_with fail
  refine (CopyDecay_any sa sn sc xs off _ (h3.keep B7) (by omega)).mono ?_
  rintro e w8 ⟨a8, c8, rfl, o8, hb8⟩
  have B8 := B7.trans (hb8.mono B7.size)
  replace x1 := blk_keep x1 hb8
  replace x2 := blk_keep x2 hb8
  replace sC := sC.keep hb8
  replace f0 : w8.cell? ⟨w.heap.size, 0, none⟩ = some (.slice sa sn sc) := cell_block x1 0
  replace f1 : w8.cell? ⟨w.heap.size, 1, none⟩ = some (.int .i64 off) := cell_block x1 1
  clear B6 B7 hb8 hl6
  go_wp2_with fail
  refine (SwingsIn_any a8 sn c8 xs off D _ o8 HD.out).mono ?_
  rintro e w9 ⟨aS, nS, cS, rfl, sS, hb9⟩
  rw [HS.out] at sS
  have B9 := B8.trans (hb9.mono B8.size)
  replace x1 := blk_keep x1 hb9
  replace x2 := blk_keep x2 hb9
  replace sC := sC.keep hb9
  replace f0 : w9.cell? ⟨w.heap.size, 0, none⟩ = some (.slice sa sn sc) := cell_block x1 0
  replace f1 : w9.cell? ⟨w.heap.size, 1, none⟩ = some (.int .i64 off) := cell_block x1 1
  clear B8 hb9 o8
  go_wp2_with fail
  refine (CopyDecay_any sa sn sc xs off _ (h3.keep B9) (by omega)).mono ?_
  rintro e wA ⟨aA, cA, rfl, oA, hbA⟩
  have BA := B9.trans (hbA.mono B9.size)
  replace x1 := blk_keep x1 hbA
  replace x2 := blk_keep x2 hbA
  replace sC := sC.keep hbA
  replace sS := sS.keep hbA
  replace f0 : wA.cell? ⟨w.heap.size, 0, none⟩ = some (.slice sa sn sc) := cell_block x1 0
  replace f1 : wA.cell? ⟨w.heap.size, 1, none⟩ = some (.int .i64 off) := cell_block x1 1
  clear B9 hbA
  go_wp2_with fail
  refine (RatioIn_any aA sn cA xs off E2 p' q' r' s' _ oA Q1.out Q2.out Q3.out).mono ?_
  rintro e wB ⟨rfl, hbB⟩
  have hbC := hA wB (.cells #[.int .i64 p', .int .i64 q', .int .i64 r', .int .i64 s'] 93)
  have x3 := alloc_new wB (.cells #[.int .i64 p', .int .i64 q', .int .i64 r', .int .i64 s'] 93)
  have BB := BA.trans (hbB.mono BA.size)
  have BC := BB.trans (hbC.mono BB.size)
  replace x1 := blk_keep x1 hbB
  replace x2 := blk_keep x2 hbB
  replace sC := (sC.keep hbB).keep hbC
  replace sS := (sS.keep hbB).keep hbC
  replace f0 : wB.cell? ⟨w.heap.size, 0, none⟩ = some (.slice sa sn sc) := cell_block x1 0
  replace f1 : wB.cell? ⟨w.heap.size, 1, none⟩ = some (.int .i64 off) := cell_block x1 1
  have hl6 := cell_lt f0
  go_wp2_with fail
  refine (DecayErr_any sa sn sc xs off _ (h3.keep BC)).mono ?_
  rintro e v ⟨he, hbD⟩
  rw [HD.out] at he
  subst he
  replace x1 := blk_keep (blk_keep x1 hbC) hbD
  replace x2 := blk_keep (blk_keep x2 hbC) hbD
  replace x3 := blk_keep x3 hbD
  replace sC := sC.keep hbD
  replace sS := sS.keep hbD
  have BV := BC.trans (hbD.mono BC.size)
  clear BA BB BC hbB hbC hbD oA f0 f1 hl6
  have f0 : v.cell? ⟨w.heap.size, 0, none⟩ = some (.slice sa sn sc) := cell_block x1 0
  have f1 : v.cell? ⟨w.heap.size, 1, none⟩ = some (.int .i64 off) := cell_block x1 1
  have g0 : v.cell? ⟨w6.heap.size, 0, none⟩ = some (.int .i64 p) := cell_block x2 0
  have g1 : v.cell? ⟨w6.heap.size, 1, none⟩ = some (.int .i64 q) := cell_block x2 1
  have g2 : v.cell? ⟨w6.heap.size, 2, none⟩ = some (.int .i64 r) := cell_block x2 2
  have g3 : v.cell? ⟨w6.heap.size, 3, none⟩ = some (.int .i64 s) := cell_block x2 3
  have k0 : v.cell? ⟨wB.heap.size, 0, none⟩ = some (.int .i64 p') := cell_block x3 0
  have k1 : v.cell? ⟨wB.heap.size, 1, none⟩ = some (.int .i64 q') := cell_block x3 1
  have k2 : v.cell? ⟨wB.heap.size, 2, none⟩ = some (.int .i64 r') := cell_block x3 2
  have k3 : v.cell? ⟨wB.heap.size, 3, none⟩ = some (.int .i64 s') := cell_block x3 3
  by_cases hz : D = 0
  case neg =>
    have hc3 : (D != 0) = true := by simpa using hz
    have e1 : E1 = D := by rw [P4.out, firstE_two, if_neg hz]
    have e2 : E2 = D := by rw [Q4.out, firstE_two, if_neg hz]
    subst e1
    subst e2
    obtain ⟨rfl, rfl, rfl, rfl⟩ := P2.out hz
    obtain ⟨rfl, rfl, rfl, rfl⟩ := Q2.out hz
    have hC0 : C = [] := by rw [← HC.out]; unfold crF; rw [HD.out, if_neg hz]
    have hS0 : S = [] := by
      rw [← HS.out]
      unfold sgF
      rw [HC.out, hC0]
      rfl
    subst hC0
    subst hS0
    obtain rfl : nC = 0 := sC.len
    obtain rfl : nS = 0 := sS.len
    clear hz
    go_wp2_with fail
    go_ret
    exact ⟨rfl, BV⟩
  subst hz
  have hCe : crossF off 0 (-1) xs = C := by
    rw [← HC.out]
    unfold crF
    rw [HD.out, if_pos rfl]
  have hp4 := P4.out
  rw [hCe, firstE_two, if_pos rfl] at hp4
  have hq4 := Q4.out
  rw [HS.out, firstE_two, if_pos rfl] at hq4
  have HCE := Lib.hid hCe
  clear hCe
  obtain ⟨b1, t1, t2⟩ : ∃ b : Bool, (b = true → 2 ≤ C.length ∧ E1 = 0) ∧ (b = false → C.length < 2 ∧ E1 = 12) := by
    by_cases h : 2 ≤ C.length
    · refine ⟨true, fun _ => ⟨h, ?_⟩, fun hh => by cases hh⟩
      rw [hp4, decide_eq_true (by omega)]
      rfl
    · refine ⟨false, fun hh => (by cases hh), fun _ => ⟨by omega, ?_⟩⟩
      rw [hp4, decide_eq_false (by omega)]
      rfl
  obtain ⟨B2, u1, u2⟩ : ∃ b : Bool, (b = true → 2 ≤ S.length ∧ E2 = 0) ∧ (b = false → S.length < 2 ∧ E2 = 12) := by
    by_cases h : 2 ≤ S.length
    · refine ⟨true, fun _ => ⟨h, ?_⟩, fun hh => by cases hh⟩
      rw [hq4, decide_eq_true (by omega)]
      rfl
    · refine ⟨false, fun hh => (by cases hh), fun _ => ⟨by omega, ?_⟩⟩
      rw [hq4, decide_eq_false (by omega)]
      rfl
  rw [← HCE.out] at t1 t2
  rw [← HS.out] at u1 u2
  have T1 := Lib.hid t1
  have T2 := Lib.hid t2
  have R1 := Lib.hid u1
  have R2 := Lib.hid u2
  clear t1 t2 u1 u2 hp4 hq4
  have hCR : Calls Try.prog 66 #[.agg #[.slice sa sn sc, .int .i64 off]] v fun e w' => ∃ a' L c', e = .returned (.slice a' L c') ∧ OwR w' v.heap.size a' L c' C ∧ Below v.heap.size v w' := by
    have := Crossings_any sa sn sc xs off v (h3.keep BV) HD.out
    rwa [HCE.out] at this
  have hSW : ∀ v, SI v sa sn sc xs → Calls Try.prog 67 #[.agg #[.slice sa sn sc, .int .i64 off]] v fun e w' => ∃ a' L c', e = .returned (.slice a' L c') ∧ OwR w' v.heap.size a' L c' S ∧ Below v.heap.size v w' := by
    intro v hv
    have := Swings_any sa sn sc xs off v hv HD.out
    rwa [HS.out] at this
  have HSW := Lib.hid hSW
  clear hSW
  go_wp2_with fail
  refine hCR.mono ?_
  rintro e wE ⟨aE, nE, cE, rfl, oE, hbE⟩
  replace x1 := blk_keep x1 hbE
  replace x2 := blk_keep x2 hbE
  replace x3 := blk_keep x3 hbE
  replace sC := sC.keep hbE
  replace sS := sS.keep hbE
  have BE := BV.trans (hbE.mono BV.size)
  clear BV hbE hCR f0 f1 g0 g1 g2 g3 k0 k1 k2 k3
  have f0 : wE.cell? ⟨w.heap.size, 0, none⟩ = some (.slice sa sn sc) := cell_block x1 0
  have f1 : wE.cell? ⟨w.heap.size, 1, none⟩ = some (.int .i64 off) := cell_block x1 1
  go_wp2_with fail
  refine (ranges_any aC aE nC nE cC cE C C _ sC oE.sr).mono ?_
  rintro e wF ⟨rfl, nF, rfl⟩
  rw [show decide (C = C) = true from decide_eq_true rfl]
  have hbF := below_drewN (Below.refl wE.heap.size wE) nF
  obtain ⟨wF, hwF⟩ : ∃ x, wE.drewN nF = x := ⟨_, rfl⟩
  rw [hwF] at hbF ⊢
  clear hwF
  replace x1 := blk_keep x1 hbF
  replace x2 := blk_keep x2 hbF
  replace x3 := blk_keep x3 hbF
  replace sS := sS.keep hbF
  have BF := BE.trans (hbF.mono BE.size)
  clear BE hbF f0 f1 oE sC
  have f0 : wF.cell? ⟨w.heap.size, 0, none⟩ = some (.slice sa sn sc) := cell_block x1 0
  have f1 : wF.cell? ⟨w.heap.size, 1, none⟩ = some (.int .i64 off) := cell_block x1 1
  go_wp2_with fail
  refine (HSW.out _ (h3.keep BF)).mono ?_
  rintro e wG ⟨aG, nG, cG, rfl, oG, hbG⟩
  replace x1 := blk_keep x1 hbG
  replace x2 := blk_keep x2 hbG
  replace x3 := blk_keep x3 hbG
  replace sS := sS.keep hbG
  have BG := BF.trans (hbG.mono BF.size)
  clear BF hbG f0 f1
  go_wp2_with fail
  refine (ranges_any aS aG nS nG cS cG S S _ sS oG.sr).mono ?_
  rintro e wH ⟨rfl, nH, rfl⟩
  rw [show decide (S = S) = true from decide_eq_true rfl]
  have hbH := below_drewN (Below.refl wG.heap.size wG) nH
  obtain ⟨wH, hwH⟩ : ∃ x, wG.drewN nH = x := ⟨_, rfl⟩
  rw [hwH] at hbH ⊢
  clear hwH
  replace x1 := blk_keep x1 hbH
  replace x2 := blk_keep x2 hbH
  replace x3 := blk_keep x3 hbH
  have BH := BG.trans (hbH.mono BG.size)
  clear BG hbH oG sS
  have f0 : wH.cell? ⟨w.heap.size, 0, none⟩ = some (.slice sa sn sc) := cell_block x1 0
  have f1 : wH.cell? ⟨w.heap.size, 1, none⟩ = some (.int .i64 off) := cell_block x1 1
  go_wp2_with fail
  refine (rPeriod_any sa sn sc xs off p q r s b1 _ (h3.keep BH) HD.out (fun h => ⟨(T2.out h).1, P2.out (by rw [(T2.out h).2]; decide)⟩) (fun h => ⟨(T1.out h).1, P3.out (T1.out h).2⟩)).mono ?_
  rintro e wI ⟨rfl, hbI⟩
  have BI := BH.trans (hbI.mono BH.size)
  have x1I := blk_keep x1 hbI
  have x2I := blk_keep x2 hbI
  have x3I := blk_keep x3 hbI
  have g0 : wI.cell? ⟨w6.heap.size, 0, none⟩ = some (.int .i64 p) := cell_block x2I 0
  have g1 : wI.cell? ⟨w6.heap.size, 1, none⟩ = some (.int .i64 q) := cell_block x2I 1
  have g2 : wI.cell? ⟨w6.heap.size, 2, none⟩ = some (.int .i64 r) := cell_block x2I 2
  have g3 : wI.cell? ⟨w6.heap.size, 3, none⟩ = some (.int .i64 s) := cell_block x2I 3
  have hl2 := cell_lt g0
  have hl1 := blk_lt x1I
  clear f0 f1
  have f0 : wI.cell? ⟨w.heap.size, 0, none⟩ = some (.slice sa sn sc) := cell_block x1I 0
  have f1 : wI.cell? ⟨w.heap.size, 1, none⟩ = some (.int .i64 off) := cell_block x1I 1
  have hbK := hA wI (.cells #[.int .i64 p, .int .i64 q, .int .i64 r, .int .i64 s] 93)
  have x3K := blk_keep x3I hbK
  have BK := BI.trans (hbK.mono BI.size)
  clear x1 x2 x3 x1I x2I x3I BH BI hbI hbK
  cases b1
  · obtain rfl := (T2.out rfl).2
    obtain ⟨rfl, rfl, rfl, rfl⟩ := P2.out (by decide)
    go_wp2_with fail
    refine (rRatio_any sa sn sc xs off p' q' r' s' B2 _ (h3.keep BK) HD.out (fun h => ⟨(R2.out h).1, Q2.out (by rw [(R2.out h).2]; decide)⟩) (fun h => ⟨(R1.out h).1, Q3.out (R1.out h).2⟩)).mono ?_
    rintro e wX ⟨rfl, hbX⟩
    have x3X := blk_keep x3K hbX
    have k0 : wX.cell? ⟨wB.heap.size, 0, none⟩ = some (.int .i64 p') := cell_block x3X 0
    have k1 : wX.cell? ⟨wB.heap.size, 1, none⟩ = some (.int .i64 q') := cell_block x3X 1
    have k2 : wX.cell? ⟨wB.heap.size, 2, none⟩ = some (.int .i64 r') := cell_block x3X 2
    have k3 : wX.cell? ⟨wB.heap.size, 3, none⟩ = some (.int .i64 s') := cell_block x3X 3
    have hlX := cell_lt k0
    have BX := BK.trans (hbX.mono BK.size)
    have BY := BX.trans ((hA wX (.cells #[.int .i64 p', .int .i64 q', .int .i64 r', .int .i64 s'] 93)).mono BX.size)
    cases B2
    · obtain ⟨rfl, rfl, rfl, rfl⟩ := Q2.out (by rw [(R2.out rfl).2]; decide)
      obtain rfl := (R2.out rfl).2
      go_wp2_with fail
      go_ret
      exact ⟨rfl, BY⟩
    · obtain rfl := (R1.out rfl).2
      go_wp2_with fail
      go_ret
      exact ⟨rfl, BY⟩
  · obtain rfl := (T1.out rfl).2
    go_wp2_with fail
    refine (rRatio_any sa sn sc xs off p' q' r' s' B2 _ (h3.keep BK) HD.out (fun h => ⟨(R2.out h).1, Q2.out (by rw [(R2.out h).2]; decide)⟩) (fun h => ⟨(R1.out h).1, Q3.out (R1.out h).2⟩)).mono ?_
    rintro e wX ⟨rfl, hbX⟩
    have x3X := blk_keep x3K hbX
    have k0 : wX.cell? ⟨wB.heap.size, 0, none⟩ = some (.int .i64 p') := cell_block x3X 0
    have k1 : wX.cell? ⟨wB.heap.size, 1, none⟩ = some (.int .i64 q') := cell_block x3X 1
    have k2 : wX.cell? ⟨wB.heap.size, 2, none⟩ = some (.int .i64 r') := cell_block x3X 2
    have k3 : wX.cell? ⟨wB.heap.size, 3, none⟩ = some (.int .i64 s') := cell_block x3X 3
    have hlX := cell_lt k0
    have BX := BK.trans (hbX.mono BK.size)
    have BY := BX.trans ((hA wX (.cells #[.int .i64 p', .int .i64 q', .int .i64 r', .int .i64 s'] 93)).mono BX.size)
    cases B2
    · obtain ⟨rfl, rfl, rfl, rfl⟩ := Q2.out (by rw [(R2.out rfl).2]; decide)
      obtain rfl := (R2.out rfl).2
      go_wp2_with fail
      go_ret
      exact ⟨rfl, BY⟩
    · obtain rfl := (R1.out rfl).2
      go_wp2_with fail
      go_ret
      exact ⟨rfl, BY⟩
end Go.Proofs.Ytmaidjankakppaa
