/- Contracts for the law of balances. -/
import Derived.Test.YtaiikekgckjdeaaK28
namespace Go.Proofs.Ytaiikekgckjdeaa
open Go.RowKit
open Calmly (Kept)
set_option maxRecDepth 100000 in
set_option maxHeartbeats 1000000 in
theorem rStateErr_any (a a1 a2 a3 : Option Addr) (n c n1 c1 n2 c2 n3 c3 : Nat) (raw : List FlR) (fs : List Fl) (s : St) (w : World) (h1 : FrV w a n c raw fs) (h2 : StW w ((a1, n1, c1), (a2, n2, c2), (a3, n3, c3)) s) (hz : (frmE fs).2 = 0) :
    Calls Try.prog 76 #[.agg #[.slice a n c], .agg #[.slice a1 n1 c1, .slice a2 n2 c2, .slice a3 n3 c3]] w fun e w' => e = .returned (.int .i64 (stfE fs s).2) ∧ Below w.heap.size w w' := by
  have y2 := blk_keep (alloc_new w (.cells #[.slice a n c] 24)) ((Below.refl _ _).alloc (Nat.le_refl _) (.cells #[.slice a1 n1 c1, .slice a2 n2 c2, .slice a3 n3 c3] 97))
  have y3 := alloc_new (w.alloc (.cells #[.slice a n c] 24)) (.cells #[.slice a1 n1 c1, .slice a2 n2 c2, .slice a3 n3 c3] 97)
  have BW : Below w.heap.size w ((w.alloc (.cells #[.slice a n c] 24)).alloc (.cells #[.slice a1 n1 c1, .slice a2 n2 c2, .slice a3 n3 c3] 97)) := ((Below.refl _ _).alloc (Nat.le_refl _) _).alloc (by simp) _
  simp only [World.size_alloc] at y3
  have f0 := cell_block y2 0
  have g0 := cell_block y3 0
  have g1 := cell_block y3 1
  have g2 := cell_block y3 2
  go_enter Try.func76, Try.ntmps76
  go_wp2_with fail
  refine (rCheckState_any a a1 a2 a3 n c n1 c1 n2 c2 n3 c3 raw fs s _ (h1.keep BW) (h2.keep BW) hz).mono ?_
  rintro e w1 ⟨rfl, hb⟩
  dsimp only
  go_wp2_with fail
  go_ret
  exact ⟨rfl, BW.trans (hb.mono BW.size)⟩
/-- What the law of balances needs to know of one step of a run. -/
structure StpK (fs : List Fl) (m : List Int) (k : Nat) (s : St) (g : Int) : Prop where
  ok : StOk fs s
  st : (stfE fs s).2 = 0
  ops : k < m.length → opsE fs s g = 0
  last : (allS fs m).length = k + 1 → k < m.length → stpE fs s g = 22 ∧ 0 ≤ (runS fs (bgSt fs) m).2
  next : k + 1 < (allS fs m).length → k < m.length ∧ stpE fs s g = 0 ∧ stpS fs s g = steS fs s (nxts fs s g) ∧ (allS fs m)[k + 1]?.getD st0' = steS fs s (nxts fs s g) ∧ StOk fs (steS fs s (nxts fs s g)) ∧ (stfE fs (steS fs s (nxts fs s g))).2 = 0
theorem stpK_at {fs : List Fl} {m : List Int} (hf : (frmE fs).2 = 0) (hm : ∀ j, j < m.length → -100 ≤ m[j]?.getD 0 ∧ m[j]?.getD 0 ≤ 100) {k : Nat} (hk : k < (allS fs m).length) : StpK fs m k ((allS fs m)[k]?.getD st0') (m[k]?.getD 0) := by
  obtain ⟨h1, h2, h3, h4, h5⟩ := runS_steps (fs := fs) m (bgSt fs)
  obtain ⟨ok, st⟩ := all_stf hf m hk
  have hlen : (allS fs m).length = (runS fs (bgSt fs) m).1.length + 1 := by simp [allS]
  have hops : k < m.length → opsE fs ((allS fs m)[k]?.getD st0') (m[k]?.getD 0) = 0 := fun hkm => by
    have hsta : (staE fs ((allS fs m)[k]?.getD st0')).2 = 0 := by rw [staE, if_pos hf]; exact st
    have hg : grd (m[k]?.getD 0) = true := szd_iff.2 (hm k hkm)
    rw [opsE, first_ok hsta, hg]
    rfl
  refine ⟨ok, st, hops, fun hl hkm => ?_, fun hl => ?_⟩
  · have hkl : k = (runS fs (bgSt fs) m).1.length := by omega
    obtain ⟨k1, k2⟩ := h5 (by omega)
    rw [← hkl] at k2
    exact ⟨by rw [stpE, if_pos (hops hkm)]; exact if_neg k2, k1⟩
  · obtain ⟨k1, k2⟩ := h4 k (by omega)
    have hkm : k < m.length := by omega
    have hE : stpE fs ((allS fs m)[k]?.getD st0') (m[k]?.getD 0) = 0 := by rw [stpE, if_pos (hops hkm)]; exact if_pos k1
    obtain ⟨j1, j2⟩ := ste_stf ok st k1
    exact ⟨hkm, hE, by rw [stpS, if_pos hE], k2, j1, j2⟩
/-- What the law of balances needs to know of a run. -/
theorem run_len {fs : List Fl} (m : List Int) : 0 < (allS fs m).length ∧ (allS fs m).length ≤ m.length + 1 ∧ ((runS fs (bgSt fs) m).2 < 0 → (allS fs m).length = m.length + 1) ∧ (runS fs (bgSt fs) m).2 < (fs.length : Int) := by
  obtain ⟨h1, h2, h3, _, _⟩ := runS_steps (fs := fs) m (bgSt fs)
  have hlen : (allS fs m).length = (runS fs (bgSt fs) m).1.length + 1 := by simp [allS]
  exact ⟨by omega, by omega, fun h => by have := h2 h; omega, h3⟩
theorem run_more {fs : List Fl} (m : List Int) (g : Int) : ∃ R, allS fs (m ++ [g]) = allS fs m ++ R ∧ (0 ≤ (runS fs (bgSt fs) m).2 → R = [] ∧ (runS fs (bgSt fs) (m ++ [g])).2 = (runS fs (bgSt fs) m).2) := by
  obtain ⟨R, h1, h2⟩ := runS_more (fs := fs) g m (bgSt fs)
  exact ⟨R, by rw [allS, h1]; rfl, h2⟩
theorem spT_bd {fs : List Fl} {s : St} {g : Int} (ok : StOk fs s) (hg : -100 ≤ g ∧ g ≤ 100) (h1 : ∀ i : Nat, -10000 ≤ s.1[i]?.getD 0 ∧ s.1[i]?.getD 0 ≤ 10000) (h2 : ∀ i : Nat, -10000 ≤ s.2.1[i]?.getD 0 ∧ s.2.1[i]?.getD 0 ≤ 10000) {k : Nat} (hk : k ≤ fs.length) :
    -2000000000000000000 ≤ sumR (spT fs s g) k ∧ sumR (spT fs s g) k ≤ 2000000000000000000 := by
  have h5 := (frmE_ok ok.frm).1
  have hW : ∀ i, i < fs.length → -500000000 ≤ baV fs s g i + baU s i ∧ baV fs s g i + baU s i ≤ 500000000 := fun i hi => by
    obtain ⟨V, U, Wv, VV, UU, DV, KF, SF, MG, GF, FQ, MQ, RR, RF, h, -, -, -, -⟩ := baF_at ok hg h1 h2 hi
    rw [baV, baU, h.v, h.u, h.w]
    exact h.bw
  have hall : ∀ i, i < k → -200000000000000000 ≤ spT fs s g i ∧ spT fs s g i ≤ 200000000000000000 := fun i hi => by
    have hF := ok.frS_bd i
    have k1 := mul_abs (a := frS fs s i) (x := baV fs s g i + baU s i) (A := 200000000) (C := 500000000) hF.1 hF.2 (hW i (by omega)).1 (hW i (by omega)).2
    unfold spT
    by_cases h0 : i = 0
    · rw [if_pos h0]
      omega
    · rw [if_neg h0]
      have k2 := mul_abs (a := frS fs s i) (x := baV fs s g (i - 1) + baU s (i - 1)) (A := 200000000) (C := 500000000) hF.1 hF.2 (hW (i - 1) (by omega)).1 (hW (i - 1) (by omega)).2
      omega
  have c := sumR_abs (f := spT fs s g) (M := 200000000000000000) (n := k) hall
  omega
/-- What is known of one floor, with the force of its spring. -/
structure FlK (fs : List Fl) (s : St) (g : Int) (j : Nat) (x0 X NW BF V U Wv VV UU DV KF FR SW P0 PW T0 K0 : Int) : Prop where
  m : (fs[j]?.getD fl0).1 = x0
  x : nxS fs s g j = X
  nw : s.1[j]?.getD 0 = NW
  bf : s.2.1[j]?.getD 0 = BF
  v : X - NW = V
  u : NW - BF = U
  w : V + U = Wv
  vv : V * V = VV
  uu : U * U = UU
  dv : VV - UU = DV
  kf : x0 * DV = KF
  fr : frS fs s j = FR
  sw : FR * Wv = SW
  p0 : j ≠ 0 → nxS fs s g (j - 1) - s.2.1[j - 1]?.getD 0 = P0
  pw : FR * P0 = PW
  t0 : sumR (spT fs s g) j = T0
  k0 : sumR (baK fs s g) j = K0
  tn : sumR (spT fs s g) (j + 1) = if j = 0 then T0 - SW else T0 - SW + PW
  kn : sumR (baK fs s g) (j + 1) = K0 + KF
  bx : -500000000 ≤ X ∧ X ≤ 500000000
  bnw : -10000 ≤ NW ∧ NW ≤ 10000
  bbf : -10000 ≤ BF ∧ BF ≤ 10000
  bm : 1 ≤ x0 ∧ x0 ≤ 10000
  bv : -500000000 ≤ V ∧ V ≤ 500000000
  bu : -20000 ≤ U ∧ U ≤ 20000
  bw : -500000000 ≤ Wv ∧ Wv ≤ 500000000
  bvv : -250000000000000000 ≤ VV ∧ VV ≤ 250000000000000000
  buu : -400000000 ≤ UU ∧ UU ≤ 400000000
  bkf : -600000000000000000 ≤ KF ∧ KF ≤ 600000000000000000
  bfr : -200000000 ≤ FR ∧ FR ≤ 200000000
  bsw : -100000000000000000 ≤ SW ∧ SW ≤ 100000000000000000
  bp0 : -500000000 ≤ P0 ∧ P0 ≤ 500000000
  bpw : -100000000000000000 ≤ PW ∧ PW ≤ 100000000000000000
  bt0 : -2000000000000000000 ≤ T0 ∧ T0 ≤ 2000000000000000000
  bk0 : -3000000000000000000 ≤ K0 ∧ K0 ≤ 3000000000000000000
theorem flK_at {fs : List Fl} {s : St} {g : Int} (ok : StOk fs s) (hg : -100 ≤ g ∧ g ≤ 100) (h1 : ∀ i : Nat, -10000 ≤ s.1[i]?.getD 0 ∧ s.1[i]?.getD 0 ≤ 10000) (h2 : ∀ i : Nat, -10000 ≤ s.2.1[i]?.getD 0 ∧ s.2.1[i]?.getD 0 ≤ 10000) {j : Nat} (hj : j < fs.length) :
    ∃ x0 X NW BF V U Wv VV UU DV KF FR SW P0 PW T0 K0, FlK fs s g j x0 X NW BF V U Wv VV UU DV KF FR SW P0 PW T0 K0 := by
  obtain ⟨V, U, Wv, VV, UU, DV, KF, SF, MG, GF, FQ, MQ, RR, RF, h, e1, -, -, -⟩ := baF_at ok hg h1 h2 hj
  have hF := ok.frS_bd j
  have kT := spT_bd ok hg h1 h2 (k := j) (by omega)
  have kK := (bal_bd ok hg h1 h2 (k := j) (by omega)).1
  have hWj : baV fs s g j + baU s j = Wv := by rw [baV, baU, h.v, h.u, h.w]
  have kSW := mul_abs (a := frS fs s j) (x := Wv) (A := 200000000) (C := 500000000) hF.1 hF.2 h.bw.1 h.bw.2
  have hP : ∃ P0 : Int, (j ≠ 0 → nxS fs s g (j - 1) - s.2.1[j - 1]?.getD 0 = P0) ∧ (-500000000 ≤ P0 ∧ P0 ≤ 500000000) ∧ (j ≠ 0 → baV fs s g (j - 1) + baU s (j - 1) = P0) := by
    by_cases h0 : j = 0
    · exact ⟨0, fun h => absurd h0 h, by omega, fun h => absurd h0 h⟩
    · obtain ⟨V', U', W', VV', UU', DV', KF', SF', MG', GF', FQ', MQ', RR', RF', h', -, -, -, -⟩ := baF_at ok hg h1 h2 (show j - 1 < fs.length by omega)
      have b1 := h'.v
      have b2 := h'.u
      have b3 := h'.w
      refine ⟨W', fun _ => by omega, h'.bw, fun _ => by rw [baV, baU, b1, b2, b3]⟩
  obtain ⟨P0, p1, p2, p3⟩ := hP
  have kPW := mul_abs (a := frS fs s j) (x := P0) (A := 200000000) (C := 500000000) hF.1 hF.2 p2.1 p2.2
  refine ⟨_, _, _, _, V, U, Wv, VV, UU, DV, KF, frS fs s j, frS fs s j * Wv, P0, frS fs s j * P0, sumR (spT fs s g) j, sumR (baK fs s g) j, ⟨rfl, rfl, rfl, rfl, h.v, h.u, h.w, h.vv, h.uu, h.dv, h.kf, rfl, rfl, p1, rfl, rfl, rfl, ?_, by rw [sumR, e1], h.bx, h.bnw, h.bbf, h.bm, h.bv, h.bu, h.bw, h.bvv, h.buu, h.bkf, hF, by omega, p2, by omega, kT, kK⟩⟩
  rw [sumR, spT, hWj]
  by_cases h0 : j = 0
  · rw [if_pos h0, if_pos h0]
    omega
  · rw [if_neg h0, if_neg h0, p3 h0]
    omega
end Go.Proofs.Ytaiikekgckjdeaa
