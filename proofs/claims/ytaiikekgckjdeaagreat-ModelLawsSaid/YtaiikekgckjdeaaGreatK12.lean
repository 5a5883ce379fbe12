/- All states of a run. The peaks of a run: the plain part. Many marks are taken at a function's end. The peaks of a run: the walk. -/
import Derived.Test.YtaiikekgckjdeaaGreatK11
namespace Go.Proofs.YtaiikekgckjdeaaGreat
open Go.RowKit
open Calmly (Kept)

theorem grdErr_any (i v : Int) (w : World) : Calls Tryz.prog 79 #[.int .i64 i, .int .i64 v] w fun e w' => e = .returned (.int .i64 (unlessE (grd v) 2)) ∧ Below w.heap.size w w' := by
  go_enter Tryz.func79, Tryz.ntmps79
  go_wp2_with fail
  refine (dGround_any v _).mono ?_
  rintro e w1 ⟨rfl, rfl⟩
  go_wp2_with fail
  refine (dUnless_any _ 2 _).mono ?_
  rintro e w1 ⟨rfl, rfl⟩
  go_wp2_with fail
  go_ret
  exact ⟨rfl, Below.refl _ _⟩
/-- What lies between two rounds of a run. -/
structure RnI (w : World) (N b7 : Nat) (a : Option Addr) (n c : Nat) (fs : List Fl) (oa : Option Addr) (k oc : Nat) (L : List St) (s : St) (wr : World) : Prop where
  bel : Below w.heap.size w wr
  t2 : wr.heap[w.heap.size]? = some (.cells #[.slice a n c] 71)
  t7 : ∃ x : StR, wr.heap[b7]? = some (.cells #[hv x.1, hv x.2.1, hv x.2.2] 116) ∧ StV wr x s
  ok : StOk fs s
  out : ∃ raw, Sts wr N oa (k + 1) oc raw L
  sz : N ≤ wr.heap.size
theorem StV.lens {w : World} {x : StR} {s : St} {fs : List Fl} {n : Nat} (h : StV w x s) (ok : StOk fs s) (hn : n = fs.length) : ∃ a1 c1 a2 c2 a3 c3, x = ((a1, n, c1), (a2, n, c2), (a3, n, c3)) := by
  obtain ⟨⟨a1, n1, c1⟩, ⟨a2, n2, c2⟩, ⟨a3, n3, c3⟩⟩ := x
  obtain ⟨v1, _, v3, _, ⟨raw, v5⟩, _⟩ := h
  dsimp only at v1 v3 v5
  have e1 : n1 = n := by rw [v1.len, ok.now, hn]
  have e2 : n2 = n := by rw [v3.len, ok.bef, hn]
  have e3 : n3 = n := by rw [v5.row.len, v5.len, ok.hol, hn]
  subst e1 e2 e3
  exact ⟨a1, c1, a2, c2, a3, c3, rfl⟩
theorem RnI.keep {w : World} {N b7 : Nat} {a : Option Addr} {n c : Nat} {fs : List Fl} {oa : Option Addr} {k oc : Nat} {L : List St} {s : St} {wr w' : World} (h : RnI w N b7 a n c fs oa k oc L s wr) (hb : Below wr.heap.size wr w') : RnI w N b7 a n c fs oa k oc L s w' := by
  obtain ⟨i1, i2, ⟨x, i3, i4⟩, i5, ⟨raw, i6⟩, i7⟩ := h
  exact ⟨i1.trans (hb.mono i1.size), blk_keep i2 hb, ⟨x, blk_keep i3 hb, i4.keep hb⟩, i5, ⟨raw, i6.keep hb⟩, Nat.le_trans i7 hb.size⟩
/-- The state now is put in its place. -/
theorem RnI.store {w : World} {N b7 : Nat} {a : Option Addr} {n c : Nat} {fs : List Fl} {oa : Option Addr} {k oc : Nat} {L : List St} {s : St} {wr : World} (h : RnI w N b7 a n c fs oa k oc L s wr) (h7 : w.heap.size < b7) (h7N : b7 < N) {x : StR} {s' : St} (hx : StV wr x s') (ok : StOk fs s') :
    RnI w N b7 a n c fs oa k oc L s' (((wr.setCell ⟨b7, 0, none⟩ (hv x.1)).setCell ⟨b7, 1, none⟩ (hv x.2.1)).setCell ⟨b7, 2, none⟩ (hv x.2.2)) ∧ (((wr.setCell ⟨b7, 0, none⟩ (hv x.1)).setCell ⟨b7, 1, none⟩ (hv x.2.1)).setCell ⟨b7, 2, none⟩ (hv x.2.2)).heap[b7]? = some (.cells #[hv x.1, hv x.2.1, hv x.2.2] 116) ∧ StV (((wr.setCell ⟨b7, 0, none⟩ (hv x.1)).setCell ⟨b7, 1, none⟩ (hv x.2.1)).setCell ⟨b7, 2, none⟩ (hv x.2.2)) x s' := by
  obtain ⟨i1, i2, ⟨x0, i3, _⟩, _, ⟨raw, i6⟩, i7⟩ := h
  have hne : ∀ b, b ≠ b7 → (((wr.setCell ⟨b7, 0, none⟩ (hv x.1)).setCell ⟨b7, 1, none⟩ (hv x.2.1)).setCell ⟨b7, 2, none⟩ (hv x.2.2)).heap[b]? = wr.heap[b]? := fun b h => by
    rw [Below.heap_setCell _ _ _ _ h, Below.heap_setCell _ _ _ _ h, Below.heap_setCell _ _ _ _ h]
  have q6 := setBlk (setBlk (setBlk i3 0 (hv x.1)) 1 (hv x.2.1)) 2 (hv x.2.2)
  have hw : w.heap.size ≤ b7 := by omega
  have hB : But 116 wr (((wr.setCell ⟨b7, 0, none⟩ (hv x.1)).setCell ⟨b7, 1, none⟩ (hv x.2.1)).setCell ⟨b7, 2, none⟩ (hv x.2.2)) :=
    ⟨by simp, fun b _ hn => hne b (fun hb => hn (hb ▸ ⟨_, i3⟩))⟩
  exact ⟨⟨((i1.setCell hw _).setCell hw _).setCell hw _, (hne _ (by omega)).trans i2, ⟨x, by simpa using q6, hx.but hB⟩, ok, ⟨raw, owns_apart i6.row hne h7N, i6.len, fun i hi => (i6.st i hi).but hB⟩, by simpa using i7⟩, by simpa using q6, hx.but hB⟩
/-- The state now is put at the end of the row. -/
theorem RnI.app {w : World} {N b7 : Nat} {a : Option Addr} {n c : Nat} {fs : List Fl} {oa : Option Addr} {k oc : Nat} {L : List St} {s : St} {wr w9 : World} (h : RnI w N b7 a n c fs oa k oc L s wr) (hwN : w.heap.size < N) (h7N : b7 < N) {x : StR} (hx7 : wr.heap[b7]? = some (.cells #[hv x.1, hv x.2.1, hv x.2.2] 116)) (hx : StV wr x s) {raw : List StR} (hS : Sts wr N oa (k + 1) oc raw L)
    {a9 : Option Addr} {c9 : Nat} (ho : w9.ownsRow N 116 3 (.slice a9 (k + 1 + 1) c9) (k + 1 + 1) (raw.flatMap encStR ++ [hv x.1, hv x.2.1, hv x.2.2])) (hb : Below N wr w9) (hB : But 116 wr w9) :
    RnI w N b7 a n c fs a9 (k + 1) c9 (L ++ [s]) s w9 := by
  obtain ⟨i1, i2, _, i5, _, i7⟩ := h
  refine ⟨i1.trans (hb.mono (by omega)), blk_but i2 hB (by decide), ⟨x, (hb.block b7 h7N).trans hx7, hx.but hB⟩, i5, ⟨raw ++ [x], ?_, by simp [hS.len], fun i hi => ?_⟩, Nat.le_trans i7 hb.size⟩
  · unfold OwStR
    rw [List.flatMap_append]
    exact ho
  · have hl := hS.len
    rcases Nat.lt_or_ge i L.length with hik | hik
    · rw [List.getElem?_append_left (by omega), List.getElem?_append_left hik]
      exact (hS.st i hik).but hB
    · obtain rfl : i = L.length := by simp at hi; omega
      rw [← hl, List.getElem?_append_right (Nat.le_refl _), hl, List.getElem?_append_right (Nat.le_refl _)]
      simpa using hx.but hB
theorem unlessG_zero {b : Bool} {x : Int} (h : unlessE b x = 0) (hx : x ≠ 0) : b = true := by
  cases b
  · exact absurd h hx
  · rfl
theorem nxts_bd {fs : List Fl} {s : St} {g : Int} (ok : StOk fs s) (hg : -1000000 ≤ g ∧ g ≤ 1000000) (i : Nat) : -1000000000000 ≤ (nxts fs s g)[i]?.getD 0 ∧ (nxts fs s g)[i]?.getD 0 ≤ 1000000000000 := by
  rcases Nat.lt_or_ge i fs.length with hi | hi
  · have e : (nxts fs s g)[i]?.getD 0 = nxS fs s g i := by simp [nxts, hi]
    have h1 := ok.nbd i
    have h2 := ok.bbd i
    have h3 := psA_bd (k := fs.length) (i := i) (M := 200000000) (F := frS fs s) (fun j => ok.frS_bd j)
    have h4 := Int.natAbs_ediv_le_natAbs (psA (frS fs s) fs.length i) (fs[i]?.getD fl0).1
    rw [e, nxS]
    omega
  · have e : (nxts fs s g)[i]?.getD 0 = 0 := by
      rw [List.getElem?_eq_none (by rw [nxts_len]; exact hi)]
      rfl
    rw [e]
    omega
theorem runS_len {fs : List Fl} : ∀ {l : List Int} {s x : St}, x ∈ (runS fs s l).1 → x.1.length = fs.length := by
  intro l
  induction l with
  | nil => intro s x h; cases h
  | cons g l ih =>
    intro s x h
    rw [runS] at h
    split at h
    · rcases List.mem_cons.1 h with rfl | h
      · exact nxts_len fs s g
      · exact ih h
    · cases h
theorem runS_at {fs : List Fl} {s : St} {m : List Int} {k : Nat} (hk : k < m.length) : runS fs s (m.drop k) = runS fs s (m[k]?.getD 0 :: m.drop (k + 1)) := by
  rw [List.drop_eq_getElem_cons hk]
  simp [hk]
theorem L_len {fs : List Fl} {m : List Int} {L R : List St} (h : bgSt fs :: (runS fs (bgSt fs) m).1 = L ++ R) (hf : fs.length ≤ 1000) {n : Nat} (hn : n = L.length) : ∀ i, i < n → (L[i]?.getD ([], [], [])).1.length ≤ 1000 := by
  intro i hi
  rw [hn] at hi
  have e : L[i]?.getD ([], [], []) = L[i] := by simp [hi]
  rw [e]
  have hm : L[i] ∈ bgSt fs :: (runS fs (bgSt fs) m).1 := by
    rw [h]
    exact List.mem_append_left _ (List.getElem_mem hi)
  rcases List.mem_cons.1 hm with hm | hm
  · rw [hm]
    simpa [bgSt] using hf
  · rw [runS_len hm]
    exact hf
theorem Sts.lower {w : World} {B B' : Nat} {a : Option Addr} {n c : Nat} {raw : List StR} {ss : List St} (h : Sts w B a n c raw ss) (hb : B' ≤ B) : Sts w B' a n c raw ss := ⟨owns_lower h.row hb, h.len, h.st⟩
theorem one_row (w : World) {B : Nat} (hB : B ≤ w.heap.size) (x : StR) : OwStR (w.alloc (.cells #[hv x.1, hv x.2.1, hv x.2.2] 116)) B (some ⟨w.heap.size, 0, none⟩) 1 1 [x] :=
  ⟨rfl, .inr ⟨w.heap.size, 1, _, rfl, hB, alloc_new _ _, Nat.le_refl _, by unfold maxLen; omega, rfl, rfl⟩⟩
/-- What a run hands back. -/
structure RunR (w w' : World) (fs : List Fl) (m : List Int) (E : Int) (sa : Option Addr) (sn sc : Nat) (st : Int) : Prop where
  storey : st = if E = 0 then (runS fs (bgSt fs) m).2 else 0
  none : E ≠ 0 → sn = 0
  states : E = 0 → ∃ raw', Sts w' w.heap.size sa sn sc raw' (bgSt fs :: (runS fs (bgSt fs) m).1)
set_option maxRecDepth 100000 in
set_option maxHeartbeats 8000000 in
theorem RunOf_any (a ma : Option Addr) (n c mn mc : Nat) (raw : List FlR) (fs : List Fl) (m : List Int) (w : World) (h1 : FrV w a n c raw fs) (h2 : SI w ma mn mc m) :
    Calls Tryz.prog 62 #[.agg #[.slice a n c], .slice ma mn mc] w fun e w' => ∃ sa sn sc st, e = .returned (.tuple #[.slice sa sn sc, .int .i64 st, .int .i64 (runE fs m)]) ∧ RunR w w' fs m (runE fs m) sa sn sc st ∧ Below w.heap.size w w' := by
  have hn := h1.n_
  have m1 := h1.row.max
  have q1 := h1.row.cap
  have m2 := h2.max
  have q2 := h2.cap
  have hml := h2.len
  have HN := Lib.hid hn
  have HM := Lib.hid hml
  clear hn hml
  obtain ⟨E, hE⟩ : ∃ E, runE fs m = E := ⟨_, rfl⟩
  rw [hE]
  have HE := Lib.hid hE
  obtain ⟨F, hF⟩ : ∃ F, (frmE fs).2 = F := ⟨_, rfl⟩
  have HF := Lib.hid hF
  clear hE hF
  have y0 := alloc_new w (.cells #[.slice a n c] 71)
  have BW : Below w.heap.size w (w.alloc (.cells #[.slice a n c] 71)) := (Below.refl _ _).alloc (Nat.le_refl _) _
  go_enter Tryz.func62, Tryz.ntmps62
  go_wp2_with fail
  generalize w.alloc (.cells #[.slice a n c] 71) = W at *
  refine (BeginOf_any a n c raw fs W (h1.keep BW)).mono ?_
  rintro e w1 ⟨x, rfl, hx1, hx2, hs1⟩
  rw [HF.out] at hx1 hx2 ⊢
  have B1 := BW.trans (hs1.mono BW.size)
  replace y0 := blk_keep y0 hs1
  have hwb := blk_lt y0
  obtain ⟨⟨a1, n1, c1⟩, ⟨a2, n2, c2⟩, ⟨a3, n3, c3⟩⟩ := x
  dsimp only [hv]
  have HX1 := Lib.hid hx1
  have HX2 := Lib.hid hx2
  clear hx1 hx2
  go_wp2_with fail
  refine (dUnless_any _ 8 _).mono ?_
  rintro e w2 ⟨rfl, rfl⟩
  go_wp2_with fail
  refine (dFirst_any _ 2 2 _ _ (SI.two _ _ _ _ (by simp))).mono ?_
  rintro e w2 ⟨rfl, rfl⟩
  obtain ⟨G, hG⟩ : ∃ G, firstE [F, unlessE (decide ((mn : Int) ≤ 60)) 8] = G := ⟨_, rfl⟩
  rw [hG]
  have hEG : E = if G = 0 then motE m else G := by rw [← HE.out, runE, HF.out, ← HM.out, hG]
  have hFG : G = 0 → F = 0 ∧ mn ≤ 60 := by
    intro h0
    rw [h0] at hG
    by_cases hF0 : F = 0
    · refine ⟨hF0, ?_⟩
      by_cases h6 : (mn : Int) ≤ 60
      · omega
      · rw [hF0] at hG
        simp [firstE, unlessE, h6] at hG
    · simp [firstE, hF0] at hG
  have HEG := Lib.hid hEG
  have HFG := Lib.hid hFG
  clear hG hEG hFG
  have y7 := blk_keep (alloc_new w1 (.cells #[.slice a1 n1 c1, .slice a2 n2 c2, .slice a3 n3 c3] 116)) ((Below.refl _ _).alloc (Nat.le_refl _) (.cells #[.int .i64 F, .int .i64 (unlessE (decide ((mn : Int) ≤ 60)) 8)] 33))
  have BA : Below w1.heap.size w1 ((w1.alloc (.cells #[.slice a1 n1 c1, .slice a2 n2 c2, .slice a3 n3 c3] 116)).alloc (.cells #[.int .i64 F, .int .i64 (unlessE (decide ((mn : Int) ≤ 60)) 8)] 33)) := ((Below.refl _ _).alloc (Nat.le_refl _) _).alloc (by simp) _
  generalize (w1.alloc (.cells #[.slice a1 n1 c1, .slice a2 n2 c2, .slice a3 n3 c3] 116)).alloc (.cells #[.int .i64 F, .int .i64 (unlessE (decide ((mn : Int) ≤ 60)) 8)] 33) = X at *
  have BX := B1.trans (BA.mono B1.size)
  replace y0 := blk_keep y0 BA
  by_cases hz : G = 0
  case neg =>
    have b1 : (G != 0) = true := by simpa using hz
    have hEG2 : E = G := by rw [HEG.out, if_neg hz]
    have H2 := Lib.hid hEG2
    have HZ := Lib.hid hz
    clear hz hEG2
    go_wp2_with fail
    refine bodyPost_ret (v := .tuple #[.slice none 0 0, .int .i64 0, .int .i64 G]) (by simp [results, Tryz.results62, go_sem]) rfl ⟨none, 0, 0, 0, by rw [H2.out], ⟨by rw [H2.out, if_neg HZ.out], fun _ => rfl, fun h => absurd (H2.out.symm.trans h) HZ.out⟩, BX⟩
  case pos =>
    obtain ⟨hF0, hm60⟩ := HFG.out hz
    have b1 : (G != 0) = false := by rw [hz]; rfl
    have hEG2 : E = motE m := by rw [HEG.out, if_pos hz]
    have H2 := Lib.hid hEG2
    have HF0 := Lib.hid hF0
    clear hz hEG2 hF0
    go_wp2_with fail
    refine (eachRun_any ma mn mc m X X (fun i => unlessE (grd (m[i]?.getD 0)) 2) (fun _ _ => True) (h2.keep BX) (Below.refl _ _) trivial (fun _ _ _ _ _ => trivial) ?_).mono ?_
    · intro i V' hi _ hV
      refine (grdErr_any i _ V').mono ?_
      rintro e w5 ⟨rfl, hs⟩
      exact ⟨rfl, trivial, hs.mono hV.size⟩
    rintro e w5 ⟨rfl, hs5⟩
    obtain ⟨I9, E9, h9⟩ : ∃ I9 E9, eaF (fun i => unlessE (grd (m[i]?.getD 0)) 2) 0 mn = (I9, E9) := ⟨_, _, rfl⟩
    rw [h9]
    dsimp only
    have hE9 : E = E9 := by rw [H2.out, motE, ← HM.out, h9]
    have H9 := Lib.hid hE9
    have B5 := BX.trans (hs5.mono BX.size)
    replace y0 := blk_keep y0 hs5
    replace y7 := blk_keep y7 hs5
    have hSt := HX1.out HF0.out
    by_cases hz : E9 = 0
    case neg =>
      have b2 : (E9 != 0) = true := by simpa using hz
      have HZ := Lib.hid hz
      clear hz h9 hE9
      go_wp2_with fail
      refine bodyPost_ret (v := .tuple #[.slice none 0 0, .int .i64 0, .int .i64 E9]) (by simp [results, Tryz.results62, go_sem]) rfl ⟨none, 0, 0, 0, by rw [H9.out], ⟨by rw [H9.out, if_neg HZ.out], fun _ => rfl, fun h => absurd (H9.out.symm.trans h) HZ.out⟩, B5⟩
    case pos =>
      have b2 : (E9 != 0) = false := by rw [hz]; rfl
      have hmo : motE m = 0 := by rw [← H2.out, hE9, hz]
      have hE0 : E = 0 := by rw [hE9, hz]
      have H0 := Lib.hid hE0
      have HMO := Lib.hid hmo
      have hfo : (frmE fs).2 = 0 := by rw [HF.out, HF0.out]
      have HFO := Lib.hid hfo
      clear hz h9 hE9 hmo hE0 hfo
      have ok0 := bgSt_ok HFO.out
      have f0 := cell_block y7 0
      have f1 := cell_block y7 1
      have f2 := cell_block y7 2
      have hSt5 := hSt.keep (BA.trans (hs5.mono BA.size))
      have hro := one_row w5 (Nat.le_refl _) ((a1, n1, c1), (a2, n2, c2), (a3, n3, c3))
      have BZ := (Below.refl w5.heap.size w5).alloc (Nat.le_refl _) (.cells #[.slice a1 n1 c1, .slice a2 n2 c2, .slice a3 n3 c3] 116)
      have hI0 : RnI w w5.heap.size w1.heap.size a n c fs (some ⟨w5.heap.size, 0, none⟩) 0 1 [bgSt fs] (bgSt fs) (w5.alloc (.cells #[.slice a1 n1 c1, .slice a2 n2 c2, .slice a3 n3 c3] 116)) :=
        ⟨B5.trans (BZ.mono B5.size), blk_keep y0 BZ, ⟨_, blk_keep y7 BZ, hSt5.keep BZ⟩, ok0, ⟨_, hro, rfl, fun i hi => by
          obtain rfl : i = 0 := by simpa using hi
          exact hSt5.keep BZ⟩, BZ.size⟩
      have HI0 := Lib.hid hI0
      clear hI0 hro hSt5 ok0
      have hbN : w1.heap.size < w5.heap.size := blk_lt y7
      have hgr : ∀ j, j < mn → -1000000 ≤ m[j]?.getD 0 ∧ m[j]?.getD 0 ≤ 1000000 := fun j hj => by
        have h5 := eaF_all (n := m.length) (k := 0) (m := m.length) (by omega) HMO.out j (by omega) (by rw [← HM.out]; exact hj)
        have h6 := szd_iff.1 (unlessG_zero h5 (by decide))
        omega
      go_wp2_with fail
      go_loopw [43, 11] (fun i o wr => ∃ k : Nat, k ≤ mn ∧ i = .int .i64 k ∧ ∃ oa oc L s, o = .slice oa (k + 1 : Nat) oc ∧ RnI w w5.heap.size w1.heap.size a n c fs oa k oc L s wr ∧ bgSt fs :: (runS fs (bgSt fs) m).1 = L ++ (runS fs s (m.drop k)).1 ∧ (runS fs (bgSt fs) m).2 = (runS fs s (m.drop k)).2) (fun i _ _ => mn - (intOf i).toNat)
      case atStart => exact ⟨0, by omega, rfl, _, _, _, _, rfl, HI0.out, rfl, rfl⟩
      case round =>
        obtain ⟨k, hk, rfl, oa, oc, L, s, rfl, hI, hL, hs2⟩ := hrel
        by_cases hlt : k < mn
        · obtain ⟨b', o', rfl, hcc⟩ := (h2.keep hI.bel).at_ (by omega)
          have z0 := hcc k hlt
          have hrs := runS_at (fs := fs) (s := s) (m := m) (k := k) (by rw [← HM.out]; exact hlt)
          have hgk := hgr k hlt
          obtain ⟨g, hg⟩ : ∃ g, m[k]?.getD 0 = g := ⟨_, rfl⟩
          rw [hg] at z0 hrs hgk
          obtain ⟨x, x7, xv⟩ := hI.t7
          obtain ⟨a4, c4, a5, c5, a6, c6, rfl⟩ := xv.lens hI.ok HN.out
          dsimp only [hv] at x7
          have f3 := cell_block x7 0
          have f4 := cell_block x7 1
          have f5 := cell_block x7 2
          have f6 := cell_block hI.t2 0
          have hi1 : (k : Int) < (mn : Int) := by omega
          have hi0 : (0 : Int) ≤ (k : Int) := by omega
          have HRS := Lib.hid hrs
          have HL := Lib.hid hL
          have HS2 := Lib.hid hs2
          clear hcc hg hrs hL hs2
          have hx9 : (List.range n).map (nxS fs s g) = nxts fs s g := by rw [nxts, ← HN.out]
          have HX9 := Lib.hid hx9
          clear hx9
          go_wp2_with fail
          refine (newStep_any a a4 a5 a6 n c c4 c5 c6 raw fs s g wr (h1.keep hI.bel) xv hI.ok hgk).mono ?_
          rintro e w6 ⟨b, pa, pc, xa, xc, rfl, hb1, hbx, -, hxo, hsA⟩
          rw [HX9.out] at hxo
          have hIA := hI.keep hsA
          go_wp2_with fail
          refine (collapses_any b a xa n c xc _ _ _ _ _ raw fs (nxts fs s g) w6 (h1.keep hIA.bel) hbx hxo.si (nxts_bd hI.ok hgk) HFO.out).mono ?_
          rintro e w7 ⟨rfl, hsB⟩
          have hIB := hIA.keep hsB
          obtain ⟨C, hC⟩ : ∃ C, colF (badS fs (nxts fs s g)) 0 n = C := ⟨_, rfl⟩
          rw [hC]
          by_cases hc0 : 0 ≤ C
          · have b5 : decide (0 ≤ C) = true := by simpa using hc0
            go_wp2_with fail
            obtain ⟨raw9, hS9⟩ := hIB.out
            refine (detached_any oa (k + 1) oc w5.heap.size raw9 L w7 hS9 (by omega) (by omega) (L_len HL.out (by have := frmE_ok HFO.out; omega) hS9.n_)).mono ?_
            rintro e w8 ⟨rfl, ⟨raw8, hS8⟩, hs8⟩
            have hB8 := hIB.bel.trans (hs8.mono (by omega))
            have hrun : runS fs s (m.drop k) = ([], C) := by
              rw [HRS.out, runS, ← HN.out, hC, if_neg (by omega)]
            have HRUN := Lib.hid hrun
            clear hrun hC
            go_wp2_with fail
            refine bodyPost_ret (v := .tuple #[.slice oa (k + 1) oc, .int .i64 C, .int .i64 0]) (by simp [results, Tryz.results62, go_sem]) rfl ⟨oa, k + 1, oc, C, by rw [H0.out], ⟨by rw [if_pos H0.out, HS2.out, HRUN.out], fun h => absurd H0.out h, fun _ => ⟨raw8, ?_⟩⟩, hB8⟩
            have hL := HL.out
            rw [HRUN.out, List.append_nil] at hL
            rw [hL]
            exact hS8.lower (by omega)
          · have b5 : decide (0 ≤ C) = false := by simpa using hc0
            go_wp2_with fail
            obtain ⟨v1, -, -, -, ⟨raw3, v5⟩, -⟩ := (xv.keep hsA).keep hsB
            have hcl : colF (badS fs (nxts fs s g)) 0 fs.length < 0 := by
              rw [← HN.out, hC]
              omega
            have hbd := badS_ok HFO.out hcl
            have HCL := Lib.hid hcl
            clear hcl hC
            refine (stateOf_any b a a4 a6 xa n c c4 c6 xc _ _ _ raw fs s raw3 (nxts fs s g) w7 (h1.keep hIB.bel) (blk_keep hbx hsB) (hxo.si.keep hsB) ((In.of_owns hxo).keep hsB) v1 v5 hIB.ok (nxts_bd hIB.ok hgk) (fun i hi => plc_iff.2 (by have := hbd i (by rw [← HN.out]; exact hi); omega))).mono ?_
            rintro e w8 ⟨ca, cc, ha, hc, rfl, hv8, hs8⟩
            have hIC := hIB.keep hs8
            have x8 := blk_keep (blk_keep (blk_keep x7 hsA) hsB) hs8
            have e0 := cell_block x8 0
            have e1 := cell_block x8 1
            have e2 := cell_block x8 2
            have e3 := frozen_block x8 0
            have e4 := frozen_block x8 1
            have e5 := frozen_block x8 2
            obtain ⟨hID, hq6, hvZ⟩ := hIC.store hwb hbN hv8 (steS_ok hI.ok HCL.out)
            dsimp only [hv] at hID hq6 hvZ
            have hsz9 := hID.sz
            obtain ⟨raw9, hS9⟩ := hID.out
            have hmh := hS9.row.sr.max
            have hmc := hS9.row.sr.cap
            have hrow9 : World.ownsRow (((w8.setCell ⟨w1.heap.size, 0, none⟩ (.slice xa n xc)).setCell ⟨w1.heap.size, 1, none⟩ (.slice ca n cc)).setCell ⟨w1.heap.size, 2, none⟩ (.slice ha n hc)) w5.heap.size 116 3 (.slice oa (k + 1) oc) (k + 1) (raw9.flatMap encStR) := hS9.row
            have HID := Lib.hid hID
            have HQ6 := Lib.hid hq6
            have HVZ := Lib.hid hvZ
            have HS9 := Lib.hid hS9
            have HR9 := Lib.hid hrow9
            have HZ9 := Lib.hid hsz9
            clear f3 f4 f5 hID hq6 hvZ hS9 hrow9 hsz9
            go_wp2_with (first | ((with_reducible refine appRec (z := .agg #[.slice none 0 0, .slice none 0 0, .slice none 0 0]) (k := 3) (bytes := 72) (new := [.slice xa n xc, .slice ca n cc, .slice ha n hc]) (((w8.setCell ⟨w1.heap.size, 0, none⟩ (.slice xa n xc)).setCell ⟨w1.heap.size, 1, none⟩ (.slice ca n cc)).setCell ⟨w1.heap.size, 2, none⟩ (.slice ha n hc)) 111 116 ?g1 ?g2 (.tmp 60) (.tmp 62) ?g3 ?g4 ?g5 ?g6 ?g7 ?g8 HR9.out ?g9 ?g10 ?g11 ?g12 ?g13 HZ9.out ?g14); (case g3 => exact rfl); (case g1 => with_reducible rfl); (case g2 => exact rfl); (case g4 => exact Tryz.underlying111); (case g5 => exact Tryz.info_str); (case g6 => exact rfl); (case g7 => decide); (case g8 => decide); (case g9 => exact rfl); (case g10 => (simp only [World.size_setCell]; exact rfl)); (case g11 => exact rfl); (case g12 => exact oneCell_StR ((xa, n, xc), (ca, n, cc), (ha, n, hc))); (case g13 => omega); intro a9 c9 w9 ho9 hb9 hko9 hsm9))
            go_roundw
            case rel =>
              have hL := HL.out
              have hs2 := HS2.out
              rw [HRS.out, runS, if_pos HCL.out] at hL hs2
              exact ⟨k + 1, by omega, by go_num, a9, c9, L ++ [steS fs s (nxts fs s g)], _, rfl, HID.out.app (x := ((xa, n, xc), (ca, n, cc), (ha, n, hc))) (by omega) hbN HQ6.out HVZ.out HS9.out ho9 hb9 ⟨hb9.size, hsm9⟩, by rw [hL]; simp, hs2⟩
            case measure => simp [intOf]; omega
        · have hle : (mn : Int) ≤ (k : Int) := by omega
          go_wp2_with fail
          obtain ⟨raw9, hS9⟩ := hI.out
          refine (detached_any oa (k + 1) oc w5.heap.size raw9 L wr hS9 (by omega) (by omega) (L_len hL (by have := frmE_ok HFO.out; omega) hS9.n_)).mono ?_
          rintro e w8 ⟨rfl, ⟨raw8, hS8⟩, hs8⟩
          have hB8 := hI.bel.trans (hs8.mono (by omega))
          have hrun : runS fs s (m.drop k) = ([], -1) := by
            rw [List.drop_eq_nil_of_le (by rw [← HM.out]; omega), runS]
          rw [hrun] at hL hs2
          rw [List.append_nil] at hL
          have HL := Lib.hid hL
          have HS2 := Lib.hid hs2
          clear hrun hL hs2
          go_wp2_with fail
          refine bodyPost_ret (v := .tuple #[.slice oa (k + 1) oc, .int .i64 (-1), .int .i64 0]) (by simp [results, Tryz.results62, go_sem]) rfl ⟨oa, k + 1, oc, -1, by rw [H0.out], ⟨by rw [if_pos H0.out, HS2.out], fun h => absurd H0.out h, fun _ => ⟨raw8, ?_⟩⟩, hB8⟩
          rw [HL.out]
          exact hS8.lower (by omega)
end Go.Proofs.YtaiikekgckjdeaaGreat

namespace Go.Proofs.YtaiikekgckjdeaaGreat
/-- The drift that a storey keeps as its peak. -/
def pk1 (d o : Int) : Int := if max o (-o) < max d (-d) then d else o
/-- The peaks after a state's first i storeys. -/
def pkR (xs o : List Int) (i : Nat) : List Int := (List.range o.length).map (fun j => if j < i then pk1 (dr xs j) (o[j]?.getD 0) else o[j]?.getD 0)
/-- The peaks of a list of states, from the peaks before. -/
def pkS (o : List Int) : List St → List Int
  | [] => o
  | s :: l => pkS (pkR s.1 o o.length) l
theorem pkR_len (xs o : List Int) (i : Nat) : (pkR xs o i).length = o.length := by simp [pkR]
theorem pkR_zero (xs o : List Int) : pkR xs o 0 = o := by
  apply List.ext_getElem (by simp [pkR])
  intro i h1 h2
  simp [pkR, h2]
theorem runS_dr {fs : List Fl} (ok : (frmE fs).2 = 0) : ∀ {l : List Int} {s x : St}, x ∈ (runS fs s l).1 → ∀ i, i < fs.length → -1000 ≤ dr x.1 i ∧ dr x.1 i ≤ 1000 := by
  intro l
  induction l with
  | nil => intro s x h; cases h
  | cons g l ih =>
    intro s x h
    rw [runS] at h
    split at h
    case isTrue hc =>
      rcases List.mem_cons.1 h with rfl | h
      · exact badS_ok ok hc
      · exact ih h
    case isFalse => cases h
theorem dr_bg (fs : List Fl) (i : Nat) : dr (bgSt fs).1 i = 0 := by
  have h : ∀ j : Nat, (List.replicate fs.length (0 : Int))[j]?.getD 0 = 0 := by
    intro j
    simp only [List.getElem?_replicate]
    split <;> rfl
  cases i with
  | zero => simp [dr, bel, bgSt, h]
  | succ i => simp [dr, bel, bgSt, h]
theorem pkR_set {xs o : List Int} {i : Nat} (_ : i < o.length) : pkR xs o (i + 1) = (pkR xs o i).set i (pk1 (dr xs i) (o[i]?.getD 0)) := by
  apply List.ext_getElem (by simp [pkR])
  intro j h1 h2
  rw [List.getElem_set]
  simp only [pkR, List.getElem_map, List.getElem_range]
  by_cases e : i = j
  · subst e
    rw [if_pos rfl, if_pos (by omega)]
  · rw [if_neg e]
    by_cases h : j < i
    · rw [if_pos (by omega), if_pos h]
    · rw [if_neg (by omega), if_neg h]
end Go.Proofs.YtaiikekgckjdeaaGreat

namespace Go.Proofs.YtaiikekgckjdeaaGreat
open Go.RowKit
def mark (D : Nat) : Deferred := { target := .collected D, args := #[] }
theorem leaves_marks {P : Program} {F : Fence} {n : Nat} {fn : Func} {tmps : Array Value} {R : Ending → World → Prop} {u : FrameMode} (hu : u ≠ .run) {B : Nat} : ∀ (ds : List Nat) (w : World), ds.Nodup → (∀ D ∈ ds, B ≤ D ∧ w.heap[D]? = some (.deferred (some []))) →
    (∀ w', Below B w w' → (∀ b, b ∉ ds → w'.heap[b]? = w.heap[b]?) → LeavesIn F n P fn tmps R [] u w') → LeavesInM F n P fn tmps R (ds.map mark) u w := by
  intro ds
  induction ds with
  | nil => intro w _ _ h; exact h w (Below.refl _ _) (fun _ _ => rfl)
  | cons D ds ih =>
    intro w hnd hm h
    obtain ⟨hB, hD⟩ := hm D (List.mem_cons_self ..)
    refine ⟨hu, .inl ⟨D, _, rfl, run_takeDeferred hD, ?_⟩⟩
    have hnd' := List.nodup_cons.1 hnd
    have hoth : ∀ b, b ≠ D → (w.putObj D (.deferred none)).heap[b]? = w.heap[b]? := fun b hb => World.putObj_heap_other hb
    refine ih _ hnd'.2 (fun D' hD' => ⟨(hm D' (List.mem_cons_of_mem _ hD')).1, (hoth D' (fun e => hnd'.1 (e ▸ hD'))).trans (hm D' (List.mem_cons_of_mem _ hD')).2⟩) (fun w' hb ho => ?_)
    refine h w' ((grown_below (grownBy_putObj' w D (.deferred none)) (by have := blk_lt hD; omega) (fun k hk => by cases hk; exact hB)).trans hb) (fun b hb2 => ?_)
    have h1 : b ≠ D := fun e => hb2 (e ▸ List.mem_cons_self ..)
    exact (ho b (fun e => hb2 (List.mem_cons_of_mem _ e))).trans (hoth b h1)
end Go.Proofs.YtaiikekgckjdeaaGreat

namespace Go.Proofs.YtaiikekgckjdeaaGreat
open Go.RowKit Go.Shelf
attribute [local go_sem] Oper.semAt_some
open Calmly (Kept)
/-- 'make([]int, n)'. -/
theorem makeI1 {ops : Array Oper} {rest : List Oper} {o : Oper} {a : Act} {Q : Exit → Act → World → Prop} {w : World} {L : Int} {n : Nat} (hg : o.guard = none) (l c : Operand)
    (hop : o.op = Op.makeSlice 29 l c) (hl : a.eval l = .int .i64 L) (hc : a.eval c = .int .i64 L) (hL : L = (n : Int)) (hn : n ≤ 1000000)
    (hK : ∀ w', OwI w' w.heap.size (some ⟨w.heap.size, 0, none⟩) n n (List.replicate n 0) → Below w.heap.size w w' → wpList Tryz.prog ops Q rest (a.put o.dst (.slice (some ⟨w.heap.size, 0, none⟩) n n)) w') :
    wpList Tryz.prog ops Q (o :: rest) a w := by
  obtain ⟨i0, hi, hz0, hz1, hz2⟩ := info_parts Tryz.info_int
  refine wpList_make_full w hg l c _ hop w.heap.size _ i0 (.int .i64 0) 1 Tryz.underlying29 hi hz0 hz1 .i64 .i64 L L n hl hc hL hL (by rw [hz2]; omega) (by unfold maxLen; omega) (Nat.le_refl _) ?_
  intro w' ho hgr
  refine hK w' ?_ (grown_below hgr (Nat.le_refl _) (fun k hk => by cases hk))
  unfold OwI
  rw [Nat.mul_one, show (Value.int IntKind.i64 0).cells = #[Value.int .i64 0] from rfl, toList_madeCells_one] at ho
  simpa using ho
/-- What the peaks hand back. -/
structure PkR (w w' : World) (fs : List Fl) (m : List Int) (E : Int) (sa : Option Addr) (sn sc : Nat) : Prop where
  none : E ≠ 0 → sn = 0
  peaks : E = 0 → OwI w' w.heap.size sa sn sc (pkS (List.replicate fs.length 0) (bgSt fs :: (runS fs (bgSt fs) m).1))
/-- What lies between two rounds of the peaks. -/
structure PkI (w : World) (g b9 n : Nat) (o : List Int) (wr : World) : Prop where
  bel : Below w.heap.size w wr
  t9 : wr.heap[b9]? = some (.cells #[.slice (some ⟨g, 0, none⟩) n n] 29)
  out : OwI wr g (some ⟨g, 0, none⟩) n n o
theorem PkI.keep {w : World} {g b9 n : Nat} {o : List Int} {wr w' : World} (h : PkI w g b9 n o wr) (hb : Below wr.heap.size wr w') : PkI w g b9 n o w' :=
  ⟨h.bel.trans (hb.mono h.bel.size), blk_keep h.t9 hb, owns_keep h.out hb⟩
theorem PkI.grown {w : World} {B g b9 n : Nat} {o : List Int} {W W' : World} {row : Option Nat} (h : PkI w g b9 n o W) (hB : w.heap.size ≤ B) (hg : W.grownBy W' row) (hr : ∀ r, row = some r → B ≤ r ∧ ∃ o : Obj, W.heap[r]? = some o ∧ o.isCells = false) : PkI w g b9 n o W' := by
  have hk := keeps_of_grown hg (fun r e => (hr r e).2)
  exact ⟨h.bel.trans (grown_below hg h.bel.size (fun k e => by have := (hr k e).1; omega)), hk.blk (by simp) h.t9, owns_keeps h.out hk (fun _ _ h => h)⟩
theorem PkI.stored {w : World} {g b9 n : Nat} {o : List Int} {W : World} (h : PkI w g b9 n o W) (hg : w.heap.size ≤ g) (h9 : b9 ≠ g) (j : Nat) (v : Int) : PkI w g b9 n (o.set j v) (W.setCell ⟨g, j, none⟩ (.int .i64 v)) :=
  ⟨h.bel.setCell hg _, (Below.heap_setCell _ _ _ _ h9).trans h.t9, (h.out.stored j v).1⟩
/-- Marks that wait. -/
structure Mks (B B2 : Nat) (ds : List Nat) (W : World) : Prop where
  nd : ds.Nodup
  at_ : ∀ D ∈ ds, B ≤ D ∧ D < B2 ∧ W.heap[D]? = some (.deferred (some []))
theorem Mks.keep {B B2 : Nat} {ds : List Nat} {W W' : World} (h : Mks B B2 ds W) (hb : Below W.heap.size W W') : Mks B B2 ds W' :=
  ⟨h.nd, fun D hD => ⟨(h.at_ D hD).1, (h.at_ D hD).2.1, blk_keep (h.at_ D hD).2.2 hb⟩⟩
theorem Mks.mono {B B2 B3 : Nat} {ds : List Nat} {W : World} (h : Mks B B2 ds W) (hb : B2 ≤ B3) : Mks B B3 ds W :=
  ⟨h.nd, fun D hD => ⟨(h.at_ D hD).1, Nat.lt_of_lt_of_le (h.at_ D hD).2.1 hb, (h.at_ D hD).2.2⟩⟩
theorem Mks.grown {B B2 : Nat} {ds : List Nat} {W W' : World} {row : Option Nat} (h : Mks B B2 ds W) (hg : W.grownBy W' row) (hr : ∀ r, row = some r → B2 ≤ r) : Mks B B2 ds W' :=
  ⟨h.nd, fun D hD => ⟨(h.at_ D hD).1, (h.at_ D hD).2.1, (hg.block D (blk_lt (h.at_ D hD).2.2) (fun e => by have := hr D e.symm; have := (h.at_ D hD).2.1; omega)).trans (h.at_ D hD).2.2⟩⟩
theorem Mks.others {B B2 : Nat} {ds : List Nat} {W W' : World} (h : Mks B B2 ds W) (ho : KeepsOthers W W') : Mks B B2 ds W' :=
  ⟨h.nd, fun D hD => ⟨(h.at_ D hD).1, (h.at_ D hD).2.1, ho.same D _ (h.at_ D hD).2.2 rfl⟩⟩
theorem Mks.cons {B B2 D : Nat} {ds : List Nat} {W : World} (h : Mks B B2 ds W) (hD : B2 ≤ D) (hB : B ≤ B2) (hW : W.heap[D]? = some (.deferred (some []))) : Mks B (D + 1) (D :: ds) W :=
  ⟨List.nodup_cons.2 ⟨fun hm => by have := (h.at_ D hm).2.1; omega, h.nd⟩, fun D' hD' => by
    rcases List.mem_cons.1 hD' with rfl | hm
    · exact ⟨by omega, by omega, hW⟩
    · have := h.at_ D' hm
      exact ⟨this.1, by omega, this.2.2⟩⟩
theorem pkR_bd {xs o : List Int} {n : Nat} (h1 : ∀ i : Nat, -1000 ≤ o[i]?.getD 0 ∧ o[i]?.getD 0 ≤ 1000) (h2 : ∀ i, i < n → -1000 ≤ dr xs i ∧ dr xs i ≤ 1000) (hl : o.length = n) : ∀ i : Nat, -1000 ≤ (pkR xs o n)[i]?.getD 0 ∧ (pkR xs o n)[i]?.getD 0 ≤ 1000 := by
  intro i
  by_cases hi : i < n
  · have e : (pkR xs o n)[i]?.getD 0 = pk1 (dr xs i) (o[i]?.getD 0) := by simp [pkR, hl, hi]
    rw [e, pk1]
    split
    · exact h2 i hi
    · exact h1 i
  · rw [List.getElem?_eq_none (by rw [pkR_len]; omega)]
    simp
theorem _root_.List.set_getD_self (l : List Int) (i : Nat) : l.set i (l[i]?.getD 0) = l := by
  apply List.ext_getElem (by simp)
  intro j h1 h2
  rw [List.getElem_set]
  split
  · rename_i e
    subst e
    rw [List.getElem?_eq_getElem h2]
    rfl
  · rfl
theorem Mks.nil (B B2 : Nat) (W : World) : Mks B B2 [] W := ⟨List.nodup_nil, fun _ h => by cases h⟩
theorem pk1_eq {d o sz so : Int} (h1 : (if d < -d then -d else d) = sz) (h2 : (if o < -o then -o else o) = so) : pk1 d o = if so < sz then d else o := by
  have e1 : max d (-d) = sz := by rw [← h1]; split <;> omega
  have e2 : max o (-o) = so := by rw [← h2]; split <;> omega
  rw [pk1, e1, e2]
set_option maxRecDepth 100000 in
set_option maxHeartbeats 4000000 in
theorem PeaksOf_any (a ma : Option Addr) (n c mn mc : Nat) (raw : List FlR) (fs : List Fl) (m : List Int) (w : World) (h1 : FrV w a n c raw fs) (h2 : SI w ma mn mc m) :
    Calls Tryz.prog 24 #[.agg #[.slice a n c], .slice ma mn mc] w fun e w' => ∃ sa sn sc, e = .returned (.tuple #[.slice sa sn sc, .int .i64 (runE fs m)]) ∧ PkR w w' fs m (runE fs m) sa sn sc ∧ Below w.heap.size w w' := by
  have hn := h1.n_
  have m1 := h1.row.max
  have q1 := h1.row.cap
  have m2 := h2.max
  have q2 := h2.cap
  have HN := Lib.hid hn
  clear hn
  obtain ⟨E, hE⟩ : ∃ E, runE fs m = E := ⟨_, rfl⟩
  rw [hE]
  have HE := Lib.hid hE
  clear hE
  have y0 := alloc_new w (.cells #[.slice a n c] 71)
  have BW : Below w.heap.size w (w.alloc (.cells #[.slice a n c] 71)) := (Below.refl _ _).alloc (Nat.le_refl _) _
  have f0 := cell_block y0 0
  refine (callsIn_wide (n := 5)).1 ?_
  refine callsIn_of_wp_marks Tryz.func24 rfl trivial ?_ rfl
  simp only [Tryz.ntmps24, List.size_toArray, List.length_cons, List.length_nil, Nat.reduceAdd, Nat.reduceSub, Array.replicate_succ, Array.replicate_zero, List.push_toArray, List.append_toArray, List.nil_append, List.cons_append]
  refine wpIn_wide.2 ?_
  go_wp2_with fail
  generalize w.alloc (.cells #[.slice a n c] 71) = W at *
  refine (RunOf_any a ma n c mn mc raw fs m W (h1.keep BW) (h2.keep BW)).mono ?_
  rintro e w1 ⟨sa, sn, sc, st, rfl, hR, hs1⟩
  rw [HE.out] at hR ⊢
  have B1 := BW.trans (hs1.mono BW.size)
  replace y0 := blk_keep y0 hs1
  by_cases hz : E = 0
  case neg =>
    have b1 : (E != 0) = true := by simpa using hz
    have HZ := Lib.hid hz
    clear hz
    go_wp2_with fail
    refine ⟨.tuple #[.slice none 0 0, .int .i64 E], by simp [results, Tryz.results24, go_sem], none, 0, 0, rfl, ⟨fun _ => rfl, fun h => absurd h HZ.out⟩, B1⟩
  case pos =>
    have b1 : (E != 0) = false := by rw [hz]; rfl
    have HZ := Lib.hid hz
    clear hz
    have f0 := cell_block y0 0
    have hF : (frmE fs).2 = 0 := by
      have hz := HE.out.trans HZ.out
      rw [runE] at hz
      split at hz
      · rename_i h0
        by_cases hF : (frmE fs).2 = 0
        · exact hF
        · simp [firstE, hF] at h0
      · rename_i h0
        exact absurd hz h0
    have hn6 : 0 < n ∧ n ≤ 5 := by
      have := frmE_ok hF
      have := HN.out
      omega
    have HFR := Lib.hid hF
    clear hF
    go_wp2_with (first | ((with_reducible refine makeI1 (n := n) ?g1 (.tmp 26) (.tmp 26) ?g2 ?g3 ?g4 rfl ?g5 ?g6); (case g2 => exact rfl); (case g1 => exact rfl); (case g3 => exact rfl); (case g4 => exact rfl); (case g5 => omega); intro w2 hop hb2))
    have y9 := alloc_new w2 (.cells #[.slice (some ⟨w1.heap.size, 0, none⟩) n n] 29)
    refine wp_loop (fun a' wr => ∃ (ds : List Nat) (k : Nat) (y11 y31 y32 y33 y34 y35 y36 y58 : Value), (k ≤ sn ∧ Mks w1.heap.size wr.heap.size ds wr ∧ ∃ o, o.length = n ∧ (∀ i : Nat, -1000 ≤ o[i]?.getD 0 ∧ o[i]?.getD 0 ≤ 1000) ∧ PkI w1 w1.heap.size w2.heap.size n o wr ∧ pkS (List.replicate fs.length 0) (bgSt fs :: (runS fs (bgSt fs) m).1) = pkS o ((bgSt fs :: (runS fs (bgSt fs) m).1).drop k)) ∧ a' = { tmps := #[.agg #[.slice a n c], .slice ma mn mc, .pointer (some ⟨w.heap.size, 0, none⟩), undef, .slice none 0 0, .int .i64 0, .slice sa sn sc, .int .i64 st, .int .i64 E, .pointer (some ⟨w2.heap.size, 0, none⟩), undef, y11, undef, undef, .tuple #[.slice sa sn sc, .int .i64 st, .int .i64 E], .agg #[.slice a n c], .slice ma mn mc, .tuple #[.slice sa sn sc, .int .i64 st, .int .i64 E], .slice sa sn sc, .int .i64 st, .int .i64 E, .int .i64 E, .bool false, undef, .pointer (some ⟨w.heap.size, 0, none⟩), .slice a n c, .int .i64 (n : Int), .slice (some ⟨w1.heap.size, 0, none⟩) n n, .slice sa sn sc, .int .i64 (sn : Int), .int .i64 (k : Int), y31, y32, y33, y34, y35, y36, undef, undef, undef, undef, undef, undef, undef, undef, undef, undef, undef, undef, undef, undef, undef, undef, undef, undef, undef, undef, undef, y58, undef], defers := ds.map mark }) (fun a' _ => sn - (intOf (a'.tmps.getD 30 undef)).toNat) ?_ ?_
    · have hbz := (Below.refl w2.heap.size w2).alloc (Nat.le_refl _) (.cells #[.slice (some ⟨w1.heap.size, 0, none⟩) n n] 29)
      exact ⟨[], 0, _, _, _, _, _, _, _, _, ⟨by omega, Mks.nil _ _ _, List.replicate n 0, by simp, fun i => by rw [List.getElem?_replicate]; split <;> simp, ⟨hb2.trans (hbz.mono hb2.size), y9, owns_keep hop hbz⟩, by rw [HN.out]; rfl⟩, rfl⟩
    · rintro _ wr ⟨ds, k, y11, y31, y32, y33, y34, y35, y36, y58, ⟨hk, hM, o, hol, hob, hI, hp⟩, rfl⟩
      obtain ⟨rawS, hS⟩ := hR.states HZ.out
      have hsn := hS.n_
      have HSN := Lib.hid hsn
      have HOL := Lib.hid hol
      have HOB := Lib.hid hob
      clear hol hob
      dsimp only
      by_cases hlt : k < sn
      · have hSr := hS.keep hI.bel
        obtain ⟨b', o', rfl, hcc⟩ := hSr.row.sr.at_ (by omega)
        obtain ⟨z0, z1, z2⟩ := hcc k hlt
        have hst := hSr.st k (by rw [← HSN.out]; exact hlt)
        obtain ⟨v1, v2, -, -, -, -⟩ := hst
        obtain ⟨xs, hxs⟩ : ∃ xs, ((bgSt fs :: (runS fs (bgSt fs) m).1)[k]?.getD ([], [], [])).1 = xs := ⟨_, rfl⟩
        rw [hxs] at v1
        have hmem : ∃ s, s ∈ bgSt fs :: (runS fs (bgSt fs) m).1 ∧ s.1 = xs := ⟨(bgSt fs :: (runS fs (bgSt fs) m).1)[k]?.getD ([], [], []), by
          have hkl : k < (bgSt fs :: (runS fs (bgSt fs) m).1).length := by rw [← HSN.out]; exact hlt
          rw [List.getElem?_eq_getElem hkl]
          exact List.getElem_mem hkl, hxs⟩
        have hxl : xs.length = n := by
          obtain ⟨s, hs, rfl⟩ := hmem
          rw [HN.out]
          rcases List.mem_cons.1 hs with rfl | hs
          · simp [bgSt]
          · exact runS_len hs
        have hxd : ∀ i, i < n → -1000 ≤ dr xs i ∧ dr xs i ≤ 1000 := by
          obtain ⟨s, hs, rfl⟩ := hmem
          intro i hi
          rcases List.mem_cons.1 hs with rfl | hs
          · rw [dr_bg]; omega
          · exact runS_dr HFR.out hs i (by rw [← HN.out]; exact hi)
        have hxb := dr_bd hxd hxl
        have hpk : pkS o ((bgSt fs :: (runS fs (bgSt fs) m).1).drop k) = pkS (pkR xs o n) ((bgSt fs :: (runS fs (bgSt fs) m).1).drop (k + 1)) := by
          have hkl : k < (bgSt fs :: (runS fs (bgSt fs) m).1).length := by rw [← HSN.out]; exact hlt
          rw [List.drop_eq_getElem_cons hkl, pkS, HOL.out]
          congr 2
          rw [← hxs, List.getElem?_eq_getElem hkl]
          rfl
        rw [hpk] at hp
        have HP := Lib.hid hp
        have HXD := Lib.hid hxd
        have HXB := Lib.hid hxb
        have HXL := Lib.hid hxl
        obtain ⟨rr, hrr⟩ : ∃ rr, rawS[k]?.getD str0 = rr := ⟨_, rfl⟩
        obtain ⟨⟨u1, u2, u3⟩, ⟨u4, u5, u6⟩, ⟨u7, u8, u9⟩⟩ := rr
        rw [hrr] at z0 z1 z2 v1 v2
        dsimp only [hv] at z0 z1 z2 v1 v2
        have hun : n = u2 := by rw [v1.len]; exact hxl.symm
        subst hun
        have hzi := (hS.st k (by rw [← HSN.out]; exact hlt)).1
        rw [hxs, hrr] at hzi
        dsimp only at hzi
        have hi1 : (k : Int) < (sn : Int) := by omega
        have hi0 : (0 : Int) ≤ (k : Int) := by omega
        have f9 := cell_block hI.t9 0
        clear hrr hcc hp hsn hpk hmem hxs hxd hxb hxl
        go_wp2_with fail
        have x0 := alloc_new wr (.cells #[.slice u1 n u3, .slice u4 u5 u6, .slice u7 u8 u9] 116)
        have BA := (Below.refl wr.heap.size wr).alloc (Nat.le_refl _) (.cells #[.slice u1 n u3, .slice u4 u5 u6, .slice u7 u8 u9] 116)
        have hIA := hI.keep BA
        have hMA := hM.keep BA
        replace v1 := v1.keep BA
        generalize wr.alloc (.cells #[.slice u1 n u3, .slice u4 u5 u6, .slice u7 u8 u9] 116) = V at *
        refine (drifts_any u1 n u3 V).mono ?_
        rintro e w3 ⟨rfl, rfl⟩
        have z9 := alloc_new V (.cells #[.slice u1 n u3] 29)
        have BB := (Below.refl V.heap.size V).alloc (Nat.le_refl _) (.cells #[.slice u1 n u3] 29)
        have hIB := hIA.keep BB
        have hMB := hMA.keep BB
        replace v1 := v1.keep BB
        have hgV : w1.heap.size < V.heap.size := Nat.lt_of_lt_of_le (World.ownsRow.lt hIA.out _ rfl).2 (Nat.le_refl _)
        have h9g : w2.heap.size ≠ w1.heap.size := (BlkT.ne ((In.of_owns hIA.out).blk _ _ rfl) ⟨_, hIA.t9⟩ (by decide)).symm
        have hwrV : wr.heap.size ≤ V.heap.size := BA.size
        go_wp2_with fail
        generalize hV2 : V.alloc (.cells #[.slice u1 n u3] 29) = V2 at *
        have hsz2 : V.heap.size < V2.heap.size := blk_lt z9
        refine (wpIn_wide (n := 5)).1 ?_
        refine range_midX (gf := 85) (m := 4) rfl (enters_of Tryz.func85 (by kernel_rfl) rfl) (enc := fun i : Fin n => #[.int .i64 (i.val : Int), .int .i64 (dr xs i.val)]) (Kp := Keeps (fun b' => b' = w1.heap.size))
          (drifts_onX V2 V.heap.size u1 n u3 xs (fun b' => b' = w1.heap.size) z9 v1 (by omega) (fun b' o h0 ha => by have := hzi.at_ h0; obtain ⟨b2, o2, he, hc⟩ := this; rw [ha] at he; cases he; have := cell_lt (hc 0 h0); omega) (fun i => by have := HXB.out i; omega) _) (fun h k => h.trans k) (fun W l o o' _ hl ho => Keeps.put o' hl ho) (fun _ => rfl)
          (fun pre W => PkI w1 w1.heap.size w2.heap.size n (pkR xs o pre.length) W ∧ Mks w1.heap.size wr.heap.size ds W) (fun _ W => False) (fun pre W W' row h hg hr => ⟨h.1.grown (by omega) hg hr, h.2.grown hg (fun r e => by have := (hr r e).1; omega)⟩) ⟨by rw [List.length_nil, pkR_zero]; exact hIB, hMB⟩
          (fun pre x a' W => (PkI w1 w1.heap.size w2.heap.size n (pkR xs o pre.length) W ∧ Mks w1.heap.size wr.heap.size ds W) ∧ (pre.map (·.val) = List.range x.val ∧ a' = { tmps := #[.agg #[.slice a n c], .slice ma mn mc, .pointer (some ⟨w.heap.size, 0, none⟩), undef, .slice none 0 0, .int .i64 0, .slice (some ⟨b', o', none⟩) sn sc, .int .i64 st, .int .i64 E, .pointer (some ⟨w2.heap.size, 0, none⟩), undef, .pointer (some ⟨wr.heap.size, 0, none⟩), .int .i64 (x.val : Int), .int .i64 (dr xs x.val), .tuple #[.slice (some ⟨b', o', none⟩) sn sc, .int .i64 st, .int .i64 E], .agg #[.slice a n c], .slice ma mn mc, .tuple #[.slice (some ⟨b', o', none⟩) sn sc, .int .i64 st, .int .i64 E], .slice (some ⟨b', o', none⟩) sn sc, .int .i64 st, .int .i64 E, .int .i64 E, .bool false, undef, .pointer (some ⟨w.heap.size, 0, none⟩), .slice a n c, .int .i64 (n : Int), .slice (some ⟨w1.heap.size, 0, none⟩) n n, .slice (some ⟨b', o', none⟩) sn sc, .int .i64 (sn : Int), .int .i64 (k : Int), .bool true, .pointer (some ⟨b', o' + k * 3, none⟩), .agg #[.slice u1 n u3, .slice u4 u5 u6, .slice u7 u8 u9], .pointer (some ⟨wr.heap.size, 0, none⟩), .slice u1 n u3, .func (.func 85) #[] #[.pointer (some ⟨V.heap.size, 0, none⟩)], .int .i64 (x.val : Int), .int .i64 (dr xs x.val), undef, undef, undef, undef, undef, undef, undef, undef, undef, undef, undef, undef, undef, undef, undef, undef, undef, undef, undef, y58, undef], defers := [] }))
          ?own ?assign ?body ?ixown ?done ?stop
        case own =>
          rintro pre x a' s W W' row ⟨h1, h3⟩ hg hr
          exact ⟨⟨h1.1.grown (by omega) hg hr, h1.2.grown hg (fun r e => by have := (hr r e).1; omega)⟩, h3⟩
        case ixown =>
          rintro s W W' row h hg hr
          exact h.elim
        case assign =>
          rintro r pre x W K hi hlen hpx hK
          gi_wp2
          exact hK _ _ (KeepsOthers.refl _) (Keeps.refl _ _) ⟨hi, hpx, rfl⟩
        case body =>
          rintro r pre x a' W ⟨⟨hC, hMk⟩, hpx, rfl⟩
          have hxl := x.isLt
          have hlen : pre.length = x.val := by have := congrArg List.length hpx; simpa using this
          rw [List.length_append, hlen, List.length_singleton]
          rw [hlen] at hC
          obtain ⟨i, hi⟩ : ∃ i, x.val = i := ⟨_, rfl⟩
          rw [hi] at hC hxl ⊢
          clear hpx hi hlen
          have hos := pkR_set (xs := xs) (o := o) (i := i) (by rw [HOL.out]; exact hxl)
          have hoi : (pkR xs o i)[i]?.getD 0 = o[i]?.getD 0 := by simp [pkR, HOL.out, hxl]
          have hdb := HXD.out i hxl
          have hob := HOB.out i
          obtain ⟨d, hd⟩ : ∃ d, dr xs i = d := ⟨_, rfl⟩
          rw [hd] at hos hdb ⊢
          obtain ⟨v, hv⟩ : ∃ v, o[i]?.getD 0 = v := ⟨_, rfl⟩
          rw [hv] at hos hoi hob
          obtain ⟨sz, e1⟩ : ∃ sz, (if d < -d then -d else d) = sz := ⟨_, rfl⟩
          obtain ⟨so, e2⟩ : ∃ so, (if v < -v then -v else v) = so := ⟨_, rfl⟩
          rw [pk1_eq e1 e2] at hos
          have HOS := Lib.hid hos
          have HOV := Lib.hid hoi
          have hvc := hC.out.cell i hxl
          have hvf := hC.out.free i
          rw [hoi] at hvc
          have g9 := cell_block hC.t9 0
          have hi1' : (i : Int) < (n : Int) := by omega
          have hi0' : (0 : Int) ≤ (i : Int) := by omega
          clear hos hoi hd hv
          refine wpIn_block ?_
          refine wpIn_seq_k (fun K5 hK5 => ?_)
          refine Calmly.wpIn_region_mix 14 (.fl 0 <| .fl 1 <| .fl 2 <| .fl 3 <| .fl 4 <| .fl 5 <| .fl 6 <| .fl 7 <| .fl 8 <| .fl 9 <| .fl 10 <| .fl 11 <| .fl 12 <| .fl 13 <| .tail [14]) (by kernel_rfl) (by kernel_rfl) (by rintro a w (⟨h, _⟩ | ⟨h, _⟩) <;> cases h) ?_
          have BD : Below W.heap.size W W.drew := (Below.refl _ _).drew
          have hCD := hC.keep BD
          have hMD := hMk.keep BD
          replace hvc := cell_keep hvc BD
          replace g9 := cell_block hCD.t9 0
          generalize W.drew = V5 at *
          have hk5 := Below.refl V5.heap.size V5
          go_wp2_with (first | ((with_reducible refine Calmly.is_fl ?_); refine Calmly.mix_fl rfl ?_ (fun _ _ => ?_); (first | exact .move _ | exact .load _ _ | exact .fieldAddr _ _ _ (by kernel_rfl) | exact .assign _ | exact .binOp _ _ _ _ _ rfl | exact .indexAddr _ _ _ | exact .len _ _ (by kernel_rfl) | exact .field _ _ _ | exact .extract _ _ | exact .pick _ _ _ | exact .build _ _ | exact .slice _ _ _ _ _ | exact .unOp _ _ _ rfl | exact .index _ _ _ | exact .max _ _ _ rfl rfl | exact .min _ _ _ rfl rfl | exact .nilCheck _ _ rfl)) | ((with_reducible refine Calmly.is_gl ?_); refine Calmly.mix_gl rfl rfl rfl ?_; first | ((first | with_reducible refine Calmly.gl_tt ?_ (fun _ _ => ?_) | with_reducible refine Calmly.gl_ff ?_ (fun _ _ => ?_)); (first | exact .move _ | exact .load _ _ | exact .fieldAddr _ _ _ (by kernel_rfl) | exact .assign _ | exact .binOp _ _ _ _ _ rfl | exact .indexAddr _ _ _ | exact .len _ _ (by kernel_rfl) | exact .field _ _ _ | exact .extract _ _ | exact .pick _ _ _ | exact .build _ _ | exact .slice _ _ _ _ _ | exact .unOp _ _ _ rfl | exact .index _ _ _ | exact .max _ _ _ rfl rfl | exact .min _ _ _ rfl rfl | exact .nilCheck _ _ rfl)) | with_reducible refine Calmly.gl_tf (fun _ _ => ?_) | with_reducible refine Calmly.gl_ft (fun _ _ => ?_)) | ((with_reducible refine Calmly.is_eff ?_); refine Calmly.mix_eff rfl (fun _ _ => ?_)) | ((with_reducible refine Calmly.is_gf ?_); refine Calmly.mix_gf rfl rfl rfl ?_; first | with_reducible refine Calmly.gf_tt (fun _ _ => ?_) | with_reducible refine Calmly.gf_ff (fun _ _ => ?_) | with_reducible refine Calmly.gf_tf (kept_of hk) (fun _ _ => ?_) | with_reducible refine Calmly.gf_ft (kept_of hk) (fun _ _ => ?_)) | ((with_reducible refine Calmly.is_tail ?_); first | refine Calmly.mix_tail_nil ?_ | refine Calmly.mix_tail rfl (fun _ _ => ?_)) | ((with_reducible refine Calmly.is_kept ?_); refine ⟨kept_of hk, ?_⟩) | (with_reducible refine Calmly.mix_alt ?_ ?_))
          by_cases hlt2 : so < sz
          · have c1 : decide (so < sz) = true := by simpa using hlt2
            have HC := Lib.hid hlt2
            clear hlt2
            have g9' := cell_block hCD.t9 0
            have hvf5 := hCD.out.free i
            gi_wp2
            · have hS7 := hCD.stored (Nat.le_refl _) h9g i d
              refine .inl ⟨trivial, (ko_below BD).trans (KeepsOthers.setCell _ _ _), (Keeps.of_below BD).trans (Keeps.setCell _ _ _ rfl), ?_, hMD.others (KeepsOthers.setCell _ _ _)⟩
              rw [HOS.out, if_pos HC.out]
              exact hS7
            · have := HC.out
              omega
          · have c1 : decide (so < sz) = false := by simpa using hlt2
            have HC := Lib.hid hlt2
            clear hlt2
            gi_wp2
            refine ⟨ko_below BD, Keeps.of_below BD, ?_⟩
            have hself : (pkR xs o i).set i v = pkR xs o i := by
              rw [← HOV.out]
              exact List.set_getD_self _ _
            rw [HOS.out, if_neg (by have := HC.out; omega), hself]
            exact hCD
        case done =>
          rintro D ys W hD hys ⟨hC, hMk⟩ hK
          have hlen : ys.length = n := by have := congrArg List.length hys; simpa using this
          rw [hlen] at hC
          have hM2 := hMk.cons (D := D) (by omega) (by have := hI.bel.size; omega) hK
          have hDW := blk_lt hK
          dsimp only
          go_wp2_with fail
          have hsm := hS.row.sr.max
          have hsc := hS.row.sr.cap
          have hw : Value.int .i64 (wrap64 ((k : Int) + 1)) = .int .i64 ((k + 1 : Nat) : Int) := by rw [show wrap64 ((k : Int) + 1) = ((k + 1 : Nat) : Int) by unfold wrap64; omega]
          rw [hw]
          refine ⟨⟨D :: ds, k + 1, _, _, _, _, _, _, _, _, ⟨by omega, hM2.mono (by omega), pkR xs o n, by rw [pkR_len]; exact HOL.out, pkR_bd HOB.out HXD.out HOL.out, hC, HP.out⟩, rfl⟩, ?_⟩
          · show sn - (intOf (.int .i64 ((k + 1 : Nat) : Int))).toNat < sn - (intOf (.int .i64 (k : Int))).toNat
            simp only [intOf]
            omega
        case stop =>
          rintro D ys W hD h
          exact h.elim
      · have hle : (sn : Int) ≤ (k : Int) := by omega
        have f9 := cell_block hI.t9 0
        have hdr : pkS (List.replicate fs.length 0) (bgSt fs :: (runS fs (bgSt fs) m).1) = o := by
          rw [hp, List.drop_eq_nil_of_le (by omega)]
          rfl
        have HP := Lib.hid hdr
        clear hp hsn hdr
        go_wp2_with fail
        refine leaves_marks (by simp) (B := w1.heap.size) ds _ hM.nd (fun D hD => ⟨(hM.at_ D hD).1, (hM.at_ D hD).2.2⟩) (fun w' hb ho => ?_)
        have hB' := B1.trans ((hI.bel.trans hb).mono B1.size)
        refine ⟨.tuple #[.slice (some ⟨w1.heap.size, 0, none⟩) n n, .int .i64 0], by simp [results, Tryz.results24, go_sem], some ⟨w1.heap.size, 0, none⟩, n, n, by rw [HZ.out], ⟨fun h => absurd HZ.out h, fun _ => ?_⟩, hB'⟩
        rw [HP.out]
        refine owns_lower (B := w1.heap.size) ?_ B1.size
        exact owns_same hI.out (ho _ (fun hm => by
          have h1 := (hM.at_ _ hm).2.2
          obtain ⟨cs, h2⟩ := (In.of_owns hI.out).blk _ _ rfl
          rw [h1] at h2
          cases h2))
end Go.Proofs.YtaiikekgckjdeaaGreat
