/- A new step, walked. Which storey collapses. -/
import Derived.Test.YtaiikekgckjdeaaGreatK09
namespace Go.Proofs.YtaiikekgckjdeaaGreat
open Go.RowKit
open Calmly (Kept)

/-- A state that a step may begin from. -/
structure StOk (fs : List Fl) (s : St) : Prop where
  frm : (frmE fs).2 = 0
  now : s.1.length = fs.length
  bef : s.2.1.length = fs.length
  hol : s.2.2.length = fs.length
  ok : ∀ i, i < fs.length → HoldOk (fs[i]?.getD fl0).2.2 (s.2.2[i]?.getD ho0).1 (s.2.2[i]?.getD ho0).2
  nbd : ∀ i : Nat, -1000000000 ≤ s.1[i]?.getD 0 ∧ s.1[i]?.getD 0 ≤ 1000000000
  bbd : ∀ i : Nat, -1000000000 ≤ s.2.1[i]?.getD 0 ∧ s.2.1[i]?.getD 0 ≤ 1000000000
theorem StOk.frS_bd {fs : List Fl} {s : St} (h : StOk fs s) (i : Nat) : -200000000 ≤ frS fs s i ∧ frS fs s i ≤ 200000000 := by
  rcases Nat.lt_or_ge i fs.length with hi | hi
  · exact frcS_bd (h.ok i hi)
  · unfold frS
    rw [List.getElem?_eq_none hi]
    simp [frcS, sumR, fl0]
/-- What lies between two rounds of the pushes. -/
structure NsI (w : World) (b7 pg n c c1 c2 c3 pc : Nat) (a a1 a2 a3 : Option Addr) (g : Int) (P : List Int) (wr : World) : Prop where
  bel : Below w.heap.size w wr
  t3 : wr.heap[w.heap.size]? = some (.cells #[.slice a n c] 71)
  t4 : wr.heap[w.heap.size + 1]? = some (.cells #[.slice a1 n c1, .slice a2 n c2, .slice a3 n c3] 116)
  x : wr.heap[b7]? = some (.cells #[.slice a n c, .slice a1 n c1, .slice a2 n c2, .slice a3 n c3, .int .i64 g, .slice (some ⟨pg, 0, none⟩) n pc, .slice none 0 0] 157)
  ps : OwI wr w.heap.size (some ⟨pg, 0, none⟩) n pc P
theorem NsI.keep {w : World} {b7 pg n c c1 c2 c3 pc : Nat} {a a1 a2 a3 : Option Addr} {g : Int} {P : List Int} {wr W : World} (h : NsI w b7 pg n c c1 c2 c3 pc a a1 a2 a3 g P wr) (hb : Below wr.heap.size wr W) : NsI w b7 pg n c c1 c2 c3 pc a a1 a2 a3 g P W :=
  ⟨h.bel.trans (hb.mono h.bel.size), blk_keep h.t3 hb, blk_keep h.t4 hb, blk_keep h.x hb, h.ps.keepM hb⟩
theorem NsI.stored {w : World} {b7 pg n c c1 c2 c3 pc : Nat} {a a1 a2 a3 : Option Addr} {g : Int} {P : List Int} {wr : World} (h : NsI w b7 pg n c c1 c2 c3 pc a a1 a2 a3 g P wr) (j : Nat) (v : Int) : NsI w b7 pg n c c1 c2 c3 pc a a1 a2 a3 g (P.set j v) (wr.setCell ⟨pg, j, none⟩ (.int .i64 v)) := by
  obtain ⟨h1, h2⟩ := h.ps.stored j v
  have hT : BlkT wr pg 3 := (In.of_owns h.ps).blk pg 0 rfl
  have hne : ∀ b, b ≠ pg → (wr.setCell ⟨pg, j, none⟩ (.int .i64 v)).heap[b]? = wr.heap[b]? := fun b hb => Below.heap_setCell _ _ _ _ hb
  exact ⟨h.bel.setCell h.ps.lt.1 _, (hne _ (BlkT.ne ⟨_, h.t3⟩ hT (by decide))).trans h.t3, (hne _ (BlkT.ne ⟨_, h.t4⟩ hT (by decide))).trans h.t4, (hne _ (BlkT.ne ⟨_, h.x⟩ hT (by decide))).trans h.x, h1⟩

/-- What lies between two rounds of the new displacements. -/
structure NsJ (w : World) (N b7 pg n c c1 c2 c3 pc : Nat) (a a1 a2 a3 : Option Addr) (g : Int) (P : List Int) (k : Nat) (Q : List Int) (wr : World) : Prop where
  bel : Below w.heap.size w wr
  t3 : wr.heap[w.heap.size]? = some (.cells #[.slice a n c] 71)
  t4 : wr.heap[w.heap.size + 1]? = some (.cells #[.slice a1 n c1, .slice a2 n c2, .slice a3 n c3] 116)
  x : ∃ xa xc, wr.heap[b7]? = some (.cells #[.slice a n c, .slice a1 n c1, .slice a2 n c2, .slice a3 n c3, .int .i64 g, .slice (some ⟨pg, 0, none⟩) n pc, .slice xa k xc] 157) ∧ OwI wr N xa k xc Q
  ps : OwI wr w.heap.size (some ⟨pg, 0, none⟩) n pc P
  sz : N ≤ wr.heap.size
/-- What all worlds know while a displacement is made. -/
structure S13 (w : World) (b7 b12 pg k : Nat) (X T O : Obj) (pk : Int) (u : World) : Prop where
  kept : Kept w u
  x : u.heap[b7]? = some X
  t4 : u.heap[w.heap.size + 1]? = some T
  fl : u.heap[b12]? = some O
  ps : u.cell? ⟨pg, k, none⟩ = some (.int .i64 pk)
theorem S13.keepAnd {w : World} {b7 b12 pg k : Nat} {X T O : Obj} {pk : Int} {u : World} {G : Prop} (h : S13 w b7 b12 pg k X T O pk u) (g : G) : S13 w b7 b12 pg k X T O pk u ∧ G := ⟨h, g⟩
theorem S13.below {w : World} {b7 b12 pg k : Nat} {X T O : Obj} {pk : Int} {u u' : World} (h : S13 w b7 b12 pg k X T O pk u) (hb : Below u.heap.size u u') : S13 w b7 b12 pg k X T O pk u' :=
  ⟨⟨Nat.le_trans h.kept.size hb.size, fun b hlt => (hb.block b (Nat.lt_of_lt_of_le hlt h.kept.size)).trans (h.kept.block b hlt)⟩, blk_keep h.x hb, blk_keep h.t4 hb, blk_keep h.fl hb, cell_keep h.ps hb⟩
theorem S13.allocAnd {w : World} {b7 b12 pg k : Nat} {X T O : Obj} {pk : Int} {u : World} {o : Obj} {G : Prop} (h : S13 w b7 b12 pg k X T O pk u) (g : S13 w b7 b12 pg k X T O pk (u.alloc o) → G) : S13 w b7 b12 pg k X T O pk (u.alloc o) ∧ G :=
  ⟨h.below ((Below.refl _ _).alloc (Nat.le_refl _) _), g (h.below ((Below.refl _ _).alloc (Nat.le_refl _) _))⟩
theorem S13.app {w : World} {b7 b12 pg k N : Nat} {c1 c2 c3 : Array Value} {t1 t2 t3 : TypeId} {pk : Int} {u u' : World} (h : S13 w b7 b12 pg k (.cells c1 t1) (.cells c2 t2) (.cells c3 t3) pk u) (hb : Below N u u') (hB : But 3 u u') (hp : pg < N) (hw : w.heap.size ≤ N) (h1 : t1 ≠ 3) (h2 : t2 ≠ 3) (h3 : t3 ≠ 3) : S13 w b7 b12 pg k (.cells c1 t1) (.cells c2 t2) (.cells c3 t3) pk u' :=
  ⟨⟨Nat.le_trans h.kept.size hb.size, fun b hlt => (hb.block b (by omega)).trans (h.kept.block b hlt)⟩, blk_but h.x hB h1, blk_but h.t4 hB h2, blk_but h.fl hB h3, (sameCell (hb.block pg hp) k).trans h.ps⟩
theorem owns_same {w w' : World} {B n k g c : Nat} {e : TypeId} {xs : List Value} (h : w.ownsRow B e k (.slice (some ⟨g, 0, none⟩) n c) n xs) (hg : w'.heap[g]? = w.heap[g]?) : w'.ownsRow B e k (.slice (some ⟨g, 0, none⟩) n c) n xs := by
  obtain ⟨h1, h2⟩ := h
  refine ⟨h1, ?_⟩
  rcases h2 with ⟨h2, _⟩ | ⟨g', cap, cur, hv, hgg, hh, r'⟩
  · cases h2
  · cases hv
    exact .inr ⟨g, _, cur, rfl, hgg, hg.trans hh, r'⟩
theorem NsJ.step {w : World} {N b7 pg n c c1 c2 c3 pc : Nat} {a a1 a2 a3 : Option Addr} {g : Int} {P : List Int} {j : Nat} {Q : List Int} {wr V w9 : World} (h : NsJ w N b7 pg n c c1 c2 c3 pc a a1 a2 a3 g P j Q wr) (hN : pg < N ∧ b7 < N ∧ w.heap.size + 1 < N) (hb : w.heap.size + 1 < b7) (BV : Below wr.heap.size wr V) (h9 : Below N V w9)
    {a9 xa : Option Addr} {c9 xc : Nat} {q : Int} (k9 : w9.heap[b7]? = some (.cells #[.slice a n c, .slice a1 n c1, .slice a2 n c2, .slice a3 n c3, .int .i64 g, .slice (some ⟨pg, 0, none⟩) n pc, .slice xa j xc] 157)) (ho : OwI w9 N a9 (j + 1) c9 (Q ++ [q])) :
    NsJ w N b7 pg n c c1 c2 c3 pc a a1 a2 a3 g P (j + 1) (Q ++ [q]) (w9.setCell ⟨b7, 6, none⟩ (.slice a9 (j + 1) c9)) := by
  obtain ⟨i1, i2, i3, _, i5, i6⟩ := h
  have hne : ∀ b, b ≠ b7 → (w9.setCell ⟨b7, 6, none⟩ (.slice a9 (j + 1) c9)).heap[b]? = w9.heap[b]? := fun b hb => Below.heap_setCell _ _ _ _ hb
  have q7 := setBlk k9 6 (.slice a9 (j + 1) c9)
  have hpg : pg ≠ b7 := BlkT.ne ((In.of_owns i5).blk pg 0 rfl) (⟨_, (by
    have h1 := BV.block b7 (by omega)
    have h2 := h9.block b7 hN.2.1
    rw [← h1, ← h2]
    exact k9)⟩ : BlkT wr b7 157) (by decide)
  refine ⟨((i1.trans (BV.mono i1.size)).trans (h9.mono (by omega))).setCell (by show w.heap.size ≤ b7; omega) _, ?_, ?_, ⟨a9, c9, by simpa using q7, owns_other ho hne ⟨_, k9⟩ (by decide)⟩, ?_, ?_⟩
  · exact (hne _ (by omega)).trans ((h9.block _ (by omega)).trans (blk_keep i2 BV))
  · exact (hne _ (by omega)).trans ((h9.block _ (by omega)).trans (blk_keep i3 BV))
  · exact owns_same (i5.keepM BV) ((hne _ hpg).trans (h9.block _ hN.1))
  · simp only [World.size_setCell]
    have := BV.size
    have := h9.size
    omega
set_option maxRecDepth 100000 in
set_option maxHeartbeats 8000000 in
theorem newStep_any (a a1 a2 a3 : Option Addr) (n c c1 c2 c3 : Nat) (raw : List FlR) (fs : List Fl) (s : St) (g : Int) (w : World) (h1 : FrV w a n c raw fs) (h2 : StV w ((a1, n, c1), (a2, n, c2), (a3, n, c3)) s) (ok : StOk fs s) (hg : -1000000 ≤ g ∧ g ≤ 1000000) :
    Calls Tryz.prog 81 #[.agg #[.slice a n c], .agg #[.slice a1 n c1, .slice a2 n c2, .slice a3 n c3], .int .i64 g] w fun e w' => ∃ b pa pc xa xc, e = .returned (.pointer (some ⟨b, 0, none⟩)) ∧ w.heap.size ≤ b ∧ w'.heap[b]? = some (.cells #[.slice a n c, .slice a1 n c1, .slice a2 n c2, .slice a3 n c3, .int .i64 g, .slice pa n pc, .slice xa n xc] 157) ∧
      OwI w' w.heap.size pa n pc (psF (frS fs s) n n) ∧ OwI w' w.heap.size xa n xc ((List.range n).map (nxS fs s g)) ∧ Below w.heap.size w w' := by
  have hn := h1.n_
  have m1 := h1.row.max
  have q1 := h1.row.cap
  have HN := Lib.hid hn
  have hfo := frmE_ok ok.frm
  have hn5 : 0 < n ∧ n ≤ 5 := by omega
  have HFO := Lib.hid hfo
  have OK := Lib.hid ok
  obtain ⟨v1, v2, v3, v4, ⟨raw3, v5⟩, v6⟩ := h2
  dsimp only at v1 v2 v3 v4 v5 v6
  have mm1 := v1.max
  have mc1 := v1.cap
  have mm2 := v3.max
  have mc2 := v3.cap
  have mm3 := v5.row.max
  have mc3 := v5.row.cap
  clear hn hfo ok
  have y0 := blk_keep (alloc_new w (.cells #[.slice a n c] 71)) ((Below.refl _ _).alloc (Nat.le_refl _) (.cells #[.slice a1 n c1, .slice a2 n c2, .slice a3 n c3] 116))
  have y1 := alloc_new (w.alloc (.cells #[.slice a n c] 71)) (.cells #[.slice a1 n c1, .slice a2 n c2, .slice a3 n c3] 116)
  have BW : Below w.heap.size w ((w.alloc (.cells #[.slice a n c] 71)).alloc (.cells #[.slice a1 n c1, .slice a2 n c2, .slice a3 n c3] 116)) := ((Below.refl _ _).alloc (Nat.le_refl _) _).alloc (by simp) _
  simp only [World.size_alloc] at y1
  go_enter Tryz.func81, Tryz.ntmps81
  go_wp2_with fail
  generalize (w.alloc (.cells #[.slice a n c] 71)).alloc (.cells #[.slice a1 n c1, .slice a2 n c2, .slice a3 n c3] 116) = W at *
  refine Calmly.wp_region_mix 7 (.fl 0 <| .fl 1 <| .fl 2 <| .fl 3 <| .fl 4 <| .fl 5 <| .eff 6 <| .tail [7, 8, 9]) (by kernel_rfl) (by kernel_rfl) ?_
  replace y0 := blk_keep y0 (Below.refl _ _).drew
  replace y1 := blk_keep y1 (Below.refl _ _).drew
  replace BW := BW.drew
  generalize W.drew = V at *
  have f0 := cell_block y0 0
  have f1 := cell_block y1 0
  have f2 := cell_block y1 1
  have f3 := cell_block y1 2
  have hk := Below.refl V.heap.size V
  have hn6 : n ≤ 1000000 := by omega
  go_wp2_with (first | (refine mix_makeIa 6 (n := n) rfl rfl rfl rfl hn6 (fun pa w' hop hb => ?_); replace hk := step_of hk hb; refine ⟨kept_of hk, ?_⟩; obtain ⟨pg, rfl, hpg⟩ := hop.at_ hn5.1; replace y0 := blk_keep y0 hb; replace y1 := blk_keep y1 hb; have BB : Below w'.heap.size w' (w'.alloc (.cells #[.slice a n c, .slice a1 n c1, .slice a2 n c2, .slice a3 n c3, .int .i64 g, .slice (some ⟨pg, 0, none⟩) n n, .slice none 0 0] 157)) := (Below.refl _ _).alloc (Nat.le_refl _) _; have f5 := cell_block (blk_keep y0 BB) 0) | ((with_reducible refine Calmly.is_fl ?_); refine Calmly.mix_fl rfl ?_ (fun _ _ => ?_); (first | exact .move _ | exact .load _ _ | exact .fieldAddr _ _ _ (by kernel_rfl) | exact .assign _ | exact .binOp _ _ _ _ _ rfl | exact .indexAddr _ _ _ | exact .len _ _ (by kernel_rfl) | exact .field _ _ _ | exact .extract _ _ | exact .pick _ _ _ | exact .build _ _ | exact .slice _ _ _ _ _ | exact .unOp _ _ _ rfl | exact .index _ _ _ | exact .max _ _ _ rfl rfl | exact .min _ _ _ rfl rfl | exact .nilCheck _ _ rfl)) | ((with_reducible refine Calmly.is_gl ?_); refine Calmly.mix_gl rfl rfl rfl ?_; first | ((first | with_reducible refine Calmly.gl_tt ?_ (fun _ _ => ?_) | with_reducible refine Calmly.gl_ff ?_ (fun _ _ => ?_)); (first | exact .move _ | exact .load _ _ | exact .fieldAddr _ _ _ (by kernel_rfl) | exact .assign _ | exact .binOp _ _ _ _ _ rfl | exact .indexAddr _ _ _ | exact .len _ _ (by kernel_rfl) | exact .field _ _ _ | exact .extract _ _ | exact .pick _ _ _ | exact .build _ _ | exact .slice _ _ _ _ _ | exact .unOp _ _ _ rfl | exact .index _ _ _ | exact .max _ _ _ rfl rfl | exact .min _ _ _ rfl rfl | exact .nilCheck _ _ rfl)) | with_reducible refine Calmly.gl_tf (fun _ _ => ?_) | with_reducible refine Calmly.gl_ft (fun _ _ => ?_)) | ((with_reducible refine Calmly.is_eff ?_); refine Calmly.mix_eff rfl (fun _ _ => ?_)) | ((with_reducible refine Calmly.is_gf ?_); refine Calmly.mix_gf rfl rfl rfl ?_; first | with_reducible refine Calmly.gf_tt (fun _ _ => ?_) | with_reducible refine Calmly.gf_ff (fun _ _ => ?_) | with_reducible refine Calmly.gf_tf (kept_of hk) (fun _ _ => ?_) | with_reducible refine Calmly.gf_ft (kept_of hk) (fun _ _ => ?_)) | ((with_reducible refine Calmly.is_tail ?_); first | refine Calmly.mix_tail_nil ?_ | refine Calmly.mix_tail rfl (fun _ _ => ?_)) | ((with_reducible refine Calmly.is_kept ?_); refine ⟨kept_of hk, ?_⟩) | (with_reducible refine Calmly.mix_alt ?_ ?_))
  have hI : NsI w w'.heap.size pg n c c1 c2 c3 n a a1 a2 a3 g (psF (frS fs s) n 0) (w'.alloc (.cells #[.slice a n c, .slice a1 n c1, .slice a2 n c2, .slice a3 n c3, .int .i64 g, .slice (some ⟨pg, 0, none⟩) n n, .slice none 0 0] 157)) := by
    have h0 : NsI w w'.heap.size pg n c c1 c2 c3 n a a1 a2 a3 g (psF (frS fs s) n 0) (w'.alloc (.cells #[.slice a n c, .slice a1 n c1, .slice a2 n c2, .slice a3 n c3, .int .i64 g, .slice (some ⟨pg, 0, none⟩) n n, .slice none 0 0] 157)) := ⟨(BW.trans (hk.mono BW.size)).trans (BB.mono (by have := BW.size; have := hk.size; omega)), blk_keep y0 BB, blk_keep y1 BB, alloc_new _ _, by rw [psF_zero]; exact owns_lower (hop.keepM BB) BW.size⟩
    exact h0
  have hb7 : w.heap.size + 1 < w'.heap.size := blk_lt y1
  generalize w'.alloc (.cells #[.slice a n c, .slice a1 n c1, .slice a2 n c2, .slice a3 n c3, .int .i64 g, .slice (some ⟨pg, 0, none⟩) n n, .slice none 0 0] 157) = X at *
  have HB7 : ∃ b, w'.heap.size = b := ⟨_, rfl⟩
  obtain ⟨b7, hb7e⟩ := HB7
  rw [hb7e] at hI hb7 ⊢
  clear BB f0 f1 f2 f3 f5 y0 y1 hk hop hpg hb7e hb
  go_loopw [25] (fun i wr => ∃ k : Nat, k ≤ n ∧ i = .int .i64 k ∧ NsI w b7 pg n c c1 c2 c3 n a a1 a2 a3 g (psF (frS fs s) n k) wr) (fun i _ => n - (intOf i).toNat)
  case atStart => exact ⟨0, by omega, rfl, hI⟩
  case round =>
    clear hI
    obtain ⟨k, hk, rfl, hI⟩ := hrel
    by_cases hlt : k < n
    · obtain ⟨cb, co, rfl, hcc⟩ := (h1.row.keep hI.bel).at_ (by omega)
      obtain ⟨q0, q1, q2⟩ := hcc k hlt
      obtain ⟨-, -, hsel⟩ := (h1.keep hI.bel).fl k (by rw [← HN.out]; exact hlt)
      obtain ⟨rr, hrr⟩ : ∃ rr, raw[k]?.getD flr0 = rr := ⟨_, rfl⟩
      obtain ⟨x0, x1, ⟨u1, u2, u3⟩⟩ := rr
      rw [hrr] at q0 q1 q2 hsel
      clear hrr hcc
      dsimp only [hv] at q0 q1 q2 hsel
      have hi1 : (k : Int) < (n : Int) := by omega
      have hi0 : (0 : Int) ≤ (k : Int) := by omega
      have BA : Below wr.heap.size wr (wr.alloc (.cells #[.int .i64 x0, .int .i64 x1, .slice u1 u2 u3] 120)) := (Below.refl _ _).alloc (Nat.le_refl _) _
      have y8 := alloc_new wr (.cells #[.int .i64 x0, .int .i64 x1, .slice u1 u2 u3] 120)
      have f9 := cell_block (blk_keep hI.t3 BA) 0
      go_wp2_with fail
      have BV := BA.drew
      replace y8 := blk_keep y8 (Below.refl _ _).drew
      refine Calmly.wp_region_mix 8 (.fl 0 <| .fl 1 <| .fl 2 <| .fl 3 <| .fl 4 <| .fl 5 <| .fl 6 <| .eff 7 <| .tail [8]) (by kernel_rfl) (by kernel_rfl) ?_
      generalize World.drew _ = V5 at *
      have hI5 := hI.keep BV
      have hsel5 := hsel.keep BV
      obtain ⟨b3, o3, rfl, hc3⟩ := ((v5.row.keep hI5.bel)).at_ (by omega)
      obtain ⟨z0, z1⟩ := hc3 k hlt
      obtain ⟨r1, r2, -⟩ := (v5.keep hI5.bel).hl k (by rw [OK.out.hol, ← HN.out]; exact hlt)
      have hok := OK.out.ok k (by rw [← HN.out]; exact hlt)
      have hF : frS fs s k = frcS (fs[k]?.getD fl0).2.2 (s.2.2[k]?.getD ho0).1 (s.2.2[k]?.getD ho0).2 := rfl
      obtain ⟨l, hl⟩ : ∃ l, (fs[k]?.getD fl0).2.2 = l := ⟨_, rfl⟩
      obtain ⟨hh, hhh⟩ : ∃ hh, s.2.2[k]?.getD ho0 = hh := ⟨_, rfl⟩
      obtain ⟨at1, sl⟩ := hh
      obtain ⟨r3, hr3⟩ : ∃ r3, raw3[k]?.getD hor0 = r3 := ⟨_, rfl⟩
      obtain ⟨at3, ⟨e1, e2, e3⟩⟩ := r3
      rw [hr3] at z0 z1 r1 r2
      rw [hhh] at r1 r2 hok hF
      rw [hl] at hok hF hsel5
      dsimp only [hv] at z0 z1 r1 r2 hok hF
      subst r1
      obtain rfl : e2 = u2 := by rw [hsel5.len, r2.len, hok.same]
      have hbf := frcS_bd hok
      rw [← hF] at hbf
      have HF := Lib.hid hF
      have HO := Lib.hid hok
      have hu := hsel5.len
      have HU := Lib.hid hu
      have hl6 : e2 ≤ 6 := by have := hok.len; omega
      clear hF hok hhh hr3 hl hc3 hsel q0 q1 q2 hu
      obtain ⟨f, hf⟩ : ∃ f, frS fs s k = f := ⟨_, rfl⟩
      rw [hf] at hbf HF
      have HFF := Lib.hid hf
      clear hf
      have g0 := cell_block y8 2
      have g1 := cell_block hI5.t4 2
      have hk5 := Below.refl V5.heap.size V5
      have hkk := hk
      clear hk
      have hk := hk5
      go_wp2_with (first | ((with_reducible refine Calmly.is_fl ?_); refine Calmly.mix_fl rfl ?_ (fun _ _ => ?_); (first | exact .move _ | exact .load _ _ | exact .fieldAddr _ _ _ (by kernel_rfl) | exact .assign _ | exact .binOp _ _ _ _ _ rfl | exact .indexAddr _ _ _ | exact .len _ _ (by kernel_rfl) | exact .field _ _ _ | exact .extract _ _ | exact .pick _ _ _ | exact .build _ _ | exact .slice _ _ _ _ _ | exact .unOp _ _ _ rfl | exact .index _ _ _ | exact .max _ _ _ rfl rfl | exact .min _ _ _ rfl rfl | exact .nilCheck _ _ rfl)) | ((with_reducible refine Calmly.is_gl ?_); refine Calmly.mix_gl rfl rfl rfl ?_; first | ((first | with_reducible refine Calmly.gl_tt ?_ (fun _ _ => ?_) | with_reducible refine Calmly.gl_ff ?_ (fun _ _ => ?_)); (first | exact .move _ | exact .load _ _ | exact .fieldAddr _ _ _ (by kernel_rfl) | exact .assign _ | exact .binOp _ _ _ _ _ rfl | exact .indexAddr _ _ _ | exact .len _ _ (by kernel_rfl) | exact .field _ _ _ | exact .extract _ _ | exact .pick _ _ _ | exact .build _ _ | exact .slice _ _ _ _ _ | exact .unOp _ _ _ rfl | exact .index _ _ _ | exact .max _ _ _ rfl rfl | exact .min _ _ _ rfl rfl | exact .nilCheck _ _ rfl)) | with_reducible refine Calmly.gl_tf (fun _ _ => ?_) | with_reducible refine Calmly.gl_ft (fun _ _ => ?_)) | ((with_reducible refine Calmly.is_eff ?_); refine Calmly.mix_eff rfl (fun _ _ => ?_)) | ((with_reducible refine Calmly.is_gf ?_); refine Calmly.mix_gf rfl rfl rfl ?_; first | with_reducible refine Calmly.gf_tt (fun _ _ => ?_) | with_reducible refine Calmly.gf_ff (fun _ _ => ?_) | with_reducible refine Calmly.gf_tf (kept_of hk) (fun _ _ => ?_) | with_reducible refine Calmly.gf_ft (kept_of hk) (fun _ _ => ?_)) | ((with_reducible refine Calmly.is_tail ?_); first | refine Calmly.mix_tail_nil ?_ | refine Calmly.mix_tail rfl (fun _ _ => ?_)) | ((with_reducible refine Calmly.is_kept ?_); refine ⟨kept_of hk, ?_⟩) | (with_reducible refine Calmly.mix_alt ?_ ?_))
      refine (sumForce_any u1 e1 e2 u3 e3 l at3 sl _ (hsel5.keep hk) (r2.keep hk) hl6 (fun i hi => HO.out.elB HO.out.at_ (by rw [← HU.out]; exact hi))).mono ?_
      rintro e w6 ⟨rfl, hs6⟩
      rw [show sumR (fun i => frcE (l[i]?.getD el0).1 (sl[i]?.getD sp0).1 (sl[i]?.getD sp0).2 at3) e2 = f by rw [HF.out, frcS, ← HU.out]]
      have hI6 := hI5.keep hs6
      have p5 := cell_block hI6.x 5
      have pc := hI6.ps.cell k hlt
      have pf := hI6.ps.free k
      have hP0 : (psF (frS fs s) n k)[k]?.getD 0 = 0 := by rw [psF_get _ hlt, psA, if_neg (by omega), if_neg (by omega)]
      rw [hP0] at pc
      have hI7 := hI6.stored k (-f)
      replace hk := step_of hk hs6
      have HI7 := Lib.hid hI7
      clear hI7 hP0
      cases k with
      | zero =>
        go_wp2_with (first | ((with_reducible refine Calmly.is_fl ?_); refine Calmly.mix_fl rfl ?_ (fun _ _ => ?_); (first | exact .move _ | exact .load _ _ | exact .fieldAddr _ _ _ (by kernel_rfl) | exact .assign _ | exact .binOp _ _ _ _ _ rfl | exact .indexAddr _ _ _ | exact .len _ _ (by kernel_rfl) | exact .field _ _ _ | exact .extract _ _ | exact .pick _ _ _ | exact .build _ _ | exact .slice _ _ _ _ _ | exact .unOp _ _ _ rfl | exact .index _ _ _ | exact .max _ _ _ rfl rfl | exact .min _ _ _ rfl rfl | exact .nilCheck _ _ rfl)) | ((with_reducible refine Calmly.is_gl ?_); refine Calmly.mix_gl rfl rfl rfl ?_; first | ((first | with_reducible refine Calmly.gl_tt ?_ (fun _ _ => ?_) | with_reducible refine Calmly.gl_ff ?_ (fun _ _ => ?_)); (first | exact .move _ | exact .load _ _ | exact .fieldAddr _ _ _ (by kernel_rfl) | exact .assign _ | exact .binOp _ _ _ _ _ rfl | exact .indexAddr _ _ _ | exact .len _ _ (by kernel_rfl) | exact .field _ _ _ | exact .extract _ _ | exact .pick _ _ _ | exact .build _ _ | exact .slice _ _ _ _ _ | exact .unOp _ _ _ rfl | exact .index _ _ _ | exact .max _ _ _ rfl rfl | exact .min _ _ _ rfl rfl | exact .nilCheck _ _ rfl)) | with_reducible refine Calmly.gl_tf (fun _ _ => ?_) | with_reducible refine Calmly.gl_ft (fun _ _ => ?_)) | ((with_reducible refine Calmly.is_eff ?_); refine Calmly.mix_eff rfl (fun _ _ => ?_)) | ((with_reducible refine Calmly.is_gf ?_); refine Calmly.mix_gf rfl rfl rfl ?_; first | with_reducible refine Calmly.gf_tt (fun _ _ => ?_) | with_reducible refine Calmly.gf_ff (fun _ _ => ?_) | with_reducible refine Calmly.gf_tf (kept_of hk) (fun _ _ => ?_) | with_reducible refine Calmly.gf_ft (kept_of hk) (fun _ _ => ?_)) | ((with_reducible refine Calmly.is_tail ?_); first | refine Calmly.mix_tail_nil ?_ | refine Calmly.mix_tail rfl (fun _ _ => ?_)) | ((with_reducible refine Calmly.is_kept ?_); refine ⟨kept_of hk, ?_⟩) | (with_reducible refine Calmly.mix_alt ?_ ?_))
        go_roundw
        case rel =>
          refine ⟨1, by omega, by go_num, ?_⟩
          have h9 := HI7.out
          rw [← HFF.out, psF_one] at h9
          rw [← HFF.out]
          exact h9
        case measure => simp [intOf]; omega
      | succ k =>
        have hI7 := HI7.out
        have p6 := cell_block hI7.x 5
        have pd := hI7.ps.cell k (by omega)
        have pe := hI7.ps.free k
        have hP1 : ((psF (frS fs s) n (k + 1)).set (k + 1) (-f))[k]?.getD 0 = -frS fs s k := by
          rw [List.getElem?_set_ne (by omega), psF_get _ (by omega), psA, if_neg (by omega), if_pos rfl]
        obtain ⟨f', hf'⟩ : ∃ f', frS fs s k = f' := ⟨_, rfl⟩
        have hbf' := OK.out.frS_bd k
        rw [hf'] at hbf'
        rw [hP1, hf'] at pd
        have HF' := Lib.hid hf'
        have hI8 := hI7.stored k (-f' + f)
        have HI8 := Lib.hid hI8
        clear hI7 hI8 hP1 hf'
        go_wp2_with (first | ((with_reducible refine Calmly.is_fl ?_); refine Calmly.mix_fl rfl ?_ (fun _ _ => ?_); (first | exact .move _ | exact .load _ _ | exact .fieldAddr _ _ _ (by kernel_rfl) | exact .assign _ | exact .binOp _ _ _ _ _ rfl | exact .indexAddr _ _ _ | exact .len _ _ (by kernel_rfl) | exact .field _ _ _ | exact .extract _ _ | exact .pick _ _ _ | exact .build _ _ | exact .slice _ _ _ _ _ | exact .unOp _ _ _ rfl | exact .index _ _ _ | exact .max _ _ _ rfl rfl | exact .min _ _ _ rfl rfl | exact .nilCheck _ _ rfl)) | ((with_reducible refine Calmly.is_gl ?_); refine Calmly.mix_gl rfl rfl rfl ?_; first | ((first | with_reducible refine Calmly.gl_tt ?_ (fun _ _ => ?_) | with_reducible refine Calmly.gl_ff ?_ (fun _ _ => ?_)); (first | exact .move _ | exact .load _ _ | exact .fieldAddr _ _ _ (by kernel_rfl) | exact .assign _ | exact .binOp _ _ _ _ _ rfl | exact .indexAddr _ _ _ | exact .len _ _ (by kernel_rfl) | exact .field _ _ _ | exact .extract _ _ | exact .pick _ _ _ | exact .build _ _ | exact .slice _ _ _ _ _ | exact .unOp _ _ _ rfl | exact .index _ _ _ | exact .max _ _ _ rfl rfl | exact .min _ _ _ rfl rfl | exact .nilCheck _ _ rfl)) | with_reducible refine Calmly.gl_tf (fun _ _ => ?_) | with_reducible refine Calmly.gl_ft (fun _ _ => ?_)) | ((with_reducible refine Calmly.is_eff ?_); refine Calmly.mix_eff rfl (fun _ _ => ?_)) | ((with_reducible refine Calmly.is_gf ?_); refine Calmly.mix_gf rfl rfl rfl ?_; first | with_reducible refine Calmly.gf_tt (fun _ _ => ?_) | with_reducible refine Calmly.gf_ff (fun _ _ => ?_) | with_reducible refine Calmly.gf_tf (kept_of hk) (fun _ _ => ?_) | with_reducible refine Calmly.gf_ft (kept_of hk) (fun _ _ => ?_)) | ((with_reducible refine Calmly.is_tail ?_); first | refine Calmly.mix_tail_nil ?_ | refine Calmly.mix_tail rfl (fun _ _ => ?_)) | ((with_reducible refine Calmly.is_kept ?_); refine ⟨kept_of hk, ?_⟩) | (with_reducible refine Calmly.mix_alt ?_ ?_))
        go_roundw
        case rel =>
          refine ⟨k + 1 + 1, by omega, by go_num, ?_⟩
          have h9 := HI8.out
          have hst := psF_step (frS fs s) (n := n) (k := k + 1) (by omega) hlt
          simp only [Nat.add_sub_cancel] at hst
          rw [← HFF.out, ← HF'.out, hst] at h9
          rw [← HFF.out, ← HF'.out]
          exact h9
        case measure => simp [intOf]; omega
    · obtain rfl : k = n := by omega
      have hle : (k : Int) ≤ (k : Int) := by omega
      have g0 := cell_block hI.t3 0
      go_wp2_with fail
      obtain ⟨i1, i2, i3, i4, i5⟩ := hI
      have hN0 : pg < wr.heap.size ∧ b7 < wr.heap.size ∧ w.heap.size + 1 < wr.heap.size ∧ w.heap.size ≤ pg := ⟨i5.lt.2, blk_lt i4, blk_lt i3, i5.lt.1⟩
      have hJ : NsJ w wr.heap.size b7 pg k c c1 c2 c3 k a a1 a2 a3 g (psF (frS fs s) k k) 0 ((List.range 0).map (nxS fs s g)) wr := ⟨i1, i2, i3, ⟨none, 0, i4, OwI.nil _ _⟩, i5, Nat.le_refl _⟩
      obtain ⟨N, hN⟩ : ∃ N, wr.heap.size = N := ⟨_, rfl⟩
      rw [hN] at hJ hN0
      have hkk := hk
      clear hN g0 i1 i2 i3 i4 i5 hk hlt hle
      generalize wr = wq at hJ ⊢
      go_loopw [65] (fun i wr => ∃ j : Nat, j ≤ k ∧ i = .int .i64 j ∧ NsJ w N b7 pg k c c1 c2 c3 k a a1 a2 a3 g (psF (frS fs s) k k) j ((List.range j).map (nxS fs s g)) wr) (fun i _ => k - (intOf i).toNat)
      case atStart => exact ⟨0, by omega, rfl, hJ⟩
      case round =>
        clear hJ
        obtain ⟨j, hj, rfl, hJ⟩ := hrel
        by_cases hlt : j < k
        · obtain ⟨cb, co, rfl, hcc⟩ := (h1.row.keep hJ.bel).at_ (by omega)
          obtain ⟨q0, q1, q2⟩ := hcc j hlt
          obtain ⟨hm1, -, -⟩ := (h1.keep hJ.bel).fl j (by rw [← HN.out]; exact hlt)
          obtain ⟨rr, hrr⟩ : ∃ rr, raw[j]?.getD flr0 = rr := ⟨_, rfl⟩
          obtain ⟨x0, x1, ⟨u1, u2, u3⟩⟩ := rr
          rw [hrr] at q0 q1 q2 hm1
          clear hrr hcc
          dsimp only [hv] at q0 q1 q2 hm1
          have hi1 : (j : Int) < (k : Int) := by omega
          have hi0 : (0 : Int) ≤ (j : Int) := by omega
          have BA : Below wr.heap.size wr (wr.alloc (.cells #[.int .i64 x0, .int .i64 x1, .slice u1 u2 u3] 120)) := (Below.refl _ _).alloc (Nat.le_refl _) _
          have y8 := alloc_new wr (.cells #[.int .i64 x0, .int .i64 x1, .slice u1 u2 u3] 120)
          have HM1 := Lib.hid hm1
          clear hm1
          go_wp2_with fail
          obtain ⟨bn, on, rfl, hcn⟩ := v1.at_ (by omega)
          obtain ⟨bf, of', rfl, hcf⟩ := v3.at_ (by omega)
          have n0 := hcn j hlt
          have n1 := hcf j hlt
          have hnb := OK.out.nbd j
          have hbb := OK.out.bbd j
          have hpb := psA_bd (k := k) (i := j) (M := 200000000) (fun i => OK.out.frS_bd i)
          obtain ⟨xa, xc, jx, jo⟩ := hJ.x
          have BV := BA.drew
          replace y8 := blk_keep y8 (Below.refl _ _).drew
          have pcl := hJ.ps.cell j hlt
          rw [psF_get _ hlt] at pcl
          have hfl := flErr_ok (HFO.out.2 j (by rw [← HN.out]; exact hlt))
          have hx0 : 1 ≤ x0 ∧ x0 ≤ 10000 := by rw [HM1.out]; exact hfl.1
          have hS : S13 w b7 wr.heap.size pg j (.cells #[.slice (some ⟨cb, co, none⟩) k c, .slice (some ⟨bn, on, none⟩) k c1, .slice (some ⟨bf, of', none⟩) k c2, .slice a3 k c3, .int .i64 g, .slice (some ⟨pg, 0, none⟩) k k, .slice xa j xc] 157) (.cells #[.slice (some ⟨bn, on, none⟩) k c1, .slice (some ⟨bf, of', none⟩) k c2, .slice a3 k c3] 116) (.cells #[.int .i64 x0, .int .i64 x1, .slice u1 u2 u3] 120) (psA (frS fs s) k j) (World.drew (wr.alloc (.cells #[.int .i64 x0, .int .i64 x1, .slice u1 u2 u3] 120))) := ⟨⟨(hJ.bel.trans (BV.mono hJ.bel.size)).size, (hJ.bel.trans (BV.mono hJ.bel.size)).block⟩, blk_keep jx BV, blk_keep hJ.t4 BV, y8, cell_keep pcl BV⟩
          refine Calmly.wp_region_mixS w (S13 w b7 wr.heap.size pg j (.cells #[.slice (some ⟨cb, co, none⟩) k c, .slice (some ⟨bn, on, none⟩) k c1, .slice (some ⟨bf, of', none⟩) k c2, .slice a3 k c3, .int .i64 g, .slice (some ⟨pg, 0, none⟩) k k, .slice xa j xc] 157) (.cells #[.slice (some ⟨bn, on, none⟩) k c1, .slice (some ⟨bf, of', none⟩) k c2, .slice a3 k c3] 116) (.cells #[.int .i64 x0, .int .i64 x1, .slice u1 u2 u3] 120) (psA (frS fs s) k j)) (fun _ h => h.kept) hS 32 (.fl 0 <| .fl 1 <| .fl 2 <| .fl 3 <| .ld 4 <| .fl 5 <| .ld 6 <| .fl 7 <| .fl 8 <| .fl 9 <| .fl 10 <| .fl 11 <| .ld 12 <| .fl 13 <| .fl 14 <| .fl 15 <| .fl 16 <| .fl 17 <| .fl 18 <| .fl 19 <| .ld 20 <| .fl 21 <| .fl 22 <| .ld 23 <| .fl 24 <| .ld 25 <| .fl 28 <| .eff 26 <| .fl 27 <| .fl 29 <| .eff 30 <| .eff 31 <| .tail [32, 33, 34]) (by kernel_rfl) (by kernel_rfl) ?_
          have jV := jo.keepM BV
          have hVN : N ≤ (World.drew (wr.alloc (.cells #[.int .i64 x0, .int .i64 x1, .slice u1 u2 u3] 120))).heap.size := Nat.le_trans hJ.sz BV.size
          have HS := Lib.hid hS
          generalize World.drew (wr.alloc (.cells #[.int .i64 x0, .int .i64 x1, .slice u1 u2 u3] 120)) = V at *
          have ca : ∀ u, S13 w b7 wr.heap.size pg j (.cells #[.slice (some ⟨cb, co, none⟩) k c, .slice (some ⟨bn, on, none⟩) k c1, .slice (some ⟨bf, of', none⟩) k c2, .slice a3 k c3, .int .i64 g, .slice (some ⟨pg, 0, none⟩) k k, .slice xa j xc] 157) (.cells #[.slice (some ⟨bn, on, none⟩) k c1, .slice (some ⟨bf, of', none⟩) k c2, .slice a3 k c3] 116) (.cells #[.int .i64 x0, .int .i64 x1, .slice u1 u2 u3] 120) (psA (frS fs s) k j) u → u.cell? ⟨b7, 6, none⟩ = some (.slice xa j xc) := fun u h => cell_block h.x 6
          have cd : ∀ u, S13 w b7 wr.heap.size pg j (.cells #[.slice (some ⟨cb, co, none⟩) k c, .slice (some ⟨bn, on, none⟩) k c1, .slice (some ⟨bf, of', none⟩) k c2, .slice a3 k c3, .int .i64 g, .slice (some ⟨pg, 0, none⟩) k k, .slice xa j xc] 157) (.cells #[.slice (some ⟨bn, on, none⟩) k c1, .slice (some ⟨bf, of', none⟩) k c2, .slice a3 k c3] 116) (.cells #[.int .i64 x0, .int .i64 x1, .slice u1 u2 u3] 120) (psA (frS fs s) k j) u → u.cell? ⟨b7, 5, none⟩ = some (.slice (some ⟨pg, 0, none⟩) k k) := fun u h => cell_block h.x 5
          have ct : ∀ u, S13 w b7 wr.heap.size pg j (.cells #[.slice (some ⟨cb, co, none⟩) k c, .slice (some ⟨bn, on, none⟩) k c1, .slice (some ⟨bf, of', none⟩) k c2, .slice a3 k c3, .int .i64 g, .slice (some ⟨pg, 0, none⟩) k k, .slice xa j xc] 157) (.cells #[.slice (some ⟨bn, on, none⟩) k c1, .slice (some ⟨bf, of', none⟩) k c2, .slice a3 k c3] 116) (.cells #[.int .i64 x0, .int .i64 x1, .slice u1 u2 u3] 120) (psA (frS fs s) k j) u → u.cell? ⟨w.heap.size + 1, 0, none⟩ = some (.slice (some ⟨bn, on, none⟩) k c1) := fun u h => cell_block h.t4 0
          have cc : ∀ u, S13 w b7 wr.heap.size pg j (.cells #[.slice (some ⟨cb, co, none⟩) k c, .slice (some ⟨bn, on, none⟩) k c1, .slice (some ⟨bf, of', none⟩) k c2, .slice a3 k c3, .int .i64 g, .slice (some ⟨pg, 0, none⟩) k k, .slice xa j xc] 157) (.cells #[.slice (some ⟨bn, on, none⟩) k c1, .slice (some ⟨bf, of', none⟩) k c2, .slice a3 k c3] 116) (.cells #[.int .i64 x0, .int .i64 x1, .slice u1 u2 u3] 120) (psA (frS fs s) k j) u → u.cell? ⟨w.heap.size + 1, 1, none⟩ = some (.slice (some ⟨bf, of', none⟩) k c2) := fun u h => cell_block h.t4 1
          have ce : ∀ u, S13 w b7 wr.heap.size pg j (.cells #[.slice (some ⟨cb, co, none⟩) k c, .slice (some ⟨bn, on, none⟩) k c1, .slice (some ⟨bf, of', none⟩) k c2, .slice a3 k c3, .int .i64 g, .slice (some ⟨pg, 0, none⟩) k k, .slice xa j xc] 157) (.cells #[.slice (some ⟨bn, on, none⟩) k c1, .slice (some ⟨bf, of', none⟩) k c2, .slice a3 k c3] 116) (.cells #[.int .i64 x0, .int .i64 x1, .slice u1 u2 u3] 120) (psA (frS fs s) k j) u → u.cell? ⟨pg, j, none⟩ = some (.int .i64 (psA (frS fs s) k j)) := fun u h => h.ps
          have cf : ∀ u, S13 w b7 wr.heap.size pg j (.cells #[.slice (some ⟨cb, co, none⟩) k c, .slice (some ⟨bn, on, none⟩) k c1, .slice (some ⟨bf, of', none⟩) k c2, .slice a3 k c3, .int .i64 g, .slice (some ⟨pg, 0, none⟩) k k, .slice xa j xc] 157) (.cells #[.slice (some ⟨bn, on, none⟩) k c1, .slice (some ⟨bf, of', none⟩) k c2, .slice a3 k c3] 116) (.cells #[.int .i64 x0, .int .i64 x1, .slice u1 u2 u3] 120) (psA (frS fs s) k j) u → u.cell? ⟨wr.heap.size, 0, none⟩ = some (.int .i64 x0) := fun u h => cell_block h.fl 0
          clear hcn hcf q0 q1 q2 pcl hfl hS
          obtain ⟨pk, hpk⟩ : ∃ pk, psA (frS fs s) k j = pk := ⟨_, rfl⟩
          rw [hpk] at HS ca cd ct cc ce cf hpb ⊢
          obtain ⟨nw, hnw⟩ : ∃ nw, s.1[j]?.getD 0 = nw := ⟨_, rfl⟩
          obtain ⟨bw, hbw⟩ : ∃ bw, s.2.1[j]?.getD 0 = bw := ⟨_, rfl⟩
          rw [hnw] at n0 hnb
          rw [hbw] at n1 hbb
          have HPK := Lib.hid hpk
          have HNW := Lib.hid hnw
          have HBW := Lib.hid hbw
          clear hpk hnw hbw
          have hdv : -400000000 ≤ pk / x0 ∧ pk / x0 ≤ 400000000 := by
            constructor
            · rw [Int.le_ediv_iff_mul_le (by omega)]
              omega
            · exact Int.ediv_le_of_le_mul (by omega) (by omega)
          have hS := HS.out
          go_wp2_with (first | (refine mixS_appI (w0 := V) (B := N) 31 rfl rfl jV rfl rfl (by omega) hVN (fun a9 c9 w9 ho9 hb9 hB9 => ?_); have hS9 := hS.app hb9 hB9 (by omega) (by omega) (by decide) (by decide) (by decide); refine S13.keepAnd hS9 ?_; have k9 := hS9.x; have f5 := cell_block k9 6; have f6 := frozen_block k9 6) | ((with_reducible refine Calmly.isS_fl ?_); refine Calmly.mixS_fl rfl ?_ (fun _ _ => ?_); (first | exact .move _ | exact .load _ _ | exact .fieldAddr _ _ _ (by kernel_rfl) | exact .assign _ | exact .binOp _ _ _ _ _ rfl | exact .indexAddr _ _ _ | exact .len _ _ (by kernel_rfl) | exact .field _ _ _ | exact .extract _ _ | exact .pick _ _ _ | exact .build _ _ | exact .slice _ _ _ _ _ | exact .unOp _ _ _ rfl | exact .index _ _ _ | exact .max _ _ _ rfl rfl | exact .min _ _ _ rfl rfl | exact .nilCheck _ _ rfl)) | ((with_reducible refine Calmly.isS_eff ?_); refine Calmly.mixS_eff rfl (fun _ _ => ?_)) | ((with_reducible refine Calmly.isS_tail ?_); first | refine Calmly.mixS_tail_nil ?_ | refine Calmly.mixS_tail rfl (fun _ _ => ?_)) | ((with_reducible refine Calmly.isS_ld ?_); first | (refine Calmly.mixS_ld rfl ca ?_ (fun _ _ => ?_); focus (intro u hu; simp [execOp, go_sem, hu]; done)) | (refine Calmly.mixS_ld rfl cd ?_ (fun _ _ => ?_); focus (intro u hu; simp [execOp, go_sem, hu]; done)) | (refine Calmly.mixS_ld rfl ct ?_ (fun _ _ => ?_); focus (intro u hu; simp [execOp, go_sem, hu]; done)) | (refine Calmly.mixS_ld rfl cc ?_ (fun _ _ => ?_); focus (intro u hu; simp [execOp, go_sem, hu]; done)) | (refine Calmly.mixS_ld rfl ce ?_ (fun _ _ => ?_); focus (intro u hu; simp [execOp, go_sem, hu]; done)) | (refine Calmly.mixS_ld rfl cf ?_ (fun _ _ => ?_); focus (intro u hu; simp [execOp, go_sem, hu]; done))) | (go_at_call 98; refine (dFloor_any pk x0 _ (by omega) (by omega) (by omega) (by omega)).mono ?_; rintro e w5 ⟨rfl, rfl⟩) | (with_reducible refine S13.keepAnd hS ?_) | ((with_reducible refine S13.allocAnd hS ?_); intro hS2))
          go_roundw
          case rel =>
            refine ⟨j + 1, by omega, by go_num, ?_⟩
            have hv : nxS fs s g j = 2 * nw - bw + pk / x0 - g := by rw [nxS, HNW.out, HBW.out, ← HN.out, HPK.out, HM1.out]
            rw [List.range_succ, List.map_append, List.map_cons, List.map_nil, hv]
            exact hJ.step ⟨hN0.1, hN0.2.1, hN0.2.2.1⟩ hb7 BV hb9 k9 ho9
          case measure => simp [intOf]; omega
        · obtain rfl : j = k := by omega
          have hle : (j : Int) ≤ (j : Int) := by omega
          obtain ⟨xa, xc, jx, jo⟩ := hJ.x
          go_wp2_with fail
          go_ret
          exact ⟨b7, some ⟨pg, 0, none⟩, j, xa, xc, rfl, by omega, jx, hJ.ps, owns_lower jo (by omega), hJ.bel⟩
end Go.Proofs.YtaiikekgckjdeaaGreat

namespace Go.Proofs.YtaiikekgckjdeaaGreat
open Go.RowKit Go.Shelf
attribute [local go_sem] Oper.semAt_some
open Calmly (Kept)

/-- The first index that is bad, or -1. -/
def colF (bad : Nat → Bool) : Nat → Nat → Int
  | _, 0 => -1
  | k, m + 1 => if bad k then (k : Int) else colF bad (k + 1) m
theorem colF_none {bad : Nat → Bool} : ∀ {k m : Nat}, (∀ i, k ≤ i → i < k + m → bad i = false) → colF bad k m = -1
  | _, 0, _ => rfl
  | k, m + 1, h => by
    rw [colF, h k (by omega) (by omega)]
    exact colF_none (fun i h1 h2 => h i (by omega) (by omega))
theorem colF_some {bad : Nat → Bool} {j : Nat} (hj : bad j = true) : ∀ {k m : Nat}, k ≤ j → j < k + m → (∀ i, k ≤ i → i < j → bad i = false) → colF bad k m = (j : Int)
  | k, 0, h1, h2, _ => by omega
  | k, m + 1, h1, h2, h => by
    rw [colF]
    by_cases e : k = j
    · subst e
      rw [hj]
      rfl
    · rw [h k (by omega) (by omega)]
      exact colF_some hj (by omega) (by omega) (fun i h3 h4 => h i (by omega) h4)
def badS (fs : List Fl) (xs : List Int) (i : Nat) : Bool := !szd (dr xs i) (fs[i]?.getD fl0).2.1
/-- What lies between two rounds. -/
structure ClI (w : World) (b : Nat) (v : Int) (W : World) : Prop where
  bel : Below w.heap.size w W
  t1 : W.heap[w.heap.size]? = some (.cells #[.pointer (some ⟨b, 0, none⟩)] 143)
  t2 : W.heap[w.heap.size + 1]? = some (.cells #[.int .i64 v] 3)
theorem ClI.keep {w : World} {b : Nat} {v : Int} {W W' : World} (h : ClI w b v W) (hb : Below W.heap.size W W') : ClI w b v W' := ⟨h.bel.trans (hb.mono h.bel.size), blk_keep h.t1 hb, blk_keep h.t2 hb⟩
theorem ClI.set {w : World} {b : Nat} {v : Int} {W : World} (h : ClI w b v W) (u : Int) : ClI w b u (W.setCell ⟨w.heap.size + 1, 0, none⟩ (.int .i64 u)) := by
  have q := setBlk h.t2 0 (.int .i64 u)
  exact ⟨h.bel.setCell (by show w.heap.size ≤ w.heap.size + 1; omega) _, (Below.heap_setCell _ _ _ _ (by show w.heap.size ≠ w.heap.size + 1; omega)).trans h.t1, by simpa using q⟩
theorem ClI.grown {w : World} {B b : Nat} {v : Int} {W W' : World} {row : Option Nat} (h : ClI w b v W) (hB : w.heap.size ≤ B) (hg : W.grownBy W' row) (hr : ∀ r, row = some r → B ≤ r ∧ ∃ o : Obj, W.heap[r]? = some o ∧ o.isCells = false) : ClI w b v W' := by
  have hk := keeps_of_grown hg (fun r e => (hr r e).2)
  exact ⟨h.bel.trans (grown_below hg h.bel.size (fun k e => by have := (hr k e).1; omega)), hk.blk (by simp) h.t1, hk.blk (by simp) h.t2⟩
set_option maxRecDepth 100000 in
set_option maxHeartbeats 4000000 in
theorem collapses_any (b : Nat) (a xa : Option Addr) (n c xc : Nat) (y1 y2 y3 y4 y5 : Value) (raw : List FlR) (fs : List Fl) (xs : List Int) (w : World) (h1 : FrV w a n c raw fs) (hx : w.heap[b]? = some (.cells #[.slice a n c, y1, y2, y3, y4, y5, .slice xa n xc] 157)) (h2 : SI w xa n xc xs)
    (hb : ∀ i : Nat, -1000000000000 ≤ xs[i]?.getD 0 ∧ xs[i]?.getD 0 ≤ 1000000000000) (hfo : (frmE fs).2 = 0) :
    Calls Tryz.prog 82 #[.pointer (some ⟨b, 0, none⟩)] w fun e w' => e = .returned (.int .i64 (colF (badS fs xs) 0 n)) ∧ Below w.heap.size w w' := by
  have hn := h1.n_
  have m1 := h1.row.max
  have q1 := h1.row.cap
  have m2 := h2.max
  have q2 := h2.cap
  have HN := Lib.hid hn
  have hf := frmE_ok hfo
  have HFO := Lib.hid hf
  have HB := Lib.hid hb
  clear hn hf hfo hb
  have y0 := blk_keep (alloc_new w (.cells #[.pointer (some ⟨b, 0, none⟩)] 143)) ((Below.refl _ _).alloc (Nat.le_refl _) (.cells #[.int .i64 0] 3))
  have yr := alloc_new (w.alloc (.cells #[.pointer (some ⟨b, 0, none⟩)] 143)) (.cells #[.int .i64 0] 3)
  have BW : Below w.heap.size w ((w.alloc (.cells #[.pointer (some ⟨b, 0, none⟩)] 143)).alloc (.cells #[.int .i64 0] 3)) := ((Below.refl _ _).alloc (Nat.le_refl _) _).alloc (by simp) _
  simp only [World.size_alloc] at yr
  have hx2 := blk_keep hx BW
  have f6 := cell_block hx2 6
  refine (callsIn_wide (n := 5)).1 ?_
  refine callsIn_of_wp_marks Tryz.func82 rfl trivial ?_ rfl
  simp only [Tryz.ntmps82, List.size_toArray, List.length_cons, List.length_nil, Nat.reduceAdd, Nat.reduceSub, Array.replicate_succ, Array.replicate_zero, List.push_toArray, List.append_toArray, List.nil_append, List.cons_append]
  refine wpIn_wide.2 ?_
  go_wp2_with fail
  have hsz : ((w.alloc (.cells #[.pointer (some ⟨b, 0, none⟩)] 143)).alloc (.cells #[.int .i64 0] 3)).heap.size = w.heap.size + 2 := by simp
  generalize (w.alloc (.cells #[.pointer (some ⟨b, 0, none⟩)] 143)).alloc (.cells #[.int .i64 0] 3) = W2 at *
  refine (drifts_any xa n xc W2).mono ?_
  rintro e w3 ⟨rfl, rfl⟩
  have BV : Below W2.heap.size W2 (W2.alloc (.cells #[.slice xa n xc] 29)) := (Below.refl _ _).alloc (Nat.le_refl _) _
  have z0 := alloc_new W2 (.cells #[.slice xa n xc] 29)
  have hszV : (W2.alloc (.cells #[.slice xa n xc] 29)).heap.size = W2.heap.size + 1 := by simp
  go_wp2_with fail
  generalize W2.alloc (.cells #[.slice xa n xc] 29) = V at *
  rw [hsz] at z0
  replace y0 := blk_keep y0 BV
  replace yr := blk_keep yr BV
  replace BW := BW.trans (BV.mono BW.size)
  refine (wpIn_wide (n := 5)).1 ?_
  refine range_midX (gf := 85) (m := 4) rfl (enters_of Tryz.func85 (by kernel_rfl) rfl) (enc := fun i : Fin n => #[.int .i64 (i.val : Int), .int .i64 (dr xs i.val)]) (Kp := Keeps (fun b' => b' = w.heap.size + 1))
    (drifts_onX V (w.heap.size + 2) xa n xc xs (fun b' => b' = w.heap.size + 1) z0 (h2.keep BW) (by omega) (fun b' o h0 ha => by have := (h2.at_ h0); obtain ⟨b2, o2, he, hc⟩ := this; rw [ha] at he; cases he; have := cell_lt (hc 0 h0); omega) HB.out _) (fun h k => h.trans k) (fun W l o o' _ hl ho => Keeps.put o' hl ho) (fun _ => rfl)
    (fun pre W => ClI w b 0 W ∧ ∀ y ∈ pre, badS fs xs y.val = false) (fun _ W => ∃ j, j < n ∧ ClI w b (j : Int) W ∧ badS fs xs j = true ∧ ∀ i, i < j → badS fs xs i = false) (fun pre W W' row h hg hr => ⟨h.1.grown (by omega) hg hr, h.2⟩) ⟨⟨BW, y0, yr⟩, fun y hy => by cases hy⟩
    (fun pre x a' W => (ClI w b 0 W ∧ ∀ y ∈ pre, badS fs xs y.val = false) ∧ (pre.map (·.val) = List.range x.val ∧ a' = { tmps := #[.pointer (some ⟨b, 0, none⟩), .pointer (some ⟨w.heap.size, 0, none⟩), .pointer (some ⟨w.heap.size + 1, 0, none⟩), .int .i64 (x.val : Int), .int .i64 (dr xs x.val), .pointer (some ⟨b, 0, none⟩), .pointer (some ⟨b, 0, none⟩), .pointer (some ⟨b, 6, none⟩), .slice xa n xc, .func (.func 85) #[] #[.pointer (some ⟨w.heap.size + 2, 0, none⟩)], .int .i64 (x.val : Int), .int .i64 (dr xs x.val), undef, undef, undef, undef, undef, undef, undef, undef, undef, undef, undef, undef, undef], defers := [] }))
    ?own ?assign ?body ?ixown ?done ?stop
  case own =>
    rintro pre x a' s W W' row ⟨⟨h1, h2⟩, h3⟩ hg hr
    exact ⟨⟨h1.grown (by omega) hg hr, h2⟩, h3⟩
  case ixown =>
    rintro s W W' row ⟨j, h1, h2, h3⟩ hg hr
    exact ⟨j, h1, h2.grown (by omega) hg hr, h3⟩
  case assign =>
    rintro r pre x W K hi hlen hpx hK
    gi_wp2
    exact hK _ _ (KeepsOthers.refl _) (Keeps.refl _ _) ⟨hi, hpx, rfl⟩
  case body =>
    rintro r pre x a' W ⟨⟨hC, hP⟩, hpx, rfl⟩
    have hbef : ∀ i, i < x.val → badS fs xs i = false := fun i hi => by
      have h5 : i ∈ pre.map (·.val) := by rw [hpx]; exact List.mem_range.2 hi
      obtain ⟨y, hy, rfl⟩ := List.mem_map.1 h5
      exact hP y hy
    have HBF := Lib.hid hbef
    have HP := Lib.hid hP
    have hxl := x.isLt
    obtain ⟨i, hi⟩ : ∃ i, x.val = i := ⟨_, rfl⟩
    have hbadx : badS fs xs x.val = !szd (dr xs x.val) (fs[x.val]?.getD fl0).2.1 := rfl
    rw [hi] at hxl hbadx HBF ⊢
    have HX := Lib.hid hi
    clear hbef hP hpx hi
    obtain ⟨cb, co, rfl, hcc⟩ := (h1.row.keep hC.bel).at_ (by omega)
    obtain ⟨-, q1', -⟩ := hcc i hxl
    obtain ⟨-, hlm, -⟩ := (h1.keep hC.bel).fl i (by rw [← HN.out]; exact hxl)
    rw [hlm] at q1'
    have hfl := flErr_ok (HFO.out.2 i (by rw [← HN.out]; exact hxl))
    obtain ⟨lm, hlm2⟩ : ∃ lm, (fs[i]?.getD fl0).2.1 = lm := ⟨_, rfl⟩
    rw [hlm2] at q1' hbadx hfl
    obtain ⟨d, hd⟩ : ∃ d, dr xs i = d := ⟨_, rfl⟩
    rw [hd] at hbadx ⊢
    have hl2 := hfl.2.1
    have HBX := Lib.hid hbadx
    have hx3 := blk_keep hx hC.bel
    have g0 := cell_block hx3 0
    have g1 := cell_block hC.t1 0
    have g2 := cell_block hC.t2 0
    have g3 := frozen_block hC.t2 0
    have hi1 : (i : Int) < (n : Int) := by omega
    have hi0 : (0 : Int) ≤ (i : Int) := by omega
    clear hcc hlm hfl hlm2 hd hbadx
    refine wpIn_block ?_
    refine wpIn_seq_k (fun K4 hK4 => ?_)
    refine Calmly.wpIn_region_plain (by kernel_rfl) (by rintro a w (⟨h, _⟩ | ⟨h, _⟩) <;> cases h) ?_
    go_wp2_with fail
    refine (dSized_any d lm _ (by omega) (by omega)).mono ?_
    rintro e w5 ⟨rfl, rfl⟩
    cases hz : szd d lm
    · have hbt : badS fs xs i = true := by rw [HBX.out, hz]; rfl
      have HBT := Lib.hid hbt
      clear hbt hz
      go_wp2_with fail
      gi_wp2
      exact .inr ⟨trivial, KeepsOthers.setCell _ _ _, i, hxl, hC.set i, HBT.out, HBF.out⟩
    · have hbt : badS fs xs i = false := by rw [HBX.out, hz]; rfl
      have HBT := Lib.hid hbt
      clear hbt hz
      go_wp2_with fail
      gi_wp2
      refine .inl ⟨trivial, KeepsOthers.refl _, Keeps.refl _ _, hC, fun y hy => ?_⟩
      rcases List.mem_append.1 hy with h | h
      · exact HP.out y h
      · obtain rfl : y = x := by simpa using h
        rw [HX.out]
        exact HBT.out
  case done =>
    rintro D ys W hD hys ⟨hC, hP⟩ hK
    have hDs : w.heap.size + 1 < D := by omega
    have hall : ∀ i, i < n → badS fs xs i = false := fun i hi => by
      have h5 : i ∈ ys.map (·.val) := by rw [hys]; exact List.mem_range.2 hi
      obtain ⟨y, hy, rfl⟩ := List.mem_map.1 h5
      exact hP y hy
    have hcol : colF (badS fs xs) 0 n = -1 := colF_none (fun i _ hi => hall i (by omega))
    have HC := Lib.hid hcol
    have g2 := cell_block hC.t2 0
    have g3 := frozen_block hC.t2 0
    have HD := Lib.hid hDs
    clear hcol hall hP hys hD hDs hszV hsz
    go_wp2_with fail
    have hC2 := hC.set (-1)
    have hK2 : (W.setCell ⟨w.heap.size + 1, 0, none⟩ (.int .i64 (-1))).heap[D]? = some (.deferred (some [])) := (Below.heap_setCell _ _ _ _ (by show D ≠ w.heap.size + 1; have := HD.out; omega)).trans hK
    have e0 := cell_block ((World.putObj_heap_other (o := .deferred none) (w := W.setCell ⟨w.heap.size + 1, 0, none⟩ (.int .i64 (-1))) (show w.heap.size + 1 ≠ D by have := HD.out; omega)).trans hC2.t2) 0
    refine ⟨by simp, .inl ⟨_, _, rfl, run_takeDeferred hK2, ?_⟩⟩
    exact ⟨.int .i64 (-1), by simp [results, Tryz.results82, go_sem, e0], by rw [HC.out], belowD hC2.bel (by have := HD.out; omega) hK2⟩
  case stop =>
    rintro D ys W hD ⟨j, hj, hC, hbj, hbl⟩ hK
    have hDs : w.heap.size + 1 < D := by omega
    have hcol : colF (badS fs xs) 0 n = (j : Int) := colF_some hbj (by omega) (by omega) (fun i _ hi => hbl i hi)
    have HC := Lib.hid hcol
    have HD := Lib.hid hDs
    clear hcol hD hDs hszV hsz hbj hbl
    gi_wp2
    have e0 := cell_block ((World.putObj_heap_other (o := .deferred none) (w := W) (show w.heap.size + 1 ≠ D by have := HD.out; omega)).trans hC.t2) 0
    refine ⟨by simp, .inl ⟨_, _, rfl, run_takeDeferred hK, ?_⟩⟩
    exact ⟨.int .i64 (j : Int), by simp [results, Tryz.results82, go_sem, e0], by rw [HC.out], belowD hC.bel (by have := HD.out; omega) hK⟩
end Go.Proofs.YtaiikekgckjdeaaGreat
