/- The reference's run. The reference's peaks. Runs are as specified: the law's walk. Printed by gen_m71.py. -/
import Derived.Test.YtaiikekgckjdeaaK25
namespace Go.Proofs.Ytaiikekgckjdeaa
open Go.RowKit
open Calmly (Kept)
/-- An append of a record to a row of the call's own, within a plan with a fact. -/
theorem mixS_appRec (i : Nat) {w0 Wx : World} (t e : TypeId) {z : Value} {k bytes : Nat} {new : List Value} {pl : Calmly.PlanS} {dst : Option Tmp} {s x : Operand} {ty : TypeId} {pos : String} {after : Array Edge} {a : Act} {W0 : World} {S : World → Prop} {ops : Array Oper} {Q : Exit → Act → World → Prop}
    (hW : Wx = w0.alloc (.cells new.toArray e)) (hi : ops[i]? = some ⟨dst, .call { callee := .builtin .append, args := #[s, x], argTypes := #[t, t] }, ty, pos, after, none⟩)
    (ht : Try.prog.underlying t = some (.slice e)) (hinfo : (Try.prog.info? e).map (fun i => (i.zero, i.size, i.bytes)) = some (some z, k, bytes)) (hzs : z.cells.size = k) (hsz : 0 < k) (hbb : bytes ≤ 128)
    {B : Nat} {av : Option Addr} {n c : Nat} {xs : List Value} (hown : w0.ownsRow B e k (.slice av n c) n xs) (hs : a.eval s = .slice av n c) (hx : a.eval x = .slice (some ⟨w0.heap.size, 0, none⟩) 1 1) (hnl : new.length = k) (hone : ∀ u ∈ new, u.oneCell' = true)
    (hb1 : n + 1 ≤ 1099511627776) (hB : B ≤ w0.heap.size)
    (h : ∀ a' c' w', w'.ownsRow B e k (.slice a' (n + 1) c') (n + 1) (xs ++ new) → Below B w0 w' → But e w0 w' → (∀ b, b < w0.heap.size → (∀ g o, av = some ⟨g, o, none⟩ → g ≠ b) → w'.heap[b]? = w0.heap[b]?) → S w' ∧ Calmly.WpMixS Try.prog ops Q W0 S pl (a.put dst (.slice a' (n + 1) c')) w') :
    Calmly.WpMixS Try.prog ops Q W0 S (.eff i pl) a Wx := by
  subst hW
  refine Calmly.mixS_eff hi (fun K hK => ?_)
  obtain ⟨i0, hi0, hz0, hz1, hz2⟩ := info_parts hinfo
  have hb : Below B w0 (w0.alloc (.cells new.toArray e)) := (Below.refl _ _).alloc hB _
  have hmul : (n + 1) * bytes ≤ 140737488355328 := by
    have := Nat.mul_le_mul hb1 hbb
    omega
  obtain ⟨v', w', hrun, r1, r2, _⟩ := run_append_own (P := Try.prog) (w0.alloc (.cells new.toArray e)) B t ty e i0 z k bytes ht hi0 hz0 hz1 hz2 hzs hsz (.slice av n c) n _ (World.ownsRow.alloc hown _) ⟨w0.heap.size, 0, none⟩ 1 1 new (by rw [hnl, Nat.one_mul]) (by simpa using cells_new w0 new.toArray e) hone (by unfold maxLen; omega) hmul (by simp; omega)
  obtain ⟨a', c', rfl⟩ := owns_slice r1
  have hrow : ∀ j, (Value.slice av n c).ownBlock = some j → B ≤ j := fun j hj => (World.ownsRow.lt hown j hj).1
  have hb2 : Below B w0 w' := hb.trans (grown_below r2 (by simp; omega) hrow)
  unfold Oper.wp
  simp [execOp, resolve, invoke, builtin, hs, hx, hrun, Result.andThen]
  have hsame : ∀ b, b < w0.heap.size → (∀ g o, av = some ⟨g, o, none⟩ → g ≠ b) → w'.heap[b]? = w0.heap[b]? := fun b hb hne => by
    rw [r2.block b (by simp; omega) ?_]
    · exact Below.heap_alloc w0 _ b hb
    · intro he
      rcases hown.2 with ⟨h1, _⟩ | ⟨g', cap, cur, h1, _, h3, _⟩
      · cases h1; cases he
      · cases h1
        cases he
        exact hne _ _ rfl rfl
  refine hK _ _ (h a' c' w' r1 hb2 ⟨hb2.size, fun b hb hne => hsame b hb fun g o e hgb => ?_⟩ hsame)
  rcases hown.2 with ⟨h1, _⟩ | ⟨g', cap, cur, h1, _, h3, _⟩
  · cases h1; cases e
  · cases h1
    cases e
    exact hne (hgb ▸ ⟨_, h3⟩)
theorem mixS_ldB {i : Nat} {k : Calmly.PlanS} {P : Program} {ops : Array Oper} {Q : Exit → Act → World → Prop} {w0 : World} {S : World → Prop} {dst : Option Tmp} {t : TypeId} {x : Operand} {ty : TypeId} {pos : String} {after : Array Edge} {a : Act} {w : World} {b : Nat} {o : Obj} {v : Value} (hi : ops[i]? = some ⟨dst, .load t x, ty, pos, after, none⟩) (hc : ∀ u, S u → u.heap[b]? = some o)
    (hl : ∀ u : World, u.heap[b]? = some o → (execOp a.eval ⟨dst, .load t x, ty, pos, after, none⟩).run P u = .ok (.value v) u)
    (h : ∀ K : Act → World → Prop, (∀ a', Calmly.WpMixS P ops Q w0 S k a' w → K a' w) → Oper.wp P ⟨dst, .assign (.const v), ty, pos, after, none⟩ a w K Calmly.NoQ) : Calmly.WpMixS P ops Q w0 S (.ld i k) a w := by
  refine ⟨?_⟩
  simp only [Calmly.wpMixS, hi, Calmly.wanted_none, true_and]
  exact ⟨v, fun u hu => hl u (hc u hu), h (fun a' _ => Calmly.wpMixS P ops Q w0 S k a' w) (fun _ hh => hh.out)⟩
theorem kept_st3M {W w : World} {r : Nat} {x y z u0 u1 u2 : Value} {t : TypeId} {G : Prop} (h : Below W.heap.size W w) (hr : W.heap.size ≤ r) (p : w.heap[r]? = some (.cells #[u0, u1, u2] t))
    (k : Below W.heap.size W (((w.setCell ⟨r, 0, none⟩ x).setCell ⟨r, 1, none⟩ y).setCell ⟨r, 2, none⟩ z) → (∀ b, b ≠ r → (((w.setCell ⟨r, 0, none⟩ x).setCell ⟨r, 1, none⟩ y).setCell ⟨r, 2, none⟩ z).heap[b]? = w.heap[b]?) →
      (((w.setCell ⟨r, 0, none⟩ x).setCell ⟨r, 1, none⟩ y).setCell ⟨r, 2, none⟩ z).heap[r]? = some (.cells #[x, y, z] t) → G) : Kept W (((w.setCell ⟨r, 0, none⟩ x).setCell ⟨r, 1, none⟩ y).setCell ⟨r, 2, none⟩ z) ∧ G := by
  have h1 := ((h.setCell (p := ⟨r, 0, none⟩) hr x).setCell (p := ⟨r, 1, none⟩) hr y).setCell (p := ⟨r, 2, none⟩) hr z
  refine ⟨kept_of h1, k h1 (fun b hb => ?_) ?_⟩
  · rw [Below.heap_setCell _ _ _ _ hb, Below.heap_setCell _ _ _ _ hb, Below.heap_setCell _ _ _ _ hb]
  · have := setBlk (setBlk (setBlk p 0 x) 1 y) 2 z
    simpa using this
theorem But.set3 {W : World} {r : Nat} {x y z : Value} {cs : Array Value} {t : TypeId} (p : W.heap[r]? = some (.cells cs t)) : But t W (((W.setCell ⟨r, 0, none⟩ x).setCell ⟨r, 1, none⟩ y).setCell ⟨r, 2, none⟩ z) :=
  ⟨by simp, fun b _ hn => by
    have hb : b ≠ r := by rintro rfl; exact hn ⟨_, p⟩
    rw [Below.heap_setCell _ _ _ _ hb, Below.heap_setCell _ _ _ _ hb, Below.heap_setCell _ _ _ _ hb]⟩
/-- What all worlds know while the state is appended. -/
structure S9 (w : World) (b : Nat) (o : Obj) (u : World) : Prop where
  kept : Kept w u
  y : u.heap[b]? = some o
theorem S9.keepAnd {w : World} {b : Nat} {o : Obj} {u : World} {G : Prop} (h : S9 w b o u) (g : G) : S9 w b o u ∧ G := ⟨h, g⟩
theorem S9.allocAnd {w : World} {b : Nat} {o o' : Obj} {u : World} {G : Prop} (h : S9 w b o u) (g : S9 w b o (u.alloc o') → G) : S9 w b o (u.alloc o') ∧ G := by
  have h1 : S9 w b o (u.alloc o') := ⟨⟨by have := h.kept.1; simp; omega, fun c hc => by rw [Below.heap_alloc u o' c (by have := h.kept.1; omega)]; exact h.kept.2 c hc⟩, blk_keep h.y ((Below.refl _ _).alloc (Nat.le_refl _) o')⟩
  exact ⟨h1, g h1⟩
/-- A state is put at the end of the row. -/
theorem RnI.app2 {w : World} {N b7 : Nat} {a : Option Addr} {n c : Nat} {fs : List Fl} {oa : Option Addr} {k oc : Nat} {L : List St} {s : St} {wr w9 : World} (h : RnI w N b7 a n c fs oa k oc L s wr) (hwN : w.heap.size < N) (h7N : b7 < N) {x : StR} {s' : St} (hx : StV wr x s') {raw : List StR} (hS : Sts wr N oa (k + 1) oc raw L)
    {a9 : Option Addr} {c9 : Nat} (ho : w9.ownsRow N 97 3 (.slice a9 (k + 1 + 1) c9) (k + 1 + 1) (raw.flatMap encStR ++ [hv x.1, hv x.2.1, hv x.2.2])) (hb : Below N wr w9) (hB : But 97 wr w9) :
    RnI w N b7 a n c fs a9 (k + 1) c9 (L ++ [s']) s w9 := by
  obtain ⟨i1, i2, ⟨x0, i3, i4⟩, i5, _, i7⟩ := h
  refine ⟨i1.trans (hb.mono (by omega)), blk_but i2 hB (by decide), ⟨x0, (hb.block b7 h7N).trans i3, i4.but hB⟩, i5, ⟨raw ++ [x], ?_, by simp [hS.len], fun i hi => ?_⟩, Nat.le_trans i7 hb.size⟩
  · unfold OwStR
    rw [List.flatMap_append]
    exact ho
  · have hl := hS.len
    rcases Nat.lt_or_ge i L.length with hik | hik
    · rw [List.getElem?_append_left (by omega), List.getElem?_append_left hik]
      exact (hS.st i hik).but hB
    · obtain rfl : i = L.length := by simp at hi; omega
      rw [← hl, List.getElem?_append_right (Nat.le_refl _), hl, List.getElem?_append_right (Nat.le_refl _)]
      simpa using hx.but hB
set_option maxRecDepth 100000 in
set_option maxHeartbeats 8000000 in
theorem rRun_any (a ma : Option Addr) (n c mn mc : Nat) (raw : List FlR) (fs : List Fl) (m : List Int) (w : World) (h1 : FrV w a n c raw fs) (h2 : SI w ma mn mc m) (hz : (frmE fs).2 = 0) (hgr : ∀ j, j < mn → -100 ≤ m[j]?.getD 0 ∧ m[j]?.getD 0 ≤ 100) (hmn : mn ≤ 1000) :
    Calls Try.prog 19 #[.agg #[.slice a n c], .slice ma mn mc] w fun e w' => ∃ sa sn sc raw', e = .returned (.tuple #[.slice sa sn sc, .int .i64 (runS fs (bgSt fs) m).2]) ∧ Sts w' w.heap.size sa sn sc raw' (bgSt fs :: (runS fs (bgSt fs) m).1) ∧ Below w.heap.size w w' := by
  have hn := h1.n_
  have m1 := h1.row.max
  have q1 := h1.row.cap
  have m2 := h2.max
  have q2 := h2.cap
  have hml := h2.len
  have HN := Lib.hid hn
  have HM := Lib.hid hml
  have HFO := Lib.hid hz
  have HGR := Lib.hid hgr
  clear hn hml hz hgr
  have y0 := alloc_new w (.cells #[.slice a n c] 24)
  have BW : Below w.heap.size w (w.alloc (.cells #[.slice a n c] 24)) := (Below.refl _ _).alloc (Nat.le_refl _) _
  have f0 := cell_block y0 0
  go_enter Try.func19, Try.ntmps19
  go_wp2_with fail
  generalize w.alloc (.cells #[.slice a n c] 24) = W at *
  refine (rFirst_any a n c raw fs W (h1.keep BW) HFO.out).mono ?_
  rintro e w1 ⟨x, rfl, hSt, hs1⟩
  have B1 := BW.trans (hs1.mono BW.size)
  replace y0 := blk_keep y0 hs1
  have hwb := blk_lt y0
  obtain ⟨⟨a1, n1, c1⟩, ⟨a2, n2, c2⟩, ⟨a3, n3, c3⟩⟩ := x
  dsimp only [hv]
  have y7 := alloc_new w1 (.cells #[.slice a1 n1 c1, .slice a2 n2 c2, .slice a3 n3 c3] 97)
  have BA : Below w1.heap.size w1 (w1.alloc (.cells #[.slice a1 n1 c1, .slice a2 n2 c2, .slice a3 n3 c3] 97)) := (Below.refl _ _).alloc (Nat.le_refl _) _
  have g0 := cell_block y7 0
  have g1 := cell_block y7 1
  have g2 := cell_block y7 2
  clear f0
  go_wp2_with fail
  have hN : (w1.alloc (.cells #[.slice a1 n1 c1, .slice a2 n2 c2, .slice a3 n3 c3] 97)).heap.size = w1.heap.size + 1 := by simp
  have BZ : Below (w1.alloc (.cells #[.slice a1 n1 c1, .slice a2 n2 c2, .slice a3 n3 c3] 97)).heap.size (w1.alloc (.cells #[.slice a1 n1 c1, .slice a2 n2 c2, .slice a3 n3 c3] 97)) ((w1.alloc (.cells #[.slice a1 n1 c1, .slice a2 n2 c2, .slice a3 n3 c3] 97)).alloc (.cells #[.slice a1 n1 c1, .slice a2 n2 c2, .slice a3 n3 c3] 97)) := (Below.refl _ _).alloc (Nat.le_refl _) _
  have hro := one_row (w1.alloc (.cells #[.slice a1 n1 c1, .slice a2 n2 c2, .slice a3 n3 c3] 97)) (Nat.le_refl _) ((a1, n1, c1), (a2, n2, c2), (a3, n3, c3))
  dsimp only [hv] at hro
  have hZ := BZ.size
  rw [hN] at hro hZ
  have hSt5 := (hSt.keep BA).keep BZ
  have hI0 : RnI w (w1.heap.size + 1) w1.heap.size a n c fs (some ⟨w1.heap.size + 1, 0, none⟩) 0 1 [bgSt fs] (bgSt fs) ((w1.alloc (.cells #[.slice a1 n1 c1, .slice a2 n2 c2, .slice a3 n3 c3] 97)).alloc (.cells #[.slice a1 n1 c1, .slice a2 n2 c2, .slice a3 n3 c3] 97)) :=
    ⟨(B1.trans (BA.mono B1.size)).trans (BZ.mono (B1.trans (BA.mono B1.size)).size), blk_keep (blk_keep y0 BA) BZ, ⟨((a1, n1, c1), (a2, n2, c2), (a3, n3, c3)), blk_keep y7 BZ, hSt5⟩, bgSt_ok HFO.out, ⟨_, hro, rfl, fun i hi => by
      obtain rfl : i = 0 := by simpa using hi
      exact hSt5⟩, hZ⟩
  have HI0 := Lib.hid hI0
  clear hI0 hro hSt5 hSt g0 g1 g2 y7 y0 hN hZ
  generalize (w1.alloc (.cells #[.slice a1 n1 c1, .slice a2 n2 c2, .slice a3 n3 c3] 97)).alloc (.cells #[.slice a1 n1 c1, .slice a2 n2 c2, .slice a3 n3 c3] 97) = W5 at *
  obtain ⟨b6, hb6⟩ : ∃ b, w1.heap.size = b := ⟨_, rfl⟩
  rw [hb6] at HI0 hwb ⊢
  have HWB := Lib.hid hwb
  clear BZ BA B1 hb6
  go_loopw [8, 7] (fun i o wr => ∃ k : Nat, k ≤ mn ∧ i = .int .i64 (k : Int) ∧ ∃ oa oc L s, o = .slice oa (k + 1 : Nat) oc ∧ RnI w (b6 + 1) b6 a n c fs oa k oc L s wr ∧ bgSt fs :: (runS fs (bgSt fs) m).1 = L ++ (runS fs s (m.drop k)).1 ∧ (runS fs (bgSt fs) m).2 = (runS fs s (m.drop k)).2) (fun i _ _ => mn - (intOf i).toNat)
  case atStart => exact ⟨0, by omega, rfl, _, _, _, _, rfl, HI0.out, rfl, rfl⟩
  case round =>
    clear HI0
    obtain ⟨k, hk, rfl, oa, oc, L, s, rfl, hI, hL, hs2⟩ := hrel
    have HL := Lib.hid hL
    have HS2 := Lib.hid hs2
    clear hL hs2
    by_cases hlt : k < mn
    · obtain ⟨mb, mo, rfl, hmc⟩ := (h2.keep hI.bel).at_ (by omega)
      have hmk := hmc k hlt
      have hgk := HGR.out k hlt
      obtain ⟨g, hg⟩ : ∃ g, m[k]?.getD 0 = g := ⟨_, rfl⟩
      rw [hg] at hmk hgk
      have hrs : runS fs s (m.drop k) = runS fs s (g :: m.drop (k + 1)) := by rw [← hg]; exact runS_at (by rw [← HM.out]; exact hlt)
      have HRS := Lib.hid hrs
      clear hmc hg hrs
      have hi : (k : Int) < (mn : Int) := by omega
      have hi0 : (0 : Int) ≤ (k : Int) := by omega
      go_wp2_with fail
      refine Calmly.wp_region_mix 12 (.fl 0 <| .fl 1 <| .fl 2 <| .fl 3 <| .fl 4 <| .fl 5 <| .alt 6 (.fl 7 <| .fl 8 <| .fl 9 <| .eff 10 <| .eff 11 <| .tail [12]) (.eff 10 (.eff 6 <| .fl 7 <| .fl 8 <| .fl 9 <| .eff 11 <| .tail [12]))) (by kernel_rfl) (by kernel_rfl) ?_
      have BV : Below wr.heap.size wr wr.drew := (Below.refl _ _).drew
      have hI2 := hI.keep BV
      replace hmk := cell_keep hmk BV
      clear hI BV
      generalize wr.drew = V at *
      have HI := Lib.hid hI2
      obtain ⟨i1, i2, ⟨x, i3, i4⟩, i5, ⟨raw1, i6⟩, i7⟩ := hI2
      obtain ⟨⟨x1, x2, x3⟩, ⟨x4, x5, x6⟩, ⟨x7, x8, x9⟩⟩ := x
      dsimp only [hv] at i3
      have f0 := cell_block i2 0
      have g0 := cell_block i3 0
      have g1 := cell_block i3 1
      have g2 := cell_block i3 2
      have hF := h1.keep i1
      have hW := i4.w
      obtain ⟨C, hC⟩ : ∃ C, colF (badS fs (nxts fs s g)) 0 fs.length = C := ⟨_, rfl⟩
      have HC := Lib.hid hC
      have hkn := hlt
      clear hC i2 i3 i4 i6 hk hlt
      have hk := Below.refl V.heap.size V
      go_wp2_with (first | (go_at_call 63; refine (rStep_any a x1 x4 x7 n c x2 x3 x5 x6 x8 x9 g raw fs s _ (hF.keep hk) (hW.keep hk) i5 hgk).mono ?_; rintro e w5 ⟨⟨⟨p1, p2, p3⟩, ⟨p4, p5, p6⟩, ⟨p7, p8, p9⟩⟩, rfl, hst, hb5⟩; dsimp only [hv]; rw [HC.out] at hst ⊢; (try replace y9 := blk_keep y9 hb5); replace hk := step_of hk hb5; (try have z0 := cell_block y9 0); (try have z1 := cell_block y9 1); (try have z2 := cell_block y9 2); (try have z3 := frozen_block y9 0); (try have z4 := frozen_block y9 1); (try have z5 := frozen_block y9 2); clear hb5) | (refine kept_allocR hk (fun hb hk2 y9 hge9 => ?_); (try replace hst := fun h => (hst h).keep hb); replace hk := hk2; clear hb hk2; generalize World.alloc _ (.cells #[.slice none 0 0, .slice none 0 0, .slice none 0 0] 97) = W' at *; have z0 := cell_block y9 0; have z1 := cell_block y9 1; have z2 := cell_block y9 2; have z3 := frozen_block y9 0; have z4 := frozen_block y9 1; have z5 := frozen_block y9 2) | ((with_reducible refine kept_st3M hk hge9 y9 (fun hk' ho hn9 => ?_)); have hst9 := fun h => (hst h).but (But.set3 (x := .slice p1 p2 p3) (y := .slice p4 p5 p6) (z := .slice p7 p8 p9) y9); replace hk := hk'; clear hk' ho y9; generalize World.setCell (World.setCell (World.setCell _ _ _) _ _) _ _ = W'' at *) | ((with_reducible refine Calmly.is_fl ?_); refine Calmly.mix_fl rfl ?_ (fun _ _ => ?_); (first | exact .move _ | exact .load _ _ | exact .fieldAddr _ _ _ (by kernel_rfl) | exact .assign _ | exact .binOp _ _ _ _ _ rfl | exact .indexAddr _ _ _ | exact .len _ _ (by kernel_rfl) | exact .field _ _ _ | exact .extract _ _ | exact .pick _ _ _ | exact .build _ _ | exact .slice _ _ _ _ _ | exact .unOp _ _ _ rfl | exact .index _ _ _ | exact .max _ _ _ rfl rfl | exact .min _ _ _ rfl rfl | exact .nilCheck _ _ rfl)) | ((with_reducible refine Calmly.is_gl ?_); refine Calmly.mix_gl rfl rfl rfl ?_; first | ((first | with_reducible refine Calmly.gl_tt ?_ (fun _ _ => ?_) | with_reducible refine Calmly.gl_ff ?_ (fun _ _ => ?_)); (first | exact .move _ | exact .load _ _ | exact .fieldAddr _ _ _ (by kernel_rfl) | exact .assign _ | exact .binOp _ _ _ _ _ rfl | exact .indexAddr _ _ _ | exact .len _ _ (by kernel_rfl) | exact .field _ _ _ | exact .extract _ _ | exact .pick _ _ _ | exact .build _ _ | exact .slice _ _ _ _ _ | exact .unOp _ _ _ rfl | exact .index _ _ _ | exact .max _ _ _ rfl rfl | exact .min _ _ _ rfl rfl | exact .nilCheck _ _ rfl)) | with_reducible refine Calmly.gl_tf (fun _ _ => ?_) | with_reducible refine Calmly.gl_ft (fun _ _ => ?_)) | ((with_reducible refine Calmly.is_eff ?_); refine Calmly.mix_eff rfl (fun _ _ => ?_)) | ((with_reducible refine Calmly.is_gf ?_); refine Calmly.mix_gf rfl rfl rfl ?_; first | with_reducible refine Calmly.gf_tt (fun _ _ => ?_) | with_reducible refine Calmly.gf_ff (fun _ _ => ?_) | with_reducible refine Calmly.gf_tf (kept_of hk) (fun _ _ => ?_) | with_reducible refine Calmly.gf_ft (kept_of hk) (fun _ _ => ?_)) | ((with_reducible refine Calmly.is_tail ?_); first | refine Calmly.mix_tail_nil ?_ | refine Calmly.mix_tail rfl (fun _ _ => ?_)) | ((with_reducible refine Calmly.is_kept ?_); refine ⟨kept_of hk, ?_⟩) | (with_reducible refine Calmly.mix_alt ?_ ?_))
      · as_aux_lemma =>
          rename_i hC0
          have hI9 := HI.out.keep hk
          obtain ⟨raw9, hS9⟩ := hI9.out
          have hrun : runS fs s (m.drop k) = ([], C) := by rw [HRS.out, runS, if_neg (by rw [HC.out]; omega), HC.out]
          have hL := HL.out
          have hs2 := HS2.out
          rw [hrun, List.append_nil] at hL
          rw [hrun] at hs2
          rw [hL, hs2]
          exact bodyPost_ret (v := .tuple #[.slice oa (k + 1) oc, .int .i64 C]) (by simp [results, Try.results19, go_sem]) rfl ⟨oa, k + 1, oc, raw9, rfl, hS9.lower (B' := w.heap.size) (by omega), hI9.bel⟩
      · as_aux_lemma =>
          rename_i hC0
          have hI9 := (HI.out.keep hk).keep ((Below.refl _ _).drew)
          have hn := blk_keep hn9 ((Below.refl _ _).drew)
          have hsv := (hst9 hC0).keep ((Below.refl _ _).drew)
          have hcl : colF (badS fs (nxts fs s g)) 0 fs.length < 0 := by rw [HC.out]; exact hC0
          have hS : S9 w w5.heap.size (.cells #[.slice p1 p2 p3, .slice p4 p5 p6, .slice p7 p8 p9] 97) W''.drew := ⟨⟨hI9.bel.size, hI9.bel.block⟩, hn⟩
          refine Calmly.wp_region_mixS w (S9 w w5.heap.size (.cells #[.slice p1 p2 p3, .slice p4 p5 p6, .slice p7 p8 p9] 97)) (fun _ h => h.kept) hS 6 (.fl 0 <| .ld 1 <| .ld 4 <| .eff 2 <| .eff 3 <| .fl 5 <| .tail [6]) (by kernel_rfl) (by kernel_rfl) ?_
          have hro : ∀ g o, oa = some ⟨g, o, none⟩ → g ≠ w5.heap.size := by
            obtain ⟨raw8, hS8⟩ := HI.out.out
            intro g o e
            have h5 : g < V.heap.size := by
              have h6 := hS8.row
              rcases h6.2 with ⟨h1, _⟩ | ⟨g', cap, cur, h1, _, h3, _⟩
              · cases h1
              · cases h1
                cases e
                exact blk_lt h3
            omega
          generalize W''.drew = Y at *
          have ca : ∀ u, S9 w w5.heap.size (.cells #[.slice p1 p2 p3, .slice p4 p5 p6, .slice p7 p8 p9] 97) u → u.heap[w5.heap.size]? = some (.cells #[.slice p1 p2 p3, .slice p4 p5 p6, .slice p7 p8 p9] 97) := fun u h => h.y
          have HI9 := Lib.hid hI9
          obtain ⟨-, -, ⟨x0, i3, -⟩, -, ⟨raw9, hS9⟩, i7⟩ := hI9
          have hrow := hS9.row
          have HS9 := Lib.hid hS9
          have HROW := Lib.hid hrow
          have HCA := Lib.hid ca
          have HSV := Lib.hid hsv
          have HCL := Lib.hid hcl
          have HRO := Lib.hid hro
          have hmh := hS9.row.sr.max
          have hmc := hS9.row.sr.cap
          have hYb := blk_lt hn
          clear hS9 hrow ca hsv hcl hro hst9 hst HI hn9 z0 z1 z2 z3 z4 z5 hF hW g0 g1 g2 f0
          go_wp2_with (first | (refine mixS_appRec 3 (w0 := Y) (B := b6 + 1) 28 97 (z := .agg #[.slice none 0 0, .slice none 0 0, .slice none 0 0]) (k := 3) (bytes := 72) (new := [.slice p1 p2 p3, .slice p4 p5 p6, .slice p7 p8 p9]) rfl rfl Try.underlying28 Try.info_str rfl (by decide) (by decide) HROW.out rfl rfl rfl (oneCell_StR ((p1, p2, p3), (p4, p5, p6), (p7, p8, p9))) (by omega) i7 (fun a9 c9 w9 ho9 hb9 hB9' hsm9 => ?_); have hS10 : S9 w w5.heap.size (.cells #[.slice p1 p2 p3, .slice p4 p5 p6, .slice p7 p8 p9] 97) w9 := ⟨kept_of (HI9.out.bel.trans (hb9.mono (by omega))), (hsm9 _ hYb HRO.out).trans hn⟩; refine S9.keepAnd hS10 ?_; have k6 := (hb9.block b6 (by omega)).trans i3; have k60 := cell_block k6 0; have k61 := cell_block k6 1; have k62 := cell_block k6 2; have k63 := frozen_block k6 0; have k64 := frozen_block k6 1; have k65 := frozen_block k6 2) | ((with_reducible refine Calmly.isS_ld ?_); refine mixS_ldB (b := w5.heap.size) (o := .cells #[.slice p1 p2 p3, .slice p4 p5 p6, .slice p7 p8 p9] 97) (v := .agg #[.slice p1 p2 p3, .slice p4 p5 p6, .slice p7 p8 p9]) rfl HCA.out ?_ (fun _ _ => ?_); focus (intro u hu; have c0 := cell_block hu 0; have c1 := cell_block hu 1; have c2 := cell_block hu 2; simp [execOp, go_sem, c0, c1, c2]; done)) | ((with_reducible refine Calmly.isS_fl ?_); refine Calmly.mixS_fl rfl ?_ (fun _ _ => ?_); (first | exact .move _ | exact .load _ _ | exact .fieldAddr _ _ _ (by kernel_rfl) | exact .assign _ | exact .binOp _ _ _ _ _ rfl | exact .indexAddr _ _ _ | exact .len _ _ (by kernel_rfl) | exact .field _ _ _ | exact .extract _ _ | exact .pick _ _ _ | exact .build _ _ | exact .slice _ _ _ _ _ | exact .unOp _ _ _ rfl | exact .index _ _ _ | exact .max _ _ _ rfl rfl | exact .min _ _ _ rfl rfl | exact .nilCheck _ _ rfl)) | ((with_reducible refine Calmly.isS_eff ?_); refine Calmly.mixS_eff rfl (fun _ _ => ?_)) | ((with_reducible refine Calmly.isS_tail ?_); first | refine Calmly.mixS_tail_nil ?_ | refine Calmly.mixS_tail rfl (fun _ _ => ?_)) | ((with_reducible refine S9.allocAnd hS ?_); intro hS2))
          go_roundw
          case rel =>
            have hI10 := HI9.out.app2 (by omega) (by omega) (x := ((p1, p2, p3), (p4, p5, p6), (p7, p8, p9))) HSV.out HS9.out ho9 hb9 hB9'
            have hI11 := (hI10.store hwb (by omega) (x := ((p1, p2, p3), (p4, p5, p6), (p7, p8, p9))) (HSV.out.but hB9') (steS_ok i5 HCL.out)).1
            have hL := HL.out
            have hs2 := HS2.out
            rw [HRS.out, runS, if_pos HCL.out] at hL hs2
            exact ⟨k + 1, by omega, by go_num, a9, c9, _, _, rfl, hI11, by rw [hL]; simp, hs2⟩
          case measure => simp [intOf]; omega
      · as_aux_lemma =>
          rename_i hC0
          have hI9 := HI.out.keep hk
          obtain ⟨raw9, hS9⟩ := hI9.out
          have hrun : runS fs s (m.drop k) = ([], C) := by rw [HRS.out, runS, if_neg (by rw [HC.out]; omega), HC.out]
          have hL := HL.out
          have hs2 := HS2.out
          rw [hrun, List.append_nil] at hL
          rw [hrun] at hs2
          rw [hL, hs2]
          exact bodyPost_ret (v := .tuple #[.slice oa (k + 1) oc, .int .i64 C]) (by simp [results, Try.results19, go_sem]) rfl ⟨oa, k + 1, oc, raw9, rfl, hS9.lower (B' := w.heap.size) (by omega), hI9.bel⟩
      · as_aux_lemma =>
          rename_i hC0
          have hI9 := (HI.out.keep hk).keep ((Below.refl _ _).drew)
          have hn := blk_keep hn9 ((Below.refl _ _).drew)
          have hsv := (hst9 hC0).keep ((Below.refl _ _).drew)
          have hcl : colF (badS fs (nxts fs s g)) 0 fs.length < 0 := by rw [HC.out]; exact hC0
          have hS : S9 w V.heap.size (.cells #[.slice p1 p2 p3, .slice p4 p5 p6, .slice p7 p8 p9] 97) W''.drew := ⟨⟨hI9.bel.size, hI9.bel.block⟩, hn⟩
          refine Calmly.wp_region_mixS w (S9 w V.heap.size (.cells #[.slice p1 p2 p3, .slice p4 p5 p6, .slice p7 p8 p9] 97)) (fun _ h => h.kept) hS 6 (.fl 0 <| .ld 1 <| .ld 4 <| .eff 2 <| .eff 3 <| .fl 5 <| .tail [6]) (by kernel_rfl) (by kernel_rfl) ?_
          have hro : ∀ g o, oa = some ⟨g, o, none⟩ → g ≠ V.heap.size := by
            obtain ⟨raw8, hS8⟩ := HI.out.out
            intro g o e
            have h5 : g < V.heap.size := by
              have h6 := hS8.row
              rcases h6.2 with ⟨h1, _⟩ | ⟨g', cap, cur, h1, _, h3, _⟩
              · cases h1
              · cases h1
                cases e
                exact blk_lt h3
            omega
          generalize W''.drew = Y at *
          have ca : ∀ u, S9 w V.heap.size (.cells #[.slice p1 p2 p3, .slice p4 p5 p6, .slice p7 p8 p9] 97) u → u.heap[V.heap.size]? = some (.cells #[.slice p1 p2 p3, .slice p4 p5 p6, .slice p7 p8 p9] 97) := fun u h => h.y
          have HI9 := Lib.hid hI9
          obtain ⟨-, -, ⟨x0, i3, -⟩, -, ⟨raw9, hS9⟩, i7⟩ := hI9
          have hrow := hS9.row
          have HS9 := Lib.hid hS9
          have HROW := Lib.hid hrow
          have HCA := Lib.hid ca
          have HSV := Lib.hid hsv
          have HCL := Lib.hid hcl
          have HRO := Lib.hid hro
          have hmh := hS9.row.sr.max
          have hmc := hS9.row.sr.cap
          have hYb := blk_lt hn
          clear hS9 hrow ca hsv hcl hro hst9 hst HI hn9 z0 z1 z2 z3 z4 z5 hF hW g0 g1 g2 f0
          go_wp2_with (first | (refine mixS_appRec 3 (w0 := Y) (B := b6 + 1) 28 97 (z := .agg #[.slice none 0 0, .slice none 0 0, .slice none 0 0]) (k := 3) (bytes := 72) (new := [.slice p1 p2 p3, .slice p4 p5 p6, .slice p7 p8 p9]) rfl rfl Try.underlying28 Try.info_str rfl (by decide) (by decide) HROW.out rfl rfl rfl (oneCell_StR ((p1, p2, p3), (p4, p5, p6), (p7, p8, p9))) (by omega) i7 (fun a9 c9 w9 ho9 hb9 hB9' hsm9 => ?_); have hS10 : S9 w V.heap.size (.cells #[.slice p1 p2 p3, .slice p4 p5 p6, .slice p7 p8 p9] 97) w9 := ⟨kept_of (HI9.out.bel.trans (hb9.mono (by omega))), (hsm9 _ hYb HRO.out).trans hn⟩; refine S9.keepAnd hS10 ?_; have k6 := (hb9.block b6 (by omega)).trans i3; have k60 := cell_block k6 0; have k61 := cell_block k6 1; have k62 := cell_block k6 2; have k63 := frozen_block k6 0; have k64 := frozen_block k6 1; have k65 := frozen_block k6 2) | ((with_reducible refine Calmly.isS_ld ?_); refine mixS_ldB (b := V.heap.size) (o := .cells #[.slice p1 p2 p3, .slice p4 p5 p6, .slice p7 p8 p9] 97) (v := .agg #[.slice p1 p2 p3, .slice p4 p5 p6, .slice p7 p8 p9]) rfl HCA.out ?_ (fun _ _ => ?_); focus (intro u hu; have c0 := cell_block hu 0; have c1 := cell_block hu 1; have c2 := cell_block hu 2; simp [execOp, go_sem, c0, c1, c2]; done)) | ((with_reducible refine Calmly.isS_fl ?_); refine Calmly.mixS_fl rfl ?_ (fun _ _ => ?_); (first | exact .move _ | exact .load _ _ | exact .fieldAddr _ _ _ (by kernel_rfl) | exact .assign _ | exact .binOp _ _ _ _ _ rfl | exact .indexAddr _ _ _ | exact .len _ _ (by kernel_rfl) | exact .field _ _ _ | exact .extract _ _ | exact .pick _ _ _ | exact .build _ _ | exact .slice _ _ _ _ _ | exact .unOp _ _ _ rfl | exact .index _ _ _ | exact .max _ _ _ rfl rfl | exact .min _ _ _ rfl rfl | exact .nilCheck _ _ rfl)) | ((with_reducible refine Calmly.isS_eff ?_); refine Calmly.mixS_eff rfl (fun _ _ => ?_)) | ((with_reducible refine Calmly.isS_tail ?_); first | refine Calmly.mixS_tail_nil ?_ | refine Calmly.mixS_tail rfl (fun _ _ => ?_)) | ((with_reducible refine S9.allocAnd hS ?_); intro hS2))
          go_roundw
          case rel =>
            have hI10 := HI9.out.app2 (by omega) (by omega) (x := ((p1, p2, p3), (p4, p5, p6), (p7, p8, p9))) HSV.out HS9.out ho9 hb9 hB9'
            have hI11 := (hI10.store hwb (by omega) (x := ((p1, p2, p3), (p4, p5, p6), (p7, p8, p9))) (HSV.out.but hB9') (steS_ok i5 HCL.out)).1
            have hL := HL.out
            have hs2 := HS2.out
            rw [HRS.out, runS, if_pos HCL.out] at hL hs2
            exact ⟨k + 1, by omega, by go_num, a9, c9, _, _, rfl, hI11, by rw [hL]; simp, hs2⟩
          case measure => simp [intOf]; omega
    · have hle : (mn : Int) ≤ (k : Int) := by omega
      have hrun : runS fs s (m.drop k) = ([], -1) := by
        rw [List.drop_eq_nil_of_le (by rw [← HM.out]; omega), runS]
      have hL := HL.out
      have hs2 := HS2.out
      rw [hrun, List.append_nil] at hL
      rw [hrun] at hs2
      obtain ⟨raw9, hS9⟩ := hI.out
      have hIb := hI.bel
      have HL2 := Lib.hid hL
      have HS3 := Lib.hid hs2
      clear hrun hI hL hs2 HL HS2
      go_wp2_with fail
      exact bodyPost_ret (v := .tuple #[.slice oa (k + 1) oc, .int .i64 (-1)]) (by simp [results, Try.results19, go_sem]) rfl ⟨oa, k + 1, oc, by rw [HS3.out], ⟨raw9, by rw [HL2.out]; exact hS9.lower (B' := w.heap.size) (by have := HWB.out; omega)⟩, hIb⟩
end Go.Proofs.Ytaiikekgckjdeaa

namespace Go.Proofs.Ytaiikekgckjdeaa
open Go.RowKit
open Calmly (Kept)
theorem pk1_nat (d o : Int) : pk1 d o = if (o.natAbs : Int) < (d.natAbs : Int) then d else o := by
  unfold pk1
  by_cases h : max o (-o) < max d (-d)
  · rw [if_pos h, if_pos (by omega)]
  · rw [if_neg h, if_neg (by omega)]
theorem pkR_at (xs o : List Int) (i : Nat) : (pkR xs o i)[i]?.getD 0 = o[i]?.getD 0 := by
  rcases Nat.lt_or_ge i o.length with h | h
  · simp [pkR, h]
  · rw [List.getElem?_eq_none (by rw [pkR_len]; exact h), List.getElem?_eq_none h]
theorem pk_bd {d o M : Int} (h1 : -M ≤ d ∧ d ≤ M) (h2 : -M ≤ o ∧ o ≤ M) : -M ≤ pk1 d o ∧ pk1 d o ≤ M := by
  unfold pk1
  split
  · exact h1
  · exact h2
theorem pkR_bdM {xs o : List Int} {i : Nat} {M : Int} (h1 : ∀ j, -M ≤ dr xs j ∧ dr xs j ≤ M) (h2 : ∀ j : Nat, -M ≤ o[j]?.getD 0 ∧ o[j]?.getD 0 ≤ M) : ∀ j : Nat, -M ≤ (pkR xs o i)[j]?.getD 0 ∧ (pkR xs o i)[j]?.getD 0 ≤ M := by
  intro j
  rcases Nat.lt_or_ge j o.length with h | h
  · have e : (pkR xs o i)[j]?.getD 0 = if j < i then pk1 (dr xs j) (o[j]?.getD 0) else o[j]?.getD 0 := by simp [pkR, h]
    rw [e]
    split
    · exact pk_bd (h1 j) (h2 j)
    · exact h2 j
  · have h3 := h2 j
    rw [List.getElem?_eq_none h] at h3
    rw [List.getElem?_eq_none (by rw [pkR_len]; exact h)]
    exact h3
theorem dr_bdM {xs : List Int} {M : Int} (h : ∀ j : Nat, -M ≤ xs[j]?.getD 0 ∧ xs[j]?.getD 0 ≤ M) : ∀ j, -(2 * M) ≤ dr xs j ∧ dr xs j ≤ 2 * M := by
  intro j
  have h1 := h j
  cases j with
  | zero => simp only [dr, bel, if_pos]; omega
  | succ j =>
    have h2 := h j
    rw [dr, bel_succ]
    omega
/-- What lies between two rounds. -/
structure RpI (w : World) (g n : Nat) (o : List Int) (wr : World) : Prop where
  bel : Below w.heap.size w wr
  out : OwI wr w.heap.size (some ⟨g, 0, none⟩) n n o
theorem RpI.keep {w : World} {g n : Nat} {o : List Int} {wr w' : World} (h : RpI w g n o wr) (hb : Below wr.heap.size wr w') : RpI w g n o w' :=
  ⟨h.bel.trans (hb.mono h.bel.size), owns_keep h.out hb⟩
set_option maxRecDepth 100000 in
set_option maxHeartbeats 4000000 in
theorem rPeaks_any (a sa : Option Addr) (n c sn sc : Nat) (raw : List FlR) (fs : List Fl) (raw' : List StR) (ss : List St) (w : World) (h1 : FrV w a n c raw fs) (h2 : StsV w sa sn sc raw' ss) (hn : n ≤ 1000)
    (hl : ∀ i, i < ss.length → (ss[i]?.getD st0').1.length = n) (hb : ∀ i (j : Nat), i < ss.length → -1000000000000 ≤ (ss[i]?.getD st0').1[j]?.getD 0 ∧ (ss[i]?.getD st0').1[j]?.getD 0 ≤ 1000000000000) :
    Calls Try.prog 22 #[.agg #[.slice a n c], .slice sa sn sc] w fun e w' => ∃ oa, e = .returned (.slice oa n n) ∧ OwI w' w.heap.size oa n n (pkS (List.replicate n 0) ss) ∧ Below w.heap.size w w' := by
  have m1 := h1.row.max
  have q1 := h1.row.cap
  have m2 := h2.row.max
  have q2 := h2.row.cap
  have hls : sn = ss.length := by rw [h2.row.len, h2.len]
  have HLS := Lib.hid hls
  have HL := Lib.hid hl
  have HB := Lib.hid hb
  clear hls hl hb
  obtain ⟨R, hR⟩ : ∃ R, pkS (List.replicate n 0) ss = R := ⟨_, rfl⟩
  rw [hR]
  have HR := Lib.hid hR
  clear hR
  have y0 := alloc_new w (.cells #[.slice a n c] 24)
  have BW : Below w.heap.size w (w.alloc (.cells #[.slice a n c] 24)) := (Below.refl _ _).alloc (Nat.le_refl _) _
  have f0 := cell_block y0 0
  go_enter Try.func22, Try.ntmps22
  go_wp2_with (first | ((with_reducible refine makeI1 (n := n) ?g1 (.tmp 11) (.tmp 11) ?g2 ?g3 ?g4 rfl ?g5 ?g6); (case g2 => exact rfl); (case g1 => exact rfl); (case g3 => exact rfl); (case g4 => exact rfl); (case g5 => omega); intro w1 ho1 hb1))
  replace BW := BW.trans (hb1.mono BW.size)
  obtain ⟨g, hg⟩ : ∃ g, w.heap.size + 1 = g := ⟨_, rfl⟩
  have hgw : w.heap.size ≤ g := by omega
  simp only [World.size_alloc] at ho1
  rw [hg] at ho1 ⊢
  have hI0 : RpI w g n (List.replicate n 0) w1 := ⟨BW, owns_lower ho1 hgw⟩
  clear hb1 ho1 y0 f0 hg
  go_loopw [6] (fun i wr => ∃ (k : Nat) (o : List Int), k ≤ sn ∧ i = .int .i64 (k : Int) ∧ pkS o (ss.drop k) = R ∧ o.length = n ∧ (∀ j : Nat, -2000000000000 ≤ o[j]?.getD 0 ∧ o[j]?.getD 0 ≤ 2000000000000) ∧ RpI w g n o wr) (fun i _ => sn - (intOf i).toNat)
  case atStart => exact ⟨0, _, by omega, rfl, HR.out, by simp, fun j => by simp only [List.getElem?_replicate]; split <;> simp, hI0⟩
  case round =>
    clear hI0 BW
    obtain ⟨k, o, hk, rfl, ht, hol, hob, hI⟩ := hrel
    have HT := Lib.hid ht
    have HOL := Lib.hid hol
    have HOB := Lib.hid hob
    clear ht hol hob
    by_cases hlt : k < sn
    · have hi : (k : Int) < (sn : Int) := by omega
      have hi0 : (0 : Int) ≤ (k : Int) := by omega
      obtain ⟨X, hX⟩ : ∃ X, (ss[k]?.getD st0').1 = X := ⟨_, rfl⟩
      have hXl := HL.out k (by have := HLS.out; omega)
      have hXb := fun j => HB.out k j (by have := HLS.out; omega)
      rw [hX] at hXl hXb
      have hDb := dr_bdM hXb
      have hTn : pkS (pkR X o n) (ss.drop (k + 1)) = R := by
        have h5 := HT.out
        rw [List.drop_eq_getElem_cons (by have := HLS.out; omega), pkS, HOL.out] at h5
        have h6 : ss[k]'(by have := HLS.out; omega) = ss[k]?.getD st0' := by
          rw [List.getElem?_eq_getElem (by have := HLS.out; omega)]
          rfl
        rw [h6, hX] at h5
        exact h5
      have HXX := Lib.hid hX
      have HXL := Lib.hid hXl
      have HXB := Lib.hid hXb
      have HDB := Lib.hid hDb
      have HTN := Lib.hid hTn
      clear hX hXl hXb hDb hTn
      go_wp2_with fail
      go_loopw [7] (fun i wr => ∃ j : Nat, j ≤ n ∧ i = .int .i64 (j : Int) ∧ RpI w g n (pkR X o j) wr) (fun i _ => n - (intOf i).toNat)
      case atStart => exact ⟨0, by omega, rfl, by rw [pkR_zero]; exact hI⟩
      case round =>
        clear hI
        obtain ⟨j, hj, rfl, hI⟩ := hrel
        by_cases hjt : j < n
        · have hj1 : (j : Int) < (n : Int) := by omega
          have hj0 : (0 : Int) ≤ (j : Int) := by omega
          have hV := h2.keep hI.bel
          obtain ⟨sb, so, rfl, hcs⟩ := hV.row.at_ (by omega)
          obtain ⟨p0, p1, p2⟩ := hcs k hlt
          have hst := (hV.st k (by have := HLS.out; omega)).now
          rw [HXX.out] at hst
          obtain ⟨xx, hxx⟩ : ∃ x, raw'[k]?.getD str0 = x := ⟨_, rfl⟩
          obtain ⟨⟨x1, x2, x3⟩, ⟨x4, x5, x6⟩, ⟨x7, x8, x9⟩⟩ := xx
          rw [hxx] at p0 p1 p2 hst
          dsimp only [hv] at p0 p1 p2 hst
          have hx2 : x2 = n := by rw [hst.len, HXL.out]
          subst hx2
          clear hcs hxx hV
          have hpc := hI.out.cell j hjt
          have hpf := hI.out.free j
          rw [pkR_at] at hpc
          obtain ⟨O, hO⟩ : ∃ O, o[j]?.getD 0 = O := ⟨_, rfl⟩
          obtain ⟨D, hD⟩ : ∃ D, dr X j = D := ⟨_, rfl⟩
          have hOb := HOB.out j
          have hDb := HDB.out j
          rw [hO] at hOb hpc
          rw [hD] at hDb
          have hset : pkR X o (j + 1) = (pkR X o j).set j (pk1 D O) := by rw [← hD, ← hO]; exact pkR_set (by rw [HOL.out]; exact hjt)
          rw [pk1_nat] at hset
          obtain ⟨N1, hN1⟩ : ∃ N : Int, (D.natAbs : Int) = N := ⟨_, rfl⟩
          obtain ⟨N2, hN2⟩ : ∃ N : Int, (O.natAbs : Int) = N := ⟨_, rfl⟩
          rw [hN1, hN2] at hset
          have hW1 : ∀ w, Calls Try.prog 92 #[.int .i64 D] w fun e w' => e = .returned (.int .i64 N1) ∧ w = w' := fun w => by
            have h := size_any D w (by omega) (by omega)
            rw [hN1] at h
            exact h
          have hW2 : ∀ w, Calls Try.prog 92 #[.int .i64 O] w fun e w' => e = .returned (.int .i64 N2) ∧ w = w' := fun w => by
            have h := size_any O w (by omega) (by omega)
            rw [hN2] at h
            exact h
          have HW1 := Lib.hid hW1
          have HW2 := Lib.hid hW2
          have HSET := Lib.hid hset
          have HO := Lib.hid hO
          have HD := Lib.hid hD
          clear hO hOb hDb hset hN1 hN2 hW1 hW2 hD
          go_wp2_with fail
          refine (rDrift_any x1 x2 x3 j X _ hst hjt HXB.out).mono ?_
          rintro e w5 ⟨rfl, hb5⟩
          rw [HD.out]
          replace hpc := cell_keep hpc hb5
          have hI5 := hI.keep hb5
          clear p0 p1 p2 hst hI hpf hb5
          go_wp2_with fail
          refine Calmly.wp_region_mix 7 (.fl 0 <| .fl 2 <| .fl 3 <| .fl 4 <| .fl 5 <| .eff 1 <| .eff 6 <| .tail [7]) (by kernel_rfl) (by kernel_rfl) ?_
          have hI6 := hI5.keep ((Below.refl _ _).drew)
          replace hpc := cell_keep hpc ((Below.refl _ _).drew)
          clear hI5
          generalize w5.drew = V at *
          have hpf := hI6.out.free j
          have HI6 := Lib.hid hI6
          clear hI6
          have hk := Below.refl V.heap.size V
          go_wp2_with (first | ((with_reducible refine Calmly.is_fl ?_); refine Calmly.mix_fl rfl ?_ (fun _ _ => ?_); (first | exact .move _ | exact .load _ _ | exact .fieldAddr _ _ _ (by kernel_rfl) | exact .assign _ | exact .binOp _ _ _ _ _ rfl | exact .indexAddr _ _ _ | exact .len _ _ (by kernel_rfl) | exact .field _ _ _ | exact .extract _ _ | exact .pick _ _ _ | exact .build _ _ | exact .slice _ _ _ _ _ | exact .unOp _ _ _ rfl | exact .index _ _ _ | exact .max _ _ _ rfl rfl | exact .min _ _ _ rfl rfl | exact .nilCheck _ _ rfl)) | ((with_reducible refine Calmly.is_gl ?_); refine Calmly.mix_gl rfl rfl rfl ?_; first | ((first | with_reducible refine Calmly.gl_tt ?_ (fun _ _ => ?_) | with_reducible refine Calmly.gl_ff ?_ (fun _ _ => ?_)); (first | exact .move _ | exact .load _ _ | exact .fieldAddr _ _ _ (by kernel_rfl) | exact .assign _ | exact .binOp _ _ _ _ _ rfl | exact .indexAddr _ _ _ | exact .len _ _ (by kernel_rfl) | exact .field _ _ _ | exact .extract _ _ | exact .pick _ _ _ | exact .build _ _ | exact .slice _ _ _ _ _ | exact .unOp _ _ _ rfl | exact .index _ _ _ | exact .max _ _ _ rfl rfl | exact .min _ _ _ rfl rfl | exact .nilCheck _ _ rfl)) | with_reducible refine Calmly.gl_tf (fun _ _ => ?_) | with_reducible refine Calmly.gl_ft (fun _ _ => ?_)) | ((with_reducible refine Calmly.is_eff ?_); refine Calmly.mix_eff rfl (fun _ _ => ?_)) | ((with_reducible refine Calmly.is_gf ?_); refine Calmly.mix_gf rfl rfl rfl ?_; first | with_reducible refine Calmly.gf_tt (fun _ _ => ?_) | with_reducible refine Calmly.gf_ff (fun _ _ => ?_) | with_reducible refine Calmly.gf_tf (kept_of hk) (fun _ _ => ?_) | with_reducible refine Calmly.gf_ft (kept_of hk) (fun _ _ => ?_)) | ((with_reducible refine Calmly.is_tail ?_); first | refine Calmly.mix_tail_nil ?_ | refine Calmly.mix_tail rfl (fun _ _ => ?_)) | ((with_reducible refine Calmly.is_kept ?_); refine ⟨kept_of hk, ?_⟩) | (with_reducible refine Calmly.mix_alt ?_ ?_))
          refine (HW1.out _).mono ?_
          rintro e w6 ⟨rfl, rfl⟩
          go_wp2_with (first | ((with_reducible refine Calmly.is_fl ?_); refine Calmly.mix_fl rfl ?_ (fun _ _ => ?_); (first | exact .move _ | exact .load _ _ | exact .fieldAddr _ _ _ (by kernel_rfl) | exact .assign _ | exact .binOp _ _ _ _ _ rfl | exact .indexAddr _ _ _ | exact .len _ _ (by kernel_rfl) | exact .field _ _ _ | exact .extract _ _ | exact .pick _ _ _ | exact .build _ _ | exact .slice _ _ _ _ _ | exact .unOp _ _ _ rfl | exact .index _ _ _ | exact .max _ _ _ rfl rfl | exact .min _ _ _ rfl rfl | exact .nilCheck _ _ rfl)) | ((with_reducible refine Calmly.is_gl ?_); refine Calmly.mix_gl rfl rfl rfl ?_; first | ((first | with_reducible refine Calmly.gl_tt ?_ (fun _ _ => ?_) | with_reducible refine Calmly.gl_ff ?_ (fun _ _ => ?_)); (first | exact .move _ | exact .load _ _ | exact .fieldAddr _ _ _ (by kernel_rfl) | exact .assign _ | exact .binOp _ _ _ _ _ rfl | exact .indexAddr _ _ _ | exact .len _ _ (by kernel_rfl) | exact .field _ _ _ | exact .extract _ _ | exact .pick _ _ _ | exact .build _ _ | exact .slice _ _ _ _ _ | exact .unOp _ _ _ rfl | exact .index _ _ _ | exact .max _ _ _ rfl rfl | exact .min _ _ _ rfl rfl | exact .nilCheck _ _ rfl)) | with_reducible refine Calmly.gl_tf (fun _ _ => ?_) | with_reducible refine Calmly.gl_ft (fun _ _ => ?_)) | ((with_reducible refine Calmly.is_eff ?_); refine Calmly.mix_eff rfl (fun _ _ => ?_)) | ((with_reducible refine Calmly.is_gf ?_); refine Calmly.mix_gf rfl rfl rfl ?_; first | with_reducible refine Calmly.gf_tt (fun _ _ => ?_) | with_reducible refine Calmly.gf_ff (fun _ _ => ?_) | with_reducible refine Calmly.gf_tf (kept_of hk) (fun _ _ => ?_) | with_reducible refine Calmly.gf_ft (kept_of hk) (fun _ _ => ?_)) | ((with_reducible refine Calmly.is_tail ?_); first | refine Calmly.mix_tail_nil ?_ | refine Calmly.mix_tail rfl (fun _ _ => ?_)) | ((with_reducible refine Calmly.is_kept ?_); refine ⟨kept_of hk, ?_⟩) | (with_reducible refine Calmly.mix_alt ?_ ?_))
          refine (HW2.out _).mono ?_
          rintro e w6 ⟨rfl, rfl⟩
          by_cases hgt : N2 < N1
          · have hs9 := HSET.out
            rw [if_pos hgt] at hs9
            have HS9 := Lib.hid hs9
            clear hs9
            go_wp2_with (first | ((with_reducible refine Calmly.is_fl ?_); refine Calmly.mix_fl rfl ?_ (fun _ _ => ?_); (first | exact .move _ | exact .load _ _ | exact .fieldAddr _ _ _ (by kernel_rfl) | exact .assign _ | exact .binOp _ _ _ _ _ rfl | exact .indexAddr _ _ _ | exact .len _ _ (by kernel_rfl) | exact .field _ _ _ | exact .extract _ _ | exact .pick _ _ _ | exact .build _ _ | exact .slice _ _ _ _ _ | exact .unOp _ _ _ rfl | exact .index _ _ _ | exact .max _ _ _ rfl rfl | exact .min _ _ _ rfl rfl | exact .nilCheck _ _ rfl)) | ((with_reducible refine Calmly.is_gl ?_); refine Calmly.mix_gl rfl rfl rfl ?_; first | ((first | with_reducible refine Calmly.gl_tt ?_ (fun _ _ => ?_) | with_reducible refine Calmly.gl_ff ?_ (fun _ _ => ?_)); (first | exact .move _ | exact .load _ _ | exact .fieldAddr _ _ _ (by kernel_rfl) | exact .assign _ | exact .binOp _ _ _ _ _ rfl | exact .indexAddr _ _ _ | exact .len _ _ (by kernel_rfl) | exact .field _ _ _ | exact .extract _ _ | exact .pick _ _ _ | exact .build _ _ | exact .slice _ _ _ _ _ | exact .unOp _ _ _ rfl | exact .index _ _ _ | exact .max _ _ _ rfl rfl | exact .min _ _ _ rfl rfl | exact .nilCheck _ _ rfl)) | with_reducible refine Calmly.gl_tf (fun _ _ => ?_) | with_reducible refine Calmly.gl_ft (fun _ _ => ?_)) | ((with_reducible refine Calmly.is_eff ?_); refine Calmly.mix_eff rfl (fun _ _ => ?_)) | ((with_reducible refine Calmly.is_gf ?_); refine Calmly.mix_gf rfl rfl rfl ?_; first | with_reducible refine Calmly.gf_tt (fun _ _ => ?_) | with_reducible refine Calmly.gf_ff (fun _ _ => ?_) | with_reducible refine Calmly.gf_tf (kept_of hk) (fun _ _ => ?_) | with_reducible refine Calmly.gf_ft (kept_of hk) (fun _ _ => ?_)) | ((with_reducible refine Calmly.is_tail ?_); first | refine Calmly.mix_tail_nil ?_ | refine Calmly.mix_tail rfl (fun _ _ => ?_)) | ((with_reducible refine Calmly.is_kept ?_); refine ⟨kept_of hk, ?_⟩) | (with_reducible refine Calmly.mix_alt ?_ ?_))
            go_roundw
            case rel => exact ⟨j + 1, by omega, by go_num, by rw [HS9.out]; exact ⟨HI6.out.bel.setCell hgw _, (HI6.out.out.stored j D).1⟩⟩
            case measure => simp [intOf]; omega
          · have hs9 := HSET.out
            rw [if_neg hgt] at hs9
            have hs10 : pkR X o (j + 1) = pkR X o j := by
              rw [hs9, ← HO.out]
              have := List.set_getD_self (pkR X o j) j
              rw [pkR_at] at this
              exact this
            have HS9 := Lib.hid hs10
            clear hs9 hs10
            go_wp2_with (first | ((with_reducible refine Calmly.is_fl ?_); refine Calmly.mix_fl rfl ?_ (fun _ _ => ?_); (first | exact .move _ | exact .load _ _ | exact .fieldAddr _ _ _ (by kernel_rfl) | exact .assign _ | exact .binOp _ _ _ _ _ rfl | exact .indexAddr _ _ _ | exact .len _ _ (by kernel_rfl) | exact .field _ _ _ | exact .extract _ _ | exact .pick _ _ _ | exact .build _ _ | exact .slice _ _ _ _ _ | exact .unOp _ _ _ rfl | exact .index _ _ _ | exact .max _ _ _ rfl rfl | exact .min _ _ _ rfl rfl | exact .nilCheck _ _ rfl)) | ((with_reducible refine Calmly.is_gl ?_); refine Calmly.mix_gl rfl rfl rfl ?_; first | ((first | with_reducible refine Calmly.gl_tt ?_ (fun _ _ => ?_) | with_reducible refine Calmly.gl_ff ?_ (fun _ _ => ?_)); (first | exact .move _ | exact .load _ _ | exact .fieldAddr _ _ _ (by kernel_rfl) | exact .assign _ | exact .binOp _ _ _ _ _ rfl | exact .indexAddr _ _ _ | exact .len _ _ (by kernel_rfl) | exact .field _ _ _ | exact .extract _ _ | exact .pick _ _ _ | exact .build _ _ | exact .slice _ _ _ _ _ | exact .unOp _ _ _ rfl | exact .index _ _ _ | exact .max _ _ _ rfl rfl | exact .min _ _ _ rfl rfl | exact .nilCheck _ _ rfl)) | with_reducible refine Calmly.gl_tf (fun _ _ => ?_) | with_reducible refine Calmly.gl_ft (fun _ _ => ?_)) | ((with_reducible refine Calmly.is_eff ?_); refine Calmly.mix_eff rfl (fun _ _ => ?_)) | ((with_reducible refine Calmly.is_gf ?_); refine Calmly.mix_gf rfl rfl rfl ?_; first | with_reducible refine Calmly.gf_tt (fun _ _ => ?_) | with_reducible refine Calmly.gf_ff (fun _ _ => ?_) | with_reducible refine Calmly.gf_tf (kept_of hk) (fun _ _ => ?_) | with_reducible refine Calmly.gf_ft (kept_of hk) (fun _ _ => ?_)) | ((with_reducible refine Calmly.is_tail ?_); first | refine Calmly.mix_tail_nil ?_ | refine Calmly.mix_tail rfl (fun _ _ => ?_)) | ((with_reducible refine Calmly.is_kept ?_); refine ⟨kept_of hk, ?_⟩) | (with_reducible refine Calmly.mix_alt ?_ ?_))
            go_roundw
            case rel => exact ⟨j + 1, by omega, by go_num, by rw [HS9.out]; exact HI6.out⟩
            case measure => simp [intOf]; omega
        · have hle : (n : Int) ≤ (j : Int) := by omega
          obtain rfl : n = j := by omega
          go_wp2_with fail
          go_roundw
          case rel => exact ⟨k + 1, pkR X o n, by omega, by go_num, HTN.out, by rw [pkR_len, HOL.out], pkR_bdM (fun j => by have := HDB.out j; omega) HOB.out, hI⟩
          case measure => simp [intOf]; omega
    · have hle : (sn : Int) ≤ (k : Int) := by omega
      obtain rfl : sn = k := by omega
      have hTR : o = R := by
        have h5 := HT.out
        rw [List.drop_of_length_le (by have := HLS.out; omega)] at h5
        exact h5
      subst hTR
      go_wp2_with fail
      go_ret
      exact ⟨_, rfl, hI.out, hI.bel⟩
end Go.Proofs.Ytaiikekgckjdeaa

namespace Go.Proofs.Ytaiikekgckjdeaa
open Go.RowKit
open Calmly (Kept)
/-- All states of a run. -/
def allS (fs : List Fl) (m : List Int) : List St := bgSt fs :: (runS fs (bgSt fs) m).1
theorem allS_ok {fs : List Fl} (ok : (frmE fs).2 = 0) (m : List Int) {s : St} (h : s ∈ allS fs m) : s.1.length = fs.length ∧ ∀ j : Nat, -1000000 ≤ s.1[j]?.getD 0 ∧ s.1[j]?.getD 0 ≤ 1000000 := by
  have h5 := (frmE_ok ok).1
  rcases List.mem_cons.1 h with rfl | h
  · refine ⟨by simp [bgSt], fun j => ?_⟩
    have e : (bgSt fs).1[j]?.getD 0 = 0 := by
      simp only [bgSt, List.getElem?_replicate]
      split <;> rfl
    rw [e]
    omega
  · have hl := runS_len h
    refine ⟨hl, fun j => ?_⟩
    have := dr_bd (runS_dr ok h) hl j
    omega
theorem allS_at {fs : List Fl} (ok : (frmE fs).2 = 0) (m : List Int) {i : Nat} (hi : i < (allS fs m).length) : ((allS fs m)[i]?.getD st0').1.length = fs.length ∧ ∀ j : Nat, -1000000 ≤ ((allS fs m)[i]?.getD st0').1[j]?.getD 0 ∧ ((allS fs m)[i]?.getD st0').1[j]?.getD 0 ≤ 1000000 := by
  have e : (allS fs m)[i]?.getD st0' = (allS fs m)[i] := by simp [hi]
  rw [e]
  exact allS_ok ok m (List.getElem_mem hi)
theorem runE_two (fs : List Fl) (m : List Int) : runE fs m = if (frmE fs).2 = 0 then rmoE m else (frmE fs).2 := by
  by_cases h : (frmE fs).2 = 0
  · rw [if_pos h, runE, first_ok h, rmoE]
    by_cases h6 : (m.length : Int) ≤ 60
    · simp [h6, unlessE]
    · simp [h6, unlessE]
  · rw [if_neg h, runE, first_bad h, if_neg h]
theorem rmoE_ok {m : List Int} (h : rmoE m = 0) : (m.length : Int) ≤ 60 ∧ ∀ j, j < m.length → -100 ≤ m[j]?.getD 0 ∧ m[j]?.getD 0 ≤ 100 := by
  rw [rmoE] at h
  split at h
  · rename_i h6
    refine ⟨h6, fun j hj => ?_⟩
    have h5 := eaF_all (n := m.length) (k := 0) (m := m.length) (by omega) h j (by omega) hj
    exact szd_iff.1 (unlessG_zero h5 (by decide))
  · cases h
/-- What a run and its peaks hand back, as it is kept. -/
structure RunK (E : Int) (ss : List St) (sa : Option Addr) (sn sc : Nat) (W : World) : Prop where
  st : E = 0 → ∃ raw, StsV W sa sn sc raw ss
theorem RunK.keep {E : Int} {ss : List St} {sa : Option Addr} {sn sc : Nat} {W W' : World} (h : RunK E ss sa sn sc W) (hb : Below W.heap.size W W') : RunK E ss sa sn sc W' :=
  ⟨fun e => by obtain ⟨raw, h5⟩ := h.st e; exact ⟨raw, h5.keep hb⟩⟩
structure PkK (E : Int) (l : List Int) (sa : Option Addr) (sn sc : Nat) (W : World) : Prop where
  pk : E = 0 → SI W sa sn sc l
theorem PkK.keep {E : Int} {l : List Int} {sa : Option Addr} {sn sc : Nat} {W W' : World} (h : PkK E l sa sn sc W) (hb : Below W.heap.size W W') : PkK E l sa sn sc W' := ⟨fun e => (h.pk e).keep hb⟩
set_option maxRecDepth 100000 in
set_option maxHeartbeats 4000000 in
theorem ModelRuns_walk (a ma : Option Addr) (n c mn mc : Nat) (raw : List FlR) (fs : List Fl) (m : List Int) (w : World) (h1 : FrV w a n c raw fs) (h2 : SI w ma mn mc m) :
    Calls Try.prog 3 #[.agg #[.slice a n c], .slice ma mn mc] w fun e w' => e = .returned (.bool true) ∧ Below w.heap.size w w' := by
  have hn := h1.n_
  have hmn := h2.len
  have m1 := h1.row.max
  have q1 := h1.row.cap
  have m2 := h2.max
  have q2 := h2.cap
  have HN := Lib.hid hn
  have HMN := Lib.hid hmn
  clear hn hmn
  obtain ⟨E, hE⟩ : ∃ E, runE fs m = E := ⟨_, rfl⟩
  obtain ⟨FE, hFE⟩ : ∃ E, (frmE fs).2 = E := ⟨_, rfl⟩
  obtain ⟨ME, hME⟩ : ∃ E, rmoE m = E := ⟨_, rfl⟩
  have hET : E = if FE = 0 then ME else FE := by rw [← hE, ← hFE, ← hME]; exact runE_two fs m
  have HE := Lib.hid hE
  have HFE := Lib.hid hFE
  have HME := Lib.hid hME
  have HET := Lib.hid hET
  clear hE hFE hME hET
  have y3 := alloc_new w (.cells #[.slice a n c] 24)
  have BW : Below w.heap.size w (w.alloc (.cells #[.slice a n c] 24)) := (Below.refl _ _).alloc (Nat.le_refl _) _
  go_enter Try.func3, Try.ntmps3
  have y3_0 := cell_block y3 0
  go_wp2_with fail
  clear y3_0
  refine (awake_any _).mono ?_
  rintro e w1 ⟨rfl, hs⟩
  replace y3 := blk_keep y3 hs
  replace BW := BW.trans (hs.mono BW.size)
  clear hs
  have y3_0 := cell_block y3 0
  go_wp2_with fail
  clear y3_0
  refine (Few_any a n c raw fs _ (h1.keep BW)).mono ?_
  rintro e w2 ⟨B, rfl, hB, hs⟩
  replace y3 := blk_keep y3 hs
  replace BW := BW.trans (hs.mono BW.size)
  clear hs
  by_cases hfew : B = true ∧ mn ≤ 62
  case neg =>
    cases B
    · go_wp2_with fail
      go_ret
      exact ⟨ret_bool (by simp), BW⟩
    · have g1 : (62 : Int) < (mn : Int) := by simp at hfew; omega
      go_wp2_with fail
      go_ret
      exact ⟨ret_bool (by simp), BW⟩
  case pos =>
    obtain ⟨rfl, hm6⟩ := hfew
    have hB5 := hB rfl
    have HB5 := Lib.hid hB5
    have hn7 : n ≤ 7 := by have := HN.out; omega
    have g1 : ¬ (62 : Int) < (mn : Int) := by omega
    clear hB hB5
    have y3_0 := cell_block y3 0
    go_wp2_with fail
    clear y3_0
    refine (CopyFrame_any a n c raw fs _ (h1.keep BW) (by omega) (fun i hi => by have := HB5.out.2 i hi; omega)).mono ?_
    rintro e w3 ⟨a1, c1, raw1, rfl, hF1, hs⟩
    have hF2 := hF1
    replace y3 := blk_keep y3 hs
    replace BW := BW.trans (hs.mono BW.size)
    clear hs hF1
    go_wp2_with fail
    refine (copyInts_any ma mn mc m _ (h2.keep BW) (by omega)).mono ?_
    rintro e w4 ⟨a2, c2, rfl, hM, hs⟩
    replace y3 := blk_keep y3 hs
    replace hF2 := hF2.keep hs
    replace BW := BW.trans (hs.mono BW.size)
    clear hs
    have hM2 := hM.si
    clear hM
    go_wp2_with fail
    refine (RunOf_any a1 a2 n c1 mn c2 raw1 fs m _ hF2 hM2).mono ?_
    rintro e w5 ⟨sa, sn, sc, st, rfl, hR, hs⟩
    rw [HE.out] at hR ⊢
    replace y3 := blk_keep y3 hs
    replace BW := BW.trans (hs.mono BW.size)
    clear hs hF2 hM2
    have RK : RunK E (allS fs m) sa sn sc w5 := ⟨fun h => by obtain ⟨raw', h5⟩ := hR.states h; exact ⟨raw', h5.sv⟩⟩
    have hst := hR.storey
    have hnn := hR.none
    have HST := Lib.hid hst
    have HNN := Lib.hid hnn
    clear hR hst hnn
    have y3_0 := cell_block y3 0
    go_wp2_with fail
    clear y3_0
    refine (CopyFrame_any a n c raw fs _ (h1.keep BW) (by omega) (fun i hi => by have := HB5.out.2 i hi; omega)).mono ?_
    rintro e w6 ⟨a1, c1, raw1, rfl, hF1, hs⟩
    have hF2 := hF1
    replace y3 := blk_keep y3 hs
    replace RK := RK.keep hs
    replace BW := BW.trans (hs.mono BW.size)
    clear hs hF1
    go_wp2_with fail
    refine (copyInts_any ma mn mc m _ (h2.keep BW) (by omega)).mono ?_
    rintro e w7 ⟨a2, c2, rfl, hM, hs⟩
    replace y3 := blk_keep y3 hs
    replace RK := RK.keep hs
    replace hF2 := hF2.keep hs
    replace BW := BW.trans (hs.mono BW.size)
    clear hs
    have hM2 := hM.si
    clear hM
    go_wp2_with fail
    refine (PeaksOf_any a1 a2 n c1 mn c2 raw1 fs m _ hF2 hM2).mono ?_
    rintro e w8 ⟨pa, pn, pc, rfl, hR, hs⟩
    rw [HE.out] at hR ⊢
    replace y3 := blk_keep y3 hs
    replace RK := RK.keep hs
    replace BW := BW.trans (hs.mono BW.size)
    clear hs hF2 hM2
    have PK : PkK E (pkS (List.replicate n 0) (allS fs m)) pa pn pc w8 := ⟨fun h => by have h5 := (hR.peaks h).si; rw [← HN.out] at h5; exact h5⟩
    have hnn := hR.none
    have HPN := Lib.hid hnn
    clear hR hnn
    have y3_0 := cell_block y3 0
    go_wp2_with fail
    clear y3_0
    refine (rFrameErr_any a n c raw fs _ (h1.keep BW)).mono ?_
    rintro e w9 ⟨rfl, hs⟩
    replace y3 := blk_keep y3 hs
    replace RK := RK.keep hs
    replace PK := PK.keep hs
    replace BW := BW.trans (hs.mono BW.size)
    clear hs
    rw [HFE.out]
    by_cases hz : FE = 0
    case neg =>
      have hEE : E = FE := by rw [HET.out, if_neg hz]
      have hsn := HNN.out (by rw [hEE]; exact hz)
      have hpn := HPN.out (by rw [hEE]; exact hz)
      have hst := HST.out
      rw [if_neg (by rw [hEE]; exact hz)] at hst
      have g2 : (FE != 0) = true := by simpa using hz
      have g3 : (FE == 0) = false := by simpa using hz
      clear RK PK HST HNN HPN HE HET hz
      subst hsn hpn hst
      subst hEE
      go_wp2_with fail
      go_ret
      exact ⟨ret_bool (by simp), BW⟩
    case pos =>
      subst hz
      go_wp2_with fail
      refine (rMotionErr_any ma mn mc m _ (h2.keep BW)).mono ?_
      rintro e w10 ⟨rfl, rfl⟩
      rw [HME.out]
      by_cases hz : ME = 0
      case neg =>
        have hEE : E = ME := by rw [HET.out]; simp
        have hsn := HNN.out (by rw [hEE]; exact hz)
        have hpn := HPN.out (by rw [hEE]; exact hz)
        have hst := HST.out
        rw [if_neg (by rw [hEE]; exact hz)] at hst
        have g2 : (ME != 0) = true := by simpa using hz
        clear RK PK HST HNN HPN HE HET hz
        subst hsn hpn hst
        subst hEE
        go_wp2_with fail
        go_ret
        exact ⟨ret_bool (by simp), BW⟩
      case pos =>
        subst hz
        obtain rfl : E = 0 := by rw [HET.out]; simp
        have hmo := rmoE_ok HME.out
        have hst := HST.out
        rw [if_pos rfl] at hst
        have HMO := Lib.hid hmo
        have HS2 := Lib.hid hst
        clear hmo hst HST HNN HPN HET
        have y3_0 := cell_block y3 0
        go_wp2_with fail
        clear y3_0
        refine (rRun_any a ma n c mn mc raw fs m _ (h1.keep BW) (h2.keep BW) HFE.out (fun j hj => HMO.out.2 j (by rw [← HMN.out]; exact hj)) (by omega)).mono ?_
        rintro e w11 ⟨ra, rn, rc, raw', rfl, hS, hs⟩
        have hSV : StsV w11 ra rn rc raw' (allS fs m) := hS.sv
        rw [← HS2.out]
        clear hS
        replace y3 := blk_keep y3 hs
        replace RK := RK.keep hs
        replace PK := PK.keep hs
        replace BW := BW.trans (hs.mono BW.size)
        clear hs
        obtain ⟨raw2, hRK⟩ := RK.st rfl
        go_wp2_with fail
        refine (rSameStates_any sa ra sn sc rn rc raw2 raw' (allS fs m) (allS fs m) _ hRK hSV).mono ?_
        rintro e w12 ⟨rfl, hs⟩
        replace y3 := blk_keep y3 hs
        replace PK := PK.keep hs
        replace hSV := hSV.keep hs
        replace BW := BW.trans (hs.mono BW.size)
        clear hs hRK RK
        rw [show decide (allS fs m = allS fs m) = true by simp]
        have cx2 : (st == st) = true := by simp
        have y3_0 := cell_block y3 0
        go_wp2_with fail
        clear y3_0
        refine (rPeaks_any a ra n c rn rc raw fs raw' (allS fs m) _ (h1.keep BW) hSV (by omega) (fun i hi => by rw [HN.out]; exact (allS_at HFE.out m hi).1) (fun i j hi => by have := (allS_at HFE.out m hi).2 j; omega)).mono ?_
        rintro e w13 ⟨oa, rfl, hO, hs⟩
        replace y3 := blk_keep y3 hs
        replace PK := PK.keep hs
        replace BW := BW.trans (hs.mono BW.size)
        clear hs hSV
        have hOS := hO.si
        clear hO
        go_wp2_with fail
        refine (ints_any pa oa pn n pc n _ _ _ (PK.pk rfl) hOS).mono ?_
        rintro e w14 ⟨rfl, nn, rfl⟩
        rw [show decide (pkS (List.replicate n 0) (allS fs m) = pkS (List.replicate n 0) (allS fs m)) = true by simp]
        go_wp2_with fail
        go_ret
        exact ⟨ret_bool (by simp), below_drewN BW nn⟩
end Go.Proofs.Ytaiikekgckjdeaa
