/- The drifts under forces. The reference's first state. -/
import Derived.Test.YtaiikekgckjdeaaK25
namespace Go.Proofs.Ytaiikekgckjdeaa
open Go.RowKit Go.Shelf
attribute [local go_sem] Oper.semAt_some
open Calmly (Kept)

/-- The error of the drifts. -/
def duE (fs : List Fl) (p : List Int) : Int := if (frmE fs).2 = 0 then foE fs.length p else (frmE fs).2
/-- The drifts of so many storeys from above. -/
def duL (fs : List Fl) (p : List Int) (n k : Nat) : List FcR := (List.range n).map (fun i => if n ≤ i + k then drV fs p i else fcr0)
theorem duL_zero (fs : List Fl) (p : List Int) (n : Nat) : duL fs p n 0 = List.replicate n fcr0 := by
  apply List.ext_getElem
  · simp [duL]
  · intro c h1 h2
    have hc : c < n := by simpa [duL] using h1
    simp [duL, show ¬ n ≤ c by omega]
theorem duL_all (fs : List Fl) (p : List Int) (n : Nat) : duL fs p n n = (List.range n).map (drV fs p) := by
  refine List.map_congr_left fun i _ => ?_
  rw [if_pos (by omega)]
theorem duL_step (fs : List Fl) (p : List Int) {n j k : Nat} (h : j + k + 1 = n) : (duL fs p n k).set j (drV fs p j) = duL fs p n (k + 1) := by
  refine list_set _ _ n j _ (by rw [if_pos (by omega)]) (fun c _ hc => ?_)
  by_cases h1 : n ≤ c + k
  · rw [if_pos h1, if_pos (by omega)]
  · rw [if_neg h1, if_neg (by omega)]
theorem duL_len (fs : List Fl) (p : List Int) (n k : Nat) : (duL fs p n k).length = n := by simp [duL]
theorem fc_set (l : List FcR) (k : Nat) (h : k < l.length) (x y : Int) : ((l.flatMap encFcR).set (k * 2) (.int .i64 x)).set (k * 2 + 1) (.int .i64 y) = (l.set k (x, y)).flatMap encFcR := by
  induction l generalizing k with
  | nil => simp at h
  | cons q l ih =>
    have e : ∀ (q : FcR) l, (q :: l).flatMap encFcR = .int .i64 q.1 :: .int .i64 q.2 :: l.flatMap encFcR := fun _ _ => rfl
    cases k with
    | zero => rw [List.set_cons_zero, e, e]; rfl
    | succ k =>
      rw [List.set_cons_succ, e, e, ← ih k (by simpa using h), show (k + 1) * 2 = k * 2 + 1 + 1 by omega]
      rfl
theorem OwFcR.stored {w : World} {B g n c : Nat} {l : List FcR} (h : OwFcR w B (some ⟨g, 0, none⟩) n c l) {k : Nat} (hk : k < n) (x y : Int) :
    OwFcR ((w.setCell ⟨g, k * 2, none⟩ (.int .i64 x)).setCell ⟨g, k * 2 + 1, none⟩ (.int .i64 y)) B (some ⟨g, 0, none⟩) n c (l.set k (x, y)) := by
  have hl := h.sr.len
  unfold OwFcR
  rw [← fc_set l k (by omega)]
  exact (World.ownsRow.stored (World.ownsRow.stored h _ _).1 _ _).1
/-- 'make([]Frac, n)'. -/
theorem makeF1 {ops : Array Oper} {rest : List Oper} {o : Oper} {a : Act} {Q : Exit → Act → World → Prop} {w : World} {L : Int} {n : Nat} (hg : o.guard = none) (l c : Operand)
    (hop : o.op = Op.makeSlice 117 l c) (hl : a.eval l = .int .i64 L) (hc : a.eval c = .int .i64 L) (hL : L = (n : Int)) (hn : n ≤ 1000000)
    (hK : ∀ w', OwFcR w' w.heap.size (some ⟨w.heap.size, 0, none⟩) n n (List.replicate n fcr0) → Below w.heap.size w w' → wpList Try.prog ops Q rest (a.put o.dst (.slice (some ⟨w.heap.size, 0, none⟩) n n)) w') :
    wpList Try.prog ops Q (o :: rest) a w := by
  obtain ⟨i0, hi, hz0, hz1, hz2⟩ := info_parts Try.info_fcr
  refine wpList_make_full w hg l c _ hop w.heap.size _ i0 (.agg #[.int .i64 0, .int .i64 0]) 2 Try.underlying117 hi hz0 hz1 .i64 .i64 L L n hl hc hL hL (by rw [hz2]; omega) (by unfold maxLen; omega) (Nat.le_refl _) ?_
  intro w' ho hgr
  have e : (madeCells (Value.agg #[Value.int IntKind.i64 0, Value.int .i64 0]).cells (n * 2)).toList = (List.replicate n fcr0).flatMap encFcR := by
    refine List.ext_getElem? fun j => ?_
    rw [show (Value.agg #[Value.int IntKind.i64 0, Value.int .i64 0]).cells = #[Value.int .i64 0, .int .i64 0] from rfl]
    by_cases hj : j < n * 2
    · have hd : j = (j / 2) * 2 + j % 2 := by omega
      rw [hd, fm_get encFcR_len _ fcr0 (j / 2) (by rw [List.length_replicate]; omega) (j % 2) (by omega)]
      have hr : (List.replicate n fcr0)[j / 2]?.getD fcr0 = fcr0 := by
        rw [List.getElem?_replicate]
        split <;> rfl
      rw [hr, ← hd]
      rcases (by omega : j % 2 = 0 ∨ j % 2 = 1) with h | h <;> simp [madeCells, hj, h, encFcR, fcr0]
    · rw [List.getElem?_eq_none (by simp [madeCells]; omega), List.getElem?_eq_none (by rw [fm_len encFcR_len, List.length_replicate]; omega)]
  have h1 : OwFcR w' w.heap.size (some ⟨w.heap.size, 0, none⟩) n n (List.replicate n fcr0) := by
    unfold OwFcR
    rw [← e]
    exact ho
  exact hK w' h1 (grown_below hgr (Nat.le_refl _) (fun k hk => by cases hk))

theorem OwFcR.slots {w : World} {B g n c : Nat} {l : List FcR} (h : OwFcR w B (some ⟨g, 0, none⟩) n c l) {k : Nat} (hk : k < n) (x : Int) :
    ∃ u v : Int, w.cell? ⟨g, k * 2, none⟩ = some (.int .i64 u) ∧ w.frozen? ⟨g, k * 2, none⟩ = false ∧ (w.setCell ⟨g, k * 2, none⟩ (.int .i64 x)).cell? ⟨g, k * 2 + 1, none⟩ = some (.int .i64 v) ∧ (w.setCell ⟨g, k * 2, none⟩ (.int .i64 x)).frozen? ⟨g, k * 2 + 1, none⟩ = false := by
  have hl := h.sr.len
  have h2 := (World.ownsRow.stored h (k * 2) (.int .i64 x)).1
  have e0 := World.ownsRow.cellAt h (k * 2) (by omega)
  have e1 := World.ownsRow.cellAt h2 (k * 2 + 1) (by omega)
  have f0 := fm_get encFcR_len l fcr0 k (by omega) 0 (by omega)
  have f1 := fm_get encFcR_len l fcr0 k (by omega) 1 (by omega)
  rw [Nat.add_zero] at f0
  rw [f0] at e0
  rw [List.getElem?_set_ne (by omega), f1] at e1
  exact ⟨_, _, e0, World.ownsRow.frozenAt h _, e1, World.ownsRow.frozenAt h2 _⟩
/-- What lies between two rounds of the drifts under forces. -/
structure DuI (w : World) (g b10 b11 b12 n kb kc : Nat) (ks : List Int) (l : List FcR) (s : Int) (W : World) : Prop where
  bel : Below w.heap.size w W
  t10 : W.heap[b10]? = some (.cells #[.slice (some ⟨g, 0, none⟩) n n] 117)
  t11 : W.heap[b11]? = some (.cells #[.int .i64 s] 3)
  t12 : W.heap[b12]? = some (.cells #[.slice (some ⟨kb, 0, none⟩) n kc] 25)
  k : OwI W (b11 + 1) (some ⟨kb, 0, none⟩) n kc ks
  out : OwFcR W w.heap.size (some ⟨g, 0, none⟩) n n l
theorem DuI.keep {w : World} {g b10 b11 b12 n kb kc : Nat} {ks : List Int} {l : List FcR} {s : Int} {W W' : World} (h : DuI w g b10 b11 b12 n kb kc ks l s W) (hb : Below W.heap.size W W') : DuI w g b10 b11 b12 n kb kc ks l s W' :=
  ⟨h.bel.trans (hb.mono h.bel.size), blk_keep h.t10 hb, blk_keep h.t11 hb, blk_keep h.t12 hb, h.k.keep hb, h.out.keep hb⟩
theorem DuI.grown {w : World} {B g b10 b11 b12 n kb kc : Nat} {ks : List Int} {l : List FcR} {s : Int} {W W' : World} {row : Option Nat} (h : DuI w g b10 b11 b12 n kb kc ks l s W) (hB : w.heap.size ≤ B) (hg : W.grownBy W' row) (hr : ∀ r, row = some r → B ≤ r ∧ ∃ o : Obj, W.heap[r]? = some o ∧ o.isCells = false) : DuI w g b10 b11 b12 n kb kc ks l s W' := by
  have hk := keeps_of_grown hg (fun r e => (hr r e).2)
  exact ⟨h.bel.trans (grown_below hg h.bel.size (fun k e => by have := (hr k e).1; omega)), hk.blk (by simp) h.t10, hk.blk (by simp) h.t11, hk.blk (by simp) h.t12, owns_keeps h.k hk (fun _ _ h => h), owns_keeps h.out hk (fun _ _ h => h)⟩
theorem DuI.sum {w : World} {g b10 b11 b12 n kb kc : Nat} {ks : List Int} {l : List FcR} {s : Int} {W : World} (h : DuI w g b10 b11 b12 n kb kc ks l s W) (hw : w.heap.size ≤ b11) (s' : Int) : DuI w g b10 b11 b12 n kb kc ks l s' (W.setCell ⟨b11, 0, none⟩ (.int .i64 s')) := by
  have hne : ∀ b, b ≠ b11 → (W.setCell ⟨b11, 0, none⟩ (.int .i64 s')).heap[b]? = W.heap[b]? := fun b hb => Below.heap_setCell _ _ _ _ hb
  have hT : BlkT W b11 3 := ⟨_, h.t11⟩
  have q := setBlk h.t11 0 (.int .i64 s')
  simp at q
  exact ⟨h.bel.setCell (p := ⟨b11, 0, none⟩) hw _, (hne _ (BlkT.ne ⟨_, h.t10⟩ hT (by decide))).trans h.t10, q, (hne _ (BlkT.ne ⟨_, h.t12⟩ hT (by decide))).trans h.t12,
    owns_same h.k (hne _ (by have := h.k.lt; omega)), owns_same h.out (hne _ (BlkT.ne ((In.of_owns h.out).blk g 0 rfl) hT (by decide)))⟩
theorem DuI.put {w : World} {g b10 b11 b12 n kb kc : Nat} {ks : List Int} {l : List FcR} {s : Int} {W : World} (h : DuI w g b10 b11 b12 n kb kc ks l s W) {j : Nat} (hj : j < n) (x y : Int) :
    DuI w g b10 b11 b12 n kb kc ks (l.set j (x, y)) s ((W.setCell ⟨g, j * 2, none⟩ (.int .i64 x)).setCell ⟨g, j * 2 + 1, none⟩ (.int .i64 y)) := by
  have hne : ∀ b, b ≠ g → ((W.setCell ⟨g, j * 2, none⟩ (.int .i64 x)).setCell ⟨g, j * 2 + 1, none⟩ (.int .i64 y)).heap[b]? = W.heap[b]? := fun b hb => (Below.heap_setCell _ _ _ _ hb).trans (Below.heap_setCell _ _ _ _ hb)
  have hT : BlkT W g 77 := (In.of_owns h.out).blk g 0 rfl
  have hg := (World.ownsRow.lt h.out g rfl).1
  exact ⟨(h.bel.setCell (p := ⟨g, j * 2, none⟩) hg _).setCell (p := ⟨g, j * 2 + 1, none⟩) hg _, (hne _ (BlkT.ne ⟨_, h.t10⟩ hT (by decide))).trans h.t10, (hne _ (BlkT.ne ⟨_, h.t11⟩ hT (by decide))).trans h.t11, (hne _ (BlkT.ne ⟨_, h.t12⟩ hT (by decide))).trans h.t12,
    owns_same h.k (hne _ (BlkT.ne ((In.of_owns h.k).blk kb 0 rfl) hT (by decide))), h.out.stored hj x y⟩
set_option maxRecDepth 100000 in
set_option maxHeartbeats 4000000 in
theorem DriftsUnder_any (a pa : Option Addr) (n c pn pc : Nat) (raw : List FlR) (fs : List Fl) (p : List Int) (w : World) (h1 : FrV w a n c raw fs) (h2 : SI w pa pn pc p) :
    Calls Try.prog 67 #[.agg #[.slice a n c], .slice pa pn pc] w fun e w' => ∃ xa xn xc, e = .returned (.tuple #[.slice xa xn xc, .int .i64 (duE fs p)]) ∧ (duE fs p ≠ 0 → xn = 0) ∧ (duE fs p = 0 → SFcR w' xa xn xc (drS fs p)) ∧ Below w.heap.size w w' := by
  have hn := h1.n_
  have m1 := h1.row.max
  have q1 := h1.row.cap
  have m2 := h2.max
  have q2 := h2.cap
  have hpl := h2.len
  have HN := Lib.hid hn
  have HP := Lib.hid hpl
  clear hn hpl
  obtain ⟨E, hE⟩ : ∃ E, duE fs p = E := ⟨_, rfl⟩
  rw [hE]
  have HE := Lib.hid hE
  obtain ⟨I, F, hF⟩ : ∃ I F, frmE fs = (I, F) := ⟨_, _, rfl⟩
  have HF := Lib.hid hF
  clear hE hF
  have y0 := alloc_new w (.cells #[.slice a n c] 24)
  have BW : Below w.heap.size w (w.alloc (.cells #[.slice a n c] 24)) := (Below.refl _ _).alloc (Nat.le_refl _) _
  have f9 := cell_block y0 0
  refine (callsIn_wide (n := 5)).1 ?_
  refine callsIn_of_wp_marks Try.func67 rfl trivial ?_ rfl
  simp only [Try.ntmps67, List.size_toArray, List.length_cons, List.length_nil, Nat.reduceAdd, Nat.reduceSub, Array.replicate_succ, Array.replicate_zero, List.push_toArray, List.append_toArray, List.nil_append, List.cons_append]
  refine wpIn_wide.2 ?_
  go_wp2_with fail
  generalize w.alloc (.cells #[.slice a n c] 24) = W at *
  refine (CheckFrame_any a n c raw fs W (h1.keep BW)).mono ?_
  rintro e w1 ⟨rfl, hs⟩
  rw [HF.out]
  dsimp only
  replace y0 := blk_keep y0 hs
  have B1 := BW.trans (hs.mono BW.size)
  clear f9 hs BW
  have f0 := cell_block y0 0
  go_wp2_with fail
  refine (dUnless_any _ 10 _).mono ?_
  rintro e w2 ⟨rfl, rfl⟩
  go_wp2_with fail
  refine (dFirst_any _ 2 2 _ _ (SI.two _ _ _ _ (by simp))).mono ?_
  rintro e w2 ⟨rfl, rfl⟩
  obtain ⟨b, hb⟩ : ∃ b, ((pn : Int) == (n : Int)) = b := ⟨_, rfl⟩
  rw [hb]
  obtain ⟨G, hG⟩ : ∃ G, firstE [F, unlessE b 10] = G := ⟨_, rfl⟩
  rw [hG]
  have hEG : E = if G = 0 then foE n p else G := by
    rw [← HE.out, duE, HF.out, ← HN.out]
    dsimp only
    by_cases hF0 : F = 0
    · subst hF0
      cases b
      · have hne : ¬ pn = n := by
          have : ¬ (pn : Int) = (n : Int) := by simpa using hb
          omega
        have : G = 10 := by rw [← hG]; rfl
        have h10 : foE n p = 10 := by rw [foE, if_neg (by rw [← HP.out]; exact hne)]
        rw [this, if_pos rfl, h10, if_neg (by decide)]
      · have : G = 0 := by rw [← hG]; rfl
        rw [this]
    · have : G = F := by rw [← hG]; simp [firstE, hF0]
      rw [this, if_neg hF0]
  have hFG : G = 0 → F = 0 ∧ pn = n := by
    intro h0
    rw [h0] at hG
    by_cases hF0 : F = 0
    · refine ⟨hF0, ?_⟩
      cases b
      · rw [hF0] at hG; simp [firstE, unlessE] at hG
      · have : (pn : Int) = (n : Int) := by simpa using hb
        omega
    · simp [firstE, hF0] at hG
  have HEG := Lib.hid hEG
  have HFG := Lib.hid hFG
  clear hG hEG hFG hb
  have BA : Below w1.heap.size w1 (w1.alloc (.cells #[.int .i64 F, .int .i64 (unlessE b 10)] 29)) := (Below.refl _ _).alloc (Nat.le_refl _) _
  generalize w1.alloc (.cells #[.int .i64 F, .int .i64 (unlessE b 10)] 29) = X at *
  have BX := B1.trans (BA.mono B1.size)
  replace y0 := blk_keep y0 BA
  clear f0 B1 BA
  by_cases hz : G = 0
  case neg =>
    have b1 : (G != 0) = true := by simpa using hz
    have hEG2 : E = G := by rw [HEG.out, if_neg hz]
    have H2 := Lib.hid hEG2
    have HZ := Lib.hid hz
    clear hz hEG2
    go_wp2_with fail
    refine ⟨.tuple #[.slice none 0 0, .int .i64 G], by simp [results, Try.results67, go_sem], none, 0, 0, by rw [H2.out], fun _ => rfl, fun h => absurd (H2.out.symm.trans h) HZ.out, BX⟩
  case pos =>
    obtain ⟨hF0, hpn⟩ := HFG.out hz
    subst hpn
    have b1 : (G != 0) = false := by rw [hz]; rfl
    have hEG2 : E = foE pn p := by rw [HEG.out, if_pos hz]
    have hfo : foE pn p = (eaF (fun i => unlessE (szd (p[i]?.getD 0) 1000000) 2) 0 pn).2 := by rw [foE, if_pos HP.out.symm, ← HP.out]
    have hzF : (frmE fs).2 = 0 := by rw [HF.out]; exact hF0
    have HZF := Lib.hid hzF
    have H2 := Lib.hid (hEG2.trans hfo)
    clear hz hEG2 hF0 hzF hfo
    go_wp2_with fail
    refine (eachForce_any pa pn pc p X X (fun i => unlessE (szd (p[i]?.getD 0) 1000000) 2) (fun _ _ => True) (h2.keep BX) (Below.refl _ _) trivial (fun _ _ _ _ _ => trivial) ?_).mono ?_
    · intro i V' hi _ hV
      refine (szdErr_any i _ V').mono ?_
      rintro e w5 ⟨rfl, hs⟩
      exact ⟨rfl, trivial, hs.mono hV.size⟩
    rintro e w5 ⟨rfl, hs5⟩
    obtain ⟨I9, E9, h9⟩ : ∃ I9 E9, eaF (fun i => unlessE (szd (p[i]?.getD 0) 1000000) 2) 0 pn = (I9, E9) := ⟨_, _, rfl⟩
    rw [h9]
    dsimp only
    have hE9 : E = E9 := by rw [H2.out, h9]
    have H9 := Lib.hid hE9
    have B5 := BX.trans (hs5.mono BX.size)
    replace y0 := blk_keep y0 hs5
    clear hs5 BX
    by_cases hz : E9 = 0
    case neg =>
      have b2 : (E9 != 0) = true := by simpa using hz
      have HZ := Lib.hid hz
      clear hz h9 hE9
      go_wp2_with fail
      refine ⟨.tuple #[.slice none 0 0, .int .i64 E9], by simp [results, Try.results67, go_sem], none, 0, 0, by rw [H9.out], fun _ => rfl, fun h => absurd (H9.out.symm.trans h) HZ.out, B5⟩
    case pos =>
      have b2 : (E9 != 0) = false := by rw [hz]; rfl
      have hfo : foE pn p = 0 := by rw [foE, if_pos HP.out.symm, ← HP.out, h9]; exact hz
      have hfb := (foE_ok hfo).2
      have hE0 : E = 0 := by rw [hE9, hz]
      have H0 := Lib.hid hE0
      have HFB := Lib.hid hfb
      have hn5 := (frmE_ok HZF.out).1
      have hn0 : 0 < pn := by have := HN.out; omega
      have hn6 : pn ≤ 5 := by have := HN.out; omega
      clear hz h9 hE9 hE0 hfo hfb hn5
      have f0 := cell_block y0 0
      have hn9 : pn ≤ 1000000 := by omega
      go_wp2_with (first | ((with_reducible refine makeF1 (n := pn) ?g1 (.tmp 43) (.tmp 43) ?g2 ?g3 ?g4 rfl ?g5 ?g6); (case g2 => exact rfl); (case g1 => exact rfl); (case g3 => exact rfl); (case g4 => exact rfl); (case g5 => omega); intro w6 ho6 hb6; have f1 := cell_keep f0 hb6; have f2 := cell_keep (cell_keep f1 ((Below.refl w6.heap.size w6).alloc (Nat.le_refl _) (.cells #[.slice (some ⟨w5.heap.size, 0, none⟩) pn pn] 117))) ((Below.refl _ _).alloc (Nat.le_refl _) (.cells #[.int .i64 0] 3))))
      have x10 := blk_keep (alloc_new w6 (.cells #[.slice (some ⟨w5.heap.size, 0, none⟩) pn pn] 117)) ((Below.refl _ _).alloc (Nat.le_refl _) (.cells #[.int .i64 0] 3))
      have x11 := alloc_new (w6.alloc (.cells #[.slice (some ⟨w5.heap.size, 0, none⟩) pn pn] 117)) (.cells #[.int .i64 0] 3)
      have BY : Below w6.heap.size w6 ((w6.alloc (.cells #[.slice (some ⟨w5.heap.size, 0, none⟩) pn pn] 117)).alloc (.cells #[.int .i64 0] 3)) := ((Below.refl _ _).alloc (Nat.le_refl _) _).alloc (by simp) _
      have hsY : ((w6.alloc (.cells #[.slice (some ⟨w5.heap.size, 0, none⟩) pn pn] 117)).alloc (.cells #[.int .i64 0] 3)).heap.size = w6.heap.size + 2 := by simp
      simp only [World.size_alloc] at x11
      generalize (w6.alloc (.cells #[.slice (some ⟨w5.heap.size, 0, none⟩) pn pn] 117)).alloc (.cells #[.int .i64 0] 3) = Y at *
      have h56 := hb6.size
      have hw5 := B5.size
      replace ho6 := owns_lower ho6 hw5
      have ho6 : OwFcR w6 w.heap.size (some ⟨w5.heap.size, 0, none⟩) pn pn (List.replicate pn fcr0) := ho6
      replace B5 := B5.trans ((hb6.trans (BY.mono h56)).mono hw5)
      have hoY := ho6.keep BY
      have hg6 : w5.heap.size < w6.heap.size := (World.ownsRow.lt ho6 _ rfl).2
      obtain ⟨b10, hb10⟩ : ∃ b, w6.heap.size = b := ⟨_, rfl⟩
      obtain ⟨g, hg⟩ : ∃ b, w5.heap.size = b := ⟨_, rfl⟩
      rw [hb10] at x10 x11 hsY hg6 ⊢
      rw [hg] at x10 hoY hg6 hw5 ⊢
      clear f0 f1 y0 BY hb6 ho6 h56 hb10 hg
      refine (stiffnesses_any a pn c raw fs Y (h1.keep B5) HZF.out).mono ?_
      rintro e w7 ⟨ka, kc, rfl, hk7, hs⟩
      dsimp only
      have hb10w : w.heap.size ≤ b10 := by omega
      replace x10 := blk_keep x10 hs
      replace x11 := blk_keep x11 hs
      replace hoY := hoY.keep hs
      replace B5 := B5.trans (hs.mono B5.size)
      rw [hsY] at hk7
      obtain ⟨kb, rfl, hkb⟩ := hk7.at_ hn0
      have hs7 := hs.size
      rw [hsY] at hs7
      clear hs f2 hsY
      have km := hk7.si.max
      have kq := hk7.si.cap
      have BZ : Below w7.heap.size w7 (w7.alloc (.cells #[.slice (some ⟨kb, 0, none⟩) pn kc] 25)) := (Below.refl _ _).alloc (Nat.le_refl _) _
      have x12 := alloc_new w7 (.cells #[.slice (some ⟨kb, 0, none⟩) pn kc] 25)
      have hsZ : (w7.alloc (.cells #[.slice (some ⟨kb, 0, none⟩) pn kc] 25)).heap.size = w7.heap.size + 1 := by simp
      go_wp2_with fail
      generalize w7.alloc (.cells #[.slice (some ⟨kb, 0, none⟩) pn kc] 25) = Z at *
      have hI0 : DuI w g b10 (b10 + 1) w7.heap.size pn kb kc ((List.range pn).map (stK fs)) (duL fs p pn 0) (suf p pn) Z := by
        rw [duL_zero, suf_end p (by have := HP.out; omega)]
        exact ⟨B5.trans (BZ.mono B5.size), blk_keep x10 BZ, blk_keep x11 BZ, x12, owns_keep (owns_lower hk7 (by omega)) BZ, hoY.keep BZ⟩
      obtain ⟨b12, hb12⟩ : ∃ b, w7.heap.size = b := ⟨_, rfl⟩
      rw [hb12] at hI0 hs7 hsZ ⊢
      clear x10 x11 x12 hoY hk7 B5 BZ hb12 hkb
      refine (backward_any pa pn pc Z).mono ?_
      rintro e w8 ⟨rfl, rfl⟩
      dsimp only
      have BV : Below Z.heap.size Z (Z.alloc (.cells #[.slice pa pn pc] 25)) := (Below.refl _ _).alloc (Nat.le_refl _) _
      have z0 := alloc_new Z (.cells #[.slice pa pn pc] 25)
      replace hI0 := hI0.keep BV
      go_wp2_with fail
      generalize Z.alloc (.cells #[.slice pa pn pc] 25) = V at *
      rw [hsZ] at z0 ⊢
      refine (wpIn_wide (n := 5)).1 ?_
      refine range_midX (gf := 143) (m := 4) rfl (enters_of Try.func143 (by kernel_rfl) rfl) (enc := fun i : Fin pn => #[.int .i64 (i.val : Int), .int .i64 (p[i.val]?.getD 0)]) (Kp := Keeps (fun b' => b' = b10 + 1 ∨ b' = g))
        (backward_onX V (b12 + 1) pa pn pc p (fun b' => b' = b10 + 1 ∨ b' = g) z0 (h2.keep hI0.bel) (by omega) (fun b' o h0 ha => by have := (h2.at_ h0); obtain ⟨b2, o2, he, hc⟩ := this; rw [ha] at he; cases he; have := cell_lt (hc 0 h0); omega) _) (fun h k => h.trans k) (fun W l o o' _ hl ho => Keeps.put o' hl ho) (fun _ => rfl)
        (fun pre W => DuI w g b10 (b10 + 1) b12 pn kb kc ((List.range pn).map (stK fs)) (duL fs p pn pre.length) (suf p (pn - pre.length)) W) (fun _ W => False) (fun pre W W' row h hg hr => h.grown (by have := hI0.bel.size; omega) hg hr) hI0
        (fun pre x a' W => DuI w g b10 (b10 + 1) b12 pn kb kc ((List.range pn).map (stK fs)) (duL fs p pn pre.length) (suf p (pn - pre.length)) W ∧ (x.val + pre.length + 1 = pn ∧ a' = { tmps := #[.agg #[.slice a pn c], .slice pa pn pc, .pointer (some ⟨w.heap.size, 0, none⟩), undef, .slice none 0 0, .int .i64 0, .int .i64 I, .int .i64 G, .int .i64 I9, .int .i64 E9, .pointer (some ⟨b10, 0, none⟩), .pointer (some ⟨b10 + 1, 0, none⟩), .pointer (some ⟨b12, 0, none⟩), .int .i64 (x.val : Int), .int .i64 (p[x.val]?.getD 0), undef, .tuple #[.int .i64 I, .int .i64 F], .agg #[.slice a pn c], .tuple #[.int .i64 I, .int .i64 F], .int .i64 I, .int .i64 F, .int .i64 F, .slice pa pn pc, .int .i64 (pn : Int), .pointer (some ⟨w.heap.size, 0, none⟩), .slice a pn c, .int .i64 (pn : Int), .bool b, .int .i64 (unlessE b 10), .slice (some ⟨w1.heap.size, 0, none⟩) 2 2, .int .i64 G, .int .i64 G, .bool false, undef, .tuple #[.int .i64 I9, .int .i64 E9], .slice pa pn pc, .tuple #[.int .i64 I9, .int .i64 E9], .int .i64 I9, .int .i64 E9, .int .i64 E9, .bool false, undef, .slice pa pn pc, .int .i64 (pn : Int), .slice (some ⟨g, 0, none⟩) pn pn, .agg #[.slice a pn c], .slice (some ⟨kb, 0, none⟩) pn kc, .slice pa pn pc, .func (.func 143) #[] #[.pointer (some ⟨b12 + 1, 0, none⟩)], .int .i64 (x.val : Int), .int .i64 (p[x.val]?.getD 0), undef, undef, undef, undef, undef, undef, undef, undef, undef, undef, undef, undef, undef, undef, undef, undef, undef, undef, undef, undef, undef, undef, undef], defers := [] }))
        ?own ?assign ?body ?ixown ?done ?stop
      case own =>
        rintro pre x a' s W W' row ⟨h1, h3⟩ hg hr
        exact ⟨h1.grown (by have := hI0.bel.size; omega) hg hr, h3⟩
      case ixown =>
        rintro s W W' row h hg hr
        exact h.elim
      case assign =>
        rintro r pre x W K hi hlen hpx hK
        gi_wp2
        exact hK _ _ (KeepsOthers.refl _) (Keeps.refl _ _) ⟨hi, hpx, rfl⟩
      case body =>
        rintro r pre x a' W ⟨hD, hpx, rfl⟩
        rw [List.length_append, List.length_singleton]
        obtain ⟨j, hj⟩ : ∃ j, x.val = j := ⟨_, rfl⟩
        obtain ⟨k, hk⟩ : ∃ k, pre.length = k := ⟨_, rfl⟩
        rw [hj, hk] at hpx
        rw [hk] at hD
        rw [hj, hk]
        have e1 : pn - k = j + 1 := by omega
        have e2 : pn - (k + 1) = j := by omega
        rw [e1] at hD
        rw [e2]
        have hjl : j < pn := by omega
        have hS := suf_step p (i := j) (by have := HP.out; omega)
        have hb1 := suf_bd HFB.out (by have := HP.out; omega) j
        have hb2 := suf_bd HFB.out (by have := HP.out; omega) (j + 1)
        have hvb := HFB.out j
        obtain ⟨v, hv⟩ : ∃ v, p[j]?.getD 0 = v := ⟨_, rfl⟩
        obtain ⟨s1, hs1⟩ : ∃ v, suf p (j + 1) = v := ⟨_, rfl⟩
        obtain ⟨s0, hs0⟩ : ∃ v, suf p j = v := ⟨_, rfl⟩
        rw [hv, hs1, hs0] at hS
        rw [hs0] at hb1
        rw [hs1] at hb2 hD
        rw [hv] at hvb
        rw [hv, hs0]
        have hS' : s1 + v = s0 := by omega
        have HS := Lib.hid hS'
        have HJK := Lib.hid hpx
        have hdv : drV fs p j = fqF s0 (stK fs j) := by rw [← hs0]; rfl
        have hkb := stK_bd HZF.out (i := j) (by have := HN.out; omega)
        have HDV := Lib.hid hdv
        have g1 := cell_block hD.t11 0
        have g2 := frozen_block hD.t11 0
        clear hpx hj hk e1 e2 hS hv hs0 hs1 hS' hdv
        have hD1 := hD.sum (by omega) (s1 + v)
        gi_wp2
        have KO0 : KeepsOthers W (W.setCell ⟨b10 + 1, 0, none⟩ (.int .i64 (s1 + v))) := KeepsOthers.setCell _ _ _
        have KP0 : Keeps (fun b' => b' = b10 + 1 ∨ b' = g) W (W.setCell ⟨b10 + 1, 0, none⟩ (.int .i64 (s1 + v))) := Keeps.setCell _ _ _ (.inl rfl)
        clear g1 g2 hD
        generalize W.setCell ⟨b10 + 1, 0, none⟩ (.int .i64 (s1 + v)) = W1 at *
        refine Calmly.wpIn_region_mix 6 (.fl 0 <| .fl 1 <| .fl 2 <| .fl 3 <| .fl 4 <| .eff 5 <| .tail [6]) (by kernel_rfl) (by kernel_rfl) (by rintro a w (⟨h, _⟩ | ⟨h, _⟩) <;> cases h) ?_
        have BD : Below W1.heap.size W1 W1.drew := (Below.refl _ _).drew
        replace hD1 := hD1.keep BD
        have KO := KO0.trans (ko_below BD)
        have KP := KP0.trans (Keeps.of_below (L := fun b' => b' = b10 + 1 ∨ b' = g) BD)
        clear BD KO0 KP0
        generalize W1.drew = V5 at *
        have f1 := cell_block hD1.t11 0
        have f2 := cell_block hD1.t12 0
        have ck := hD1.k.cell j hjl
        rw [show ((List.range pn).map (stK fs))[j]?.getD 0 = stK fs j by simp [hjl]] at ck
        obtain ⟨K, hK⟩ : ∃ K, stK fs j = K := ⟨_, rfl⟩
        have hdv := HDV.out
        rw [hK] at ck hkb hdv
        rw [HS.out] at f1
        have HDV2 := Lib.hid hdv
        have HKK := Lib.hid hK
        have HD1 := Lib.hid hD1
        have HKO := Lib.hid KO
        have HKP := Lib.hid KP
        have hi1 : (j : Int) < (pn : Int) := by omega
        have hi0 : (0 : Int) ≤ (j : Int) := by omega
        clear hdv hK hD1 KO KP
        have hk := Below.refl V5.heap.size V5
        go_wp2_with (first | ((with_reducible refine Calmly.is_fl ?_); refine Calmly.mix_fl rfl ?_ (fun _ _ => ?_); (first | exact .move _ | exact .load _ _ | exact .fieldAddr _ _ _ (by kernel_rfl) | exact .assign _ | exact .binOp _ _ _ _ _ rfl | exact .indexAddr _ _ _ | exact .len _ _ (by kernel_rfl) | exact .field _ _ _ | exact .extract _ _ | exact .pick _ _ _ | exact .build _ _ | exact .slice _ _ _ _ _ | exact .unOp _ _ _ rfl | exact .index _ _ _ | exact .max _ _ _ rfl rfl | exact .min _ _ _ rfl rfl | exact .nilCheck _ _ rfl)) | ((with_reducible refine Calmly.is_gl ?_); refine Calmly.mix_gl rfl rfl rfl ?_; first | ((first | with_reducible refine Calmly.gl_tt ?_ (fun _ _ => ?_) | with_reducible refine Calmly.gl_ff ?_ (fun _ _ => ?_)); (first | exact .move _ | exact .load _ _ | exact .fieldAddr _ _ _ (by kernel_rfl) | exact .assign _ | exact .binOp _ _ _ _ _ rfl | exact .indexAddr _ _ _ | exact .len _ _ (by kernel_rfl) | exact .field _ _ _ | exact .extract _ _ | exact .pick _ _ _ | exact .build _ _ | exact .slice _ _ _ _ _ | exact .unOp _ _ _ rfl | exact .index _ _ _ | exact .max _ _ _ rfl rfl | exact .min _ _ _ rfl rfl | exact .nilCheck _ _ rfl)) | with_reducible refine Calmly.gl_tf (fun _ _ => ?_) | with_reducible refine Calmly.gl_ft (fun _ _ => ?_)) | ((with_reducible refine Calmly.is_eff ?_); refine Calmly.mix_eff rfl (fun _ _ => ?_)) | ((with_reducible refine Calmly.is_gf ?_); refine Calmly.mix_gf rfl rfl rfl ?_; first | with_reducible refine Calmly.gf_tt (fun _ _ => ?_) | with_reducible refine Calmly.gf_ff (fun _ _ => ?_) | with_reducible refine Calmly.gf_tf (kept_of hk) (fun _ _ => ?_) | with_reducible refine Calmly.gf_ft (kept_of hk) (fun _ _ => ?_)) | ((with_reducible refine Calmly.is_tail ?_); first | refine Calmly.mix_tail_nil ?_ | refine Calmly.mix_tail rfl (fun _ _ => ?_)) | ((with_reducible refine Calmly.is_kept ?_); refine ⟨kept_of hk, ?_⟩) | (with_reducible refine Calmly.mix_alt ?_ ?_))
        refine (dDivisor_any s0 K _ (by omega) (by omega) (by omega) (by omega)).mono ?_
        rintro e w9 ⟨rfl, nd, rfl⟩
        dsimp only
        replace hk := step_of hk (drawn _ nd)
        go_wp2_with (first | ((with_reducible refine Calmly.is_fl ?_); refine Calmly.mix_fl rfl ?_ (fun _ _ => ?_); (first | exact .move _ | exact .load _ _ | exact .fieldAddr _ _ _ (by kernel_rfl) | exact .assign _ | exact .binOp _ _ _ _ _ rfl | exact .indexAddr _ _ _ | exact .len _ _ (by kernel_rfl) | exact .field _ _ _ | exact .extract _ _ | exact .pick _ _ _ | exact .build _ _ | exact .slice _ _ _ _ _ | exact .unOp _ _ _ rfl | exact .index _ _ _ | exact .max _ _ _ rfl rfl | exact .min _ _ _ rfl rfl | exact .nilCheck _ _ rfl)) | ((with_reducible refine Calmly.is_gl ?_); refine Calmly.mix_gl rfl rfl rfl ?_; first | ((first | with_reducible refine Calmly.gl_tt ?_ (fun _ _ => ?_) | with_reducible refine Calmly.gl_ff ?_ (fun _ _ => ?_)); (first | exact .move _ | exact .load _ _ | exact .fieldAddr _ _ _ (by kernel_rfl) | exact .assign _ | exact .binOp _ _ _ _ _ rfl | exact .indexAddr _ _ _ | exact .len _ _ (by kernel_rfl) | exact .field _ _ _ | exact .extract _ _ | exact .pick _ _ _ | exact .build _ _ | exact .slice _ _ _ _ _ | exact .unOp _ _ _ rfl | exact .index _ _ _ | exact .max _ _ _ rfl rfl | exact .min _ _ _ rfl rfl | exact .nilCheck _ _ rfl)) | with_reducible refine Calmly.gl_tf (fun _ _ => ?_) | with_reducible refine Calmly.gl_ft (fun _ _ => ?_)) | ((with_reducible refine Calmly.is_eff ?_); refine Calmly.mix_eff rfl (fun _ _ => ?_)) | ((with_reducible refine Calmly.is_gf ?_); refine Calmly.mix_gf rfl rfl rfl ?_; first | with_reducible refine Calmly.gf_tt (fun _ _ => ?_) | with_reducible refine Calmly.gf_ff (fun _ _ => ?_) | with_reducible refine Calmly.gf_tf (kept_of hk) (fun _ _ => ?_) | with_reducible refine Calmly.gf_ft (kept_of hk) (fun _ _ => ?_)) | ((with_reducible refine Calmly.is_tail ?_); first | refine Calmly.mix_tail_nil ?_ | refine Calmly.mix_tail rfl (fun _ _ => ?_)) | ((with_reducible refine Calmly.is_kept ?_); refine ⟨kept_of hk, ?_⟩) | (with_reducible refine Calmly.mix_alt ?_ ?_))
        have HKO2 := Lib.hid (HKO.out.trans (ko_below hk))
        have HKP2 := Lib.hid (HKP.out.trans (Keeps.of_below hk))
        have hD2 := HD1.out.keep hk
        have hg0 : (0 : Int) < Int.gcd s0 K := by have := Int.gcd_pos_of_ne_zero_right (a := s0) (b := K) (by omega); omega
        have hg1 : (Int.gcd s0 K : Int) ≤ K := Int.gcd_le_right s0 (by omega)
        have hdv := HDV2.out
        unfold fqF at hdv
        obtain ⟨gg, hgg⟩ : ∃ g : Int, (Int.gcd s0 K : Int) = g := ⟨_, rfl⟩
        rw [hgg] at hdv hg0 hg1 ⊢
        have HDV3 := Lib.hid hdv
        have hg2 : (gg == 0) = false := by simp; omega
        have bb1 : -9223372036854775807 ≤ s0.tdiv gg ∧ s0.tdiv gg ≤ 9223372036854775807 := by
          have := Int.natAbs_tdiv_le_natAbs s0 gg
          omega
        have bb2 : -9223372036854775807 ≤ K.tdiv gg ∧ K.tdiv gg ≤ 9223372036854775807 := by
          have := Int.natAbs_tdiv_le_natAbs K gg
          omega
        obtain ⟨bb11, bb12⟩ := bb1
        obtain ⟨bb21, bb22⟩ := bb2
        clear hdv hgg hk f1 f2 ck HD1 HKO HKP
        generalize V5.drewN nd = W2 at *
        gi_wp2
        refine Calmly.wpIn_region_mix 12 (.fl 0 <| .fl 1 <| .fl 2 <| .fl 3 <| .fl 4 <| .fl 5 <| .fl 6 <| .fl 7 <| .fl 8 <| .fl 9 <| .fl 10 <| .fl 11 <| .tail [12, 13]) (by kernel_rfl) (by kernel_rfl) (by rintro a w (⟨h, _⟩ | ⟨h, _⟩) <;> cases h) ?_
        have BD : Below W2.heap.size W2 W2.drew := (Below.refl _ _).drew
        replace hD2 := hD2.keep BD
        have HKO3 := Lib.hid (HKO2.out.trans (ko_below BD))
        have HKP3 := Lib.hid (HKP2.out.trans (Keeps.of_below BD))
        clear BD HKO2 HKP2
        generalize W2.drew = V6 at *
        have f1 := cell_block hD2.t11 0
        have f2 := cell_block hD2.t12 0
        have f3 := cell_block hD2.t10 0
        have ck := hD2.k.cell j hjl
        rw [show ((List.range pn).map (stK fs))[j]?.getD 0 = stK fs j by simp [hjl]] at ck
        rw [HKK.out] at ck
        rw [HS.out] at f1
        obtain ⟨u0, u1, a1, a2, a3, a4⟩ := hD2.out.slots hjl (s0.tdiv gg)
        have hk := Below.refl V6.heap.size V6
        have HD2 := Lib.hid hD2
        clear hD2
        go_wp2_with (first | ((with_reducible refine Calmly.is_fl ?_); refine Calmly.mix_fl rfl ?_ (fun _ _ => ?_); (first | exact .move _ | exact .load _ _ | exact .fieldAddr _ _ _ (by kernel_rfl) | exact .assign _ | exact .binOp _ _ _ _ _ rfl | exact .indexAddr _ _ _ | exact .len _ _ (by kernel_rfl) | exact .field _ _ _ | exact .extract _ _ | exact .pick _ _ _ | exact .build _ _ | exact .slice _ _ _ _ _ | exact .unOp _ _ _ rfl | exact .index _ _ _ | exact .max _ _ _ rfl rfl | exact .min _ _ _ rfl rfl | exact .nilCheck _ _ rfl)) | ((with_reducible refine Calmly.is_gl ?_); refine Calmly.mix_gl rfl rfl rfl ?_; first | ((first | with_reducible refine Calmly.gl_tt ?_ (fun _ _ => ?_) | with_reducible refine Calmly.gl_ff ?_ (fun _ _ => ?_)); (first | exact .move _ | exact .load _ _ | exact .fieldAddr _ _ _ (by kernel_rfl) | exact .assign _ | exact .binOp _ _ _ _ _ rfl | exact .indexAddr _ _ _ | exact .len _ _ (by kernel_rfl) | exact .field _ _ _ | exact .extract _ _ | exact .pick _ _ _ | exact .build _ _ | exact .slice _ _ _ _ _ | exact .unOp _ _ _ rfl | exact .index _ _ _ | exact .max _ _ _ rfl rfl | exact .min _ _ _ rfl rfl | exact .nilCheck _ _ rfl)) | with_reducible refine Calmly.gl_tf (fun _ _ => ?_) | with_reducible refine Calmly.gl_ft (fun _ _ => ?_)) | ((with_reducible refine Calmly.is_eff ?_); refine Calmly.mix_eff rfl (fun _ _ => ?_)) | ((with_reducible refine Calmly.is_gf ?_); refine Calmly.mix_gf rfl rfl rfl ?_; first | with_reducible refine Calmly.gf_tt (fun _ _ => ?_) | with_reducible refine Calmly.gf_ff (fun _ _ => ?_) | with_reducible refine Calmly.gf_tf (kept_of hk) (fun _ _ => ?_) | with_reducible refine Calmly.gf_ft (kept_of hk) (fun _ _ => ?_)) | ((with_reducible refine Calmly.is_tail ?_); first | refine Calmly.mix_tail_nil ?_ | refine Calmly.mix_tail rfl (fun _ _ => ?_)) | ((with_reducible refine Calmly.is_kept ?_); refine ⟨kept_of hk, ?_⟩) | (with_reducible refine Calmly.mix_alt ?_ ?_))
        have hP9 := HD2.out.put hjl (s0.tdiv gg) (K.tdiv gg)
        rw [← HDV3.out, duL_step fs p HJK.out, HS.out] at hP9
        exact ⟨(HKO3.out.trans (KeepsOthers.setCell _ _ _)).trans (KeepsOthers.setCell _ _ _), (HKP3.out.trans (Keeps.setCell _ _ _ (.inr rfl))).trans (Keeps.setCell _ _ _ (.inr rfl)), hP9⟩
      case done =>
        rintro D ys W hD hys hI hK
        have hDs : w.heap.size ≤ D := by have := hI0.bel.size; omega
        rw [hys, Nat.sub_self, duL_all] at hI
        have HD := Lib.hid hDs
        have g2 := cell_block hI.t10 0
        clear hys hD hDs
        dsimp only
        go_wp2_with fail
        refine ⟨by simp, .inl ⟨_, _, rfl, run_takeDeferred hK, ?_⟩⟩
        refine ⟨.tuple #[.slice (some ⟨g, 0, none⟩) pn pn, .int .i64 0], by simp [results, Try.results67, go_sem], some ⟨g, 0, none⟩, pn, pn, by rw [H0.out], fun h => absurd H0.out h, fun _ => ?_, belowD hI.bel HD.out hK⟩
        rw [drS, ← HP.out]
        exact OwFcR.sr (owns_keeps hI.out (Keeps.put (L := fun _ => False) _ hK rfl) (fun _ _ h => h))
      case stop =>
        rintro D ys W hD h
        exact h.elim
end Go.Proofs.Ytaiikekgckjdeaa

namespace Go.Proofs.Ytaiikekgckjdeaa
open Go.RowKit
open Calmly (Kept)
set_option maxRecDepth 100000 in
set_option maxHeartbeats 4000000 in
theorem rFirst_any (a : Option Addr) (n c : Nat) (raw : List FlR) (fs : List Fl) (w : World) (h1 : FrV w a n c raw fs) (hz : (frmE fs).2 = 0) :
    Calls Try.prog 71 #[.agg #[.slice a n c]] w fun e w' => ∃ x : StR, e = .returned (.agg #[hv x.1, hv x.2.1, hv x.2.2]) ∧ StV w' x (bgSt fs) ∧ Below w.heap.size w w' := by
  have hn := h1.n_
  have m1 := h1.row.max
  have c1 := h1.row.cap
  have HN := Lib.hid hn
  have hok := frmE_ok hz
  have HO := Lib.hid hok
  have hn5 : n ≤ 5 := by omega
  clear hn hok
  have y0 := blk_keep (alloc_new w (.cells #[.slice a n c] 24)) ((Below.refl _ _).alloc (Nat.le_refl _) (.cells #[.slice none 0 0, .slice none 0 0, .slice none 0 0] 97))
  have y1 := alloc_new (w.alloc (.cells #[.slice a n c] 24)) (.cells #[.slice none 0 0, .slice none 0 0, .slice none 0 0] 97)
  have B1 : Below w.heap.size w ((w.alloc (.cells #[.slice a n c] 24)).alloc (.cells #[.slice none 0 0, .slice none 0 0, .slice none 0 0] 97)) := ((Below.refl _ _).alloc (Nat.le_refl _) _).alloc (by simp) _
  simp only [World.size_alloc] at y1
  have f0 := cell_block y0 0
  go_enter Try.func71, Try.ntmps71
  go_wp2_with fail
  generalize (w.alloc (.cells #[.slice a n c] 24)).alloc (.cells #[.slice none 0 0, .slice none 0 0, .slice none 0 0] 97) = w1 at *
  refine Calmly.wp_region_mix 6 (.fl 0 <| .fl 2 <| .alt 1 (.alt 3 (.fl 4 <| .eff 5 <| .tail [6]) (.eff 5 (.eff 3 <| .fl 4 <| .tail [6]))) (.alt 3 (.alt 1 (.fl 4 <| .eff 5 <| .tail [6]) (.eff 5 (.eff 1 <| .fl 4 <| .tail [6]))) (.eff 5 (.alt 1 (.eff 3 <| .fl 4 <| .tail [6]) (.eff 3 (.eff 1 <| .fl 4 <| .tail [6])))))) (by kernel_rfl) (by kernel_rfl) ?_
  rename_i K hK
  have hK' := fun a w (h : Stop _) => hK a w h.out
  clear hK
  have HKK : Hid (∀ (b6 : Nat) (a3 a7 : Option Addr) (X : World), BgI w b6 a a3 a7 n c fs 0 X → w.heap.size + 1 < b6 → K { tmps := #[.agg #[.slice a n c], .pointer (some ⟨w.heap.size, 0, none⟩), .pointer (some ⟨w.heap.size + 1, 0, none⟩), .int .i64 (n : Int), .pointer (some ⟨b6, 0, none⟩), undef, .pointer (some ⟨w.heap.size, 0, none⟩), .slice a n c, .int .i64 (n : Int), .int .i64 (n : Int), .slice a3 n n, .int .i64 (n : Int), .slice a7 n n, .agg #[.slice a3 n n, .slice a7 n n, .slice none 0 0], undef, undef, undef, undef, undef, undef, undef, undef, undef, undef, undef, undef, undef, undef, undef, undef, undef, undef], defers := [] } X) := Lib.hid (by
    intro b6 a3 a7 X hI hb6
    refine hK' _ _ ⟨?_⟩
    have g0 := cell_block hI.t1 0
    go_wp2_with fail
    go_loopw [5] (fun i wr => ∃ k : Nat, k ≤ n ∧ i = .int .i64 k ∧ BgI w b6 a a3 a7 n c fs k wr) (fun i _ => n - (intOf i).toNat)
    case atStart => exact ⟨0, by omega, rfl, hI⟩
    case round =>
      clear hI g0
      obtain ⟨k, hk, rfl, hI⟩ := hrel
      by_cases hlt : k < n
      · obtain ⟨cb, co, rfl, hcc⟩ := (h1.row.keep (hI.bel.mono (Nat.le_refl _))).at_ (by omega)
        obtain ⟨q0, q1, q2⟩ := hcc k hlt
        obtain ⟨-, -, hsel⟩ := (h1.keep (hI.bel.mono (Nat.le_refl _))).fl k (by rw [← HN.out]; exact hlt)
        obtain ⟨rr, hrr⟩ : ∃ rr, raw[k]?.getD flr0 = rr := ⟨_, rfl⟩
        obtain ⟨x0, x1, ⟨u1, u2, u3⟩⟩ := rr
        rw [hrr] at q0 q1 q2 hsel
        clear hrr hcc
        dsimp only [hv] at q0 q1 q2 hsel
        have hi1 : (k : Int) < (n : Int) := by omega
        have hi0 : (0 : Int) ≤ (k : Int) := by omega
        have gt1 := cell_block hI.t1 0
        go_wp2_with fail
        have BV : Below wr.heap.size wr wr.drew := (Below.refl _ _).drew
        replace q2 := cell_keep q2 BV
        replace gt1 := cell_block (blk_keep hI.t1 BV) 0
        refine Calmly.wp_region_mix 10 (.fl 0 <| .fl 1 <| .fl 2 <| .fl 3 <| .fl 4 <| .fl 5 <| .fl 6 <| .fl 7 <| .eff 8 <| .eff 9 <| .tail [10, 11, 12]) (by kernel_rfl) (by kernel_rfl) ?_
        generalize World.drew _ = V8 at *
        have HI := Lib.hid hI
        obtain ⟨i1, -, -, -, -, av, cv, rw', i6, i7, i8, i9⟩ := hI
        have H9 := Lib.hid i9
        have H8 := Lib.hid i8
        clear i8 i9
        have j6 := blk_keep i6 BV
        have j7 := i7.keep BV
        have hwV := i1.size
        have f1 := cell_block j6 2
        have hsl := hsel.keep BV
        have hfl := flErr_ok (HO.out.2 k (by rw [← HN.out]; exact hlt))
        have hl4 := (sprE_ok hfl.2.2).1
        have hu2 : u2 ≤ 4 := by rw [hsel.len]; exact hl4.2
        have hu3 := hsel.len
        have HU := Lib.hid hu3
        clear hfl hl4 hu3 q0 q1
        have hVs := BV.size
        have hk8 := Below.refl V8.heap.size V8
        have hk := hk8
        go_wp2_with (first | ((with_reducible refine Calmly.is_fl ?_); refine Calmly.mix_fl rfl ?_ (fun _ _ => ?_); (first | exact .move _ | exact .load _ _ | exact .fieldAddr _ _ _ (by kernel_rfl) | exact .assign _ | exact .binOp _ _ _ _ _ rfl | exact .indexAddr _ _ _ | exact .len _ _ (by kernel_rfl) | exact .field _ _ _ | exact .extract _ _ | exact .pick _ _ _ | exact .build _ _ | exact .slice _ _ _ _ _ | exact .unOp _ _ _ rfl | exact .index _ _ _ | exact .max _ _ _ rfl rfl | exact .min _ _ _ rfl rfl | exact .nilCheck _ _ rfl)) | ((with_reducible refine Calmly.is_gl ?_); refine Calmly.mix_gl rfl rfl rfl ?_; first | ((first | with_reducible refine Calmly.gl_tt ?_ (fun _ _ => ?_) | with_reducible refine Calmly.gl_ff ?_ (fun _ _ => ?_)); (first | exact .move _ | exact .load _ _ | exact .fieldAddr _ _ _ (by kernel_rfl) | exact .assign _ | exact .binOp _ _ _ _ _ rfl | exact .indexAddr _ _ _ | exact .len _ _ (by kernel_rfl) | exact .field _ _ _ | exact .extract _ _ | exact .pick _ _ _ | exact .build _ _ | exact .slice _ _ _ _ _ | exact .unOp _ _ _ rfl | exact .index _ _ _ | exact .max _ _ _ rfl rfl | exact .min _ _ _ rfl rfl | exact .nilCheck _ _ rfl)) | with_reducible refine Calmly.gl_tf (fun _ _ => ?_) | with_reducible refine Calmly.gl_ft (fun _ _ => ?_)) | ((with_reducible refine Calmly.is_eff ?_); refine Calmly.mix_eff rfl (fun _ _ => ?_)) | ((with_reducible refine Calmly.is_gf ?_); refine Calmly.mix_gf rfl rfl rfl ?_; first | with_reducible refine Calmly.gf_tt (fun _ _ => ?_) | with_reducible refine Calmly.gf_ff (fun _ _ => ?_) | with_reducible refine Calmly.gf_tf (kept_of hk) (fun _ _ => ?_) | with_reducible refine Calmly.gf_ft (kept_of hk) (fun _ _ => ?_)) | ((with_reducible refine Calmly.is_kept ?_); refine ⟨kept_of hk, ?_⟩) | (with_reducible refine Calmly.mix_alt ?_ ?_))
        refine (rBegin_any u1 u2 u3 _ _ (hsl.keep hk) (by omega)).mono ?_
        rintro e w3 ⟨av2, rfl, hoS, hs3⟩
        replace hk := step_of hk hs3
        clear hk8
        have k6 := blk_keep j6 hk
        have k7 := j7.keep hk
        have hms := hoS.ss.max
        have hks := hk.size
        go_wp2_with (first | ((with_reducible refine Calmly.is_tail ?_); refine Calmly.mix_tail_app rfl (fun rest hrest => ?_); refine appRec w3 95 49 (new := [.int .i64 0, .slice av2 u2 u2]) rfl rfl _ _ rfl Try.underlying95 Try.info_hor rfl (by decide) (by decide) k7 rfl rfl rfl (oneCell_HoR (0, (av2, u2, u2))) (by omega) (by omega) (fun a9 c9 w9 ho9 hb9 hko9 hsm9 => ?_); refine hrest _ _ ?_; have k9 := (hsm9 b6 (blk_lt k6) (BlkT.not ⟨_, k6⟩ (by decide))).trans k6; have f5 := cell_block k9 2; have f6 := frozen_block k9 2) | ((with_reducible refine Calmly.is_fl ?_); refine Calmly.mix_fl rfl ?_ (fun _ _ => ?_); (first | exact .move _ | exact .load _ _ | exact .fieldAddr _ _ _ (by kernel_rfl) | exact .assign _ | exact .binOp _ _ _ _ _ rfl | exact .indexAddr _ _ _ | exact .len _ _ (by kernel_rfl) | exact .field _ _ _ | exact .extract _ _ | exact .pick _ _ _ | exact .build _ _ | exact .slice _ _ _ _ _ | exact .unOp _ _ _ rfl | exact .index _ _ _ | exact .max _ _ _ rfl rfl | exact .min _ _ _ rfl rfl | exact .nilCheck _ _ rfl)) | ((with_reducible refine Calmly.is_gl ?_); refine Calmly.mix_gl rfl rfl rfl ?_; first | ((first | with_reducible refine Calmly.gl_tt ?_ (fun _ _ => ?_) | with_reducible refine Calmly.gl_ff ?_ (fun _ _ => ?_)); (first | exact .move _ | exact .load _ _ | exact .fieldAddr _ _ _ (by kernel_rfl) | exact .assign _ | exact .binOp _ _ _ _ _ rfl | exact .indexAddr _ _ _ | exact .len _ _ (by kernel_rfl) | exact .field _ _ _ | exact .extract _ _ | exact .pick _ _ _ | exact .build _ _ | exact .slice _ _ _ _ _ | exact .unOp _ _ _ rfl | exact .index _ _ _ | exact .max _ _ _ rfl rfl | exact .min _ _ _ rfl rfl | exact .nilCheck _ _ rfl)) | with_reducible refine Calmly.gl_tf (fun _ _ => ?_) | with_reducible refine Calmly.gl_ft (fun _ _ => ?_)) | ((with_reducible refine Calmly.is_eff ?_); refine Calmly.mix_eff rfl (fun _ _ => ?_)) | ((with_reducible refine Calmly.is_gf ?_); refine Calmly.mix_gf rfl rfl rfl ?_; first | with_reducible refine Calmly.gf_tt (fun _ _ => ?_) | with_reducible refine Calmly.gf_ff (fun _ _ => ?_) | with_reducible refine Calmly.gf_tf (kept_of hk) (fun _ _ => ?_) | with_reducible refine Calmly.gf_ft (kept_of hk) (fun _ _ => ?_)) | ((with_reducible refine Calmly.is_tail ?_); first | refine Calmly.mix_tail_nil ?_ | refine Calmly.mix_tail rfl (fun _ _ => ?_)) | ((with_reducible refine Calmly.is_kept ?_); refine ⟨kept_of hk, ?_⟩) | (with_reducible refine Calmly.mix_alt ?_ ?_) | (refine kept_alloc hk (fun hk' hblk hge => ?_); replace hk := hk'; clear hk'))
        go_roundw
        case rel =>
          refine ⟨k + 1, by omega, by go_num, BgI.step HI.out hb6 BV hs3 hb9 ⟨hb9.size, hsm9⟩ k9 H8.out H9.out ho9 ?_⟩
          have e9 : List.replicate u2 sp0 = bgS (fs[k]?.getD fl0).2.2 := by rw [bgS, HU.out]
          rw [e9] at hoS
          exact hoS
        case measure => simp [intOf]; omega
      · obtain rfl : k = n := by omega
        have hle : (k : Int) ≤ (k : Int) := by omega
        have hnlt : ¬ (k : Int) < (k : Int) := by omega
        have HI := Lib.hid hI
        obtain ⟨i1, -, i3, -, -, av, cv, rw', i6, i7, i8, i9⟩ := hI
        have H9 := Lib.hid i9
        have H8 := Lib.hid i8
        clear i8 i9
        have hml := i7.sr.max
        have hmc := i7.sr.cap
        have f1 := cell_block i6 0
        have f2 := cell_block i6 1
        have f3 := cell_block i6 2
        have g1 := cell_block i3 0
        have g2 := cell_block i3 1
        have g3 := cell_block i3 2
        have g4 := frozen_block i3 0
        have g5 := frozen_block i3 1
        have g6 := frozen_block i3 2
        go_wp2_with fail
        have hw : w.heap.size ≤ w.heap.size + 1 := by omega
        have q0 := setBlk (setBlk (setBlk i3 0 (.slice a3 k k)) 1 (.slice a7 k k)) 2 (.slice av k cv)
        simp at q0
        have e0 := cell_block q0 0
        have e1 := cell_block q0 1
        have e2 := cell_block q0 2
        have B4 := ((i1.setCell (p := ⟨w.heap.size + 1, 0, none⟩) hw (.slice a3 k k)).setCell (p := ⟨w.heap.size + 1, 1, none⟩) hw (.slice a7 k k)).setCell (p := ⟨w.heap.size + 1, 2, none⟩) hw (.slice av k cv)
        have hBt : But 97 wr (((wr.setCell ⟨w.heap.size + 1, 0, none⟩ (.slice a3 k k)).setCell ⟨w.heap.size + 1, 1, none⟩ (.slice a7 k k)).setCell ⟨w.heap.size + 1, 2, none⟩ (.slice av k cv)) := ⟨by simp, fun b _ hne => by
          have hb : b ≠ w.heap.size + 1 := by rintro rfl; exact hne ⟨_, i3⟩
          rw [Below.heap_setCell _ _ _ _ hb, Below.heap_setCell _ _ _ _ hb, Below.heap_setCell _ _ _ _ hb]⟩
        refine bodyPost_ret (v := .agg #[.slice a3 k k, .slice a7 k k, .slice av k cv]) (by simp [results, Try.results71, go_sem, e0, e1, e2]) rfl ⟨a3, k, k, a7, k, k, av, k, cv, rfl, HI.out.stV HN.out i7 H8.out H9.out hBt, B4⟩)
  clear hK'
  replace y0 := blk_keep y0 (Below.refl _ _).drew
  replace y1 := blk_keep y1 (Below.refl _ _).drew
  replace B1 := B1.drew
  generalize w1.drew = V at *
  clear f0
  have f0 := cell_block y0 0
  have hk := Below.refl V.heap.size V
  have hn6 : n ≤ 1000000 := by omega
  go_wp2_with (first | (refine mix_makeIa 1 (n := n) rfl rfl rfl rfl hn6 (fun a3 w' ho3 hb => ?_); have hge3 := hk.size; (try replace ho7 := ho7.keepM hb); (try replace y6 := blk_keep y6 hb); replace hk := step_of hk hb; (try have z0 := cell_block y6 0); (try have z1 := cell_block y6 1); (try have z2 := cell_block y6 2); (try have z3 := frozen_block y6 0); (try have z4 := frozen_block y6 1); (try have z5 := frozen_block y6 2); refine ⟨kept_of hk, ?_⟩; clear hb) | (refine mix_makeIa 3 (n := n) rfl rfl rfl rfl hn6 (fun a7 w' ho7 hb => ?_); have hge7 := hk.size; (try replace ho3 := ho3.keepM hb); (try replace y6 := blk_keep y6 hb); replace hk := step_of hk hb; (try have z0 := cell_block y6 0); (try have z1 := cell_block y6 1); (try have z2 := cell_block y6 2); (try have z3 := frozen_block y6 0); (try have z4 := frozen_block y6 1); (try have z5 := frozen_block y6 2); refine ⟨kept_of hk, ?_⟩; clear hb) | (refine kept_allocR hk (fun hb hk2 y6 hge6 => ?_); (try replace ho3 := ho3.keepM hb); (try replace ho7 := ho7.keepM hb); replace hk := hk2; clear hb hk2; generalize World.alloc _ (.cells #[.slice none 0 0, .slice none 0 0, .slice none 0 0] 97) = W' at *; (try have z0 := cell_block y6 0); (try have z1 := cell_block y6 1); (try have z2 := cell_block y6 2); (try have z3 := frozen_block y6 0); (try have z4 := frozen_block y6 1); (try have z5 := frozen_block y6 2)) | ((with_reducible refine Calmly.is_fl ?_); refine Calmly.mix_fl rfl ?_ (fun _ _ => ?_); (first | exact .move _ | exact .load _ _ | exact .fieldAddr _ _ _ (by kernel_rfl) | exact .assign _ | exact .binOp _ _ _ _ _ rfl | exact .indexAddr _ _ _ | exact .len _ _ (by kernel_rfl) | exact .field _ _ _ | exact .extract _ _ | exact .pick _ _ _ | exact .build _ _ | exact .slice _ _ _ _ _ | exact .unOp _ _ _ rfl | exact .index _ _ _ | exact .max _ _ _ rfl rfl | exact .min _ _ _ rfl rfl | exact .nilCheck _ _ rfl)) | ((with_reducible refine Calmly.is_gl ?_); refine Calmly.mix_gl rfl rfl rfl ?_; first | ((first | with_reducible refine Calmly.gl_tt ?_ (fun _ _ => ?_) | with_reducible refine Calmly.gl_ff ?_ (fun _ _ => ?_)); (first | exact .move _ | exact .load _ _ | exact .fieldAddr _ _ _ (by kernel_rfl) | exact .assign _ | exact .binOp _ _ _ _ _ rfl | exact .indexAddr _ _ _ | exact .len _ _ (by kernel_rfl) | exact .field _ _ _ | exact .extract _ _ | exact .pick _ _ _ | exact .build _ _ | exact .slice _ _ _ _ _ | exact .unOp _ _ _ rfl | exact .index _ _ _ | exact .max _ _ _ rfl rfl | exact .min _ _ _ rfl rfl | exact .nilCheck _ _ rfl)) | with_reducible refine Calmly.gl_tf (fun _ _ => ?_) | with_reducible refine Calmly.gl_ft (fun _ _ => ?_)) | ((with_reducible refine Calmly.is_eff ?_); refine Calmly.mix_eff rfl (fun _ _ => ?_)) | ((with_reducible refine Calmly.is_gf ?_); refine Calmly.mix_gf rfl rfl rfl ?_; first | with_reducible refine Calmly.gf_tt (fun _ _ => ?_) | with_reducible refine Calmly.gf_ff (fun _ _ => ?_) | with_reducible refine Calmly.gf_tf (kept_of hk) (fun _ _ => ?_) | with_reducible refine Calmly.gf_ft (kept_of hk) (fun _ _ => ?_)) | ((with_reducible refine Calmly.is_tail ?_); first | refine Calmly.mix_tail_nil ?_ | refine Calmly.mix_tail rfl (fun _ _ => ?_)) | ((with_reducible refine Calmly.is_kept ?_); refine ⟨kept_of hk, ?_⟩) | (with_reducible refine Calmly.mix_alt ?_ ?_))
  all_goals
    have hVw := B1.size
    have hV1 := blk_lt y1
    apply HKK.out
    · exact BgI.start (B1.trans (hk.mono B1.size)) (blk_keep y0 hk) (blk_keep y1 hk) (owns_lower ho3 (by omega)) (owns_lower ho7 (by omega)) y6 (by omega)
    · omega
end Go.Proofs.Ytaiikekgckjdeaa
