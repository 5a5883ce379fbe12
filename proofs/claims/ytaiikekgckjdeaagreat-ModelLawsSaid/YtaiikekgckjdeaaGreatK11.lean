/- The state after a step. Plain: a state after a step is one that a step may begin from; all states of a run. States that share no memory. -/
import Derived.Test.YtaiikekgckjdeaaGreatK10
namespace Go.Proofs.YtaiikekgckjdeaaGreat
open Go.RowKit Go.Shelf
attribute [local go_sem] Oper.semAt_some
open Calmly (Kept)

theorem eqnil_none (w : World) : Sem.run Tryz.prog (binOp .eql 29 (.slice none 0 0) (.slice none 0 0)) w = .ok (.bool true) w := by kernel_rfl
theorem eqnil_some (x : Addr) (n c : Nat) (w : World) : Sem.run Tryz.prog (binOp .eql 29 (.slice (some x) n c) (.slice none 0 0)) w = .ok (.bool false) w := by kernel_rfl
set_option maxRecDepth 100000 in
set_option maxHeartbeats 400000 in
theorem clone_any (a : Option Addr) (n c : Nat) (xs : List Int) (w : World) (h1 : SI w a n c xs) (hn : n ≤ 1099511627776) :
    Calls Tryz.prog 99 #[.slice a n c] w fun e w' => ∃ a' c', e = .returned (.slice a' n c') ∧ OwI w' w.heap.size a' n c' xs ∧ Below w.heap.size w w' := by
  have hc := h1.cap
  have hm := h1.max
  rcases a with _ | p
  · obtain ⟨rfl, rfl, rfl⟩ := h1.none_
    go_enter Tryz.func99, Tryz.ntmps99
    have hq := eqnil_none w
    go_wp2_with fail
    go_ret
    exact ⟨none, 0, rfl, OwI.nil _ _, Below.refl _ _⟩
  · have hb : Below w.heap.size w (w.alloc (.cells #[] 3)) := (Below.refl _ _).alloc (Nat.le_refl _) _
    go_enter Tryz.func99, Tryz.ntmps99
    have hq := eqnil_some p n c w
    go_wp2_with (at_builtin; refine appL rfl _ _ rfl (OwI.empty w (Nat.le_refl _)) (h1.keep hb) rfl rfl (by omega) (by simp) ?_; intro a' c' w1 ho hb1)
    go_ret
    exact ⟨a', c', rfl, by simpa using ho, hb.trans hb1⟩
/-- The hold of a storey after a step. -/
def hoS (fs : List Fl) (s : St) (xs : List Int) (i : Nat) : Ho := (dr xs i, mvdS (fs[i]?.getD fl0).2.2 (s.2.2[i]?.getD ho0).2 (dr xs i))
def hoP (fs : List Fl) (s : St) (xs : List Int) {n : Nat} (pre : List (Fin n)) : List Ho := pre.map (fun i => hoS fs s xs i.val)
def steS (fs : List Fl) (s : St) (xs : List Int) : St := (xs, s.1, (List.range fs.length).map (hoS fs s xs))
/-- What lies between two rounds. -/
structure StI (w : World) (N b b3 : Nat) (xa ca : Option Addr) (n xc cc : Nat) (now : List Int) (hs : List Ho) (W : World) : Prop where
  bel : Below w.heap.size w W
  t1 : W.heap[w.heap.size]? = some (.cells #[.pointer (some ⟨b, 0, none⟩)] 143)
  t2 : W.heap[w.heap.size + 1]? = some (.cells #[.slice none 0 0, .slice none 0 0, .slice none 0 0] 116)
  cl : OwI W w.heap.size ca n cc now
  hol : ∃ ha hc rw, W.heap[b3]? = some (.cells #[.slice xa n xc, .slice ca n cc, .slice ha hs.length hc] 116) ∧ OwHoR W N ha hs.length hc rw ∧ rw.length = hs.length ∧ ∀ i, i < hs.length → (rw[i]?.getD hor0).1 = (hs[i]?.getD ho0).1 ∧ SSp W (rw[i]?.getD hor0).2.1 (rw[i]?.getD hor0).2.2.1 (rw[i]?.getD hor0).2.2.2 (hs[i]?.getD ho0).2 ∧ In W 75 (rw[i]?.getD hor0).2.1
  sz : N ≤ W.heap.size
theorem StI.keep {w : World} {N b b3 : Nat} {xa ca : Option Addr} {n xc cc : Nat} {now : List Int} {hs : List Ho} {W W' : World} (h : StI w N b b3 xa ca n xc cc now hs W) (hb : Below W.heap.size W W') : StI w N b b3 xa ca n xc cc now hs W' := by
  obtain ⟨i1, i2, i3, i4, ⟨ha, hc, rw', i5, i6, i7, i8⟩, i9⟩ := h
  exact ⟨i1.trans (hb.mono i1.size), blk_keep i2 hb, blk_keep i3 hb, i4.keepM hb, ⟨ha, hc, rw', blk_keep i5 hb, i6.keep hb, i7, fun i hi => ⟨(i8 i hi).1, (i8 i hi).2.1.keep hb, (i8 i hi).2.2.keep hb⟩⟩, by have := hb.size; omega⟩
theorem Sl.keepsF {A B : World} (h : Keeps (fun _ => False) A B) {k : Nat} {a : Option Addr} {n c : Nat} {xs : List Value} (hs : Sl A k a n c xs) : Sl B k a n c xs := h.sl hs (fun _ _ _ _ h => h)
theorem In.keepsF {A B : World} (h : Keeps (fun _ => False) A B) {e : TypeId} {a : Option Addr} (hs : In A e a) : In B e a := by
  rcases hs with h1 | ⟨b, o, h1, cs, h2⟩
  · exact .inl h1
  · exact .inr ⟨b, o, h1, cs, h.blk (fun h => h) h2⟩
theorem StI.grown {w : World} {N B b b3 : Nat} {xa ca : Option Addr} {n xc cc : Nat} {now : List Int} {hs : List Ho} {W W' : World} {row : Option Nat} (h : StI w N b b3 xa ca n xc cc now hs W) (hB : w.heap.size ≤ B) (hg : W.grownBy W' row) (hr : ∀ r, row = some r → B ≤ r ∧ ∃ o : Obj, W.heap[r]? = some o ∧ o.isCells = false) : StI w N b b3 xa ca n xc cc now hs W' := by
  have hk := keeps_of_grown hg (fun r e => (hr r e).2)
  obtain ⟨i1, i2, i3, i4, ⟨ha, hc, rw', i5, i6, i7, i8⟩, i9⟩ := h
  exact ⟨i1.trans (grown_below hg i1.size (fun k e => by have := (hr k e).1; omega)), hk.blk (by simp) i2, hk.blk (by simp) i3, owns_keeps i4 hk (fun _ _ h => h), ⟨ha, hc, rw', hk.blk (by simp) i5, owns_keeps i6 hk (fun _ _ h => h), i7, fun i hi => ⟨(i8 i hi).1, Sl.keepsF hk (i8 i hi).2.1, In.keepsF hk (i8 i hi).2.2⟩⟩, by have := hk.size; omega⟩
theorem StI.start {w : World} {N b b3 : Nat} {xa ca : Option Addr} {n xc cc : Nat} {now : List Int} {X : World} (B : Below w.heap.size w X) (t1 : X.heap[w.heap.size]? = some (.cells #[.pointer (some ⟨b, 0, none⟩)] 143)) (t2 : X.heap[w.heap.size + 1]? = some (.cells #[.slice none 0 0, .slice none 0 0, .slice none 0 0] 116)) (cl : OwI X w.heap.size ca n cc now)
    (y6 : X.heap[b3]? = some (.cells #[.slice none 0 0, .slice none 0 0, .slice none 0 0] 116)) (hb : w.heap.size + 1 < b3) (hN : N ≤ X.heap.size) :
    StI w N b b3 xa ca n xc cc now [] (((X.setCell ⟨b3, 0, none⟩ (.slice xa n xc)).setCell ⟨b3, 1, none⟩ (.slice ca n cc)).setCell ⟨b3, 2, none⟩ (.slice none 0 0)) := by
  have hne : ∀ b, b ≠ b3 → (((X.setCell ⟨b3, 0, none⟩ (.slice xa n xc)).setCell ⟨b3, 1, none⟩ (.slice ca n cc)).setCell ⟨b3, 2, none⟩ (.slice none 0 0)).heap[b]? = X.heap[b]? := fun b h => by
    rw [Below.heap_setCell _ _ _ _ h, Below.heap_setCell _ _ _ _ h, Below.heap_setCell _ _ _ _ h]
  have q6 := setBlk (setBlk (setBlk y6 0 (.slice xa n xc)) 1 (.slice ca n cc)) 2 (.slice none 0 0)
  have hw : w.heap.size ≤ b3 := by omega
  exact ⟨((B.setCell hw _).setCell hw _).setCell hw _, (hne _ (by omega)).trans t1, (hne _ (by omega)).trans t2, owns_other cl hne ⟨_, y6⟩ (by decide), ⟨none, 0, [], by simpa using q6, OwHoR.nil _ _, rfl, fun i hi => by cases hi⟩, by simp only [World.size_setCell]; exact hN⟩
theorem StI.more {w : World} {N b b3 : Nat} {xa ca : Option Addr} {n xc cc : Nat} {now : List Int} {W : World} (h : ∀ N, N ≤ W.heap.size → StI w N b b3 xa ca n xc cc now [] W) {W' : World} (hb : Below W.heap.size W W') (hN : N ≤ W'.heap.size) (hx : W.heap[b3]? = some (.cells #[.slice xa n xc, .slice ca n cc, .slice none 0 0] 116)) : StI w N b b3 xa ca n xc cc now [] W' := by
  have h0 := (h 0 (by omega)).keep hb
  exact ⟨h0.bel, h0.t1, h0.t2, h0.cl, ⟨none, 0, [], blk_keep hx hb, OwHoR.nil _ _, rfl, fun i hi => by cases hi⟩, hN⟩
theorem StI.step {w : World} {N b b3 : Nat} {xa ca : Option Addr} {n xc cc : Nat} {now : List Int} {hs : List Ho} {Z w9 : World} (h : StI w N b b3 xa ca n xc cc now hs Z) (hb3 : w.heap.size + 1 < b3) (hNw : w.heap.size ≤ N) (h9 : Below N Z w9) (hB : But 57 Z w9)
    {a9 ha av : Option Addr} {c9 hc e2 cv : Nat} {d : Int} {rows : List Sp} {rw' : List HoR} (k9 : w9.heap[b3]? = some (.cells #[.slice xa n xc, .slice ca n cc, .slice ha hs.length hc] 116)) (i7 : rw'.length = hs.length)
    (i8 : ∀ i, i < hs.length → (rw'[i]?.getD hor0).1 = (hs[i]?.getD ho0).1 ∧ SSp Z (rw'[i]?.getD hor0).2.1 (rw'[i]?.getD hor0).2.2.1 (rw'[i]?.getD hor0).2.2.2 (hs[i]?.getD ho0).2 ∧ In Z 75 (rw'[i]?.getD hor0).2.1)
    (ho9 : w9.ownsRow N 57 2 (.slice a9 (hs.length + 1) c9) (hs.length + 1) (rw'.flatMap encHoR ++ [.int .i64 d, .slice av e2 cv])) (hS : SSp Z av e2 cv rows) (hSi : In Z 75 av) :
    StI w N b b3 xa ca n xc cc now (hs ++ [(d, rows)]) (w9.setCell ⟨b3, 2, none⟩ (.slice a9 (hs.length + 1) c9)) := by
  obtain ⟨i1, i2, i3, i4, _, i9⟩ := h
  have hB6 : But 116 w9 (w9.setCell ⟨b3, 2, none⟩ (.slice a9 (hs.length + 1) c9)) := But.setCell ⟨_, k9⟩
  have hne : ∀ b, b ≠ b3 → (w9.setCell ⟨b3, 2, none⟩ (.slice a9 (hs.length + 1) c9)).heap[b]? = w9.heap[b]? := fun b hb => Below.heap_setCell _ _ _ _ hb
  have ks : ∀ (aa : Option Addr) (nn cc : Nat) (l : List Sp), SSp Z aa nn cc l → In Z 75 aa → SSp (w9.setCell ⟨b3, 2, none⟩ (.slice a9 (hs.length + 1) c9)) aa nn cc l ∧ In (w9.setCell ⟨b3, 2, none⟩ (.slice a9 (hs.length + 1) c9)) 75 aa := fun aa nn cc l h1 h2 =>
    ⟨(h1.but h2 hB (by decide)).but (h2.but hB (by decide)) hB6 (by decide), (h2.but hB (by decide)).but hB6 (by decide)⟩
  have q6 := setBlk k9 2 (.slice a9 (hs.length + 1) c9)
  refine ⟨(i1.trans (h9.mono hNw)).setCell (by show w.heap.size ≤ b3; omega) _, ?_, ?_, ?_, ⟨a9, c9, rw' ++ [(d, (av, e2, cv))], ?_, ?_, ?_, ?_⟩, ?_⟩
  · exact (hne _ (by omega)).trans (blk_but i2 hB (by decide))
  · exact (hne _ (by omega)).trans (blk_but i3 hB (by decide))
  · exact owns_other (owns_but i4 hB (by decide)) hne ⟨_, k9⟩ (by decide)
  · rw [List.length_append]
    simpa using q6
  · rw [List.length_append]
    unfold OwHoR
    rw [List.flatMap_append]
    exact owns_other ho9 hne ⟨_, k9⟩ (by decide)
  · rw [List.length_append, List.length_append, i7]; rfl
  · intro i hi
    rcases Nat.lt_or_ge i hs.length with hik | hik
    · rw [List.getElem?_append_left (by omega), List.getElem?_append_left hik]
      obtain ⟨r1, r2, r3⟩ := i8 i hik
      obtain ⟨r4, r5⟩ := ks _ _ _ _ r2 r3
      exact ⟨r1, r4, r5⟩
    · have hi' : i = hs.length := by
        rw [List.length_append] at hi
        simp at hi
        omega
      subst hi'
      rw [List.getElem?_append_right (by omega), List.getElem?_append_right (by omega), i7, Nat.sub_self]
      obtain ⟨r4, r5⟩ := ks _ _ _ _ hS hSi
      exact ⟨rfl, r4, r5⟩
  · simp only [World.size_setCell]
    have := h9.size
    omega
set_option maxRecDepth 100000 in
set_option maxHeartbeats 8000000 in
theorem stateOf_any (b : Nat) (a a1 a3 xa : Option Addr) (n c c1 c3 xc : Nat) (y2 y4 y5 : Value) (raw : List FlR) (fs : List Fl) (s : St) (raw3 : List HoR) (xs : List Int) (w : World) (h1 : FrV w a n c raw fs) (hx : w.heap[b]? = some (.cells #[.slice a n c, .slice a1 n c1, y2, .slice a3 n c3, y4, y5, .slice xa n xc] 157)) (h2 : SI w xa n xc xs) (h2i : In w 3 xa)
    (v1 : SI w a1 n c1 s.1) (v5 : HlV w a3 n c3 raw3 s.2.2) (ok : StOk fs s) (hb : ∀ i : Nat, -1000000000000 ≤ xs[i]?.getD 0 ∧ xs[i]?.getD 0 ≤ 1000000000000) (hd : ∀ i, i < n → plc (dr xs i) = true) :
    Calls Tryz.prog 84 #[.pointer (some ⟨b, 0, none⟩)] w fun e w' => ∃ ca cc ha hc, e = .returned (.agg #[.slice xa n xc, .slice ca n cc, .slice ha n hc]) ∧ StV w' ((xa, n, xc), (ca, n, cc), (ha, n, hc)) (steS fs s xs) ∧ Below w.heap.size w w' := by
  have hn := h1.n_
  have m1 := h1.row.max
  have q1 := h1.row.cap
  have m2 := h2.max
  have q2 := h2.cap
  have m3 := v1.max
  have q3 := v1.cap
  have m4 := v5.row.max
  have q4 := v5.row.cap
  have HN := Lib.hid hn
  have hf := frmE_ok ok.frm
  have hn5 : n ≤ 5 := by omega
  have HFO := Lib.hid hf
  have OK := Lib.hid ok
  have HB := Lib.hid hb
  have HD := Lib.hid hd
  clear hn hf hb hd ok
  have y0 := blk_keep (alloc_new w (.cells #[.pointer (some ⟨b, 0, none⟩)] 143)) ((Below.refl _ _).alloc (Nat.le_refl _) (.cells #[.slice none 0 0, .slice none 0 0, .slice none 0 0] 116))
  have yr := alloc_new (w.alloc (.cells #[.pointer (some ⟨b, 0, none⟩)] 143)) (.cells #[.slice none 0 0, .slice none 0 0, .slice none 0 0] 116)
  have BW : Below w.heap.size w ((w.alloc (.cells #[.pointer (some ⟨b, 0, none⟩)] 143)).alloc (.cells #[.slice none 0 0, .slice none 0 0, .slice none 0 0] 116)) := ((Below.refl _ _).alloc (Nat.le_refl _) _).alloc (by simp) _
  simp only [World.size_alloc] at yr
  refine (callsIn_wide (n := 5)).1 ?_
  refine callsIn_of_wp_marks Tryz.func84 rfl trivial ?_ rfl
  simp only [Tryz.ntmps84, List.size_toArray, List.length_cons, List.length_nil, Nat.reduceAdd, Nat.reduceSub, Array.replicate_succ, Array.replicate_zero, List.push_toArray, List.append_toArray, List.nil_append, List.cons_append]
  refine wpIn_wide.2 ?_
  go_wp2_with fail
  generalize (w.alloc (.cells #[.pointer (some ⟨b, 0, none⟩)] 143)).alloc (.cells #[.slice none 0 0, .slice none 0 0, .slice none 0 0] 116) = W2 at *
  refine Calmly.wp_region_mix 12 (.fl 0 <| .fl 1 <| .fl 2 <| .fl 3 <| .fl 4 <| .fl 5 <| .fl 6 <| .fl 7 <| .fl 8 <| .alt 9 (.fl 10 <| .eff 11 <| .tail [12]) (.eff 11 (.eff 9 <| .fl 10 <| .tail [12]))) (by kernel_rfl) (by kernel_rfl) ?_
  rename_i K hK
  have hK' := fun a w (h : Stop _) => hK a w h.out
  clear hK
  have HKK : Hid (∀ (b3 : Nat) (ca : Option Addr) (cc : Nat) (X : World), (∀ N, N ≤ X.heap.size → StI w N b b3 xa ca n xc cc s.1 [] X) → X.heap[b3]? = some (.cells #[.slice xa n xc, .slice ca n cc, .slice none 0 0] 116) → w.heap.size + 1 < b3 → K { tmps := #[.pointer (some ⟨b, 0, none⟩), .pointer (some ⟨w.heap.size, 0, none⟩), .pointer (some ⟨w.heap.size + 1, 0, none⟩), .pointer (some ⟨b3, 0, none⟩), undef, undef, undef, undef, .pointer (some ⟨b, 0, none⟩), .pointer (some ⟨b, 0, none⟩), .pointer (some ⟨b, 6, none⟩), .slice xa n xc, .pointer (some ⟨b, 0, none⟩), .pointer (some ⟨b, 0, none⟩), .pointer (some ⟨b, 1, none⟩), .pointer (some ⟨b, 1, none⟩), .slice a1 n c1, .slice ca n cc, .agg #[.slice xa n xc, .slice ca n cc, .slice none 0 0], undef, undef, undef, undef, undef, undef, undef, undef, undef, undef, undef, undef, undef, undef, undef, undef, undef, undef, undef, undef, undef, undef, undef, undef, undef, undef, undef, undef, undef, undef, undef, undef, undef, undef, undef, undef], defers := [] } X) := Lib.hid (by
    intro b3 ca cc X hIN hx6 hb3
    refine hK' _ _ ⟨?_⟩
    have hI := hIN 0 (by omega)
    have hx3 := blk_keep hx hI.bel
    have g1 := cell_block hI.t1 0
    have g2 := cell_block hx3 6
    go_wp2_with fail
    refine (drifts_any xa n xc X).mono ?_
    rintro e w3 ⟨rfl, rfl⟩
    have BV : Below X.heap.size X (X.alloc (.cells #[.slice xa n xc] 29)) := (Below.refl _ _).alloc (Nat.le_refl _) _
    have z0 := alloc_new X (.cells #[.slice xa n xc] 29)
    have hszV : (X.alloc (.cells #[.slice xa n xc] 29)).heap.size = X.heap.size + 1 := by simp
    have hIV : StI w (X.heap.size + 1) b b3 xa ca n xc cc s.1 [] (X.alloc (.cells #[.slice xa n xc] 29)) := StI.more hIN BV (by simp) hx6
    have hb3X := blk_lt hx6
    have hwX := hI.bel.size
    have HSZ := Lib.hid hszV
    clear hszV
    go_wp2_with fail
    generalize X.alloc (.cells #[.slice xa n xc] 29) = V at *
    refine (wpIn_wide (n := 5)).1 ?_
    refine range_mid (gf := 85) (m := 4) rfl (enters_of Tryz.func85 (by kernel_rfl) rfl) (enc := fun i : Fin n => #[.int .i64 (i.val : Int), .int .i64 (dr xs i.val)]) (Kp := Keeps (fun b' => b' = b3 ∨ X.heap.size + 1 ≤ b'))
      (drifts_onX V X.heap.size xa n xc xs (fun b' => b' = b3 ∨ X.heap.size + 1 ≤ b') z0 (h2.keep hIV.bel) (by omega) (fun b' o h0 ha => by have := (h2.at_ h0); obtain ⟨b2, o2, he, hc⟩ := this; rw [ha] at he; cases he; have := cell_lt (hc 0 h0); omega) HB.out _).on (fun h k => h.trans k) (fun W l o o' _ hl ho => Keeps.put o' hl ho) (fun _ => rfl)
      (fun pre W => StI w (X.heap.size + 1) b b3 xa ca n xc cc s.1 (hoP fs s xs pre) W) (fun pre W W' row h hg hr => h.grown (by have := HSZ.out; omega) hg hr) hIV
      (fun pre x a' W => StI w (X.heap.size + 1) b b3 xa ca n xc cc s.1 (hoP fs s xs pre) W ∧ (pre.length < n ∧ a' = { tmps := #[.pointer (some ⟨b, 0, none⟩), .pointer (some ⟨w.heap.size, 0, none⟩), .pointer (some ⟨w.heap.size + 1, 0, none⟩), .pointer (some ⟨b3, 0, none⟩), .int .i64 (x.val : Int), .int .i64 (dr xs x.val), undef, undef, .pointer (some ⟨b, 0, none⟩), .pointer (some ⟨b, 0, none⟩), .pointer (some ⟨b, 6, none⟩), .slice xa n xc, .pointer (some ⟨b, 0, none⟩), .pointer (some ⟨b, 0, none⟩), .pointer (some ⟨b, 1, none⟩), .pointer (some ⟨b, 1, none⟩), .slice a1 n c1, .slice ca n cc, .agg #[.slice xa n xc, .slice ca n cc, .slice none 0 0], .pointer (some ⟨b, 0, none⟩), .pointer (some ⟨b, 0, none⟩), .pointer (some ⟨b, 6, none⟩), .slice xa n xc, .func (.func 85) #[] #[.pointer (some ⟨X.heap.size, 0, none⟩)], .int .i64 (x.val : Int), .int .i64 (dr xs x.val), undef, undef, undef, undef, undef, undef, undef, undef, undef, undef, undef, undef, undef, undef, undef, undef, undef, undef, undef, undef, undef, undef, undef, undef, undef, undef, undef, undef, undef], defers := [] }))
      ?own ?assign ?body ?done
    case own =>
      rintro pre x a' s W W' row ⟨h1, h3⟩ hg hr
      exact ⟨h1.grown (by have := HSZ.out; omega) hg hr, h3⟩
    case assign =>
      rintro r pre x W K hi hlen hK
      gi_wp2
      exact hK _ _ (KeepsOthers.refl _) (Keeps.refl _ _) ⟨hi, hlen, rfl⟩
    case body =>
      rintro r pre x a' W ⟨hC, hlen, rfl⟩
      have hxl := x.isLt
      have hPS : hoP fs s xs (pre ++ [x]) = hoP fs s xs pre ++ [hoS fs s xs x.val] := by simp [hoP]
      rw [hPS]
      clear hPS
      have hpl : (hoP fs s xs pre).length ≤ 5 := by simp [hoP]; omega
      generalize hoP fs s xs pre = ps at hC hpl ⊢
      generalize x.val = i at hxl ⊢
      obtain ⟨cb, co, rfl, hcc⟩ := (h1.row.keep hC.bel).at_ (by omega)
      obtain ⟨-, -, q2⟩ := hcc i hxl
      obtain ⟨-, -, hsel⟩ := (h1.keep hC.bel).fl i (by rw [← HN.out]; exact hxl)
      obtain ⟨b4, o4, rfl, hc4⟩ := (v5.row.keep hC.bel).at_ (by omega)
      obtain ⟨z0, z1⟩ := hc4 i hxl
      obtain ⟨r1, r2, -⟩ := (v5.keep hC.bel).hl i (by rw [OK.out.hol, ← HN.out]; exact hxl)
      have hok := OK.out.ok i (by rw [← HN.out]; exact hxl)
      have hpd := HD.out i hxl
      have hhs : hoS fs s xs i = (dr xs i, mvdS (fs[i]?.getD fl0).2.2 (s.2.2[i]?.getD ho0).2 (dr xs i)) := rfl
      obtain ⟨l, hl⟩ : ∃ l, (fs[i]?.getD fl0).2.2 = l := ⟨_, rfl⟩
      obtain ⟨hh, hhh⟩ : ∃ hh, s.2.2[i]?.getD ho0 = hh := ⟨_, rfl⟩
      obtain ⟨at1, sl⟩ := hh
      obtain ⟨r3, hr3⟩ : ∃ r3, raw3[i]?.getD hor0 = r3 := ⟨_, rfl⟩
      obtain ⟨at3, ⟨e1, e2, e3⟩⟩ := r3
      obtain ⟨rr, hrr⟩ : ∃ rr, raw[i]?.getD flr0 = rr := ⟨_, rfl⟩
      obtain ⟨x0, x1, ⟨u1, u2, u3⟩⟩ := rr
      rw [hrr] at q2 hsel
      rw [hr3] at z0 z1 r1 r2
      rw [hhh] at r1 r2 hok hhs
      rw [hl] at hok hsel hhs
      dsimp only [hv] at z0 z1 r1 r2 hok q2 hsel hhs
      subst r1
      obtain rfl : e2 = u2 := by rw [hsel.len, r2.len, hok.same]
      obtain ⟨d, hd⟩ : ∃ d, dr xs i = d := ⟨_, rfl⟩
      rw [hd] at hpd hhs ⊢
      rw [hhs]
      have hu := hsel.len
      have HU := Lib.hid hu
      have HO := Lib.hid hok
      have HPD := Lib.hid hpd
      have hl6 : e2 ≤ 6 := by have := hok.len; omega
      have hi1 : (i : Int) < (n : Int) := by omega
      have hi0 : (0 : Int) ≤ (i : Int) := by omega
      clear hhh hr3 hl hc4 hcc hrr hd hhs hu hok hpd hlen
      refine wpIn_block ?_
      refine wpIn_seq_k (fun K5 hK5 => ?_)
      refine Calmly.wpIn_region_mix 25 (.fl 0 <| .fl 1 <| .fl 2 <| .fl 3 <| .fl 4 <| .fl 5 <| .fl 6 <| .fl 7 <| .fl 8 <| .fl 9 <| .fl 10 <| .fl 11 <| .fl 12 <| .fl 13 <| .fl 14 <| .fl 15 <| .fl 16 <| .fl 17 <| .alt 18 (.fl 19 <| .fl 20 <| .fl 21 <| .alt 22 (.eff 23 <| .eff 24 <| .tail [25]) (.eff 23 (.eff 22 <| .eff 24 <| .tail [25]))) (.alt 22 (.alt 18 (.fl 19 <| .fl 20 <| .fl 21 <| .eff 23 <| .eff 24 <| .tail [25]) (.eff 23 (.eff 18 <| .fl 19 <| .fl 20 <| .fl 21 <| .eff 24 <| .tail [25]))) (.eff 23 (.alt 18 (.fl 19 <| .fl 20 <| .fl 21 <| .eff 22 <| .eff 24 <| .tail [25]) (.eff 22 (.eff 18 <| .fl 19 <| .fl 20 <| .fl 21 <| .eff 24 <| .tail [25])))))) (by kernel_rfl) (by kernel_rfl) (by rintro a w ⟨h, _⟩; cases h) ?_
      have BD : Below W.heap.size W W.drew := (Below.refl _ _).drew
      have hCD := hC.keep BD
      have hx3 := blk_keep hx hCD.bel
      have g0 := cell_block hx3 0
      have g3 := cell_block hx3 3
      have g9 := cell_block hCD.t1 0
      replace q2 := cell_keep q2 BD
      replace z0 := cell_keep z0 BD
      replace z1 := cell_keep z1 BD
      replace hsel := hsel.keep BD
      replace r2 := r2.keep BD
      generalize W.drew = V5 at *
      have hk := Below.refl V5.heap.size V5
      go_wp2_with (first | (go_at_call 61; refine (move_any u1 e1 e2 u3 e3 l at3 d sl _ (hsel.keep hk) (r2.keep hk) hl6 (fun j hj => HO.out.elB HO.out.at_ (by rw [← HU.out]; exact hj)) (fun j hj => HO.out.elB HPD.out (by rw [← HU.out]; exact hj))).mono ?_; rintro e w5 ⟨av, cv, rfl, hoS, hs5⟩; have hgs := hk.size; (try replace y6 := blk_keep y6 hs5); (try replace y7 := blk_keep y7 hs5); replace hk := step_of hk hs5; (try have z0 := cell_block y6 0); (try have z1 := cell_block y6 1); (try have z3 := frozen_block y6 0); (try have z4 := frozen_block y6 1); (try have t0 := cell_block y7 0); (try have t1 := cell_block y7 1); (try have t3 := frozen_block y7 0); (try have t4 := frozen_block y7 1); clear hs5) | (refine kept_allocR (o := .cells #[.int .i64 0, .slice none 0 0] 57) hk (fun hb hk2 y6 hge6 => ?_); (try replace hoS := hoS.keep hb); (try replace y7 := blk_keep y7 hb); replace hk := hk2; clear hb hk2; generalize World.alloc _ (.cells #[.int .i64 0, .slice none 0 0] 57) = W' at *; have z0 := cell_block y6 0; have z1 := cell_block y6 1; have z3 := frozen_block y6 0; have z4 := frozen_block y6 1; (try have t0 := cell_block y7 0); (try have t1 := cell_block y7 1); (try have t3 := frozen_block y7 0); (try have t4 := frozen_block y7 1)) | (refine kept_allocR (o := .cells #[.int .i64 0, .int .i64 0] 64) hk (fun hb hk2 y7 hge7 => ?_); (try replace hoS := hoS.keep hb); (try replace y6 := blk_keep y6 hb); replace hk := hk2; clear hb hk2; generalize World.alloc _ (.cells #[.int .i64 0, .int .i64 0] 64) = W' at *; (try have z0 := cell_block y6 0); (try have z1 := cell_block y6 1); (try have z3 := frozen_block y6 0); (try have z4 := frozen_block y6 1); have t0 := cell_block y7 0; have t1 := cell_block y7 1; have t3 := frozen_block y7 0; have t4 := frozen_block y7 1) | ((with_reducible refine kept_st2M hk hge6 y6 (fun hk' ho hn0 => ?_)); have hne76 := BlkT.ne ⟨_, y7⟩ ⟨_, y6⟩ (by decide); replace hoS := owns_other hoS ho ⟨_, y6⟩ (by decide); replace y7 := (ho _ hne76).trans y7; generalize World.setCell (World.setCell _ _ _) _ _ = W'' at *; replace hk := hk'; clear hk' ho y6; have t0 := cell_block y7 0; have t1 := cell_block y7 1; have t3 := frozen_block y7 0; have t4 := frozen_block y7 1) | ((with_reducible refine Calmly.is_fl ?_); refine Calmly.mix_fl rfl ?_ (fun _ _ => ?_); (first | exact .move _ | exact .load _ _ | exact .fieldAddr _ _ _ (by kernel_rfl) | exact .assign _ | exact .binOp _ _ _ _ _ rfl | exact .indexAddr _ _ _ | exact .len _ _ (by kernel_rfl) | exact .field _ _ _ | exact .extract _ _ | exact .pick _ _ _ | exact .build _ _ | exact .slice _ _ _ _ _ | exact .unOp _ _ _ rfl | exact .index _ _ _ | exact .max _ _ _ rfl rfl | exact .min _ _ _ rfl rfl | exact .nilCheck _ _ rfl)) | ((with_reducible refine Calmly.is_gl ?_); refine Calmly.mix_gl rfl rfl rfl ?_; first | ((first | with_reducible refine Calmly.gl_tt ?_ (fun _ _ => ?_) | with_reducible refine Calmly.gl_ff ?_ (fun _ _ => ?_)); (first | exact .move _ | exact .load _ _ | exact .fieldAddr _ _ _ (by kernel_rfl) | exact .assign _ | exact .binOp _ _ _ _ _ rfl | exact .indexAddr _ _ _ | exact .len _ _ (by kernel_rfl) | exact .field _ _ _ | exact .extract _ _ | exact .pick _ _ _ | exact .build _ _ | exact .slice _ _ _ _ _ | exact .unOp _ _ _ rfl | exact .index _ _ _ | exact .max _ _ _ rfl rfl | exact .min _ _ _ rfl rfl | exact .nilCheck _ _ rfl)) | with_reducible refine Calmly.gl_tf (fun _ _ => ?_) | with_reducible refine Calmly.gl_ft (fun _ _ => ?_)) | ((with_reducible refine Calmly.is_eff ?_); refine Calmly.mix_eff rfl (fun _ _ => ?_)) | ((with_reducible refine Calmly.is_gf ?_); refine Calmly.mix_gf rfl rfl rfl ?_; first | with_reducible refine Calmly.gf_tt (fun _ _ => ?_) | with_reducible refine Calmly.gf_ff (fun _ _ => ?_) | with_reducible refine Calmly.gf_tf (kept_of hk) (fun _ _ => ?_) | with_reducible refine Calmly.gf_ft (kept_of hk) (fun _ _ => ?_)) | ((with_reducible refine Calmly.is_tail ?_); first | refine Calmly.mix_tail_nil ?_ | refine Calmly.mix_tail rfl (fun _ _ => ?_)) | ((with_reducible refine Calmly.is_kept ?_); refine ⟨kept_of hk, ?_⟩) | (with_reducible refine Calmly.mix_alt ?_ ?_))
      all_goals
        obtain ⟨wk, hwk⟩ : ∃ v, sumR (mvW l sl at3 d) e2 = v := ⟨_, rfl⟩
        obtain ⟨ls, hls⟩ : ∃ v, sumR (mvL l sl d) e2 = v := ⟨_, rfl⟩
        rw [hwk, hls]
        clear hwk hls
        obtain ⟨_, h3⟩ := kept_st2M (G := _ ∧ _ ∧ _) (x := .int .i64 wk) (y := .int .i64 ls) hk hge7 y7 (fun h1 h2 h3 => ⟨h1, h2, h3⟩)
        generalize World.setCell (World.setCell _ _ _) _ _ = Z at *
        obtain ⟨hkZ, hoZ, hn7⟩ := h3
        replace hn0 := (hoZ _ hne76.symm).trans hn0
        replace hoS := owns_other hoS hoZ ⟨_, y7⟩ (by decide)
        clear y7 hk
        have BW6 := BD.trans (hkZ.mono BD.size)
        have hC6 := hC.keep BW6
        have HC6 := Lib.hid hC6
        obtain ⟨j1, -, -, -, ⟨ha, hc, rw', i5, i6, i7, i8⟩, j9⟩ := hC6
        have H7 := Lib.hid i7
        have H8 := Lib.hid i8
        have hmh := i6.sr.max
        have hmc := i6.sr.cap
        have hoS2 : OwS Z 0 av e2 cv ((List.range e2).map (mvRow l sl d)) := owns_lower hoS (Nat.zero_le _)
        have hms := hoS2.ss.max
        have hmsc := hoS2.ss.cap
        have f0 := cell_block i5 2
        have f1 := cell_block hn0 0
        have f2 := cell_block hn0 1
        clear i7 i8 z0 z1
        refine Calmly.wpIn_region_plain (by kernel_rfl) (by rintro a w ⟨h, _⟩; cases h) ?_
        go_wp2_with (first | (refine appRec Z 114 57 (new := [.int .i64 d, .slice av e2 cv]) rfl rfl _ _ rfl Tryz.underlying114 Tryz.info_hor rfl (by decide) (by decide) i6 rfl rfl rfl (oneCell_HoR (d, (av, e2, cv))) (by omega) j9 (fun a9 c9 w9 ho9 hb9 hko9 hsm9 => ?_); have k9 := (hsm9 b3 (blk_lt i5) (BlkT.not ⟨_, i5⟩ (by decide))).trans i5; have f5 := cell_block k9 2; have f6 := frozen_block k9 2))
        refine ⟨trivial, ((ko_below BW6).trans hko9).trans (KeepsOthers.setCell _ _ _), ((Keeps.of_below BW6).trans (Keeps.of_belowB hb9 (fun b hb => .inr hb))).trans (Keeps.setCell _ _ _ (.inl rfl)), HC6.out.step hb3 (by omega) hb9 ⟨hb9.size, hsm9⟩ k9 H7.out H8.out ho9 ?_ (In.of_owns hoS2)⟩
        rw [mvdS, ← HU.out]
        exact hoS2.ss
    case done =>
      rintro D ys W hD hys hC hK
      have hlen : ys.length = n := by have := congrArg List.length hys; simpa using this
      have hhs : hoP fs s xs ys = (List.range n).map (hoS fs s xs) := by rw [← hys]; simp [hoP]
      rw [hhs] at hC
      have hDs : w.heap.size + 1 < D ∧ b3 < D := by have := HSZ.out; omega
      have HDD := Lib.hid hDs
      have hln : ((List.range n).map (hoS fs s xs)).length = n := by simp
      have hst : steS fs s xs = (xs, s.1, (List.range n).map (hoS fs s xs)) := by rw [steS, HN.out]
      have HST := Lib.hid hst
      generalize (List.range n).map (hoS fs s xs) = ps at hC hln HST
      obtain ⟨j1, j2, j3, j4, ⟨ha, hc, rw', i5, i6, i7, i8⟩, j9⟩ := hC
      rw [hln] at i5 i6 i7 i8
      have H7 := Lib.hid i7
      have H8 := Lib.hid i8
      have HLN := Lib.hid hln
      have hmh := i6.sr.max
      have hmc := i6.sr.cap
      have hmx := j4.si.max
      have hmxc := j4.si.cap
      have f0 := cell_block i5 0
      have f1 := cell_block i5 1
      have f2 := cell_block i5 2
      have d0 := cell_block j3 0
      have d1 := cell_block j3 1
      have d2 := cell_block j3 2
      have d3 := frozen_block j3 0
      have d4 := frozen_block j3 1
      have d5 := frozen_block j3 2
      have hcn : n = s.1.length := j4.si.len
      have HCN := Lib.hid hcn
      clear i7 i8 hln hlen hhs hys hD hDs hst hcn
      go_wp2_with fail
      have hw : w.heap.size ≤ w.heap.size + 1 := by omega
      have hne : ∀ b', b' ≠ w.heap.size + 1 → (((W.setCell ⟨w.heap.size + 1, 0, none⟩ (.slice xa n xc)).setCell ⟨w.heap.size + 1, 1, none⟩ (.slice ca n cc)).setCell ⟨w.heap.size + 1, 2, none⟩ (.slice ha n hc)).heap[b']? = W.heap[b']? := fun b' hb => by
        rw [Below.heap_setCell _ _ _ _ hb, Below.heap_setCell _ _ _ _ hb, Below.heap_setCell _ _ _ _ hb]
      have q0 := setBlk (setBlk (setBlk j3 0 (.slice xa n xc)) 1 (.slice ca n cc)) 2 (.slice ha n hc)
      simp at q0
      have B4 := ((j1.setCell (p := ⟨w.heap.size + 1, 0, none⟩) hw (.slice xa n xc)).setCell (p := ⟨w.heap.size + 1, 1, none⟩) hw (.slice ca n cc)).setCell (p := ⟨w.heap.size + 1, 2, none⟩) hw (.slice ha n hc)
      have hBt : But 116 W (((W.setCell ⟨w.heap.size + 1, 0, none⟩ (.slice xa n xc)).setCell ⟨w.heap.size + 1, 1, none⟩ (.slice ca n cc)).setCell ⟨w.heap.size + 1, 2, none⟩ (.slice ha n hc)) := ⟨by simp, fun b' _ hn => hne b' (by rintro rfl; exact hn ⟨_, j3⟩)⟩
      generalize ((W.setCell ⟨w.heap.size + 1, 0, none⟩ (.slice xa n xc)).setCell ⟨w.heap.size + 1, 1, none⟩ (.slice ca n cc)).setCell ⟨w.heap.size + 1, 2, none⟩ (.slice ha n hc) = Z at *
      have hKZ := (hne D (by have := HDD.out; omega)).trans hK
      have hput : Keeps (fun _ => False) Z (Z.putObj D (.deferred none)) := Keeps.put _ hKZ rfl
      have q1 := (World.putObj_heap_other (o := .deferred none) (w := Z) (show w.heap.size + 1 ≠ D by have := HDD.out; omega)).trans q0
      have e0 := cell_block q1 0
      have e1 := cell_block q1 1
      have e2 := cell_block q1 2
      have B5 := belowD (o' := .deferred none) B4 (by have := HDD.out; omega) hKZ
      refine ⟨by simp, .inl ⟨_, _, rfl, run_takeDeferred hKZ, ?_⟩⟩
      refine ⟨.agg #[.slice xa n xc, .slice ca n cc, .slice ha n hc], by simp [results, Tryz.results84, go_sem, e0, e1, e2], ca, cc, ha, hc, rfl, ?_, B5⟩
      rw [HST.out]
      have k4 := owns_keeps (owns_but j4 hBt (by decide)) hput (fun _ _ h => h)
      have k6 := owns_keeps (owns_but i6 hBt (by decide)) hput (fun _ _ h => h)
      refine ⟨h2.keep B5, h2i.keep B5, ?_, In.of_owns k4, ⟨rw', ?_, ?_, ?_⟩, In.of_owns k6⟩
      · exact OwI.si (show OwI _ w.heap.size ca n cc s.1 from k4)
      · exact OwHoR.sr (show OwHoR _ (X.heap.size + 1) ha n hc rw' from k6)
      · show rw'.length = ps.length
        rw [H7.out, HLN.out]
      · intro i hi
        obtain ⟨r1, r2, r3⟩ := H8.out i (by rw [← HLN.out]; exact hi)
        exact ⟨r1, Sl.keepsF hput (r2.but r3 hBt (by decide)), In.keepsF hput (r3.but hBt (by decide))⟩)
  clear hK'
  replace y0 := blk_keep y0 (Below.refl _ _).drew
  replace yr := blk_keep yr (Below.refl _ _).drew
  replace BW := BW.drew
  generalize W2.drew = V at *
  have hx2 := blk_keep hx BW
  have f0 := cell_block y0 0
  have f1 := cell_block hx2 1
  have f6 := cell_block hx2 6
  have hk := Below.refl V.heap.size V
  have hw0 := BW.size
  have hyr := blk_lt yr
  go_wp2_with (first | (go_at_call 99; refine (clone_any a1 n c1 s.1 _ ((v1.keep BW).keep hk) (by omega)).mono ?_; rintro e w5 ⟨ca, cc, rfl, hcl, hs5⟩; have hgc := hk.size; (try replace y6 := blk_keep y6 hs5); replace hk := step_of hk hs5; (try have z0 := cell_block y6 0); (try have z1 := cell_block y6 1); (try have z2 := cell_block y6 2); (try have z3 := frozen_block y6 0); (try have z4 := frozen_block y6 1); (try have z5 := frozen_block y6 2); clear hs5) | (refine kept_allocR hk (fun hb hk2 y6 hge6 => ?_); (try replace hcl := hcl.keepM hb); replace hk := hk2; clear hb hk2; generalize World.alloc _ (.cells #[.slice none 0 0, .slice none 0 0, .slice none 0 0] 116) = W' at *; have z0 := cell_block y6 0; have z1 := cell_block y6 1; have z2 := cell_block y6 2; have z3 := frozen_block y6 0; have z4 := frozen_block y6 1; have z5 := frozen_block y6 2) | ((with_reducible refine Calmly.is_fl ?_); refine Calmly.mix_fl rfl ?_ (fun _ _ => ?_); (first | exact .move _ | exact .load _ _ | exact .fieldAddr _ _ _ (by kernel_rfl) | exact .assign _ | exact .binOp _ _ _ _ _ rfl | exact .indexAddr _ _ _ | exact .len _ _ (by kernel_rfl) | exact .field _ _ _ | exact .extract _ _ | exact .pick _ _ _ | exact .build _ _ | exact .slice _ _ _ _ _ | exact .unOp _ _ _ rfl | exact .index _ _ _ | exact .max _ _ _ rfl rfl | exact .min _ _ _ rfl rfl | exact .nilCheck _ _ rfl)) | ((with_reducible refine Calmly.is_gl ?_); refine Calmly.mix_gl rfl rfl rfl ?_; first | ((first | with_reducible refine Calmly.gl_tt ?_ (fun _ _ => ?_) | with_reducible refine Calmly.gl_ff ?_ (fun _ _ => ?_)); (first | exact .move _ | exact .load _ _ | exact .fieldAddr _ _ _ (by kernel_rfl) | exact .assign _ | exact .binOp _ _ _ _ _ rfl | exact .indexAddr _ _ _ | exact .len _ _ (by kernel_rfl) | exact .field _ _ _ | exact .extract _ _ | exact .pick _ _ _ | exact .build _ _ | exact .slice _ _ _ _ _ | exact .unOp _ _ _ rfl | exact .index _ _ _ | exact .max _ _ _ rfl rfl | exact .min _ _ _ rfl rfl | exact .nilCheck _ _ rfl)) | with_reducible refine Calmly.gl_tf (fun _ _ => ?_) | with_reducible refine Calmly.gl_ft (fun _ _ => ?_)) | ((with_reducible refine Calmly.is_eff ?_); refine Calmly.mix_eff rfl (fun _ _ => ?_)) | ((with_reducible refine Calmly.is_gf ?_); refine Calmly.mix_gf rfl rfl rfl ?_; first | with_reducible refine Calmly.gf_tt (fun _ _ => ?_) | with_reducible refine Calmly.gf_ff (fun _ _ => ?_) | with_reducible refine Calmly.gf_tf (kept_of hk) (fun _ _ => ?_) | with_reducible refine Calmly.gf_ft (kept_of hk) (fun _ _ => ?_)) | ((with_reducible refine Calmly.is_tail ?_); first | refine Calmly.mix_tail_nil ?_ | refine Calmly.mix_tail rfl (fun _ _ => ?_)) | ((with_reducible refine Calmly.is_kept ?_); refine ⟨kept_of hk, ?_⟩) | (with_reducible refine Calmly.mix_alt ?_ ?_))
  all_goals
    apply HKK.out
    · intro N hN
      simp only [World.size_setCell] at hN
      exact StI.start (BW.trans (hk.mono BW.size)) (blk_keep y0 hk) (blk_keep yr hk) (owns_lower hcl (by omega)) y6 (by omega) hN
    · have q6 := setBlk (setBlk (setBlk y6 0 (.slice xa n xc)) 1 (.slice ca n cc)) 2 (.slice none 0 0)
      simpa using q6
    · omega
end Go.Proofs.YtaiikekgckjdeaaGreat

namespace Go.Proofs.YtaiikekgckjdeaaGreat
open Go.RowKit
open Calmly (Kept)

theorem szd_iff {n m : Int} : szd n m = true ↔ -m ≤ n ∧ n ≤ m := wIn_iff
theorem plc_iff {n : Int} : plc n = true ↔ -10000 ≤ n ∧ n ≤ 10000 := wIn_iff
theorem slE_zero {x : El} {at' : Int} {s : Sp} (h1 : plc s.1 = true) (h2 : s.2 = true → x.2.2 = true ∧ s.1 = 0) (h3 : x.2.2 = true → s.1 = 0) (h4 : s.2 = true ∨ szd (at' - s.1) x.2.1 = true) : slE x at' s = 0 := by
  obtain ⟨k, y, b⟩ := x
  obtain ⟨u, br⟩ := s
  dsimp only at h1 h2 h3 h4
  unfold slE
  rw [if_pos h1]
  dsimp only
  cases b <;> cases br <;> simp at h2 h3 h4 <;> simp_all [firstE, unlessE]
/-- A hold that was moved is valid. -/
theorem mvd_ok {l : List El} {at1 d : Int} {sl : List Sp} (h : HoldOk l at1 sl) (hd : plc d = true) : HoldOk l d (mvdS l sl d) := by
  refine ⟨h.len, mvdS_len _ _ _, hd, h.el, fun j hj => ?_⟩
  rw [mvdS_get l sl d hj]
  obtain ⟨h1, h2, h3, h4⟩ := slE_ok (h.sl j hj)
  have he := (elErr_ok (h.el j hj)).2
  unfold mvRow
  generalize l[j]?.getD el0 = e at h2 h3 h4 he ⊢
  generalize sl[j]?.getD sp0 = v at h1 h2 h3 h4 ⊢
  obtain ⟨k, y, b⟩ := e
  obtain ⟨u, br⟩ := v
  dsimp only at h1 h2 h3 h4 he ⊢
  have hu := plc_ok h1
  have hdb := plc_ok hd
  have hc := ovr_cases y (d - u) (by omega)
  refine slE_zero (plc_iff.2 (mvSlip_bd (by omega) hu hdb)) ?_ ?_ ?_
  · dsimp only
    unfold mvBr mvSlip
    cases br <;> cases b <;> simp at h2 h3 ⊢
    · exact fun _ _ => h3
    · exact h3
  · dsimp only
    unfold mvSlip
    intro hb
    subst hb
    have hu0 := h3 rfl
    subst hu0
    split
    · rfl
    · split <;> rfl
  · dsimp only
    unfold mvBr mvSlip
    cases br
    · rcases hc with ⟨h0, h5⟩ | ⟨h5, h0⟩ | ⟨h5, h0⟩
      · rw [h0]
        exact .inr (szd_iff.2 (by simpa using h5))
      · have hne : ¬ ovr y (d - u) = 0 := by omega
        cases b
        · refine .inr (szd_iff.2 ?_)
          simp only [hne, if_false, Bool.false_eq_true]
          rw [if_neg (by omega), h0]
          omega
        · refine .inl ?_
          simp [hne]
      · have hne : ¬ ovr y (d - u) = 0 := by omega
        cases b
        · refine .inr (szd_iff.2 ?_)
          simp only [hne, if_false, Bool.false_eq_true]
          rw [if_pos (by omega), h0]
          omega
        · refine .inl ?_
          simp [hne]
    · exact .inl rfl
/-- The new displacements. -/
def nxts (fs : List Fl) (s : St) (g : Int) : List Int := (List.range fs.length).map (nxS fs s g)
theorem nxts_len (fs : List Fl) (s : St) (g : Int) : (nxts fs s g).length = fs.length := by simp [nxts]
theorem colF_bd {bad : Nat → Bool} : ∀ {k m : Nat}, colF bad k m < 0 → ∀ i, k ≤ i → i < k + m → bad i = false
  | k, 0, _, i, h1, h2 => by omega
  | k, m + 1, h, i, h1, h2 => by
    rw [colF] at h
    split at h
    · omega
    · rename_i hb
      by_cases e : i = k
      · subst e
        simpa using hb
      · exact colF_bd h i (by omega) (by omega)
/-- Displacements whose drifts are small. -/
theorem dr_bd {xs : List Int} {n : Nat} (h : ∀ i, i < n → -1000 ≤ dr xs i ∧ dr xs i ≤ 1000) (hl : xs.length = n) : ∀ i : Nat, -(1000 * ((n : Nat) : Int)) ≤ xs[i]?.getD 0 ∧ xs[i]?.getD 0 ≤ 1000 * ((n : Nat) : Int) := by
  have h1 : ∀ i, i < n → -(1000 * ((i + 1 : Nat) : Int)) ≤ xs[i]?.getD 0 ∧ xs[i]?.getD 0 ≤ 1000 * ((i + 1 : Nat) : Int) := by
    intro i
    induction i with
    | zero =>
      intro hi
      have := h 0 hi
      simp [dr, bel] at this
      omega
    | succ i ih =>
      intro hi
      have h2 := ih (by omega)
      have h3 := h (i + 1) hi
      rw [dr, bel_succ] at h3
      omega
  intro i
  rcases Nat.lt_or_ge i n with hi | hi
  · have := h1 i hi
    omega
  · rw [List.getElem?_eq_none (by omega)]
    simp
    omega
theorem badS_ok {fs : List Fl} {s : St} {g : Int} (ok : (frmE fs).2 = 0) (h : colF (badS fs (nxts fs s g)) 0 fs.length < 0) : ∀ i, i < fs.length → -1000 ≤ dr (nxts fs s g) i ∧ dr (nxts fs s g) i ≤ 1000 := by
  intro i hi
  have h1 := colF_bd h i (by omega) (by omega)
  have h2 := flErr_ok ((frmE_ok ok).2 i hi)
  unfold badS at h1
  have h3 : szd (dr (nxts fs s g) i) (fs[i]?.getD fl0).2.1 = true := by simpa using h1
  have h4 := szd_iff.1 h3
  omega
theorem steS_ok {fs : List Fl} {s : St} {g : Int} (ok : StOk fs s) (h : colF (badS fs (nxts fs s g)) 0 fs.length < 0) : StOk fs (steS fs s (nxts fs s g)) := by
  have hb := badS_ok ok.frm h
  have h5 := (frmE_ok ok.frm).1
  refine ⟨ok.frm, nxts_len fs s g, ok.now, by simp [steS], fun i hi => ?_, fun i => ?_, ok.nbd⟩
  · have e : (steS fs s (nxts fs s g)).2.2[i]?.getD ho0 = hoS fs s (nxts fs s g) i := by simp [steS, hi]
    rw [e]
    have h2 := hb i hi
    exact mvd_ok (d := dr (nxts fs s g) i) (ok.ok i hi) (plc_iff.2 (by omega))
  · have := dr_bd hb (nxts_len fs s g) i
    show -1000000000 ≤ (nxts fs s g)[i]?.getD 0 ∧ (nxts fs s g)[i]?.getD 0 ≤ 1000000000
    omega
theorem hold0_ok {l : List El} (h : (sprE l).2 = 0) : HoldOk l 0 (bgS l) := by
  obtain ⟨h1, h2⟩ := sprE_ok h
  refine ⟨h1, by simp [bgS], by decide, h2, fun j hj => ?_⟩
  rw [bgS_get]
  have := (elErr_ok (h2 j hj)).2
  exact slE_zero (by decide) (fun h => by cases h) (fun _ => rfl) (.inr (szd_iff.2 (by simp [sp0]; omega)))
theorem bgSt_ok {fs : List Fl} (h : (frmE fs).2 = 0) : StOk fs (bgSt fs) := by
  refine ⟨h, by simp [bgSt], by simp [bgSt], by simp [bgSt], fun i hi => ?_, fun i => ?_, fun i => ?_⟩
  · have e : (bgSt fs).2.2[i]?.getD ho0 = (0, bgS (fs[i]?.getD fl0).2.2) := by simp [bgSt, hi]
    rw [e]
    exact hold0_ok (flErr_ok ((frmE_ok h).2 i hi)).2.2
  · have e : (bgSt fs).1[i]?.getD 0 = 0 := by
      simp only [bgSt, List.getElem?_replicate]
      split <;> rfl
    rw [e]
    omega
  · have e : (bgSt fs).2.1[i]?.getD 0 = 0 := by
      simp only [bgSt, List.getElem?_replicate]
      split <;> rfl
    rw [e]
    omega
/-- The states behind a state, and the storey that collapses. -/
def runS (fs : List Fl) : St → List Int → List St × Int
  | _, [] => ([], -1)
  | s, g :: gs => if colF (badS fs (nxts fs s g)) 0 fs.length < 0 then (steS fs s (nxts fs s g) :: (runS fs (steS fs s (nxts fs s g)) gs).1, (runS fs (steS fs s (nxts fs s g)) gs).2) else ([], colF (badS fs (nxts fs s g)) 0 fs.length)
def motE (l : List Int) : Int := (eaF (fun i => unlessE (grd (l[i]?.getD 0)) 2) 0 l.length).2
def runE (fs : List Fl) (l : List Int) : Int := if firstE [(frmE fs).2, unlessE (decide ((l.length : Int) ≤ 60)) 8] = 0 then motE l else firstE [(frmE fs).2, unlessE (decide ((l.length : Int) ≤ 60)) 8]
end Go.Proofs.YtaiikekgckjdeaaGreat

namespace Go.Proofs.YtaiikekgckjdeaaGreat
open Go.RowKit
open Calmly (Kept)

theorem st_set (l : List StR) (i : Nat) (h : i < l.length) (x : Hd) : (l.flatMap encStR).set (i * 3) (hv x) = (l.set i (x, (l[i]?.getD str0).2)).flatMap encStR := by
  induction l generalizing i with
  | nil => simp at h
  | cons p l ih =>
    cases i with
    | zero => rfl
    | succ i =>
      rw [List.flatMap_cons, List.set_cons_succ, List.flatMap_cons, List.getElem?_cons_succ, ← ih i (by simpa using h), List.set_append]
      have e : (encStR p).length = 3 := rfl
      rw [if_neg (by omega), e, show (i + 1) * 3 - 3 = i * 3 by omega]
/-- Rows of states: each reads as it should. -/
structure Sts (w : World) (B : Nat) (a : Option Addr) (n c : Nat) (raw : List StR) (ss : List St) : Prop where
  row : OwStR w B a n c raw
  len : raw.length = ss.length
  st : ∀ i, i < ss.length → StV w (raw[i]?.getD str0) (ss[i]?.getD ([], [], []))
theorem Sts.keep {w w' : World} {B : Nat} {a : Option Addr} {n c : Nat} {raw : List StR} {ss : List St} (h : Sts w B a n c raw ss) (hb : Below w.heap.size w w') : Sts w' B a n c raw ss := ⟨h.row.keep hb, h.len, fun i hi => (h.st i hi).keep hb⟩
theorem Sts.n_ {w : World} {B : Nat} {a : Option Addr} {n c : Nat} {raw : List StR} {ss : List St} (h : Sts w B a n c raw ss) : n = ss.length := by rw [h.row.sr.len, h.len]
theorem Sts.store {w : World} {B g n c : Nat} {raw : List StR} {ss : List St} (h : Sts w B (some ⟨g, 0, none⟩) n c raw ss) {i : Nat} (hi : i < n) {a' : Option Addr} {m c' : Nat} (h1 : SI w a' m c' (ss[i]?.getD ([], [], [])).1) (h2 : In w 3 a') :
    Sts (w.setCell ⟨g, i * 3, none⟩ (.slice a' m c')) B (some ⟨g, 0, none⟩) n c (raw.set i ((a', m, c'), (raw[i]?.getD str0).2)) ss := by
  have hn := h.n_
  have hl := h.len
  have hrow := (World.ownsRow.stored h.row (i * 3) (.slice a' m c')).1
  have hB : But 116 w (w.setCell ⟨g, i * 3, none⟩ (.slice a' m c')) := But.setCell ((In.of_owns h.row).blk g 0 rfl)
  refine ⟨?_, by rw [List.length_set]; exact hl, fun j hj => ?_⟩
  · unfold OwStR
    rw [← st_set raw i (by omega) (a', m, c')]
    exact hrow
  · have h9 := h.st j hj
    by_cases e : i = j
    · subst e
      rw [show (raw.set i ((a', m, c'), (raw[i]?.getD str0).2))[i]?.getD str0 = ((a', m, c'), (raw[i]?.getD str0).2) by rw [List.getElem?_set_self (by omega)]; rfl]
      obtain ⟨v1, v2, v3, v4, v5, v6⟩ := h9
      exact StV.but ⟨h1, h2, v3, v4, v5, v6⟩ hB
    · rw [List.getElem?_set_ne e]
      exact h9.but hB
set_option maxRecDepth 100000 in
set_option maxHeartbeats 2000000 in
theorem detached_any (a : Option Addr) (n c B : Nat) (raw : List StR) (ss : List St) (w : World) (h1 : Sts w B a n c raw ss) (hn0 : 0 < n) (hn : n ≤ 1000) (hs : ∀ i, i < n → (ss[i]?.getD ([], [], [])).1.length ≤ 1000) :
    Calls Tryz.prog 83 #[.slice a n c] w fun e w' => e = .returned (.slice a n c) ∧ (∃ raw', Sts w' B a n c raw' ss) ∧ Below B w w' := by
  obtain ⟨g, rfl, hg⟩ : ∃ g, a = some ⟨g, 0, none⟩ ∧ B ≤ g := by
    rcases h1.row.2 with ⟨h2, h3⟩ | ⟨g, cap, cur, hv, hg, _⟩
    · omega
    · cases hv
      exact ⟨g, rfl, hg⟩
  have m1 := h1.row.sr.max
  have q1 := h1.row.sr.cap
  have HS := Lib.hid hs
  have hnl := h1.n_
  have HNL := Lib.hid hnl
  have hBw := Nat.le_trans hg (Nat.le_of_lt (World.ownsRow.lt h1.row g rfl).2)
  clear hs hnl
  go_enter Tryz.func83, Tryz.ntmps83
  go_wp2_with fail
  go_loopw [6] (fun i wr => ∃ k : Nat, k ≤ n ∧ i = .int .i64 k ∧ (∃ raw', Sts wr B (some ⟨g, 0, none⟩) n c raw' ss) ∧ Below B w wr) (fun i _ => n - (intOf i).toNat)
  case atStart => exact ⟨0, by omega, rfl, ⟨raw, h1⟩, Below.refl _ _⟩
  case round =>
    obtain ⟨k, hk, rfl, ⟨raw', hI⟩, hb⟩ := hrel
    by_cases hlt : k < n
    · obtain ⟨b', o', he, hcc⟩ := hI.row.sr.at_ hn0
      cases he
      obtain ⟨z0, -, -⟩ := hcc k hlt
      obtain ⟨v1, v2, -, -, -, -⟩ := hI.st k (by rw [← HNL.out]; exact hlt)
      have hl1 := HS.out k hlt
      obtain ⟨rr, hrr⟩ : ∃ rr, (raw'[k]?.getD str0).1 = rr := ⟨_, rfl⟩
      obtain ⟨u1, u2, u3⟩ := rr
      rw [hrr] at z0 v1 v2
      have hi1 : (k : Int) < (n : Int) := by omega
      have hi0 : (0 : Int) ≤ (k : Int) := by omega
      simp only [Nat.zero_add, hv] at z0
      dsimp only at v1 v2
      have hu : u2 ≤ 1000 := by rw [v1.len]; exact hl1
      have HI := Lib.hid hI
      clear hcc hrr hI
      go_wp2_with fail
      refine (clone_any u1 u2 u3 _ wr v1 (by omega)).mono ?_
      rintro e w5 ⟨ca, cc, rfl, hcl, hs5⟩
      have hI5 := HI.out.keep hs5
      obtain ⟨b', o', he, hcc⟩ := hI5.row.sr.at_ hn0
      cases he
      obtain ⟨z1, -, -⟩ := hcc k hlt
      simp only [Nat.zero_add] at z1
      have zf := World.ownsRow.frozenAt hI5.row (k * 3)
      have HI6 := Lib.hid (hI5.store hlt hcl.si (In.of_owns hcl))
      have hb5 := (hb.trans (hs5.mono (Nat.le_trans hBw hb.size))).setCell (p := ⟨g, k * 3, none⟩) hg (.slice ca u2 cc)
      clear hcc hI5 hcl
      go_wp2_with fail
      go_roundw
      case rel => exact ⟨k + 1, by omega, by go_num, ⟨_, HI6.out⟩, hb5⟩
      case measure => simp [intOf]; omega
    · have hle : (n : Int) ≤ (k : Int) := by omega
      go_wp2_with fail
      go_ret
      exact ⟨rfl, ⟨raw', hI⟩, hb⟩
end Go.Proofs.YtaiikekgckjdeaaGreat
