/- Contracts of chapter 6: a text read as numbers. -/
import Derived.Test.YteigmjlfpmdmoaaGreatDoorK05
namespace Go.Proofs.YteigmjlfpmdmoaaGreatDoor
open Go.RowKit Go.Shelf
attribute [local go_sem] Oper.semAt_some
open Calmly (Kept)

theorem kpl_owns {L : Nat → Prop} {w w' : World} {B n k : Nat} {v : Value} {e : TypeId} {xs : List Value} (h : w.ownsRow B e k v n xs) (hk : KpL L w w') (hL : ∀ b, B ≤ b → ¬ L b) : w'.ownsRow B e k v n xs := by
  obtain ⟨h1, h2⟩ := h
  refine ⟨h1, ?_⟩
  rcases h2 with h2 | ⟨g, cap, cur, hv, hg, hh, r'⟩
  · exact .inl h2
  · exact .inr ⟨g, cap, cur, hv, hg, hk.same g _ (hL g hg) hh rfl, r'⟩

/-- What lies between two words. -/
structure NmI (w : World) (B d : Nat) (bl : Bool) (ws : List (List UInt8)) (k : Nat) (W : World) : Prop where
  bel : Below w.heap.size w W
  sz : B + 8 ≤ W.heap.size
  b0 : W.heap[B]? = some (.cells #[.int .i64 (d : Int)] 3)
  b1 : W.heap[B + 1]? = some (.cells #[.bool bl] 4)
  b2 : W.heap[B + 2]? = some (.cells #[.slice none 0 0] 22)
  b3 : W.heap[B + 3]? = some (.cells #[.bool false] 4)
  out : ∃ av cc out, W.heap[B + 4]? = some (.cells #[.slice av k cc] 22) ∧ OwI W (B + 8) av k cc out ∧ numsF d bl (ws.take k) = some out
/-- What lies there when a word is no number. -/
structure NmX (w : World) (B d : Nat) (bl : Bool) (ws : List (List UInt8)) (W : World) : Prop where
  bel : Below w.heap.size w W
  b2 : W.heap[B + 2]? = some (.cells #[.slice none 0 0] 22)
  b3 : W.heap[B + 3]? = some (.cells #[.bool false] 4)
  bad : numsF d bl ws = none
theorem NmI.kpl {w W W' : World} {B d k : Nat} {bl : Bool} {ws : List (List UInt8)} {L : Nat → Prop} (h : NmI w B d bl ws k W) (hb : Below w.heap.size w W') (hk : KpL L W W') (h0 : ∀ b, b < B + 5 → ¬ L b) (h8 : ∀ b, B + 8 ≤ b → ¬ L b) : NmI w B d bl ws k W' := by
  obtain ⟨i0, iz, i1, i2, i3, i4, av, cc, out, i5, i6, i7⟩ := h
  exact ⟨hb, Nat.le_trans iz hk.size, hk.blk (h0 _ (by omega)) i1, hk.blk (h0 _ (by omega)) i2, hk.blk (h0 _ (by omega)) i3, hk.blk (h0 _ (by omega)) i4, av, cc, out, hk.blk (h0 _ (by omega)) i5, kpl_owns i6 hk h8, i7⟩
theorem NmI.keep {w W W' : World} {B d k : Nat} {bl : Bool} {ws : List (List UInt8)} (h : NmI w B d bl ws k W) (hb : Below W.heap.size W W') : NmI w B d bl ws k W' :=
  h.kpl (L := fun _ => False) (h.bel.trans (hb.mono h.bel.size)) (KpL.of_below hb) (fun _ _ => id) (fun _ _ => id)
theorem NmI.grown {w W W' : World} {B d k : Nat} {bl : Bool} {ws : List (List UInt8)} {row : Option Nat} (h : NmI w B d bl ws k W) (hB : w.heap.size ≤ B) (hg : W.grownBy W' row) (hr : ∀ r, row = some r → r = B + 5 ∨ (B + 8 ≤ r ∧ ∃ o : Obj, W.heap[r]? = some o ∧ o.isCells = false)) : NmI w B d bl ws k W' := by
  refine h.kpl (L := fun b => b = B + 5) (h.bel.trans (grown_below hg h.bel.size (fun r e => ?_))) (kpl_grown hg _ (fun r e => ?_)) (fun b hb e => by omega) (fun b hb e => by omega)
  · rcases hr r e with h1 | h1 <;> omega
  · rcases hr r e with h1 | ⟨_, h1⟩
    · exact .inl h1
    · exact .inr h1
theorem NmX.grown {w W W' : World} {B d : Nat} {bl : Bool} {ws : List (List UInt8)} {row : Option Nat} (h : NmX w B d bl ws W) (hB : w.heap.size ≤ B) (hg : W.grownBy W' row) (hr : ∀ r, row = some r → r = B + 5 ∨ (B + 8 ≤ r ∧ ∃ o : Obj, W.heap[r]? = some o ∧ o.isCells = false)) : NmX w B d bl ws W' := by
  obtain ⟨i0, i1, i2, i3⟩ := h
  have hk : KpL (fun b => b = B + 5) W W' := kpl_grown hg _ (fun r e => by
    rcases hr r e with h1 | ⟨_, h1⟩
    · exact .inl h1
    · exact .inr h1)
  refine ⟨i0.trans (grown_below hg i0.size (fun r e => ?_)), hk.blk (by omega) i1, hk.blk (by omega) i2, i3⟩
  rcases hr r e with h1 | h1 <;> omega

theorem NmI.stop {w W : World} {B d k : Nat} {bl : Bool} {ws : List (List UInt8)} (h : NmI w B d bl ws k W) (hB : w.heap.size ≤ B) (hbad : numsF d bl ws = none) :
    NmX w B d bl ws ((W.setCell ⟨B + 2, 0, none⟩ (.slice none 0 0)).setCell ⟨B + 3, 0, none⟩ (.bool false)) := by
  obtain ⟨i0, _, _, _, i3, i4, _⟩ := h
  refine ⟨(i0.setCell (p := ⟨B + 2, 0, none⟩) (by simp; omega) _).setCell (p := ⟨B + 3, 0, none⟩) (by simp; omega) _, ?_, ?_, hbad⟩
  · rw [Below.heap_setCell _ _ _ _ (by simp)]
    exact set_one i3 _
  · refine set_one (v := .bool false) ?_ _
    rw [Below.heap_setCell _ _ _ _ (by simp)]
    exact i4
theorem NmI.app {w W W5 : World} {B d k : Nat} {bl : Bool} {ws : List (List UInt8)} {a5 : Option Addr} {c5 : Nat} {xs : List Int} (h : NmI w B d bl ws k W) (hB : w.heap.size ≤ B) (hb5 : Below (B + 8) W W5) (ho5 : OwI W5 (B + 8) a5 (k + 1) c5 xs) (hns : numsF d bl (ws.take (k + 1)) = some xs) :
    NmI w B d bl ws (k + 1) (W5.setCell ⟨B + 4, 0, none⟩ (.slice a5 (k + 1) c5)) := by
  obtain ⟨i0, iz, i1, i2, i3, i4, av, cc, out, i5, _, _⟩ := h
  have hne : ∀ {b : Nat} {o : Obj}, b < B + 8 → b ≠ B + 4 → W.heap[b]? = some o → (W5.setCell ⟨B + 4, 0, none⟩ (.slice a5 (k + 1) c5)).heap[b]? = some o := fun h1 h2 h3 => by
    rw [Below.heap_setCell _ _ _ _ (by simpa using h2)]
    exact (hb5.block _ h1).trans h3
  refine ⟨(i0.trans (hb5.mono (by omega))).setCell (p := ⟨B + 4, 0, none⟩) (by simp; omega) _, ?_, hne (by omega) (by omega) i1, hne (by omega) (by omega) i2, hne (by omega) (by omega) i3, hne (by omega) (by omega) i4, a5, c5, xs, set_one ((hb5.block _ (by omega)).trans i5) _, ?_, hns⟩
  · have := hb5.size
    simp
    omega
  · exact kpl_owns ho5 (KpL.setCell (L := fun b => b = B + 4) _ _ _ rfl) (fun b hb => by omega)
theorem koN_grown {W W' : World} {row : Option Nat} (hg : W.grownBy W' row) (hr : ∀ r, row = some r → ∃ o, W.heap[r]? = some o ∧ o.isCells = true) : KeepsOthers W W' := ⟨hg.size, fun k o hk ho => by
  rw [hg.block k (Array.getElem?_eq_some_iff.1 hk).1 ?_]
  · exact hk
  · intro he
    obtain ⟨o', h1, h2⟩ := hr k he.symm
    rw [hk] at h1
    cases h1
    rw [ho] at h2
    cases h2⟩
/-- An append of a record to a row of the call's own: blocks of other types are as they were. -/
theorem appRecN {P : Program} {ops : Array Oper} {rest : List Oper} {o : Oper} {a : Act} {Q : Exit → Act → World → Prop} {Wx : World} (w0 : World) (t e : TypeId) {z : Value} {k bytes : Nat} {new : List Value} (hW : Wx = w0.alloc (.cells new.toArray e)) (hgd : o.guard = none) (s x' : Operand)
    (ho : o.op = .call { callee := .builtin .append, args := #[s, x'], argTypes := #[t, t] }) (ht : P.underlying t = some (.slice e)) (hinfo : (P.info? e).map (fun i => (i.zero, i.size, i.bytes)) = some (some z, k, bytes)) (hzs : z.cells.size = k) (hsz : 0 < k) (hbb : bytes ≤ 128)
    {B : Nat} {av : Option Addr} {n c : Nat} {xs : List Value} (hown : w0.ownsRow B e k (.slice av n c) n xs) (hs : a.eval s = .slice av n c) (hx : a.eval x' = .slice (some ⟨w0.heap.size, 0, none⟩) 1 1) (hnl : new.length = k) (hone : ∀ u ∈ new, u.oneCell' = true)
    (hb1 : n + 1 ≤ 1099511627776) (hB : B ≤ w0.heap.size)
    (h : ∀ a' c' w', w'.ownsRow B e k (.slice a' (n + 1) c') (n + 1) (xs ++ new) → Below B w0 w' → KeepsOthers w0 w' → (∀ b, b < w0.heap.size → ¬ BlkT w0 b e → w'.heap[b]? = w0.heap[b]?) → wpList P ops Q rest (a.put o.dst (.slice a' (n + 1) c')) w') :
    wpList P ops Q (o :: rest) a Wx := by
  subst hW
  obtain ⟨i0, hi, hz0, hz1, hz2⟩ := info_parts hinfo
  have hal : KeepsOthers w0 (w0.alloc (.cells new.toArray e)) := KeepsOthers.alloc _ _
  have hmul : (n + 1) * bytes ≤ 140737488355328 := by
    have := Nat.mul_le_mul hb1 hbb
    omega
  refine wpList_append_own _ hgd s x' t ho B e i0 z k bytes ht hi hz0 hz1 hz2 hzs hsz _ n xs hs (World.ownsRow.alloc hown _) ⟨w0.heap.size, 0, none⟩ 1 1 new hx (by rw [hnl, Nat.one_mul]) (by simpa using cells_new w0 new.toArray e) hone (by unfold maxLen; omega) hmul (by simp; omega) ?_
  intro v' w1 ho1 hg hn
  have hrow : ∀ j, (Value.slice av n c).ownBlock = some j → B ≤ j := fun j hj => (World.ownsRow.lt hown j hj).1
  have hb0 : Below B w0 (w0.alloc (.cells new.toArray e)) := (Below.refl _ _).alloc hB _
  have hb2 : Below B w0 w1 := hb0.trans (grown_below hg (by simp; omega) hrow)
  have hko : KeepsOthers w0 w1 := hal.trans (koN_grown hg (fun r hr => by
    rcases hown.2 with ⟨h1, _⟩ | ⟨g, cap, cur, h1, _, h3, _⟩
    · cases h1; cases hr
    · cases h1
      cases hr
      exact ⟨_, (Below.heap_alloc w0 _ g (Array.getElem?_eq_some_iff.1 h3).1).trans h3, rfl⟩))
  obtain ⟨a', c', rfl⟩ := owns_slice ho1
  refine h a' c' w1 ho1 hb2 hko (fun b hb hne => ?_)
  rw [hg.block b (by simp; omega) ?_]
  · exact Below.heap_alloc w0 _ b hb
  · intro he
    rcases hown.2 with ⟨h1, _⟩ | ⟨g', cap, cur, h1, _, h3, _⟩
    · cases h1; cases he
    · cases h1
      cases he
      exact hne ⟨_, h3⟩

theorem appIK {ops : Array Oper} {rest : List Oper} {o : Oper} {a : Act} {Q : Exit → Act → World → Prop} {w0 : World} {B : Nat} {av : Option Addr} {n c : Nat} {xs : List Int} {v : Int} (hgd : o.guard = none) (s x : Operand)
    (ho : o.op = .call { callee := .builtin .append, args := #[s, x], argTypes := #[22, 22] })
    (hown : OwI w0 B av n c xs) (hs : a.eval s = .slice av n c) (hx : a.eval x = .slice (some ⟨w0.heap.size, 0, none⟩) 1 1)
    (hb1 : n + 1 ≤ 1099511627776) (hB : B ≤ w0.heap.size)
    (h : ∀ a' c' w', OwI w' B a' (n + 1) c' (xs ++ [v]) → Below B w0 w' → KeepsOthers w0 w' → wpList Tryz.prog ops Q rest (a.put o.dst (.slice a' (n + 1) c')) w') :
    wpList Tryz.prog ops Q (o :: rest) a (w0.alloc (.cells #[.int .i64 v] 3)) := by
  refine appRecN w0 22 3 (new := [.int .i64 v]) rfl hgd s x ho Tryz.underlying22 Tryz.info_int rfl (by decide) (by decide) hown hs hx rfl (by simp [Value.oneCell']) hb1 hB ?_
  intro a' c' w1 h1 h2 h3 _
  exact h a' c' w1 (by unfold OwI; simpa using h1) h2 h3
structure StopN (p : Prop) : Prop where
  out : p
theorem alls_heap : ∀ (l : List Obj) (w : World), (l.foldl World.alloc w).heap = w.heap ++ l.toArray
  | [], w => by simp
  | o :: r, w => by
    rw [List.foldl_cons, alls_heap r]
    show w.heap.push o ++ r.toArray = _
    simp
theorem alls_get (l : List Obj) (w : World) (i : Nat) (o : Obj) (h : l[i]? = some o) : (l.foldl World.alloc w).heap[w.heap.size + i]? = some o := by
  rw [alls_heap, Array.getElem?_append_right (by omega)]
  simp [h]
theorem alls_below : ∀ (l : List Obj) (w : World), Below w.heap.size w (l.foldl World.alloc w)
  | [], w => Below.refl _ _
  | o :: r, w => by
    have h1 : Below w.heap.size w (w.alloc o) := (Below.refl _ _).alloc (Nat.le_refl _) _
    exact h1.trans ((alls_below r (w.alloc o)).mono h1.size)
theorem alls_size (l : List Obj) (w : World) : (l.foldl World.alloc w).heap.size = w.heap.size + l.length := by
  rw [alls_heap]
  simp

set_option maxRecDepth 100000 in
set_option maxHeartbeats 1000000 in
theorem numbers_any (s : List UInt8) (d : Nat) (bl : Bool) (w : World) (hv : Vars w) (hs : s.length ≤ 1000000) (hd : d ≤ 17) :
    Calls Tryz.prog 86 #[.string (bs s), .int .i64 (d : Int), .bool bl] w fun e w' => ∃ a n c, e = .returned (.tuple #[.slice a n c, .bool (numsF d bl (cutB 32 s)).isSome]) ∧ SI w' a n c ((numsF d bl (cutB 32 s)).getD []) ∧ In w' 3 a ∧ Below w.heap.size w w' := by
  refine (callsIn_wide (n := 5)).1 ?_
  refine callsIn_of_wp_marks Tryz.func86 rfl trivial ?_ rfl
  simp only [Tryz.ntmps86, List.size_toArray, List.length_cons, List.length_nil, Nat.reduceAdd, Nat.reduceSub, Array.replicate_succ, Array.replicate_zero, List.push_toArray, List.append_toArray, List.nil_append, List.cons_append]
  refine wpIn_wide.2 ?_
  go_wp2_with fail
  refine (splitSeq_any s _).mono ?_
  rintro e w1 ⟨rfl, rfl⟩
  go_wp2_with fail
  have hV := alls_get [.cells #[.int .i64 (d : Int)] 3, .cells #[.bool bl] 4, .cells #[.slice none 0 0] 22, .cells #[.bool false] 4, .cells #[.slice none 0 0] 22, .cells #[.string (bs s)] 9, .cells #[.string (bs [32])] 9, .cells #[.int .i64 0] 3] w
  have hVb := alls_below [.cells #[.int .i64 (d : Int)] 3, .cells #[.bool bl] 4, .cells #[.slice none 0 0] 22, .cells #[.bool false] 4, .cells #[.slice none 0 0] 22, .cells #[.string (bs s)] 9, .cells #[.string (bs [32])] 9, .cells #[.int .i64 0] 3] w
  have hVs := alls_size [.cells #[.int .i64 (d : Int)] 3, .cells #[.bool bl] 4, .cells #[.slice none 0 0] 22, .cells #[.bool false] 4, .cells #[.slice none 0 0] 22, .cells #[.string (bs s)] 9, .cells #[.string (bs [32])] 9, .cells #[.int .i64 0] 3] w
  have y0 := hV 0 _ rfl
  have y1 := hV 1 _ rfl
  have y2 := hV 2 _ rfl
  have y3 := hV 3 _ rfl
  have y4 := hV 4 _ rfl
  have y5 := hV 5 _ rfl
  have y6 := hV 6 _ rfl
  have y7 := hV 7 _ rfl
  clear hV
  simp only [List.foldl_cons, List.foldl_nil, List.length_cons, List.length_nil] at y0 y1 y2 y3 y4 y5 y6 y7 hVb hVs
  simp only [Nat.reduceAdd, Nat.zero_add, Nat.add_zero] at y0 hVs
  simp only [Nat.add_assoc, Nat.reduceAdd]
  generalize World.alloc _ (.cells #[.int .i64 0] 3) = V at *
  obtain ⟨B, hB⟩ : ∃ B, w.heap.size = B := ⟨_, rfl⟩
  rw [hB] at y0 y1 y2 y3 y4 y5 y6 y7 hVs ⊢
  have hBw : w.heap.size ≤ B := by omega
  have hVs8 : V.heap.size = B + 8 := hVs
  have hI0 : NmI w B d bl (cutB 32 s) 0 V := ⟨hVb, by omega, y0, y1, y2, y3, none, 0, [], y4, OwI.nil _ _, rfl⟩
  clear hVs y0 y1 y2 y3 y4
  refine (wpIn_wide (n := 5)).1 ?_
  refine range_box (gf := 119) (m := 4) (pb := B + 5) rfl (enters_of Tryz.func119 (by kernel_rfl) rfl) (enc := fun i : Fin (cutB 32 s).length => #[.string (bs ((cutB 32 s)[i.val]?.getD []))]) (Kp := KpL (fun b => B + 2 ≤ b ∧ b ≠ B + 5 ∧ b ≠ B + 6 ∧ b ≠ B + 7)) (by omega)
    (split_onB w V (B + 6) (B + 5) (B + 7) s (fun b => B + 2 ≤ b ∧ b ≠ B + 5 ∧ b ≠ B + 6 ∧ b ≠ B + 7) hs y5 y6 y7 (by omega) (by omega) (by omega) (by omega) hv hVb (fun b h => by omega) (by omega) _) (fun h k => h.trans k) (fun W l o o' _ hl ho => KpL.put o' hl ho) (fun _ => rfl)
    (fun pre W => NmI w B d bl (cutB 32 s) pre.length W) (fun _ W => NmX w B d bl (cutB 32 s) W) (fun pre W W' row h hg hr => h.grown hBw hg (fun r e => by rw [← hVs8]; exact hr r e)) hI0
    (fun pre x a' W => NmI w B d bl (cutB 32 s) pre.length W ∧ (x.val = pre.length ∧ a' = { tmps := #[.string (bs s), .int .i64 (d : Int), .bool bl, undef, .pointer (some ⟨B, 0, none⟩), .pointer (some ⟨B + 1, 0, none⟩), .pointer (some ⟨B + 2, 0, none⟩), .pointer (some ⟨B + 3, 0, none⟩), .pointer (some ⟨B + 4, 0, none⟩), .string (bs ((cutB 32 s)[x.val]?.getD [])), undef, undef, .string (bs s), .func (.func 119) #[] #[.pointer (some ⟨B + 6, 0, none⟩), .pointer (some ⟨B + 5, 0, none⟩), .pointer (some ⟨B + 7, 0, none⟩)], .string (bs ((cutB 32 s)[x.val]?.getD [])), undef, undef, undef, undef, undef, undef, undef, undef, undef, undef, undef, undef, undef, undef, undef, undef, undef, undef, undef, undef, undef, undef, undef, undef, undef, undef, undef, undef, undef, undef, undef, undef, undef], defers := [] }))
    ?own ?assign ?body ?ixown ?done ?stop
  case own =>
    rintro pre x a' s W W' row ⟨h1, h3⟩ hg hr
    exact ⟨h1.grown hBw hg (fun r e => .inr (by rw [← hVs8]; exact hr r e)), h3⟩
  case ixown =>
    rintro s W W' row h hg hr
    exact h.grown hBw hg (fun r e => by rw [← hVs8]; exact hr r e)
  case assign =>
    rintro r pre x W K hi hlen hpx hK
    obtain ⟨p, hp⟩ : ∃ p, (cutB 32 s)[x.val]?.getD [] = p := ⟨_, rfl⟩
    rw [hp] at hK ⊢
    clear hp
    gi_wp2
    exact hK _ _ (KeepsOthers.refl _) (KpL.refl _ _) ⟨hi, hpx, rfl⟩
  case body =>
    rintro r pre x a' W ⟨hD, hpx, rfl⟩
    rw [List.length_append, List.length_singleton]
    have hxl := x.isLt
    obtain ⟨k, hk⟩ : ∃ k, x.val = k := ⟨_, rfl⟩
    rw [hk] at hpx hxl ⊢
    rw [← hpx] at hD ⊢
    obtain ⟨wd, hwd⟩ : ∃ p, (cutB 32 s)[k]?.getD [] = p := ⟨_, rfl⟩
    rw [hwd]
    have hmem : wd ∈ cutB 32 s := by rw [← hwd]; simp [hxl]
    have hwl := cutB_le 32 s wd hmem
    have hspl : cutB 32 s = (cutB 32 s).take k ++ wd :: (cutB 32 s).drop (k + 1) := by
      rw [← hwd, List.getElem?_eq_getElem hxl]
      exact ((List.take_append_drop k _).symm).trans (by rw [List.drop_eq_getElem_cons hxl]; rfl)
    have HSP := Lib.hid hspl
    have htk : (cutB 32 s).take (k + 1) = (cutB 32 s).take k ++ [wd] := by
      rw [List.take_add_one, List.getElem?_eq_getElem hxl, ← hwd, List.getElem?_eq_getElem hxl]
      rfl
    have HTK := Lib.hid htk
    have hvW : Vars W := hv.keep hD.bel
    clear hwd hmem hspl hpx hk htk
    have hKO : ∀ {A C : World}, Below A.heap.size A C → KeepsOthers A C := fun h => ⟨h.size, fun k _ hk _ => (h.block k (Array.getElem?_eq_some_iff.1 hk).1).trans hk⟩
    rcases atoi_split wd with ⟨v, ha⟩ | ha | ha
    ·
      obtain ⟨vb0, vb1⟩ := Lib.atoiAll_bounds ha
      have HA := Lib.hid ha
      gi_wp2
      refine ⟨trivial, (CallsIn.inRound r (callsIn_wide.2 (atoi_ok wd v _ (by omega) ha))).mono ?_⟩
      rintro e w1 ⟨rfl, hb1⟩
      clear ha
      gi_wp2
      rename_i K7 hK7 K8 hK8
      have hK7' := fun a w (h : StopN _) => hK7 a w h.out
      clear hK7
      refine Calmly.wpIn_region_mix 22 (.fl 0 <| .eff 1 <| .fl 2 <| .gl 3 <| .gl 5 <| .gf 4 <| .gl 6 <| .fl 7 <| .fl 8 <| .gl 9 <| .gl 10 <| .gl 11 <| .gl 12 <| .gl 13 <| .gl 14 <| .fl 15 <| .fl 16 <| .gl 17 <| .gl 20 <| .gf 18 <| .gf 19 <| .gl 21 <| .tail [22]) (by kernel_rfl) (by kernel_rfl) (by rintro a w (⟨h, _⟩ | ⟨h, _⟩) <;> cases h) ?_
      have BD : Below w1.heap.size w1 w1.drew := (Below.refl _ _).drew
      have HKO := Lib.hid (hKO (hb1.trans (BD.mono hb1.size)))
      have HKP := Lib.hid (KpL.of_below (L := fun b => B + 2 ≤ b ∧ b ≠ B + 5 ∧ b ≠ B + 6 ∧ b ≠ B + 7) (hb1.trans (BD.mono hb1.size)))
      replace hD := (hD.keep hb1).keep BD
      generalize w1.drew = V5 at *
      have hvV : Vars V5 := hv.keep hD.bel
      have f0 := cell_block hD.b0 0
      have f1 := cell_block hD.b1 0
      have hk := Below.refl V5.heap.size V5
      go_wp2_with (first | ((with_reducible refine Calmly.is_fl ?_); refine Calmly.mix_fl rfl ?_ (fun _ _ => ?_); (first | exact .move _ | exact .load _ _ | exact .fieldAddr _ _ _ (by kernel_rfl) | exact .assign _ | exact .binOp _ _ _ _ _ rfl | exact .indexAddr _ _ _ | exact .len _ _ (by kernel_rfl) | exact .field _ _ _ | exact .extract _ _ | exact .pick _ _ _ | exact .build _ _ | exact .slice _ _ _ _ _ | exact .unOp _ _ _ rfl | exact .index _ _ _ | exact .max _ _ _ rfl rfl | exact .min _ _ _ rfl rfl | exact .nilCheck _ _ rfl)) | ((with_reducible refine Calmly.is_gl ?_); refine Calmly.mix_gl rfl rfl rfl ?_; first | ((first | with_reducible refine Calmly.gl_tt ?_ (fun _ _ => ?_) | with_reducible refine Calmly.gl_ff ?_ (fun _ _ => ?_)); (first | exact .move _ | exact .load _ _ | exact .fieldAddr _ _ _ (by kernel_rfl) | exact .assign _ | exact .binOp _ _ _ _ _ rfl | exact .indexAddr _ _ _ | exact .len _ _ (by kernel_rfl) | exact .field _ _ _ | exact .extract _ _ | exact .pick _ _ _ | exact .build _ _ | exact .slice _ _ _ _ _ | exact .unOp _ _ _ rfl | exact .index _ _ _ | exact .max _ _ _ rfl rfl | exact .min _ _ _ rfl rfl | exact .nilCheck _ _ rfl)) | with_reducible refine Calmly.gl_tf (fun _ _ => ?_) | with_reducible refine Calmly.gl_ft (fun _ _ => ?_)) | ((with_reducible refine Calmly.is_eff ?_); refine Calmly.mix_eff rfl (fun _ _ => ?_)) | ((with_reducible refine Calmly.is_gf ?_); refine Calmly.mix_gf rfl rfl rfl ?_; first | with_reducible refine Calmly.gf_tt (fun _ _ => ?_) | with_reducible refine Calmly.gf_ff (fun _ _ => ?_) | with_reducible refine Calmly.gf_tf (kept_of hk) (fun _ _ => ?_) | with_reducible refine Calmly.gf_ft (kept_of hk) (fun _ _ => ?_)) | ((with_reducible refine Calmly.is_tail ?_); first | refine Calmly.mix_tail_nil ?_ | refine Calmly.mix_tail rfl (fun _ _ => ?_)) | ((with_reducible refine Calmly.is_kept ?_); refine ⟨kept_of hk, ?_⟩) | (with_reducible refine Calmly.mix_alt ?_ ?_) | ((with_reducible refine Calmly.is_gl ?_); refine Calmly.mix_glu rfl rfl rfl (fun _ _ => ?_)) | ((with_reducible refine Calmly.is_gf ?_); refine Calmly.mix_gfu rfl rfl rfl (kept_of hk) (fun _ _ => ?_)))
      refine (itoa_any v _ hvV vb0 vb1).mono ?_
      rintro e w2 ⟨rfl, hb2⟩
      replace hk := step_of hk hb2
      by_cases hi : Lib.itoa v = wd
      · by_cases hv0 : v < 0
        · cases bl
          · have hw0 := word_neg (d := d) (b := false) hi hv0 rfl
            have HW0 := Lib.hid hw0
            clear hw0
            go_wp2_with (first | ((with_reducible refine Calmly.is_fl ?_); refine Calmly.mix_fl rfl ?_ (fun _ _ => ?_); (first | exact .move _ | exact .load _ _ | exact .fieldAddr _ _ _ (by kernel_rfl) | exact .assign _ | exact .binOp _ _ _ _ _ rfl | exact .indexAddr _ _ _ | exact .len _ _ (by kernel_rfl) | exact .field _ _ _ | exact .extract _ _ | exact .pick _ _ _ | exact .build _ _ | exact .slice _ _ _ _ _ | exact .unOp _ _ _ rfl | exact .index _ _ _ | exact .max _ _ _ rfl rfl | exact .min _ _ _ rfl rfl | exact .nilCheck _ _ rfl)) | ((with_reducible refine Calmly.is_gl ?_); refine Calmly.mix_gl rfl rfl rfl ?_; first | ((first | with_reducible refine Calmly.gl_tt ?_ (fun _ _ => ?_) | with_reducible refine Calmly.gl_ff ?_ (fun _ _ => ?_)); (first | exact .move _ | exact .load _ _ | exact .fieldAddr _ _ _ (by kernel_rfl) | exact .assign _ | exact .binOp _ _ _ _ _ rfl | exact .indexAddr _ _ _ | exact .len _ _ (by kernel_rfl) | exact .field _ _ _ | exact .extract _ _ | exact .pick _ _ _ | exact .build _ _ | exact .slice _ _ _ _ _ | exact .unOp _ _ _ rfl | exact .index _ _ _ | exact .max _ _ _ rfl rfl | exact .min _ _ _ rfl rfl | exact .nilCheck _ _ rfl)) | with_reducible refine Calmly.gl_tf (fun _ _ => ?_) | with_reducible refine Calmly.gl_ft (fun _ _ => ?_)) | ((with_reducible refine Calmly.is_eff ?_); refine Calmly.mix_eff rfl (fun _ _ => ?_)) | ((with_reducible refine Calmly.is_gf ?_); refine Calmly.mix_gf rfl rfl rfl ?_; first | with_reducible refine Calmly.gf_tt (fun _ _ => ?_) | with_reducible refine Calmly.gf_ff (fun _ _ => ?_) | with_reducible refine Calmly.gf_tf (kept_of hk) (fun _ _ => ?_) | with_reducible refine Calmly.gf_ft (kept_of hk) (fun _ _ => ?_)) | ((with_reducible refine Calmly.is_tail ?_); first | refine Calmly.mix_tail_nil ?_ | refine Calmly.mix_tail rfl (fun _ _ => ?_)) | ((with_reducible refine Calmly.is_kept ?_); refine ⟨kept_of hk, ?_⟩) | (with_reducible refine Calmly.mix_alt ?_ ?_) | ((with_reducible refine Calmly.is_gl ?_); refine Calmly.mix_glu rfl rfl rfl (fun _ _ => ?_)) | ((with_reducible refine Calmly.is_gf ?_); refine Calmly.mix_gfu rfl rfl rfl (kept_of hk) (fun _ _ => ?_)))
            have HKO2 := Lib.hid (HKO.out.trans (hKO hk))
            replace hD := hD.keep hk
            have f2 := cell_block hD.b2 0
            have f3 := cell_block hD.b3 0
            have r2 := frozen_block hD.b2 0
            have r3 := frozen_block hD.b3 0
            have hX := hD.stop hBw (by rw [HSP.out]; exact numsF_bad _ HW0.out)
            have hKX := (HKO2.out.trans (KeepsOthers.setCell _ ⟨B + 2, 0, none⟩ (.slice none 0 0))).trans (KeepsOthers.setCell _ ⟨B + 3, 0, none⟩ (.bool false))
            gi_wp2
            all_goals first | exact hX | exact hKX
          · go_wp2_with (first | ((with_reducible refine Calmly.is_fl ?_); refine Calmly.mix_fl rfl ?_ (fun _ _ => ?_); (first | exact .move _ | exact .load _ _ | exact .fieldAddr _ _ _ (by kernel_rfl) | exact .assign _ | exact .binOp _ _ _ _ _ rfl | exact .indexAddr _ _ _ | exact .len _ _ (by kernel_rfl) | exact .field _ _ _ | exact .extract _ _ | exact .pick _ _ _ | exact .build _ _ | exact .slice _ _ _ _ _ | exact .unOp _ _ _ rfl | exact .index _ _ _ | exact .max _ _ _ rfl rfl | exact .min _ _ _ rfl rfl | exact .nilCheck _ _ rfl)) | ((with_reducible refine Calmly.is_gl ?_); refine Calmly.mix_gl rfl rfl rfl ?_; first | ((first | with_reducible refine Calmly.gl_tt ?_ (fun _ _ => ?_) | with_reducible refine Calmly.gl_ff ?_ (fun _ _ => ?_)); (first | exact .move _ | exact .load _ _ | exact .fieldAddr _ _ _ (by kernel_rfl) | exact .assign _ | exact .binOp _ _ _ _ _ rfl | exact .indexAddr _ _ _ | exact .len _ _ (by kernel_rfl) | exact .field _ _ _ | exact .extract _ _ | exact .pick _ _ _ | exact .build _ _ | exact .slice _ _ _ _ _ | exact .unOp _ _ _ rfl | exact .index _ _ _ | exact .max _ _ _ rfl rfl | exact .min _ _ _ rfl rfl | exact .nilCheck _ _ rfl)) | with_reducible refine Calmly.gl_tf (fun _ _ => ?_) | with_reducible refine Calmly.gl_ft (fun _ _ => ?_)) | ((with_reducible refine Calmly.is_eff ?_); refine Calmly.mix_eff rfl (fun _ _ => ?_)) | ((with_reducible refine Calmly.is_gf ?_); refine Calmly.mix_gf rfl rfl rfl ?_; first | with_reducible refine Calmly.gf_tt (fun _ _ => ?_) | with_reducible refine Calmly.gf_ff (fun _ _ => ?_) | with_reducible refine Calmly.gf_tf (kept_of hk) (fun _ _ => ?_) | with_reducible refine Calmly.gf_ft (kept_of hk) (fun _ _ => ?_)) | ((with_reducible refine Calmly.is_tail ?_); first | refine Calmly.mix_tail_nil ?_ | refine Calmly.mix_tail rfl (fun _ _ => ?_)) | ((with_reducible refine Calmly.is_kept ?_); refine ⟨kept_of hk, ?_⟩) | (with_reducible refine Calmly.mix_alt ?_ ?_) | ((with_reducible refine Calmly.is_gl ?_); refine Calmly.mix_glu rfl rfl rfl (fun _ _ => ?_)) | ((with_reducible refine Calmly.is_gf ?_); refine Calmly.mix_gfu rfl rfl rfl (kept_of hk) (fun _ _ => ?_)))
            refine (trim_any wd [45] _).mono ?_
            rintro e w3 ⟨rfl, rfl⟩
            have ht := bs_size (Lib.trimPrefix wd [45])
            by_cases hl : d < (Lib.trimPrefix wd [45]).length
            · have hl2 : d < (bs (Lib.trimPrefix wd [45])).size := by omega
              have hw0 := word_long (b := true) hi hl
              have HW0 := Lib.hid hw0
              clear hw0 ht
              go_wp2_with (first | ((with_reducible refine Calmly.is_fl ?_); refine Calmly.mix_fl rfl ?_ (fun _ _ => ?_); (first | exact .move _ | exact .load _ _ | exact .fieldAddr _ _ _ (by kernel_rfl) | exact .assign _ | exact .binOp _ _ _ _ _ rfl | exact .indexAddr _ _ _ | exact .len _ _ (by kernel_rfl) | exact .field _ _ _ | exact .extract _ _ | exact .pick _ _ _ | exact .build _ _ | exact .slice _ _ _ _ _ | exact .unOp _ _ _ rfl | exact .index _ _ _ | exact .max _ _ _ rfl rfl | exact .min _ _ _ rfl rfl | exact .nilCheck _ _ rfl)) | ((with_reducible refine Calmly.is_gl ?_); refine Calmly.mix_gl rfl rfl rfl ?_; first | ((first | with_reducible refine Calmly.gl_tt ?_ (fun _ _ => ?_) | with_reducible refine Calmly.gl_ff ?_ (fun _ _ => ?_)); (first | exact .move _ | exact .load _ _ | exact .fieldAddr _ _ _ (by kernel_rfl) | exact .assign _ | exact .binOp _ _ _ _ _ rfl | exact .indexAddr _ _ _ | exact .len _ _ (by kernel_rfl) | exact .field _ _ _ | exact .extract _ _ | exact .pick _ _ _ | exact .build _ _ | exact .slice _ _ _ _ _ | exact .unOp _ _ _ rfl | exact .index _ _ _ | exact .max _ _ _ rfl rfl | exact .min _ _ _ rfl rfl | exact .nilCheck _ _ rfl)) | with_reducible refine Calmly.gl_tf (fun _ _ => ?_) | with_reducible refine Calmly.gl_ft (fun _ _ => ?_)) | ((with_reducible refine Calmly.is_eff ?_); refine Calmly.mix_eff rfl (fun _ _ => ?_)) | ((with_reducible refine Calmly.is_gf ?_); refine Calmly.mix_gf rfl rfl rfl ?_; first | with_reducible refine Calmly.gf_tt (fun _ _ => ?_) | with_reducible refine Calmly.gf_ff (fun _ _ => ?_) | with_reducible refine Calmly.gf_tf (kept_of hk) (fun _ _ => ?_) | with_reducible refine Calmly.gf_ft (kept_of hk) (fun _ _ => ?_)) | ((with_reducible refine Calmly.is_tail ?_); first | refine Calmly.mix_tail_nil ?_ | refine Calmly.mix_tail rfl (fun _ _ => ?_)) | ((with_reducible refine Calmly.is_kept ?_); refine ⟨kept_of hk, ?_⟩) | (with_reducible refine Calmly.mix_alt ?_ ?_) | ((with_reducible refine Calmly.is_gl ?_); refine Calmly.mix_glu rfl rfl rfl (fun _ _ => ?_)) | ((with_reducible refine Calmly.is_gf ?_); refine Calmly.mix_gfu rfl rfl rfl (kept_of hk) (fun _ _ => ?_)))
              have HKO2 := Lib.hid (HKO.out.trans (hKO hk))
              replace hD := hD.keep hk
              have f2 := cell_block hD.b2 0
              have f3 := cell_block hD.b3 0
              have r2 := frozen_block hD.b2 0
              have r3 := frozen_block hD.b3 0
              have hX := hD.stop hBw (by rw [HSP.out]; exact numsF_bad _ HW0.out)
              have hKX := (HKO2.out.trans (KeepsOthers.setCell _ ⟨B + 2, 0, none⟩ (.slice none 0 0))).trans (KeepsOthers.setCell _ ⟨B + 3, 0, none⟩ (.bool false))
              gi_wp2
              all_goals first | exact hX | exact hKX
            · have hl2 : ¬ d < (bs (Lib.trimPrefix wd [45])).size := by omega
              have hw0 := word_ok (d := d) (b := true) hi (fun _ => rfl) (by omega)
              have HW0 := Lib.hid hw0
              clear hw0 ht
              go_wp2_with (first | ((with_reducible refine Calmly.is_fl ?_); refine Calmly.mix_fl rfl ?_ (fun _ _ => ?_); (first | exact .move _ | exact .load _ _ | exact .fieldAddr _ _ _ (by kernel_rfl) | exact .assign _ | exact .binOp _ _ _ _ _ rfl | exact .indexAddr _ _ _ | exact .len _ _ (by kernel_rfl) | exact .field _ _ _ | exact .extract _ _ | exact .pick _ _ _ | exact .build _ _ | exact .slice _ _ _ _ _ | exact .unOp _ _ _ rfl | exact .index _ _ _ | exact .max _ _ _ rfl rfl | exact .min _ _ _ rfl rfl | exact .nilCheck _ _ rfl)) | ((with_reducible refine Calmly.is_gl ?_); refine Calmly.mix_gl rfl rfl rfl ?_; first | ((first | with_reducible refine Calmly.gl_tt ?_ (fun _ _ => ?_) | with_reducible refine Calmly.gl_ff ?_ (fun _ _ => ?_)); (first | exact .move _ | exact .load _ _ | exact .fieldAddr _ _ _ (by kernel_rfl) | exact .assign _ | exact .binOp _ _ _ _ _ rfl | exact .indexAddr _ _ _ | exact .len _ _ (by kernel_rfl) | exact .field _ _ _ | exact .extract _ _ | exact .pick _ _ _ | exact .build _ _ | exact .slice _ _ _ _ _ | exact .unOp _ _ _ rfl | exact .index _ _ _ | exact .max _ _ _ rfl rfl | exact .min _ _ _ rfl rfl | exact .nilCheck _ _ rfl)) | with_reducible refine Calmly.gl_tf (fun _ _ => ?_) | with_reducible refine Calmly.gl_ft (fun _ _ => ?_)) | ((with_reducible refine Calmly.is_eff ?_); refine Calmly.mix_eff rfl (fun _ _ => ?_)) | ((with_reducible refine Calmly.is_gf ?_); refine Calmly.mix_gf rfl rfl rfl ?_; first | with_reducible refine Calmly.gf_tt (fun _ _ => ?_) | with_reducible refine Calmly.gf_ff (fun _ _ => ?_) | with_reducible refine Calmly.gf_tf (kept_of hk) (fun _ _ => ?_) | with_reducible refine Calmly.gf_ft (kept_of hk) (fun _ _ => ?_)) | ((with_reducible refine Calmly.is_tail ?_); first | refine Calmly.mix_tail_nil ?_ | refine Calmly.mix_tail rfl (fun _ _ => ?_)) | ((with_reducible refine Calmly.is_kept ?_); refine ⟨kept_of hk, ?_⟩) | (with_reducible refine Calmly.mix_alt ?_ ?_) | ((with_reducible refine Calmly.is_gl ?_); refine Calmly.mix_glu rfl rfl rfl (fun _ _ => ?_)) | ((with_reducible refine Calmly.is_gf ?_); refine Calmly.mix_gfu rfl rfl rfl (kept_of hk) (fun _ _ => ?_)))
              have HKO2 := Lib.hid (HKO.out.trans (hKO hk))
              have HKP2 := Lib.hid (HKP.out.trans (KpL.of_below (L := fun b => B + 2 ≤ b ∧ b ≠ B + 5 ∧ b ≠ B + 6 ∧ b ≠ B + 7) hk))
              replace hD := hD.keep hk
              have HD := Lib.hid hD
              obtain ⟨i0, iz, i1, i2, i3, i4, av, cc, out, i5, i6, i7⟩ := hD
              have H7 := Lib.hid i7
              have f8 := cell_block i5 0
              have r8 := frozen_block i5 0
              have hsz8 : B + 8 ≤ w2.heap.size := iz
              clear i1 i2 i3 i4 i7 f0 f1
              gi_wp2
              refine ⟨?_⟩
              refine Calmly.wpIn_region_plain (by kernel_rfl) (by rintro a w (⟨h, _⟩ | ⟨h, _⟩) <;> cases h) ?_
              go_wp2_with (at_builtin; refine appIK rfl _ _ rfl i6 rfl rfl (by have := cutB_count 32 s; omega) hsz8 ?_; intro a5 c5 w5 ho5 hb5 hk5; have f9 := (hb5.cell (p := ⟨B + 4, 0, none⟩) (by simp)).trans f8; have r9 := (hb5.frozen (p := ⟨B + 4, 0, none⟩) (by simp)).trans r8)
              have hX := HD.out.app hBw hb5 ho5 (by rw [HTK.out]; exact numsF_snoc H7.out _ _ HW0.out)
              have hKX := (HKO2.out.trans hk5).trans (KeepsOthers.setCell _ ⟨B + 4, 0, none⟩ (.slice a5 (k + 1) c5))
              have hPX := (HKP2.out.trans (KpL.of_belowB (L := fun b => B + 2 ≤ b ∧ b ≠ B + 5 ∧ b ≠ B + 6 ∧ b ≠ B + 7) hb5 (fun b hb => by omega))).trans (KpL.setCell _ 0 (.slice a5 (k + 1) c5) (b := B + 4) (by omega))
              exact ⟨hKX, hPX, hX⟩
        · have hvd : decide (v < 0) = false := decide_eq_false hv0
          go_wp2_with (first | ((with_reducible refine Calmly.is_fl ?_); refine Calmly.mix_fl rfl ?_ (fun _ _ => ?_); (first | exact .move _ | exact .load _ _ | exact .fieldAddr _ _ _ (by kernel_rfl) | exact .assign _ | exact .binOp _ _ _ _ _ rfl | exact .indexAddr _ _ _ | exact .len _ _ (by kernel_rfl) | exact .field _ _ _ | exact .extract _ _ | exact .pick _ _ _ | exact .build _ _ | exact .slice _ _ _ _ _ | exact .unOp _ _ _ rfl | exact .index _ _ _ | exact .max _ _ _ rfl rfl | exact .min _ _ _ rfl rfl | exact .nilCheck _ _ rfl)) | ((with_reducible refine Calmly.is_gl ?_); refine Calmly.mix_gl rfl rfl rfl ?_; first | ((first | with_reducible refine Calmly.gl_tt ?_ (fun _ _ => ?_) | with_reducible refine Calmly.gl_ff ?_ (fun _ _ => ?_)); (first | exact .move _ | exact .load _ _ | exact .fieldAddr _ _ _ (by kernel_rfl) | exact .assign _ | exact .binOp _ _ _ _ _ rfl | exact .indexAddr _ _ _ | exact .len _ _ (by kernel_rfl) | exact .field _ _ _ | exact .extract _ _ | exact .pick _ _ _ | exact .build _ _ | exact .slice _ _ _ _ _ | exact .unOp _ _ _ rfl | exact .index _ _ _ | exact .max _ _ _ rfl rfl | exact .min _ _ _ rfl rfl | exact .nilCheck _ _ rfl)) | with_reducible refine Calmly.gl_tf (fun _ _ => ?_) | with_reducible refine Calmly.gl_ft (fun _ _ => ?_)) | ((with_reducible refine Calmly.is_eff ?_); refine Calmly.mix_eff rfl (fun _ _ => ?_)) | ((with_reducible refine Calmly.is_gf ?_); refine Calmly.mix_gf rfl rfl rfl ?_; first | with_reducible refine Calmly.gf_tt (fun _ _ => ?_) | with_reducible refine Calmly.gf_ff (fun _ _ => ?_) | with_reducible refine Calmly.gf_tf (kept_of hk) (fun _ _ => ?_) | with_reducible refine Calmly.gf_ft (kept_of hk) (fun _ _ => ?_)) | ((with_reducible refine Calmly.is_tail ?_); first | refine Calmly.mix_tail_nil ?_ | refine Calmly.mix_tail rfl (fun _ _ => ?_)) | ((with_reducible refine Calmly.is_kept ?_); refine ⟨kept_of hk, ?_⟩) | (with_reducible refine Calmly.mix_alt ?_ ?_) | ((with_reducible refine Calmly.is_gl ?_); refine Calmly.mix_glu rfl rfl rfl (fun _ _ => ?_)) | ((with_reducible refine Calmly.is_gf ?_); refine Calmly.mix_gfu rfl rfl rfl (kept_of hk) (fun _ _ => ?_)))
          refine (trim_any wd [45] _).mono ?_
          rintro e w3 ⟨rfl, rfl⟩
          have ht := bs_size (Lib.trimPrefix wd [45])
          by_cases hl : d < (Lib.trimPrefix wd [45]).length
          · have hl2 : d < (bs (Lib.trimPrefix wd [45])).size := by omega
            have hw0 := word_long (b := bl) hi hl
            have HW0 := Lib.hid hw0
            clear hw0 ht
            go_wp2_with (first | ((with_reducible refine Calmly.is_fl ?_); refine Calmly.mix_fl rfl ?_ (fun _ _ => ?_); (first | exact .move _ | exact .load _ _ | exact .fieldAddr _ _ _ (by kernel_rfl) | exact .assign _ | exact .binOp _ _ _ _ _ rfl | exact .indexAddr _ _ _ | exact .len _ _ (by kernel_rfl) | exact .field _ _ _ | exact .extract _ _ | exact .pick _ _ _ | exact .build _ _ | exact .slice _ _ _ _ _ | exact .unOp _ _ _ rfl | exact .index _ _ _ | exact .max _ _ _ rfl rfl | exact .min _ _ _ rfl rfl | exact .nilCheck _ _ rfl)) | ((with_reducible refine Calmly.is_gl ?_); refine Calmly.mix_gl rfl rfl rfl ?_; first | ((first | with_reducible refine Calmly.gl_tt ?_ (fun _ _ => ?_) | with_reducible refine Calmly.gl_ff ?_ (fun _ _ => ?_)); (first | exact .move _ | exact .load _ _ | exact .fieldAddr _ _ _ (by kernel_rfl) | exact .assign _ | exact .binOp _ _ _ _ _ rfl | exact .indexAddr _ _ _ | exact .len _ _ (by kernel_rfl) | exact .field _ _ _ | exact .extract _ _ | exact .pick _ _ _ | exact .build _ _ | exact .slice _ _ _ _ _ | exact .unOp _ _ _ rfl | exact .index _ _ _ | exact .max _ _ _ rfl rfl | exact .min _ _ _ rfl rfl | exact .nilCheck _ _ rfl)) | with_reducible refine Calmly.gl_tf (fun _ _ => ?_) | with_reducible refine Calmly.gl_ft (fun _ _ => ?_)) | ((with_reducible refine Calmly.is_eff ?_); refine Calmly.mix_eff rfl (fun _ _ => ?_)) | ((with_reducible refine Calmly.is_gf ?_); refine Calmly.mix_gf rfl rfl rfl ?_; first | with_reducible refine Calmly.gf_tt (fun _ _ => ?_) | with_reducible refine Calmly.gf_ff (fun _ _ => ?_) | with_reducible refine Calmly.gf_tf (kept_of hk) (fun _ _ => ?_) | with_reducible refine Calmly.gf_ft (kept_of hk) (fun _ _ => ?_)) | ((with_reducible refine Calmly.is_tail ?_); first | refine Calmly.mix_tail_nil ?_ | refine Calmly.mix_tail rfl (fun _ _ => ?_)) | ((with_reducible refine Calmly.is_kept ?_); refine ⟨kept_of hk, ?_⟩) | (with_reducible refine Calmly.mix_alt ?_ ?_) | ((with_reducible refine Calmly.is_gl ?_); refine Calmly.mix_glu rfl rfl rfl (fun _ _ => ?_)) | ((with_reducible refine Calmly.is_gf ?_); refine Calmly.mix_gfu rfl rfl rfl (kept_of hk) (fun _ _ => ?_)))
            have HKO2 := Lib.hid (HKO.out.trans (hKO hk))
            replace hD := hD.keep hk
            have f2 := cell_block hD.b2 0
            have f3 := cell_block hD.b3 0
            have r2 := frozen_block hD.b2 0
            have r3 := frozen_block hD.b3 0
            have hX := hD.stop hBw (by rw [HSP.out]; exact numsF_bad _ HW0.out)
            have hKX := (HKO2.out.trans (KeepsOthers.setCell _ ⟨B + 2, 0, none⟩ (.slice none 0 0))).trans (KeepsOthers.setCell _ ⟨B + 3, 0, none⟩ (.bool false))
            gi_wp2
            all_goals first | exact hX | exact hKX
          · have hl2 : ¬ d < (bs (Lib.trimPrefix wd [45])).size := by omega
            have hw0 := word_ok (d := d) (b := bl) hi (fun h => by omega) (by omega)
            have HW0 := Lib.hid hw0
            clear hw0 ht
            go_wp2_with (first | ((with_reducible refine Calmly.is_fl ?_); refine Calmly.mix_fl rfl ?_ (fun _ _ => ?_); (first | exact .move _ | exact .load _ _ | exact .fieldAddr _ _ _ (by kernel_rfl) | exact .assign _ | exact .binOp _ _ _ _ _ rfl | exact .indexAddr _ _ _ | exact .len _ _ (by kernel_rfl) | exact .field _ _ _ | exact .extract _ _ | exact .pick _ _ _ | exact .build _ _ | exact .slice _ _ _ _ _ | exact .unOp _ _ _ rfl | exact .index _ _ _ | exact .max _ _ _ rfl rfl | exact .min _ _ _ rfl rfl | exact .nilCheck _ _ rfl)) | ((with_reducible refine Calmly.is_gl ?_); refine Calmly.mix_gl rfl rfl rfl ?_; first | ((first | with_reducible refine Calmly.gl_tt ?_ (fun _ _ => ?_) | with_reducible refine Calmly.gl_ff ?_ (fun _ _ => ?_)); (first | exact .move _ | exact .load _ _ | exact .fieldAddr _ _ _ (by kernel_rfl) | exact .assign _ | exact .binOp _ _ _ _ _ rfl | exact .indexAddr _ _ _ | exact .len _ _ (by kernel_rfl) | exact .field _ _ _ | exact .extract _ _ | exact .pick _ _ _ | exact .build _ _ | exact .slice _ _ _ _ _ | exact .unOp _ _ _ rfl | exact .index _ _ _ | exact .max _ _ _ rfl rfl | exact .min _ _ _ rfl rfl | exact .nilCheck _ _ rfl)) | with_reducible refine Calmly.gl_tf (fun _ _ => ?_) | with_reducible refine Calmly.gl_ft (fun _ _ => ?_)) | ((with_reducible refine Calmly.is_eff ?_); refine Calmly.mix_eff rfl (fun _ _ => ?_)) | ((with_reducible refine Calmly.is_gf ?_); refine Calmly.mix_gf rfl rfl rfl ?_; first | with_reducible refine Calmly.gf_tt (fun _ _ => ?_) | with_reducible refine Calmly.gf_ff (fun _ _ => ?_) | with_reducible refine Calmly.gf_tf (kept_of hk) (fun _ _ => ?_) | with_reducible refine Calmly.gf_ft (kept_of hk) (fun _ _ => ?_)) | ((with_reducible refine Calmly.is_tail ?_); first | refine Calmly.mix_tail_nil ?_ | refine Calmly.mix_tail rfl (fun _ _ => ?_)) | ((with_reducible refine Calmly.is_kept ?_); refine ⟨kept_of hk, ?_⟩) | (with_reducible refine Calmly.mix_alt ?_ ?_) | ((with_reducible refine Calmly.is_gl ?_); refine Calmly.mix_glu rfl rfl rfl (fun _ _ => ?_)) | ((with_reducible refine Calmly.is_gf ?_); refine Calmly.mix_gfu rfl rfl rfl (kept_of hk) (fun _ _ => ?_)))
            have HKO2 := Lib.hid (HKO.out.trans (hKO hk))
            have HKP2 := Lib.hid (HKP.out.trans (KpL.of_below (L := fun b => B + 2 ≤ b ∧ b ≠ B + 5 ∧ b ≠ B + 6 ∧ b ≠ B + 7) hk))
            replace hD := hD.keep hk
            have HD := Lib.hid hD
            obtain ⟨i0, iz, i1, i2, i3, i4, av, cc, out, i5, i6, i7⟩ := hD
            have H7 := Lib.hid i7
            have f8 := cell_block i5 0
            have r8 := frozen_block i5 0
            have hsz8 : B + 8 ≤ w2.heap.size := iz
            clear i1 i2 i3 i4 i7 f0 f1
            gi_wp2
            refine ⟨?_⟩
            refine Calmly.wpIn_region_plain (by kernel_rfl) (by rintro a w (⟨h, _⟩ | ⟨h, _⟩) <;> cases h) ?_
            go_wp2_with (at_builtin; refine appIK rfl _ _ rfl i6 rfl rfl (by have := cutB_count 32 s; omega) hsz8 ?_; intro a5 c5 w5 ho5 hb5 hk5; have f9 := (hb5.cell (p := ⟨B + 4, 0, none⟩) (by simp)).trans f8; have r9 := (hb5.frozen (p := ⟨B + 4, 0, none⟩) (by simp)).trans r8)
            have hX := HD.out.app hBw hb5 ho5 (by rw [HTK.out]; exact numsF_snoc H7.out _ _ HW0.out)
            have hKX := (HKO2.out.trans hk5).trans (KeepsOthers.setCell _ ⟨B + 4, 0, none⟩ (.slice a5 (k + 1) c5))
            have hPX := (HKP2.out.trans (KpL.of_belowB (L := fun b => B + 2 ≤ b ∧ b ≠ B + 5 ∧ b ≠ B + 6 ∧ b ≠ B + 7) hb5 (fun b hb => by omega))).trans (KpL.setCell _ 0 (.slice a5 (k + 1) c5) (b := B + 4) (by omega))
            exact ⟨hKX, hPX, hX⟩
      · have hne := bs_beq_ne hi
        have hw0 := word_not (b := bl) hd HA.out hi
        have HW0 := Lib.hid hw0
        clear hw0
        go_wp2_with (first | ((with_reducible refine Calmly.is_fl ?_); refine Calmly.mix_fl rfl ?_ (fun _ _ => ?_); (first | exact .move _ | exact .load _ _ | exact .fieldAddr _ _ _ (by kernel_rfl) | exact .assign _ | exact .binOp _ _ _ _ _ rfl | exact .indexAddr _ _ _ | exact .len _ _ (by kernel_rfl) | exact .field _ _ _ | exact .extract _ _ | exact .pick _ _ _ | exact .build _ _ | exact .slice _ _ _ _ _ | exact .unOp _ _ _ rfl | exact .index _ _ _ | exact .max _ _ _ rfl rfl | exact .min _ _ _ rfl rfl | exact .nilCheck _ _ rfl)) | ((with_reducible refine Calmly.is_gl ?_); refine Calmly.mix_gl rfl rfl rfl ?_; first | ((first | with_reducible refine Calmly.gl_tt ?_ (fun _ _ => ?_) | with_reducible refine Calmly.gl_ff ?_ (fun _ _ => ?_)); (first | exact .move _ | exact .load _ _ | exact .fieldAddr _ _ _ (by kernel_rfl) | exact .assign _ | exact .binOp _ _ _ _ _ rfl | exact .indexAddr _ _ _ | exact .len _ _ (by kernel_rfl) | exact .field _ _ _ | exact .extract _ _ | exact .pick _ _ _ | exact .build _ _ | exact .slice _ _ _ _ _ | exact .unOp _ _ _ rfl | exact .index _ _ _ | exact .max _ _ _ rfl rfl | exact .min _ _ _ rfl rfl | exact .nilCheck _ _ rfl)) | with_reducible refine Calmly.gl_tf (fun _ _ => ?_) | with_reducible refine Calmly.gl_ft (fun _ _ => ?_)) | ((with_reducible refine Calmly.is_eff ?_); refine Calmly.mix_eff rfl (fun _ _ => ?_)) | ((with_reducible refine Calmly.is_gf ?_); refine Calmly.mix_gf rfl rfl rfl ?_; first | with_reducible refine Calmly.gf_tt (fun _ _ => ?_) | with_reducible refine Calmly.gf_ff (fun _ _ => ?_) | with_reducible refine Calmly.gf_tf (kept_of hk) (fun _ _ => ?_) | with_reducible refine Calmly.gf_ft (kept_of hk) (fun _ _ => ?_)) | ((with_reducible refine Calmly.is_tail ?_); first | refine Calmly.mix_tail_nil ?_ | refine Calmly.mix_tail rfl (fun _ _ => ?_)) | ((with_reducible refine Calmly.is_kept ?_); refine ⟨kept_of hk, ?_⟩) | (with_reducible refine Calmly.mix_alt ?_ ?_) | ((with_reducible refine Calmly.is_gl ?_); refine Calmly.mix_glu rfl rfl rfl (fun _ _ => ?_)) | ((with_reducible refine Calmly.is_gf ?_); refine Calmly.mix_gfu rfl rfl rfl (kept_of hk) (fun _ _ => ?_)))
        have HKO2 := Lib.hid (HKO.out.trans (hKO hk))
        replace hD := hD.keep hk
        have f2 := cell_block hD.b2 0
        have f3 := cell_block hD.b3 0
        have r2 := frozen_block hD.b2 0
        have r3 := frozen_block hD.b3 0
        have hX := hD.stop hBw (by rw [HSP.out]; exact numsF_bad _ HW0.out)
        have hKX := (HKO2.out.trans (KeepsOthers.setCell _ ⟨B + 2, 0, none⟩ (.slice none 0 0))).trans (KeepsOthers.setCell _ ⟨B + 3, 0, none⟩ (.bool false))
        gi_wp2
        all_goals first | exact hX | exact hKX
    ·
      have hbad : ∀ v, Lib.atoiAll wd ≠ .ok v := fun v h => by rw [ha] at h; cases h
      have hw0 := word_syn (b := bl) hd hbad
      have HW0 := Lib.hid hw0
      have HA := Lib.hid ha
      clear hw0 ha
      gi_wp2
      refine ⟨trivial, (CallsIn.inRound r (callsIn_wide.2 (atoi_bad wd _ hvW (by omega) hbad))).mono ?_⟩
      rintro e w1 ⟨v, t, q, rfl, hb1⟩
      gi_wp2
      refine Calmly.wpIn_region_mix 22 (.fl 0 <| .eff 1 <| .fl 2 <| .gl 3 <| .gl 5 <| .gf 4 <| .gl 6 <| .fl 7 <| .fl 8 <| .gl 9 <| .gl 10 <| .gl 11 <| .gl 12 <| .gl 13 <| .gl 14 <| .fl 15 <| .fl 16 <| .gl 17 <| .gl 20 <| .gf 18 <| .gf 19 <| .gl 21 <| .tail [22]) (by kernel_rfl) (by kernel_rfl) (by rintro a w (⟨h, _⟩ | ⟨h, _⟩) <;> cases h) ?_
      have BD : Below w1.heap.size w1 w1.drew := (Below.refl _ _).drew
      have HKO := Lib.hid (hKO (hb1.trans (BD.mono hb1.size)))
      have HKP := Lib.hid (KpL.of_below (L := fun b => B + 2 ≤ b ∧ b ≠ B + 5 ∧ b ≠ B + 6 ∧ b ≠ B + 7) (hb1.trans (BD.mono hb1.size)))
      replace hD := (hD.keep hb1).keep BD
      generalize w1.drew = V5 at *
      have hk := Below.refl V5.heap.size V5
      go_wp2_with (first | ((with_reducible refine Calmly.is_fl ?_); refine Calmly.mix_fl rfl ?_ (fun _ _ => ?_); (first | exact .move _ | exact .load _ _ | exact .fieldAddr _ _ _ (by kernel_rfl) | exact .assign _ | exact .binOp _ _ _ _ _ rfl | exact .indexAddr _ _ _ | exact .len _ _ (by kernel_rfl) | exact .field _ _ _ | exact .extract _ _ | exact .pick _ _ _ | exact .build _ _ | exact .slice _ _ _ _ _ | exact .unOp _ _ _ rfl | exact .index _ _ _ | exact .max _ _ _ rfl rfl | exact .min _ _ _ rfl rfl | exact .nilCheck _ _ rfl)) | ((with_reducible refine Calmly.is_gl ?_); refine Calmly.mix_gl rfl rfl rfl ?_; first | ((first | with_reducible refine Calmly.gl_tt ?_ (fun _ _ => ?_) | with_reducible refine Calmly.gl_ff ?_ (fun _ _ => ?_)); (first | exact .move _ | exact .load _ _ | exact .fieldAddr _ _ _ (by kernel_rfl) | exact .assign _ | exact .binOp _ _ _ _ _ rfl | exact .indexAddr _ _ _ | exact .len _ _ (by kernel_rfl) | exact .field _ _ _ | exact .extract _ _ | exact .pick _ _ _ | exact .build _ _ | exact .slice _ _ _ _ _ | exact .unOp _ _ _ rfl | exact .index _ _ _ | exact .max _ _ _ rfl rfl | exact .min _ _ _ rfl rfl | exact .nilCheck _ _ rfl)) | with_reducible refine Calmly.gl_tf (fun _ _ => ?_) | with_reducible refine Calmly.gl_ft (fun _ _ => ?_)) | ((with_reducible refine Calmly.is_eff ?_); refine Calmly.mix_eff rfl (fun _ _ => ?_)) | ((with_reducible refine Calmly.is_gf ?_); refine Calmly.mix_gf rfl rfl rfl ?_; first | with_reducible refine Calmly.gf_tt (fun _ _ => ?_) | with_reducible refine Calmly.gf_ff (fun _ _ => ?_) | with_reducible refine Calmly.gf_tf (kept_of hk) (fun _ _ => ?_) | with_reducible refine Calmly.gf_ft (kept_of hk) (fun _ _ => ?_)) | ((with_reducible refine Calmly.is_tail ?_); first | refine Calmly.mix_tail_nil ?_ | refine Calmly.mix_tail rfl (fun _ _ => ?_)) | ((with_reducible refine Calmly.is_kept ?_); refine ⟨kept_of hk, ?_⟩) | (with_reducible refine Calmly.mix_alt ?_ ?_) | ((with_reducible refine Calmly.is_gl ?_); refine Calmly.mix_glu rfl rfl rfl (fun _ _ => ?_)) | ((with_reducible refine Calmly.is_gf ?_); refine Calmly.mix_gfu rfl rfl rfl (kept_of hk) (fun _ _ => ?_)))
      have HKO2 := Lib.hid (HKO.out.trans (hKO hk))
      replace hD := hD.keep hk
      have f2 := cell_block hD.b2 0
      have f3 := cell_block hD.b3 0
      have r2 := frozen_block hD.b2 0
      have r3 := frozen_block hD.b3 0
      have hX := hD.stop hBw (by rw [HSP.out]; exact numsF_bad _ HW0.out)
      have hKX := (HKO2.out.trans (KeepsOthers.setCell _ ⟨B + 2, 0, none⟩ (.slice none 0 0))).trans (KeepsOthers.setCell _ ⟨B + 3, 0, none⟩ (.bool false))
      gi_wp2
      all_goals first | exact hX | exact hKX
    ·
      have hbad : ∀ v, Lib.atoiAll wd ≠ .ok v := fun v h => by rw [ha] at h; cases h
      have hw0 := word_syn (b := bl) hd hbad
      have HW0 := Lib.hid hw0
      have HA := Lib.hid ha
      clear hw0 ha
      gi_wp2
      refine ⟨trivial, (CallsIn.inRound r (callsIn_wide.2 (atoi_bad wd _ hvW (by omega) hbad))).mono ?_⟩
      rintro e w1 ⟨v, t, q, rfl, hb1⟩
      gi_wp2
      refine Calmly.wpIn_region_mix 22 (.fl 0 <| .eff 1 <| .fl 2 <| .gl 3 <| .gl 5 <| .gf 4 <| .gl 6 <| .fl 7 <| .fl 8 <| .gl 9 <| .gl 10 <| .gl 11 <| .gl 12 <| .gl 13 <| .gl 14 <| .fl 15 <| .fl 16 <| .gl 17 <| .gl 20 <| .gf 18 <| .gf 19 <| .gl 21 <| .tail [22]) (by kernel_rfl) (by kernel_rfl) (by rintro a w (⟨h, _⟩ | ⟨h, _⟩) <;> cases h) ?_
      have BD : Below w1.heap.size w1 w1.drew := (Below.refl _ _).drew
      have HKO := Lib.hid (hKO (hb1.trans (BD.mono hb1.size)))
      have HKP := Lib.hid (KpL.of_below (L := fun b => B + 2 ≤ b ∧ b ≠ B + 5 ∧ b ≠ B + 6 ∧ b ≠ B + 7) (hb1.trans (BD.mono hb1.size)))
      replace hD := (hD.keep hb1).keep BD
      generalize w1.drew = V5 at *
      have hk := Below.refl V5.heap.size V5
      go_wp2_with (first | ((with_reducible refine Calmly.is_fl ?_); refine Calmly.mix_fl rfl ?_ (fun _ _ => ?_); (first | exact .move _ | exact .load _ _ | exact .fieldAddr _ _ _ (by kernel_rfl) | exact .assign _ | exact .binOp _ _ _ _ _ rfl | exact .indexAddr _ _ _ | exact .len _ _ (by kernel_rfl) | exact .field _ _ _ | exact .extract _ _ | exact .pick _ _ _ | exact .build _ _ | exact .slice _ _ _ _ _ | exact .unOp _ _ _ rfl | exact .index _ _ _ | exact .max _ _ _ rfl rfl | exact .min _ _ _ rfl rfl | exact .nilCheck _ _ rfl)) | ((with_reducible refine Calmly.is_gl ?_); refine Calmly.mix_gl rfl rfl rfl ?_; first | ((first | with_reducible refine Calmly.gl_tt ?_ (fun _ _ => ?_) | with_reducible refine Calmly.gl_ff ?_ (fun _ _ => ?_)); (first | exact .move _ | exact .load _ _ | exact .fieldAddr _ _ _ (by kernel_rfl) | exact .assign _ | exact .binOp _ _ _ _ _ rfl | exact .indexAddr _ _ _ | exact .len _ _ (by kernel_rfl) | exact .field _ _ _ | exact .extract _ _ | exact .pick _ _ _ | exact .build _ _ | exact .slice _ _ _ _ _ | exact .unOp _ _ _ rfl | exact .index _ _ _ | exact .max _ _ _ rfl rfl | exact .min _ _ _ rfl rfl | exact .nilCheck _ _ rfl)) | with_reducible refine Calmly.gl_tf (fun _ _ => ?_) | with_reducible refine Calmly.gl_ft (fun _ _ => ?_)) | ((with_reducible refine Calmly.is_eff ?_); refine Calmly.mix_eff rfl (fun _ _ => ?_)) | ((with_reducible refine Calmly.is_gf ?_); refine Calmly.mix_gf rfl rfl rfl ?_; first | with_reducible refine Calmly.gf_tt (fun _ _ => ?_) | with_reducible refine Calmly.gf_ff (fun _ _ => ?_) | with_reducible refine Calmly.gf_tf (kept_of hk) (fun _ _ => ?_) | with_reducible refine Calmly.gf_ft (kept_of hk) (fun _ _ => ?_)) | ((with_reducible refine Calmly.is_tail ?_); first | refine Calmly.mix_tail_nil ?_ | refine Calmly.mix_tail rfl (fun _ _ => ?_)) | ((with_reducible refine Calmly.is_kept ?_); refine ⟨kept_of hk, ?_⟩) | (with_reducible refine Calmly.mix_alt ?_ ?_) | ((with_reducible refine Calmly.is_gl ?_); refine Calmly.mix_glu rfl rfl rfl (fun _ _ => ?_)) | ((with_reducible refine Calmly.is_gf ?_); refine Calmly.mix_gfu rfl rfl rfl (kept_of hk) (fun _ _ => ?_)))
      have HKO2 := Lib.hid (HKO.out.trans (hKO hk))
      replace hD := hD.keep hk
      have f2 := cell_block hD.b2 0
      have f3 := cell_block hD.b3 0
      have r2 := frozen_block hD.b2 0
      have r3 := frozen_block hD.b3 0
      have hX := hD.stop hBw (by rw [HSP.out]; exact numsF_bad _ HW0.out)
      have hKX := (HKO2.out.trans (KeepsOthers.setCell _ ⟨B + 2, 0, none⟩ (.slice none 0 0))).trans (KeepsOthers.setCell _ ⟨B + 3, 0, none⟩ (.bool false))
      gi_wp2
      all_goals first | exact hX | exact hKX
  case done =>
    rintro D ys W hD hys hI hK
    rw [hys] at hI
    have hDB : B + 8 ≤ D := by omega
    have hIk := hI
    obtain ⟨i0, iz, i1, i2, i3, i4, av, cc, out, i5, i6, i7⟩ := hI
    rw [List.take_length] at i7
    have H7 := Lib.hid i7
    have HI := Lib.hid hIk
    have f8 := cell_block i5 0
    have f2 := cell_block i3 0
    have f3 := cell_block i4 0
    have r2 := frozen_block i3 0
    have r3 := frozen_block i4 0
    clear i1 i2 i7 hys hIk
    dsimp only
    go_wp2_with fail
    have hne : ∀ {b : Nat} {o : Obj} {x y : Value}, b ≠ B + 2 → b ≠ B + 3 → W.heap[b]? = some o → ((W.setCell ⟨B + 2, 0, none⟩ x).setCell ⟨B + 3, 0, none⟩ y).heap[b]? = some o := fun h1 h2 h3 => by
      rw [Below.heap_setCell _ _ _ _ (by simpa using h2), Below.heap_setCell _ _ _ _ (by simpa using h1)]
      exact h3
    have hK1 := hne (x := .slice av (cutB 32 s).length cc) (y := .bool true) (by omega) (by omega) hK
    refine ⟨by simp, .inl ⟨_, _, rfl, run_takeDeferred hK1, ?_⟩⟩
    have x2 : ((W.setCell ⟨B + 2, 0, none⟩ (.slice av (cutB 32 s).length cc)).setCell ⟨B + 3, 0, none⟩ (.bool true)).heap[B + 2]? = some (.cells #[.slice av (cutB 32 s).length cc] 22) := by
      rw [Below.heap_setCell _ _ _ _ (by simp)]
      exact set_one i3 _
    have x3 : ((W.setCell ⟨B + 2, 0, none⟩ (.slice av (cutB 32 s).length cc)).setCell ⟨B + 3, 0, none⟩ (.bool true)).heap[B + 3]? = some (.cells #[.bool true] 4) := by
      refine set_one (v := .bool false) ?_ _
      rw [Below.heap_setCell _ _ _ _ (by simp)]
      exact i4
    have bX := (i0.setCell (p := ⟨B + 2, 0, none⟩) (by simp; omega) (.slice av (cutB 32 s).length cc)).setCell (p := ⟨B + 3, 0, none⟩) (by simp; omega) (.bool true)
    have kX : KpL (fun b => b = B + 2 ∨ b = B + 3) W ((W.setCell ⟨B + 2, 0, none⟩ (.slice av (cutB 32 s).length cc)).setCell ⟨B + 3, 0, none⟩ (.bool true)) := (KpL.setCell _ _ _ (.inl rfl)).trans (KpL.setCell _ _ _ (.inr rfl))
    generalize (W.setCell ⟨B + 2, 0, none⟩ (.slice av (cutB 32 s).length cc)).setCell ⟨B + 3, 0, none⟩ (.bool true) = X at *
    have z2 := cell_block ((World.putObj_heap_other (o := .deferred none) (w := X) (k := B + 2) (r := D) (by omega)).trans x2) 0
    have z3 := cell_block ((World.putObj_heap_other (o := .deferred none) (w := X) (k := B + 3) (r := D) (by omega)).trans x3) 0
    have kY := kX.trans (KpL.put (.deferred none) hK1 rfl)
    have bY := bX.grown (grownBy_putObj' X D (.deferred none)) bX.size (fun k e => by cases e; omega)
    refine ⟨.tuple #[.slice av (cutB 32 s).length cc, .bool true], by simp [results, Tryz.results86, go_sem, z2, z3], av, (cutB 32 s).length, cc, by rw [H7.out]; rfl, ?_, In.of_owns (kpl_owns i6 kY (fun b hb => by omega)), bY⟩
    rw [H7.out]
    exact OwI.si (kpl_owns i6 kY (fun b hb => by omega))
  case stop =>
    rintro D ys W hD hX hK
    have hDB : B + 8 ≤ D := by omega
    gi_wp2
    refine ⟨by simp, .inl ⟨_, _, rfl, run_takeDeferred hK, ?_⟩⟩
    obtain ⟨j0, j2, j3, j4⟩ := hX
    have z2 := cell_block ((World.putObj_heap_other (o := .deferred none) (w := W) (k := B + 2) (r := D) (by omega)).trans j2) 0
    have z3 := cell_block ((World.putObj_heap_other (o := .deferred none) (w := W) (k := B + 3) (r := D) (by omega)).trans j3) 0
    have bY := j0.grown (grownBy_putObj' W D (.deferred none)) j0.size (fun k e => by cases e; omega)
    refine ⟨.tuple #[.slice none 0 0, .bool false], by simp [results, Tryz.results86, go_sem, z2, z3], none, 0, 0, by rw [j4]; rfl, ?_, .inl rfl, bY⟩
    rw [j4]
    exact (OwI.nil _ 0).si
end Go.Proofs.YteigmjlfpmdmoaaGreatDoor
