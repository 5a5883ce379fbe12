/- Words for slices in memory, for the numbers of the helpers' package, and how they are kept when a call makes memory of its own. Plain mathematics of digits to the base 10^9. Contracts of small functions of the helpers' package: they only compute, or only read. -/
import Derived.Test.YteigmjlfpmdmoaaGreatDoorK01
import Derived.Test.YteigmjlfpmdmoaaGreatDoorChecked
import Derived.WalkKit
import Derived.WalkSpells
import Derived.WalkLawsBesides
import Derived.Deep.QuietTactic
import Derived.BigQuiet
import Derived.Lib.Hide
import Derived.IntWalk
import Derived.Laws.AppendOwnNone
import Derived.Deep.LoopGhost
import Derived.RegionTactic
import Derived.ChangeAlike
namespace Go.Proofs.YteigmjlfpmdmoaaGreatDoor
open Go.RowKit
open Calmly (Kept)

theorem kept_of {w w' : World} (h : Below w.heap.size w w') : Kept w w' := ⟨h.size, h.block⟩
theorem kept_and {W w : World} {G : Prop} (h : Below W.heap.size W w) (k : Below W.heap.size W w → G) : Kept W w ∧ G := ⟨kept_of h, k h⟩
theorem step_of {W w w' : World} (h : Below W.heap.size W w) (h' : Below w.heap.size w w') : Below W.heap.size W w' := h.trans (h'.mono h.size)
theorem cells_of {W w1 : World} (hb : Below W.heap.size W w1) : (∀ b o, b < W.heap.size → w1.cell? ⟨b, o, none⟩ = W.cell? ⟨b, o, none⟩) ∧ (∀ b o, b < W.heap.size → w1.frozen? ⟨b, o, none⟩ = W.frozen? ⟨b, o, none⟩) :=
  ⟨fun b o h => hb.cell (p := ⟨b, o, none⟩) h, fun b o h => hb.frozen (p := ⟨b, o, none⟩) h⟩
theorem below_drewN {B : Nat} {a w : World} (h : Below B a w) (n : Nat) : Below B a (w.drewN n) := ⟨h.os, h.tape, h.output, h.size, h.block⟩
theorem ret_int {k : IntKind} {a b : Int} (h : a = b) : Ending.returned (Value.int k a) = .returned (.int k b) := by rw [h]
theorem ret_bool {a b : Bool} (h : a = b) : Ending.returned (Value.bool a) = .returned (.bool b) := by rw [h]
theorem cell_lt {w : World} {b o : Nat} {v : Value} (h : w.cell? ⟨b, o, none⟩ = some v) : b < w.heap.size := by
  rcases Nat.lt_or_ge b w.heap.size with h' | h'
  · exact h'
  · simp [World.cell?, Array.getElem?_eq_none h'] at h
theorem cell_keep {w w' : World} {b o : Nat} {v : Value} (h : w.cell? ⟨b, o, none⟩ = some v) (hb : Below w.heap.size w w') : w'.cell? ⟨b, o, none⟩ = some v :=
  (hb.cell (p := ⟨b, o, none⟩) (cell_lt h)).trans h

theorem alloc_new (w : World) (o : Obj) : (w.alloc o).heap[w.heap.size]? = some o := by
  show (w.heap.push o)[w.heap.size]? = _
  simp
theorem cell_block {w : World} {b : Nat} {cs : Array Value} {e : TypeId} (h : w.heap[b]? = some (.cells cs e)) : ∀ o, w.cell? ⟨b, o, none⟩ = cs[o]? := fun o => by simp [World.cell?, h]
theorem frozen_block {w : World} {b : Nat} {cs : Array Value} {e : TypeId} (h : w.heap[b]? = some (.cells cs e)) : ∀ o, w.frozen? ⟨b, o, none⟩ = false := fun o => by simp [World.frozen?, h]

/-- Block r is a row of cells of type e. -/
def BlkT (w : World) (r : Nat) (e : TypeId) : Prop := ∃ cs, w.heap[r]? = some (.cells cs e)
theorem BlkT.lt {w : World} {r : Nat} {e : TypeId} (h : BlkT w r e) : r < w.heap.size := by
  obtain ⟨cs, h⟩ := h
  exact (Array.getElem?_eq_some_iff.1 h).1
theorem BlkT.below {w w' : World} {B r : Nat} {e : TypeId} (h : BlkT w r e) (hb : Below B w w') (hr : r < B) : BlkT w' r e := by
  obtain ⟨cs, h⟩ := h
  exact ⟨cs, (hb.block r hr).trans h⟩
theorem BlkT.keep {w w' : World} {r : Nat} {e : TypeId} (h : BlkT w r e) (hb : Below w.heap.size w w') : BlkT w' r e := h.below hb h.lt
theorem BlkT.set {w : World} {r : Nat} {e : TypeId} (h : BlkT w r e) (p : Addr) (v : Value) : BlkT (w.setCell p v) r e := by
  obtain ⟨cs, h⟩ := h
  simp only [BlkT, World.setCell, Array.getElem?_modify]
  by_cases hp : p.block = r
  · simp [hp, h]
  · simp [hp, h]
theorem BlkT.new (w : World) (cs : Array Value) (e : TypeId) : BlkT (w.alloc (.cells cs e)) w.heap.size e := ⟨cs, alloc_new _ _⟩
theorem BlkT.alloc {w : World} {r : Nat} {e : TypeId} (h : BlkT w r e) (o : Obj) : BlkT (w.alloc o) r e := h.below ((Below.refl w.heap.size w).alloc (Nat.le_refl _) o) h.lt
theorem BlkT.drew {w : World} {r : Nat} {e : TypeId} (h : BlkT w r e) : BlkT w.drew r e := h
theorem BlkT.drewN {w : World} {r : Nat} {e : TypeId} (h : BlkT w r e) (n : Nat) : BlkT (w.drewN n) r e := h
theorem BlkT.free {w : World} {r : Nat} {e : TypeId} (h : BlkT w r e) (o : Nat) : w.frozen? ⟨r, o, none⟩ = false := by
  obtain ⟨cs, h⟩ := h
  exact frozen_block h o
theorem BlkT.ne {w : World} {r r' : Nat} {e e' : TypeId} (h : BlkT w r e) (h' : BlkT w r' e') (he : e ≠ e') : r ≠ r' := by
  rintro rfl
  obtain ⟨cs, h⟩ := h
  obtain ⟨cs', h'⟩ := h'
  rw [h] at h'
  cases h'
  exact he rfl
theorem cell_set_ne {w : World} {r o b o' : Nat} {v : Value} (h : b ≠ r) : (w.setCell ⟨r, o, none⟩ v).cell? ⟨b, o', none⟩ = w.cell? ⟨b, o', none⟩ := by
  unfold World.cell?
  rw [Below.heap_setCell _ _ _ _ h]

theorem kept_alloc {W w : World} {o : Obj} {G : Prop} (h : Below W.heap.size W w) (k : Below W.heap.size W (w.alloc o) → (w.alloc o).heap[w.heap.size]? = some o → W.heap.size ≤ w.heap.size → G) : Kept W (w.alloc o) ∧ G :=
  ⟨kept_of (h.alloc h.size o), k (h.alloc h.size o) (alloc_new w o) h.size⟩
theorem blk_keep {w w' : World} {b : Nat} {o : Obj} (h : w.heap[b]? = some o) (hb : Below w.heap.size w w') : w'.heap[b]? = some o :=
  (hb.block b (Array.getElem?_eq_some_iff.1 h).1).trans h
theorem blk_lt {w : World} {b : Nat} {o : Obj} (h : w.heap[b]? = some o) : b < w.heap.size := (Array.getElem?_eq_some_iff.1 h).1
/-- Two cells of a block are stored into. -/
theorem set2 {v : World} {r : Nat} {x y u u' : Value} (h0 : v.cell? ⟨r, 0, none⟩ = some u) (h1 : v.cell? ⟨r, 1, none⟩ = some u') :
    ((v.setCell ⟨r, 0, none⟩ x).setCell ⟨r, 1, none⟩ y).cell? ⟨r, 0, none⟩ = some x ∧ ((v.setCell ⟨r, 0, none⟩ x).setCell ⟨r, 1, none⟩ y).cell? ⟨r, 1, none⟩ = some y ∧
    (∀ b o, b ≠ r → ((v.setCell ⟨r, 0, none⟩ x).setCell ⟨r, 1, none⟩ y).cell? ⟨b, o, none⟩ = v.cell? ⟨b, o, none⟩) ∧ (∀ b o, ((v.setCell ⟨r, 0, none⟩ x).setCell ⟨r, 1, none⟩ y).frozen? ⟨b, o, none⟩ = v.frozen? ⟨b, o, none⟩) := by
  have e1 := World.cell?_setCell_same v ⟨r, 0, none⟩ x h0
  refine ⟨?_, ?_, fun b o hb => ?_, fun b o => ?_⟩
  · rw [World.cell?_setCell_other _ _ _ _ (by simp)]
    exact e1
  · have e2 : (v.setCell ⟨r, 0, none⟩ x).cell? ⟨r, 1, none⟩ = some u' := by
      rw [World.cell?_setCell_other _ _ _ _ (by simp)]
      exact h1
    exact World.cell?_setCell_same _ _ _ e2
  · rw [cell_set_ne hb, cell_set_ne hb]
  · rw [World.frozen?_setCell, World.frozen?_setCell]

/-- The world by a name, and what is known of it. -/
theorem wp_gen {P : Program} {c : Code} {Q : Exit → Act → World → Prop} {a : Act} {w : World} (S : World → Prop) (hS : S w) (h : ∀ v, S v → c.wp P Q a v) : c.wp P Q a w := h w hS

/-- The slice of n elements of k cells each reads, cell by cell, as the list. -/
def Sl (w : World) (k : Nat) (a : Option Addr) (n c : Nat) (vs : List Value) : Prop :=
  vs.length = n * k ∧ n ≤ c ∧ c ≤ maxLen ∧ (c = 0 ∨ ∃ b off, a = some ⟨b, off, none⟩ ∧ ∀ i, i < n * k → w.cell? ⟨b, off + i, none⟩ = vs[i]?)

theorem Sl.keep {w w' : World} {k : Nat} {a : Option Addr} {n c : Nat} {vs : List Value} (h : Sl w k a n c vs) (hb : Below w.heap.size w w') : Sl w' k a n c vs := by
  obtain ⟨h1, h2, h3, h4⟩ := h
  refine ⟨h1, h2, h3, ?_⟩
  rcases h4 with h4 | ⟨b, off, ha, hc⟩
  · exact .inl h4
  · refine .inr ⟨b, off, ha, fun i hi => ?_⟩
    have := hc i hi
    have hs : i < vs.length := by omega
    rw [List.getElem?_eq_getElem hs] at this ⊢
    exact cell_keep this hb
/-- The slice lies in a row of elements of type e. -/
def In (w : World) (e : TypeId) (a : Option Addr) : Prop := a = none ∨ ∃ b off, a = some ⟨b, off, none⟩ ∧ BlkT w b e
theorem In.keep {w w' : World} {e : TypeId} {a : Option Addr} (h : In w e a) (hb : Below w.heap.size w w') : In w' e a := by
  rcases h with h | ⟨b, off, h1, h2⟩
  · exact .inl h
  · exact .inr ⟨b, off, h1, h2.keep hb⟩
theorem In.set {w : World} {e : TypeId} {a : Option Addr} (h : In w e a) (p : Addr) (v : Value) : In (w.setCell p v) e a := by
  rcases h with h | ⟨b, off, h1, h2⟩
  · exact .inl h
  · exact .inr ⟨b, off, h1, h2.set p v⟩
theorem In.of_owns {w : World} {base : Nat} {e : TypeId} {k : Nat} {a : Option Addr} {m c n : Nat} {xs : List Value} (h : w.ownsRow base e k (.slice a m c) n xs) : In w e a := by
  obtain ⟨_, h⟩ := h
  rcases h with ⟨he, _⟩ | ⟨g, cap, cur, he, _, hh, _⟩
  · cases he; exact .inl rfl
  · cases he; exact .inr ⟨g, 0, rfl, cur, hh⟩
/-- A store into a block of another type. -/
theorem Sl.set {w : World} {k : Nat} {a : Option Addr} {n c : Nat} {vs : List Value} {e e' : TypeId} {r o : Nat} {v : Value} (h : Sl w k a n c vs) (hi : In w e a) (hr : BlkT w r e') (he : e ≠ e') :
    Sl (w.setCell ⟨r, o, none⟩ v) k a n c vs := by
  obtain ⟨h1, h2, h3, h4⟩ := h
  refine ⟨h1, h2, h3, ?_⟩
  rcases h4 with h4 | ⟨b, off, ha, hc⟩
  · exact .inl h4
  · refine .inr ⟨b, off, ha, fun i hi' => ?_⟩
    rcases hi with hi | ⟨b', off', h5, h6⟩
    · rw [hi] at ha; cases ha
    · rw [h5] at ha
      cases ha
      rw [cell_set_ne (h6.ne hr he)]
      exact hc i hi'
theorem Sl.nil (w : World) (k : Nat) : Sl w k none 0 0 [] := ⟨by simp, Nat.le_refl _, Nat.zero_le _, .inl rfl⟩
theorem Sl.of_owns {w : World} {base : Nat} {e : TypeId} {k : Nat} {v : Value} {n : Nat} {xs : List Value} (h : w.ownsRow base e k v n xs) :
    ∃ a c, v = .slice a n c ∧ Sl w k a n c xs := by
  obtain ⟨hl, h⟩ := h
  rcases h with ⟨rfl, rfl⟩ | ⟨g, cap, cur, rfl, hg, hh, hn, hm, hs, ht⟩
  · exact ⟨none, 0, rfl, by simpa using hl, Nat.le_refl _, Nat.zero_le _, .inl rfl⟩
  · refine ⟨_, cap, rfl, hl, hn, hm, .inr ⟨g, 0, rfl, fun i hi => ?_⟩⟩
    subst ht
    have : i < cur.size := by
      have : n * k ≤ cap * k := Nat.mul_le_mul_right k hn
      omega
    simp [World.cell?, hh, this, hi]

theorem grown_below {w w' : World} {B : Nat} {row : Option Nat} (hg : w.grownBy w' row) (hB : B ≤ w.heap.size) (hr : ∀ k, row = some k → B ≤ k) : Below B w w' :=
  (Below.refl B w).grown hg hB hr
theorem cells_new (w : World) (new : Array Value) (e : TypeId) : ∀ j u, new.toList[j]? = some u → (w.alloc (.cells new e)).cell? ((⟨w.heap.size, 0, none⟩ : Addr).add j) = some u := by
  intro j u hj
  have := cell_block (alloc_new w (.cells new e)) j
  have h2 : ((⟨w.heap.size, 0, none⟩ : Addr).add j) = ⟨w.heap.size, j, none⟩ := by
    unfold Addr.add
    split
    · rename_i h0; subst h0; rfl
    · simp
  rw [h2, this]
  simpa using hj

/-- 'append(l, x)' at a row of the call's own: it has one element more; what lay below the call's own blocks is as it was. -/
theorem app1 {P : Program} {ops : Array Oper} {rest : List Oper} {o : Oper} {a : Act} {Q : Exit → Act → World → Prop} {w0 : World} (hgd : o.guard = none) (s x : Operand) (t : TypeId)
    (ho : o.op = .call { callee := .builtin .append, args := #[s, x], argTypes := #[t, t] })
    (B : Nat) (e : TypeId) (i : TypeInfo) (z : Value) (k bytes : Nat) (ht : P.underlying t = some (.slice e)) (hi : P.info? e = some i) (hz : i.zero = some z)
    (hsize : i.size = k) (hby : i.bytes = bytes) (hzs : z.cells.size = k) (hsz : 0 < k)
    (av : Option Addr) (n c : Nat) (xs : List Value) (hown : w0.ownsRow B e k (.slice av n c) n xs) (new : Array Value)
    (hs : a.eval s = .slice av n c) (hx : a.eval x = .slice (some ⟨w0.heap.size, 0, none⟩) 1 1)
    (hl : new.size = k) (h1 : ∀ u ∈ new.toList, u.oneCell' = true) (hb1 : n + 1 ≤ 140737488355328) (hb : (n + 1) * bytes ≤ 140737488355328) (hB : B ≤ w0.heap.size)
    (h : ∀ a' c' w', w'.ownsRow B e k (.slice a' (n + 1) c') (n + 1) (xs ++ new.toList) → Below B w0 w' → w0.heap.size < w'.heap.size → wpList P ops Q rest (a.put o.dst (.slice a' (n + 1) c')) w') :
    wpList P ops Q (o :: rest) a (w0.alloc (.cells new e)) := by
  refine wpList_append_own _ hgd s x t ho B e i z k bytes ht hi hz hsize hby hzs hsz _ n xs hs (hown.alloc _) ⟨w0.heap.size, 0, none⟩ 1 1 new.toList hx (by simpa using hl) (cells_new w0 new e) h1 (by unfold maxLen; omega) hb (by simp; omega) ?_
  intro v' w1 ho1 hg hn
  have hrow : ∀ j, (Value.slice av n c).ownBlock = some j → B ≤ j := fun j hj => (hown.lt j hj).1
  have hb0 : Below B w0 (w0.alloc (.cells new e)) := (Below.refl _ _).alloc hB _
  have hb2 : Below B w0 w1 := hb0.trans (grown_below hg (by simp; omega) hrow)
  have hsz2 := hg.size
  obtain ⟨hlen, ho2⟩ := ho1
  rcases ho2 with ⟨_, h0⟩ | ⟨g, cap, cur, rfl, r⟩
  · omega
  · exact h _ _ w1 ⟨hlen, .inr ⟨g, cap, cur, rfl, r⟩⟩ hb2 (by simp at hsz2; omega)

theorem owns_slice {w : World} {B : Nat} {e : TypeId} {k : Nat} {v : Value} {n : Nat} {xs : List Value} (h : w.ownsRow B e k v n xs) : ∃ a c, v = .slice a n c := by
  obtain ⟨a, c, he, _⟩ := Sl.of_owns h
  exact ⟨a, c, he⟩

/-- 'append(l, s...)' at a row of the call's own: whatever the slice s. -/
theorem appS {P : Program} {ops : Array Oper} {rest : List Oper} {o : Oper} {a : Act} {Q : Exit → Act → World → Prop} {w : World} (hgd : o.guard = none) (s x : Operand) (t : TypeId)
    (ho : o.op = .call { callee := .builtin .append, args := #[s, x], argTypes := #[t, t] })
    (B : Nat) (e : TypeId) (i : TypeInfo) (z : Value) (k bytes : Nat) (ht : P.underlying t = some (.slice e)) (hi : P.info? e = some i) (hz : i.zero = some z)
    (hsize : i.size = k) (hby : i.bytes = bytes) (hzs : z.cells.size = k) (hsz : 0 < k)
    (av : Option Addr) (n c : Nat) (xs : List Value) (hown : w.ownsRow B e k (.slice av n c) n xs)
    (lv : Option Addr) (m lc : Nat) (vs : List Value) (hl : Sl w k lv m lc vs) (hone : ∀ u ∈ vs, u.oneCell' = true)
    (hs : a.eval s = .slice av n c) (hx : a.eval x = .slice lv m lc)
    (hb1 : n + m ≤ 140737488355328) (hb : (n + m) * bytes ≤ 140737488355328) (hB : B ≤ w.heap.size)
    (h : ∀ a' c' w', w'.ownsRow B e k (.slice a' (n + m) c') (n + m) (xs ++ vs) → Below B w w' → wpList P ops Q rest (a.put o.dst (.slice a' (n + m) c')) w') :
    wpList P ops Q (o :: rest) a w := by
  obtain ⟨g1, g2, g3, g4⟩ := hl
  have hrow : ∀ j, (Value.slice av n c).ownBlock = some j → B ≤ j := fun j hj => (hown.lt j hj).1
  rcases g4 with rfl | ⟨b, off, rfl, hc⟩
  · obtain rfl : m = 0 := by omega
    obtain rfl : vs = [] := by cases vs with | nil => rfl | cons _ _ => simp at g1
    cases lv with
    | none =>
      refine wpList_append_own_none hgd s x t ho B e i k ht hi _ n xs hs hown hx ?_
      exact h av c w (by simpa using hown) (Below.refl _ _)
    | some p =>
      refine wpList_append_own _ hgd s x t ho B e i z k bytes ht hi hz hsize hby hzs hsz _ n xs hs hown p 0 0 [] hx g1 (by simp) hone (by unfold maxLen; omega) hb hB ?_
      intro v' w1 ho1 hg _
      obtain ⟨a', c', rfl⟩ := owns_slice ho1
      exact h a' c' w1 ho1 (grown_below hg hB hrow)
  · refine wpList_append_own _ hgd s x t ho B e i z k bytes ht hi hz hsize hby hzs hsz _ n xs hs hown ⟨b, off, none⟩ m lc vs hx g1 ?_ hone (by unfold maxLen; omega) hb hB ?_
    · intro j u hj
      have hjl : j < vs.length := (List.getElem?_eq_some_iff.1 hj).1
      have h2 : ((⟨b, off, none⟩ : Addr).add j) = ⟨b, off + j, none⟩ := by
        unfold Addr.add
        split
        · rename_i h0; subst h0; rfl
        · rfl
      rw [h2, hc j (by omega)]
      exact hj
    · intro v' w1 ho1 hg _
      obtain ⟨a', c', rfl⟩ := owns_slice ho1
      exact h a' c' w1 ho1 (grown_below hg hB hrow)

/-- A slice of integers. -/
def SI (w : World) (a : Option Addr) (n c : Nat) (xs : List Int) : Prop := Sl w 1 a n c (xs.map (Value.int .i64))
theorem SI.keep {w w' : World} {a : Option Addr} {n c : Nat} {xs : List Int} (h : SI w a n c xs) (hb : Below w.heap.size w w') : SI w' a n c xs := Sl.keep h hb
theorem SI.len {w : World} {a : Option Addr} {n c : Nat} {xs : List Int} (h : SI w a n c xs) : n = xs.length := by have := h.1; simp at this; omega
theorem SI.cap {w : World} {a : Option Addr} {n c : Nat} {xs : List Int} (h : SI w a n c xs) : n ≤ c := h.2.1
theorem SI.max {w : World} {a : Option Addr} {n c : Nat} {xs : List Int} (h : SI w a n c xs) : c ≤ 9223372036854775807 := h.2.2.1
/-- Either without any element, or at a place. -/
theorem SI.place {w : World} {a : Option Addr} {n c : Nat} {xs : List Int} (h : SI w a n c xs) :
    (n = 0 ∧ c = 0 ∧ xs = []) ∨ ∃ b off, a = some ⟨b, off, none⟩ ∧ ∀ i, i < n → w.cell? ⟨b, off + i, none⟩ = some (.int .i64 (xs[i]?.getD 0)) := by
  have hn := h.len
  obtain ⟨h1, h2, h3, h4⟩ := h
  rcases h4 with rfl | ⟨b, off, rfl, hc⟩
  · left
    have : n = 0 := by omega
    subst this
    exact ⟨rfl, rfl, by cases xs with | nil => rfl | cons _ _ => simp at hn⟩
  · right
    refine ⟨b, off, rfl, fun i hi => ?_⟩
    rw [hc i (by omega)]
    have : i < xs.length := by omega
    simp [this]
/-- The nil slice. -/
theorem SI.none_ {w : World} {n c : Nat} {xs : List Int} (h : SI w none n c xs) : n = 0 ∧ c = 0 ∧ xs = [] := by
  rcases h.place with h | ⟨b, o, e, _⟩
  · exact h
  · cases e
/-- The place of a slice that has an element. -/
theorem SI.at_ {w : World} {a : Option Addr} {n c : Nat} {xs : List Int} (h : SI w a n c xs) (hn : 0 < n) :
    ∃ b off, a = some ⟨b, off, none⟩ ∧ ∀ i, i < n → w.cell? ⟨b, off + i, none⟩ = some (.int .i64 (xs[i]?.getD 0)) := by
  rcases h.place with ⟨rfl, _, _⟩ | h
  · omega
  · exact h
end Go.Proofs.YteigmjlfpmdmoaaGreatDoor

namespace Go.Wides

/-- The number of digits, the lowest one first. -/
def dv : List Int → Int
  | [] => 0
  | d :: r => d + 1000000000 * dv r
def Dg (xs : List Int) : Prop := ∀ d ∈ xs, 0 ≤ d ∧ d < 1000000000
def Nz (xs : List Int) : Prop := xs.getLast? ≠ some 0

theorem pow_mono {i j : Nat} (h : i ≤ j) : (1000000000 : Int) ^ i ≤ 1000000000 ^ j := by
  have h2 := Int.ofNat_le.2 (Nat.pow_le_pow_right (n := 1000000000) (by decide) h)
  rw [Int.natCast_pow, Int.natCast_pow] at h2
  exact h2
theorem dv_nonneg {xs : List Int} (h : Dg xs) : 0 ≤ dv xs := by
  induction xs with
  | nil => simp [dv]
  | cons d r ih =>
    have h1 := h d (by simp)
    have h2 := ih (fun x hx => h x (by simp [hx]))
    simp only [dv]; omega
theorem dv_append (xs ys : List Int) : dv (xs ++ ys) = dv xs + 1000000000 ^ xs.length * dv ys := by
  induction xs with
  | nil => simp [dv]
  | cons d r ih =>
    simp only [List.cons_append, dv, ih, List.length_cons, Int.pow_succ]
    grind
theorem dv_lt {xs : List Int} (h : Dg xs) : dv xs < 1000000000 ^ xs.length := by
  induction xs with
  | nil => simp [dv]
  | cons d r ih =>
    have h1 := h d (by simp)
    have h2 := ih (fun x hx => h x (by simp [hx]))
    simp only [dv, List.length_cons, Int.pow_succ]
    omega
theorem Dg.append {xs ys : List Int} (h1 : Dg xs) (h2 : Dg ys) : Dg (xs ++ ys) := fun d hd => by
  rcases List.mem_append.1 hd with h | h
  · exact h1 d h
  · exact h2 d h
theorem Dg.take {xs : List Int} (h : Dg xs) (k : Nat) : Dg (xs.take k) := fun d hd => h d (List.mem_of_mem_take hd)
theorem Dg.drop {xs : List Int} (h : Dg xs) (k : Nat) : Dg (xs.drop k) := fun d hd => h d (List.mem_of_mem_drop hd)
theorem Dg.nil : Dg [] := fun d hd => by cases hd
theorem Dg.get {xs : List Int} (h : Dg xs) (k : Nat) : 0 ≤ xs[k]?.getD 0 ∧ xs[k]?.getD 0 < 1000000000 := by
  cases hk : xs[k]? with
  | none => simp
  | some d => exact h d (List.mem_of_getElem? hk)
theorem Dg.one {d : Int} (h1 : 0 ≤ d) (h2 : d < 1000000000) : Dg [d] := fun x hx => by simp at hx; subst hx; exact ⟨h1, h2⟩
theorem Dg.set {xs : List Int} (h : Dg xs) (k : Nat) {d : Int} (h1 : 0 ≤ d) (h2 : d < 1000000000) : Dg (xs.set k d) := fun x hx => by
  rcases List.mem_or_eq_of_mem_set hx with hx | rfl
  · exact h x hx
  · exact ⟨h1, h2⟩
theorem dv_zeros {xs : List Int} (h : ∀ k, k < xs.length → xs[k]?.getD 0 = 0) : dv xs = 0 := by
  induction xs with
  | nil => rfl
  | cons d r ih =>
    have h0 := h 0 (by simp)
    simp at h0
    simp only [dv]
    rw [h0, ih (fun k hk => by have := h (k + 1) (by simp; omega); simpa using this)]
    rfl
/-- Zeros at the end may be left out. -/
theorem dv_take {xs : List Int} (m : Nat) (h : ∀ k, m ≤ k → k < xs.length → xs[k]?.getD 0 = 0) : dv (xs.take m) = dv xs := by
  have h1 := dv_append (xs.take m) (xs.drop m)
  rw [List.take_append_drop] at h1
  have h2 : dv (xs.drop m) = 0 := dv_zeros fun k hk => by
    rw [List.getElem?_drop]
    have : k < xs.length - m := by simpa using hk
    exact h (m + k) (by omega) (by omega)
  rw [h1, h2]; simp
theorem nz_take {xs : List Int} (m : Nat) (hm : m ≤ xs.length) (h : m = 0 ∨ xs[m - 1]?.getD 0 ≠ 0) : Nz (xs.take m) := by
  unfold Nz
  rcases h with rfl | h
  · simp
  · intro hc
    apply h
    cases m with
    | zero =>
      simp at hc
    | succ m =>
      rw [List.getLast?_eq_getElem?] at hc
      simp only [List.length_take, Nat.min_eq_left hm, Nat.add_sub_cancel] at hc
      rw [List.getElem?_take] at hc
      simp at hc
      simp [hc]
theorem nz_nil : Nz [] := by simp [Nz]
/-- Digits that end with no zero are of a number that is not below the power. -/
theorem dv_ge {xs : List Int} (h : Dg xs) (hz : Nz xs) (hne : xs ≠ []) : (1000000000 : Int) ^ (xs.length - 1) ≤ dv xs := by
  obtain ⟨l, d, rfl⟩ : ∃ l d, xs = l ++ [d] := ⟨xs.dropLast, xs.getLast hne, (List.dropLast_concat_getLast hne).symm⟩
  have hd := h d (by simp)
  have hd0 : d ≠ 0 := by simpa [Nz] using hz
  have hl := dv_nonneg (fun x hx => h x (by simp [hx]) : Dg l)
  rw [dv_append]
  simp only [List.length_append, List.length_cons, List.length_nil, Nat.zero_add, Nat.add_sub_cancel, dv]
  have hp : (0 : Int) < 1000000000 ^ l.length := Int.pow_pos (by decide)
  have : (1000000000 : Int) ^ l.length * 1 ≤ 1000000000 ^ l.length * (d + 1000000000 * 0) := Int.mul_le_mul_of_nonneg_left (by omega) (Int.le_of_lt hp)
  omega
theorem nz_zero {xs : List Int} (h : Dg xs) (hz : Nz xs) : dv xs = 0 ↔ xs = [] := by
  constructor
  · intro h0
    by_cases hne : xs = []
    · exact hne
    · have := dv_ge h hz hne
      have hp : (0 : Int) < 1000000000 ^ (xs.length - 1) := Int.pow_pos (by decide)
      omega
  · rintro rfl; rfl
/-- The longer number is the greater one. -/
theorem dv_lt_of_len {xs ys : List Int} (h1 : Dg xs) (h2 : Dg ys) (hz : Nz ys) (hl : xs.length < ys.length) : dv xs < dv ys := by
  have a := dv_lt h1
  have hne : ys ≠ [] := by rintro rfl; simp at hl
  have b := dv_ge h2 hz hne
  have : (1000000000 : Int) ^ xs.length ≤ 1000000000 ^ (ys.length - 1) := pow_mono (by omega)
  omega

theorem dv_at (xs : List Int) (k : Nat) (hk : k < xs.length) : dv xs = dv (xs.take k) + 1000000000 ^ k * (xs[k]?.getD 0 + 1000000000 * dv (xs.drop (k + 1))) := by
  have h := dv_append (xs.take k) (xs.drop k)
  rw [List.take_append_drop] at h
  rw [h, List.drop_eq_getElem_cons hk]
  simp only [dv, List.length_take, Nat.min_eq_left (Nat.le_of_lt hk)]
  simp [hk]
theorem dv_take_succ (xs : List Int) (k : Nat) : dv (xs.take (k + 1)) = dv (xs.take k) + 1000000000 ^ k * xs[k]?.getD 0 := by
  by_cases hk : k < xs.length
  · rw [List.take_succ_eq_append_getElem hk, dv_append]
    simp [dv, hk, Nat.min_eq_left (Nat.le_of_lt hk)]
  · rw [List.take_of_length_le (by omega), List.take_of_length_le (by omega), List.getElem?_eq_none (by omega)]
    simp
theorem cmp_step {xs ys : List Int} {k : Nat} (h1 : Dg xs) (h2 : Dg ys) (hx : k < xs.length) (hy : k < ys.length) (hd : xs.drop (k + 1) = ys.drop (k + 1)) (hlt : xs[k]?.getD 0 < ys[k]?.getD 0) : dv xs < dv ys := by
  rw [dv_at xs k hx, dv_at ys k hy, hd]
  have a := dv_lt (h1.take k)
  have b := dv_nonneg (h2.take k)
  have hl : (xs.take k).length = k := by simp; omega
  rw [hl] at a
  generalize dv (ys.drop (k + 1)) = r at *
  generalize xs[k]?.getD 0 = x at *
  generalize ys[k]?.getD 0 = y at *
  have hp : (0 : Int) < 1000000000 ^ k := Int.pow_pos (by decide)
  generalize (1000000000 : Int) ^ k = p at *
  have : p * (x + 1000000000 * r + 1) ≤ p * (y + 1000000000 * r) := Int.mul_le_mul_of_nonneg_left (by omega) (by omega)
  have e : p * (x + 1000000000 * r + 1) = p * (x + 1000000000 * r) + p := by grind
  omega
theorem drop_step {xs ys : List Int} {k : Nat} (hx : k < xs.length) (hy : k < ys.length) (hd : xs.drop (k + 1) = ys.drop (k + 1)) (he : xs[k]?.getD 0 = ys[k]?.getD 0) : xs.drop k = ys.drop k := by
  rw [List.drop_eq_getElem_cons hx, List.drop_eq_getElem_cons hy, hd]
  simp [hx, hy] at he
  rw [he]

/-- How two numbers compare. -/
def cmpI (x y : Int) : Int := if x < y then -1 else if x = y then 0 else 1
theorem cmpI_lt {x y : Int} (h : x < y) : cmpI x y = -1 := by unfold cmpI; rw [if_pos h]
theorem cmpI_eq {x y : Int} (h : x = y) : cmpI x y = 0 := by unfold cmpI; rw [if_neg (by omega), if_pos h]
theorem cmpI_gt {x y : Int} (h : y < x) : cmpI x y = 1 := by unfold cmpI; rw [if_neg (by omega), if_neg (by omega)]

/-- How far a sum of digits has come. -/
def AddStep (xs ys ds : List Int) (k : Nat) (c : Int) : Prop := Dg ds ∧ ds.length = k ∧ (c = 0 ∨ c = 1) ∧ dv (xs.take k) + dv (ys.take k) = dv ds + 1000000000 ^ k * c
theorem AddStep.start (xs ys : List Int) : AddStep xs ys [] 0 0 := ⟨Dg.nil, rfl, .inl rfl, by simp [dv]⟩
theorem AddStep.next {xs ys ds : List Int} {k : Nat} {c : Int} (h : AddStep xs ys ds k c) (h1 : Dg xs) (h2 : Dg ys) :
    AddStep xs ys (ds ++ [(xs[k]?.getD 0 + ys[k]?.getD 0 + c) % 1000000000]) (k + 1) ((xs[k]?.getD 0 + ys[k]?.getD 0 + c) / 1000000000) := by
  obtain ⟨a1, a2, a3, a4⟩ := h
  have b1 := h1.get k
  have b2 := h2.get k
  refine ⟨a1.append (Dg.one (by omega) (by omega)), by simp [a2], by omega, ?_⟩
  rw [dv_take_succ, dv_take_succ, dv_append, a2, Int.pow_succ]
  simp only [dv]
  generalize xs[k]?.getD 0 = x at *
  generalize ys[k]?.getD 0 = y at *
  have e : x + y + c = (x + y + c) % 1000000000 + 1000000000 * ((x + y + c) / 1000000000) := by omega
  generalize (x + y + c) % 1000000000 = u at *
  generalize (x + y + c) / 1000000000 = v at *
  generalize (1000000000 : Int) ^ k = p at *
  have e2 : p * (x + y + c) = p * (u + 1000000000 * v) := by rw [e]
  grind
theorem AddStep.fin {xs ys ds : List Int} {k : Nat} (h : AddStep xs ys ds k 0) (h1 : xs.length ≤ k) (h2 : ys.length ≤ k) : dv ds = dv xs + dv ys := by
  have := h.2.2.2
  rw [List.take_of_length_le h1, List.take_of_length_le h2] at this
  omega

/-- How far a difference of digits has come. -/
def SubStep (xs ys ds : List Int) (k : Nat) (c : Int) : Prop := Dg ds ∧ ds.length = k ∧ (c = 0 ∨ c = 1) ∧ dv (xs.take k) - dv (ys.take k) = dv ds - 1000000000 ^ k * c
theorem SubStep.start (xs ys : List Int) : SubStep xs ys [] 0 0 := ⟨Dg.nil, rfl, .inl rfl, by simp [dv]⟩
theorem SubStep.next0 {xs ys ds : List Int} {k : Nat} {c : Int} (h : SubStep xs ys ds k c) (h1 : Dg xs) (h2 : Dg ys) (h0 : 0 ≤ xs[k]?.getD 0 - ys[k]?.getD 0 - c) :
    SubStep xs ys (ds ++ [xs[k]?.getD 0 - ys[k]?.getD 0 - c]) (k + 1) 0 := by
  obtain ⟨a1, a2, a3, a4⟩ := h
  have b1 := h1.get k
  have b2 := h2.get k
  refine ⟨a1.append (Dg.one h0 (by omega)), by simp [a2], .inl rfl, ?_⟩
  rw [dv_take_succ, dv_take_succ, dv_append, a2]
  simp only [dv]
  generalize xs[k]?.getD 0 = x at *
  generalize ys[k]?.getD 0 = y at *
  generalize (1000000000 : Int) ^ k = p at *
  grind
theorem SubStep.next1 {xs ys ds : List Int} {k : Nat} {c : Int} (h : SubStep xs ys ds k c) (h1 : Dg xs) (h2 : Dg ys) (h0 : xs[k]?.getD 0 - ys[k]?.getD 0 - c < 0) :
    SubStep xs ys (ds ++ [xs[k]?.getD 0 - ys[k]?.getD 0 - c + 1000000000]) (k + 1) 1 := by
  obtain ⟨a1, a2, a3, a4⟩ := h
  have b1 := h1.get k
  have b2 := h2.get k
  refine ⟨a1.append (Dg.one (by omega) (by omega)), by simp [a2], .inr rfl, ?_⟩
  rw [dv_take_succ, dv_take_succ, dv_append, a2, Int.pow_succ]
  simp only [dv]
  generalize xs[k]?.getD 0 = x at *
  generalize ys[k]?.getD 0 = y at *
  generalize (1000000000 : Int) ^ k = p at *
  grind
/-- At the end nothing is borrowed where the second number is no greater. -/
theorem SubStep.fin {xs ys ds : List Int} {k : Nat} {c : Int} (h : SubStep xs ys ds k c) (h1 : xs.length ≤ k) (h2 : ys.length ≤ k) (hle : dv ys ≤ dv xs) : dv ds = dv xs - dv ys := by
  obtain ⟨a1, a2, a3, a4⟩ := h
  rw [List.take_of_length_le h1, List.take_of_length_le h2] at a4
  have := dv_lt a1
  rw [a2] at this
  rcases a3 with rfl | rfl
  · omega
  · omega

theorem dv_set (xs : List Int) (j : Nat) (v : Int) (hj : j < xs.length) : dv (xs.set j v) = dv xs + 1000000000 ^ j * (v - xs[j]?.getD 0) := by
  rw [dv_at (xs.set j v) j (by simpa using hj), dv_at xs j hj]
  rw [List.take_set_of_le (by omega), List.drop_set_of_lt (by omega)]
  simp [hj]
  grind
theorem dv_replicate (n : Nat) : dv (List.replicate n 0) = 0 := dv_zeros (fun k hk => by simp at hk; simp [hk])
theorem Dg.replicate (n : Nat) : Dg (List.replicate n 0) := fun d hd => by
  have := List.eq_of_mem_replicate hd
  omega

/-- How far a product has come: i digits of the first number are done, k of the second with the next digit; what is left to carry. -/
def MulIn (xs ys out : List Int) (i k : Nat) (c : Int) : Prop :=
  Dg out ∧ out.length = xs.length + ys.length + 1 ∧ 0 ≤ c ∧ c < 1000000000 ∧ (∀ j, i + ys.length ≤ j → out[j]?.getD 0 = 0) ∧
  dv out + 1000000000 ^ (i + k) * c = dv (xs.take i) * dv ys + 1000000000 ^ i * xs[i]?.getD 0 * dv (ys.take k)
def MulOut (xs ys out : List Int) (i : Nat) : Prop :=
  Dg out ∧ out.length = xs.length + ys.length + 1 ∧ (∀ j, i + ys.length ≤ j → out[j]?.getD 0 = 0) ∧ dv out = dv (xs.take i) * dv ys
theorem MulOut.start (xs ys : List Int) : MulOut xs ys (List.replicate (xs.length + ys.length + 1) 0) 0 := by
  refine ⟨Dg.replicate _, by simp, fun j _ => ?_, by rw [dv_replicate]; simp [dv]⟩
  rw [List.getElem?_replicate]
  split <;> rfl
theorem MulOut.enter {xs ys out : List Int} {i : Nat} (h : MulOut xs ys out i) : MulIn xs ys out i 0 0 :=
  ⟨h.1, h.2.1, by omega, by omega, h.2.2.1, by rw [h.2.2.2]; simp [dv]⟩
theorem mul_bd {x y p c : Int} (h1 : 0 ≤ x) (h2 : x < 1000000000) (h3 : 0 ≤ y) (h4 : y < 1000000000) (h5 : 0 ≤ p) (h6 : p < 1000000000) (h7 : 0 ≤ c) (h8 : c < 1000000000) :
    0 ≤ x * y ∧ x * y ≤ 999999998000000001 ∧ 0 ≤ p + x * y + c ∧ p + x * y + c ≤ 999999999999999999 := by
  have a : 0 ≤ x * y := Int.mul_nonneg h1 h3
  have b : x * y ≤ 999999999 * 999999999 := Int.mul_le_mul (by omega) (by omega) h3 (by omega)
  omega
theorem MulIn.next {xs ys out : List Int} {i k : Nat} {c : Int} (h : MulIn xs ys out i k c) (h1 : Dg xs) (h2 : Dg ys) (hi : i < xs.length) (hk : k < ys.length) :
    MulIn xs ys (out.set (i + k) ((out[i + k]?.getD 0 + xs[i]?.getD 0 * ys[k]?.getD 0 + c) % 1000000000)) i (k + 1) ((out[i + k]?.getD 0 + xs[i]?.getD 0 * ys[k]?.getD 0 + c) / 1000000000) := by
  obtain ⟨a1, a2, a3, a4, a5, a6⟩ := h
  have b1 := h1.get i
  have b2 := h2.get k
  have b3 := a1.get (i + k)
  have b4 := mul_bd b1.1 b1.2 b2.1 b2.2 b3.1 b3.2 a3 a4
  refine ⟨a1.set _ (by omega) (by omega), by simpa using a2, by omega, by omega, fun j hj => ?_, ?_⟩
  · rw [List.getElem?_set_ne (by omega)]
    exact a5 j hj
  · rw [dv_set _ _ _ (by omega), dv_take_succ, show i + (k + 1) = i + k + 1 from rfl, Int.pow_succ, Int.pow_add] at *
    generalize out[i + k]?.getD 0 = p at *
    generalize xs[i]?.getD 0 = x at *
    generalize ys[k]?.getD 0 = y at *
    generalize hs : p + x * y + c = s at *
    have e : s = s % 1000000000 + 1000000000 * (s / 1000000000) := by omega
    generalize s % 1000000000 = u at *
    generalize s / 1000000000 = v at *
    generalize (1000000000 : Int) ^ i = q at *
    generalize (1000000000 : Int) ^ k = r at *
    grind
theorem MulIn.leave {xs ys out : List Int} {i : Nat} {c : Int} (h : MulIn xs ys out i ys.length c) (hi : i < xs.length) :
    out[i + ys.length]?.getD 0 + c = c ∧ MulOut xs ys (out.set (i + ys.length) c) (i + 1) := by
  obtain ⟨a1, a2, a3, a4, a5, a6⟩ := h
  have h0 := a5 (i + ys.length) (Nat.le_refl _)
  refine ⟨by omega, a1.set _ a3 a4, by simpa using a2, fun j hj => ?_, ?_⟩
  · rw [List.getElem?_set_ne (by omega)]
    exact a5 j (by omega)
  · rw [dv_set _ _ _ (by omega), h0, dv_take_succ]
    rw [List.take_of_length_le (Nat.le_refl _)] at a6
    grind
theorem MulOut.fin {xs ys out : List Int} {i : Nat} (h : MulOut xs ys out i) (hi : xs.length ≤ i) : dv out = dv xs * dv ys := by
  rw [h.2.2.2, List.take_of_length_le hi]

/-- How far a division has come: the digits from number k on are divided, L is left. -/
def DivOut (xs q : List Int) (D : Int) (k : Nat) (L : Int) : Prop := Dg q ∧ q.length = xs.length ∧ 0 ≤ L ∧ L < D ∧ dv (xs.drop k) = D * dv (q.drop k) + L
theorem DivOut.start (xs : List Int) {D : Int} (hD : 0 < D) : DivOut xs (List.replicate xs.length 0) D xs.length 0 :=
  ⟨Dg.replicate _, by simp, by omega, hD, by simp [dv]⟩
theorem DivOut.next {xs q : List Int} {D L lo : Int} {i : Nat} (h : DivOut xs q D (i + 1) L) (hi : i < xs.length) (h0 : 0 ≤ lo) (h1 : lo < 1000000000)
    (h2 : D * lo ≤ xs[i]?.getD 0 + 1000000000 * L) (h3 : xs[i]?.getD 0 + 1000000000 * L < D * lo + D) : DivOut xs (q.set i lo) D i (xs[i]?.getD 0 + 1000000000 * L - D * lo) := by
  obtain ⟨a1, a2, a3, a4, a5⟩ := h
  refine ⟨a1.set _ h0 h1, by simpa using a2, by omega, by omega, ?_⟩
  rw [List.drop_eq_getElem_cons hi, List.drop_eq_getElem_cons (l := q.set i lo) (by simp; omega)]
  simp only [dv, List.getElem_set_self]
  rw [List.drop_set_of_lt (by omega), a5]
  have e : xs[i]?.getD 0 = xs[i] := by simp [hi]
  rw [e]
  grind
theorem DivOut.fin {xs q : List Int} {D L : Int} (h : DivOut xs q D 0 L) : dv xs = D * dv q + L := by simpa using h.2.2.2.2
/-- Where the greatest digit is sought. -/
def Seek (D R lo hi : Int) : Prop := 0 ≤ lo ∧ lo ≤ hi ∧ hi ≤ 999999999 ∧ D * lo ≤ R ∧ R < D * hi + D
theorem Seek.start {D R : Int} (h0 : 0 ≤ R) (h1 : R < 1000000000 * D) : Seek D R 0 999999999 := ⟨by omega, by omega, by omega, by omega, by omega⟩
theorem Seek.up {D R lo hi m : Int} (h : Seek D R lo hi) (h1 : lo < m) (h2 : m ≤ hi) (h3 : D * m ≤ R) : Seek D R m hi := ⟨by have := h.1; omega, h2, h.2.2.1, h3, h.2.2.2.2⟩
theorem Seek.down {D R lo hi m : Int} (h : Seek D R lo hi) (h1 : lo < m) (h2 : m ≤ hi) (h3 : R < D * m) : Seek D R lo (m - 1) := by
  refine ⟨h.1, by omega, by have := h.2.2.1; omega, h.2.2.2.1, ?_⟩
  have : D * (m - 1) + D = D * m := by grind
  omega
/-- Rounding down, by sizes. -/
theorem floor_neg {z D Q L : Int} (hz : z < 0) (h : (z.natAbs : Int) = D * Q + L) (hD : 0 < D) (h0 : 0 ≤ L) (h1 : L < D) : z / D = -Q - (if 0 < L then 1 else 0) := by
  have e : z = -(D * Q + L) := by omega
  subst e
  split
  · rw [show -(D * Q + L) = (D - L) + D * (-Q - 1) from by grind, Int.add_mul_ediv_left _ _ (by omega), Int.ediv_eq_zero_of_lt (by omega) (by omega)]
    omega
  · have : L = 0 := by omega
    subst this
    rw [show -(D * Q + 0) = 0 + D * (-Q) from by grind, Int.add_mul_ediv_left _ _ (by omega)]
    simp
theorem floor_pos {z D Q L : Int} (h : z = D * Q + L) (h0 : 0 ≤ L) (h1 : L < D) : z / D = Q := by
  subst h
  rw [show D * Q + L = L + D * Q from by omega, Int.add_mul_ediv_left _ _ (by omega), Int.ediv_eq_zero_of_lt h0 h1]
  omega
end Go.Wides

namespace Go.Proofs.YteigmjlfpmdmoaaGreatDoor
open Go.RowKit
open Calmly (Kept)

def wIn (n lo hi : Int) : Bool := decide (lo ≤ n) && decide (n ≤ hi)
theorem wIn_iff {n lo hi : Int} : wIn n lo hi = true ↔ lo ≤ n ∧ n ≤ hi := by simp [wIn]
theorem wIn_false {n lo hi : Int} : wIn n lo hi = false ↔ n < lo ∨ hi < n := by simp [wIn]; omega

set_option maxHeartbeats 400000 in
theorem within_any (n lo hi : Int) (w : World) :
    Calls Tryz.prog 8 #[.int .i64 n, .int .i64 lo, .int .i64 hi] w fun e w' => e = .returned (.bool (wIn n lo hi)) ∧ w = w' := by
  go_enter Tryz.func8, Tryz.ntmps8
  go_wp2
  · go_ret
    refine ⟨ret_bool ?_, rfl⟩
    have h : lo ≤ n := by assumption
    simp [wIn, h]
  · go_ret
    refine ⟨ret_bool ?_, rfl⟩
    have : wIn n lo hi = false := wIn_false.2 (.inl (by assumption))
    rw [this]

def sizeOf' (n : Int) : Int := if n < -n then -n else n
theorem sizeOf_abs (n : Int) : sizeOf' n = n.natAbs := by unfold sizeOf'; split <;> omega

set_option maxHeartbeats 400000 in
theorem size_any (n : Int) (w : World) (h1 : -9223372036854775807 ≤ n) (h2 : n ≤ 9223372036854775807) :
    Calls Tryz.prog 9 #[.int .i64 n] w fun e w' => e = .returned (.int .i64 n.natAbs) ∧ w = w' := by
  by_cases h : n < -n
  · go_enter Tryz.func9, Tryz.ntmps9
    go_wp2
    go_ret
    exact ⟨ret_int (by show -n = _; omega), rfl⟩
  · go_enter Tryz.func9, Tryz.ntmps9
    go_wp2
    go_ret
    exact ⟨ret_int (by show n = _; omega), rfl⟩

theorem gcd_step (a b : Int) : Int.gcd b (a.tmod b) = Int.gcd a b := by
  rw [Int.tmod_def, Int.gcd_sub_mul_left_right, Int.gcd_comm]

theorem tmod_bd {a b : Int} (hb : b ≠ 0) (h1 : -9223372036854775807 ≤ b) (h2 : b ≤ 9223372036854775807) : -9223372036854775807 ≤ a.tmod b ∧ a.tmod b ≤ 9223372036854775807 := by
  have := Int.natAbs_tmod a b
  have := Nat.mod_lt a.natAbs (y := b.natAbs) (by omega)
  omega
theorem tmod_lt {a b : Int} (hb : b ≠ 0) : (a.tmod b).natAbs < b.natAbs := by
  rw [Int.natAbs_tmod]
  exact Nat.mod_lt _ (by omega)

set_option maxRecDepth 100000 in
set_option maxHeartbeats 400000 in
theorem gcd_any (a b : Int) (w : World) (ha1 : -9223372036854775807 ≤ a) (ha2 : a ≤ 9223372036854775807) (hb1 : -9223372036854775807 ≤ b) (hb2 : b ≤ 9223372036854775807) :
    Calls Tryz.prog 63 #[.int .i64 a, .int .i64 b] w fun e w' => e = .returned (.int .i64 (Int.gcd a b)) ∧ ∃ n, w' = w.drewN n := by
  go_enter Tryz.func63, Tryz.ntmps63
  go_wp2
  go_loopw [0, 1] (fun x y wr => ∃ p q : Int, x = .int .i64 p ∧ y = .int .i64 q ∧ Int.gcd p q = Int.gcd a b ∧ -9223372036854775807 ≤ p ∧ p ≤ 9223372036854775807 ∧ -9223372036854775807 ≤ q ∧ q ≤ 9223372036854775807 ∧ ∃ n, wr = w.drewN n) (fun _ y _ => (intOf y).natAbs)
  case atStart => exact ⟨a, b, rfl, rfl, rfl, ha1, ha2, hb1, hb2, 0, rfl⟩
  case round =>
    obtain ⟨p, q, rfl, rfl, hg, hp1, hp2, hq1, hq2, n, rfl⟩ := hrel
    have HG := Lib.hid hg
    clear hg
    by_cases hz : q = 0
    · have hb : (q != 0) = false := by simp [hz]
      have Hz := Lib.hid hz
      clear hz
      go_wp2_with (first | (go_at_call 9; refine (size_any _ _ hp1 hp2).mono ?_; rintro e w' ⟨rfl, rfl⟩))
      go_ret
      refine ⟨ret_int ?_, n, rfl⟩
      have := HG.out
      rw [Hz.out] at this
      simp at this
      omega
    · have hb : (q != 0) = true := by simpa using hz
      have h1 := tmod_bd (a := p) hz hq1 hq2
      have h2 := tmod_lt (a := p) hz
      have hc : (q == 0) = false := by simpa using hz
      go_wp2_with fail
      refine Calmly.wp_region_mix 5 (.fl 0 <| .fl 1 <| .fl 2 <| .fl 3 <| .fl 4 <| .tail [5]) (by kernel_rfl) (by kernel_rfl) ?_
      go_wp2_with (first | ((with_reducible refine Calmly.is_fl ?_); refine Calmly.mix_fl rfl ?_ (fun _ _ => ?_); (first | exact .move _ | exact .load _ _ | exact .fieldAddr _ _ _ (by kernel_rfl) | exact .assign _ | exact .binOp _ _ _ _ _ rfl | exact .indexAddr _ _ _ | exact .len _ _ (by kernel_rfl) | exact .field _ _ _ | exact .extract _ _ | exact .pick _ _ _ | exact .build _ _ | exact .slice _ _ _ _ _ | exact .unOp _ _ _ rfl | exact .index _ _ _ | exact .max _ _ _ rfl rfl | exact .min _ _ _ rfl rfl | exact .nilCheck _ _ rfl)) | ((with_reducible refine Calmly.is_gl ?_); refine Calmly.mix_gl rfl rfl rfl ?_; first | ((first | with_reducible refine Calmly.gl_tt ?_ (fun _ _ => ?_) | with_reducible refine Calmly.gl_ff ?_ (fun _ _ => ?_)); (first | exact .move _ | exact .load _ _ | exact .fieldAddr _ _ _ (by kernel_rfl) | exact .assign _ | exact .binOp _ _ _ _ _ rfl | exact .indexAddr _ _ _ | exact .len _ _ (by kernel_rfl) | exact .field _ _ _ | exact .extract _ _ | exact .pick _ _ _ | exact .build _ _ | exact .slice _ _ _ _ _ | exact .unOp _ _ _ rfl | exact .index _ _ _ | exact .max _ _ _ rfl rfl | exact .min _ _ _ rfl rfl | exact .nilCheck _ _ rfl)) | with_reducible refine Calmly.gl_tf (fun _ _ => ?_) | with_reducible refine Calmly.gl_ft (fun _ _ => ?_)) | ((with_reducible refine Calmly.is_eff ?_); refine Calmly.mix_eff rfl (fun _ _ => ?_)) | ((with_reducible refine Calmly.is_gf ?_); refine Calmly.mix_gf rfl rfl rfl ?_; first | with_reducible refine Calmly.gf_tt (fun _ _ => ?_) | with_reducible refine Calmly.gf_ff (fun _ _ => ?_) | with_reducible refine Calmly.gf_tf (kept_of hk) (fun _ _ => ?_) | with_reducible refine Calmly.gf_ft (kept_of hk) (fun _ _ => ?_)) | ((with_reducible refine Calmly.is_tail ?_); first | refine Calmly.mix_tail_nil ?_ | refine Calmly.mix_tail rfl (fun _ _ => ?_)) | ((with_reducible refine Calmly.is_kept ?_); refine ⟨kept_of hk, ?_⟩) | (with_reducible refine Calmly.mix_alt ?_ ?_))
      go_roundw
      case rel => exact ⟨q, p.tmod q, rfl, rfl, by rw [gcd_step]; exact HG.out, hq1, hq2, h1.1, h1.2, n + 1, rfl⟩
      case measure => simpa [intOf] using h2

theorem eq_of_take {xs ys : List Int} (k : Nat) (h : xs.take k = ys.take k) (h1 : xs.length ≤ k) (h2 : ys.length ≤ k) : xs = ys := by
  rwa [List.take_of_length_le h1, List.take_of_length_le h2] at h
theorem take_step {xs ys : List Int} (k : Nat) (h : xs.take k = ys.take k) (h1 : k < xs.length) (h2 : k < ys.length) (he : xs[k]?.getD 0 = ys[k]?.getD 0) : xs.take (k + 1) = ys.take (k + 1) := by
  rw [List.take_succ_eq_append_getElem h1, List.take_succ_eq_append_getElem h2, h]
  simp [h1, h2] at he
  rw [he]

set_option maxRecDepth 100000 in
set_option maxHeartbeats 400000 in
theorem ints_any (a b : Option Addr) (n m c d : Nat) (xs ys : List Int) (w : World) (h1 : SI w a n c xs) (h2 : SI w b m d ys) :
    Calls Tryz.prog 40 #[.slice a n c, .slice b m d] w fun e w' => e = .returned (.bool (decide (xs = ys))) ∧ ∃ n, w' = w.drewN n := by
  obtain ⟨l1, l2⟩ : n ≤ xs.length ∧ xs.length ≤ n := by have := h1.len; omega
  obtain ⟨k1, k2⟩ : m ≤ ys.length ∧ ys.length ≤ m := by have := h2.len; omega
  have m1 := h1.max
  have m2 := h2.max
  have c1 := h1.cap
  have c2 := h2.cap
  by_cases he : n = m
  · subst he
    go_enter Tryz.func40, Tryz.ntmps40
    go_wp2
    go_loopw [5] (fun i wr => ∃ k : Nat, k ≤ n ∧ i = .int .i64 k ∧ xs.take k = ys.take k ∧ ∃ n, wr = w.drewN n) (fun i _ => n - (intOf i).toNat)
    case atStart => exact ⟨0, by omega, rfl, rfl, 0, rfl⟩
    case round =>
      obtain ⟨k, hk, rfl, ht, q, rfl⟩ := hrel
      have HT := Lib.hid ht
      clear ht
      by_cases hlt : k < n
      · obtain ⟨b1, o1, rfl, hc1⟩ := h1.at_ (by omega)
        obtain ⟨b2, o2, rfl, hc2⟩ := h2.at_ (by omega)
        have e1 := hc1 k hlt
        have e2 := hc2 k hlt
        clear hc1 hc2
        have hi : (k : Int) < (n : Int) := by omega
        have hi0 : (0 : Int) ≤ (k : Int) := by omega
        go_wp2_with fail
        refine Calmly.wp_region_mix 8 (.fl 0 <| .fl 1 <| .fl 2 <| .fl 3 <| .fl 4 <| .fl 5 <| .fl 6 <| .fl 7 <| .tail [8]) (by kernel_rfl) (by kernel_rfl) ?_
        go_wp2_with (first | ((with_reducible refine Calmly.is_fl ?_); refine Calmly.mix_fl rfl ?_ (fun _ _ => ?_); (first | exact .move _ | exact .load _ _ | exact .fieldAddr _ _ _ (by kernel_rfl) | exact .assign _ | exact .binOp _ _ _ _ _ rfl | exact .indexAddr _ _ _ | exact .len _ _ (by kernel_rfl) | exact .field _ _ _ | exact .extract _ _ | exact .pick _ _ _ | exact .build _ _ | exact .slice _ _ _ _ _ | exact .unOp _ _ _ rfl | exact .index _ _ _ | exact .max _ _ _ rfl rfl | exact .min _ _ _ rfl rfl | exact .nilCheck _ _ rfl)) | ((with_reducible refine Calmly.is_gl ?_); refine Calmly.mix_gl rfl rfl rfl ?_; first | ((first | with_reducible refine Calmly.gl_tt ?_ (fun _ _ => ?_) | with_reducible refine Calmly.gl_ff ?_ (fun _ _ => ?_)); (first | exact .move _ | exact .load _ _ | exact .fieldAddr _ _ _ (by kernel_rfl) | exact .assign _ | exact .binOp _ _ _ _ _ rfl | exact .indexAddr _ _ _ | exact .len _ _ (by kernel_rfl) | exact .field _ _ _ | exact .extract _ _ | exact .pick _ _ _ | exact .build _ _ | exact .slice _ _ _ _ _ | exact .unOp _ _ _ rfl | exact .index _ _ _ | exact .max _ _ _ rfl rfl | exact .min _ _ _ rfl rfl | exact .nilCheck _ _ rfl)) | with_reducible refine Calmly.gl_tf (fun _ _ => ?_) | with_reducible refine Calmly.gl_ft (fun _ _ => ?_)) | ((with_reducible refine Calmly.is_eff ?_); refine Calmly.mix_eff rfl (fun _ _ => ?_)) | ((with_reducible refine Calmly.is_gf ?_); refine Calmly.mix_gf rfl rfl rfl ?_; first | with_reducible refine Calmly.gf_tt (fun _ _ => ?_) | with_reducible refine Calmly.gf_ff (fun _ _ => ?_) | with_reducible refine Calmly.gf_tf (kept_of hk) (fun _ _ => ?_) | with_reducible refine Calmly.gf_ft (kept_of hk) (fun _ _ => ?_)) | ((with_reducible refine Calmly.is_tail ?_); first | refine Calmly.mix_tail_nil ?_ | refine Calmly.mix_tail rfl (fun _ _ => ?_)) | ((with_reducible refine Calmly.is_kept ?_); refine ⟨kept_of hk, ?_⟩) | (with_reducible refine Calmly.mix_alt ?_ ?_))
        · go_ret
          refine ⟨ret_bool ?_, q + 1, rfl⟩
          have hne : (xs[k]?.getD 0 != ys[k]?.getD 0) = true := by assumption
          have : ¬ xs = ys := fun h => by subst h; simp at hne
          simp [this]
        · have hne : (xs[k]?.getD 0 != ys[k]?.getD 0) = false := by assumption
          go_roundw
          case rel => exact ⟨k + 1, by omega, by go_num, take_step k HT.out (by omega) (by omega) (by simpa using hne), q + 1, rfl⟩
          case measure => simp [intOf]; omega
      · go_wp2
        go_ret
        refine ⟨ret_bool ?_, q, rfl⟩
        have := eq_of_take k HT.out (by omega) (by omega)
        simp [this]
  · go_enter Tryz.func40, Tryz.ntmps40
    go_wp2
    go_ret
    refine ⟨ret_bool ?_, 0, rfl⟩
    have : ¬ xs = ys := fun h => by subst h; omega
    simp [this]


theorem SI.take {w : World} {a : Option Addr} {n c m : Nat} {xs : List Int} (h : SI w a n c xs) (hm : m ≤ n) : SI w a m c (xs.take m) := by
  have hn := h.len
  obtain ⟨h1, h2, h3, h4⟩ := h
  refine ⟨by simp; omega, by omega, h3, ?_⟩
  rcases h4 with h4 | ⟨b, off, ha, hc⟩
  · exact .inl h4
  · refine .inr ⟨b, off, ha, fun i hi => ?_⟩
    rw [hc i (by omega), List.map_take, List.getElem?_take, if_pos (by omega)]

open Go.Wides
theorem Tryz.info_int : (Tryz.prog.info? 3).map (fun i => (i.zero, i.size, i.bytes)) = some (some (.int .i64 0), 1, 8) := by kernel_rfl

/-- A row of integers of the call's own. -/
def OwI (w : World) (B : Nat) (a : Option Addr) (n c : Nat) (xs : List Int) : Prop := w.ownsRow B 3 1 (.slice a n c) n (xs.map (Value.int .i64))
theorem OwI.nil (w : World) (B : Nat) : OwI w B none 0 0 [] := World.ownsRow_nil w B _ 1
theorem OwI.si {w : World} {B : Nat} {a : Option Addr} {n c : Nat} {xs : List Int} (h : OwI w B a n c xs) : SI w a n c xs := by
  obtain ⟨a', c', he, hs⟩ := Sl.of_owns h
  cases he
  exact hs
theorem OwI.len {w : World} {B : Nat} {a : Option Addr} {n c : Nat} {xs : List Int} (h : OwI w B a n c xs) : n = xs.length := h.si.len
theorem OwI.below {w w' : World} {B B' : Nat} {a : Option Addr} {n c : Nat} {xs : List Int} (h : OwI w B a n c xs) (hb : Below B' w w') (hB : w.heap.size ≤ B') : OwI w' B a n c xs := by
  obtain ⟨h1, h2⟩ := h
  refine ⟨h1, ?_⟩
  rcases h2 with h2 | ⟨g, cap, cur, hv, hg, hh, r⟩
  · exact .inl h2
  · refine .inr ⟨g, cap, cur, hv, hg, ?_, r⟩
    rw [hb.block g (by have := (Array.getElem?_eq_some_iff.1 hh).1; omega)]
    exact hh
theorem OwI.keep {w w' : World} {B : Nat} {a : Option Addr} {n c : Nat} {xs : List Int} (h : OwI w B a n c xs) (hb : Below w.heap.size w w') : OwI w' B a n c xs := h.below hb (Nat.le_refl _)

theorem OwI.drew {w : World} {B : Nat} {a : Option Addr} {n c : Nat} {xs : List Int} (h : OwI w B a n c xs) : OwI w.drew B a n c xs := h
theorem appI {ops : Array Oper} {rest : List Oper} {o : Oper} {a : Act} {Q : Exit → Act → World → Prop} {w0 : World} {B : Nat} {av : Option Addr} {n c : Nat} {xs : List Int} {v : Int} (hgd : o.guard = none) (s x : Operand)
    (ho : o.op = .call { callee := .builtin .append, args := #[s, x], argTypes := #[22, 22] })
    (hown : OwI w0 B av n c xs) (hs : a.eval s = .slice av n c) (hx : a.eval x = .slice (some ⟨w0.heap.size, 0, none⟩) 1 1)
    (hb1 : n + 1 ≤ 17592186044416) (hB : B ≤ w0.heap.size)
    (h : ∀ a' c' w', OwI w' B a' (n + 1) c' (xs ++ [v]) → Below B w0 w' → w0.heap.size < w'.heap.size → wpList Tryz.prog ops Q rest (a.put o.dst (.slice a' (n + 1) c')) w') :
    wpList Tryz.prog ops Q (o :: rest) a (w0.alloc (.cells #[.int .i64 v] 3)) := by
  obtain ⟨i0, hi, hz0, hz1, hz2⟩ := info_parts Tryz.info_int
  refine app1 hgd s x _ ho B _ i0 (.int .i64 0) 1 8 Tryz.underlying22 hi hz0 hz1 hz2 rfl (by decide) av n c _ hown #[.int .i64 v] hs hx rfl (by simp [Value.oneCell']) (by omega) (by omega) hB ?_
  intro a' c' w1 h1 h2 h3
  exact h a' c' w1 (by unfold OwI; simpa using h1) h2 h3


/-! ### A row of integers of the call's own, at its place -/
theorem OwI.at_ {w : World} {B : Nat} {a : Option Addr} {n c : Nat} {xs : List Int} (h : OwI w B a n c xs) (hn : 0 < n) : ∃ g, a = some ⟨g, 0, none⟩ ∧ B ≤ g ∧ g < w.heap.size := by
  obtain ⟨_, h2⟩ := h
  rcases h2 with ⟨_, h0⟩ | ⟨g, cap, cur, hv, hg, hh, _⟩
  · omega
  · cases hv
    exact ⟨g, rfl, hg, (Array.getElem?_eq_some_iff.1 hh).1⟩
theorem OwI.cell {w : World} {B g n c : Nat} {xs : List Int} (h : OwI w B (some ⟨g, 0, none⟩) n c xs) (j : Nat) (hj : j < n) : w.cell? ⟨g, j, none⟩ = some (.int .i64 (xs[j]?.getD 0)) := by
  have hl := h.len
  have := World.ownsRow.cellAt h j (by omega)
  rw [this]
  have : j < xs.length := by omega
  simp [this]
theorem OwI.free {w : World} {B g n c : Nat} {xs : List Int} (h : OwI w B (some ⟨g, 0, none⟩) n c xs) (j : Nat) : w.frozen? ⟨g, j, none⟩ = false := World.ownsRow.frozenAt h j
theorem OwI.lt {w : World} {B g n c : Nat} {xs : List Int} (h : OwI w B (some ⟨g, 0, none⟩) n c xs) : B ≤ g ∧ g < w.heap.size := World.ownsRow.lt h g rfl
theorem OwI.stored {w : World} {B g n c : Nat} {xs : List Int} (h : OwI w B (some ⟨g, 0, none⟩) n c xs) (j : Nat) (v : Int) :
    OwI (w.setCell ⟨g, j, none⟩ (.int .i64 v)) B (some ⟨g, 0, none⟩) n c (xs.set j v) ∧ Below B w (w.setCell ⟨g, j, none⟩ (.int .i64 v)) := by
  refine ⟨?_, (Below.refl _ _).setCell (p := ⟨g, j, none⟩) h.lt.1 _⟩
  have := (World.ownsRow.stored h j (.int .i64 v)).1
  unfold OwI
  rw [List.map_set]
  exact this
theorem makeI {ops : Array Oper} {rest : List Oper} {o : Oper} {a : Act} {Q : Exit → Act → World → Prop} {w : World} {B : Nat} {L : Int} {n : Nat} (hg : o.guard = none) (l c : Operand)
    (hop : o.op = Op.makeSlice 22 l c) (hl : a.eval l = .int .i64 L) (hc : a.eval c = .int .i64 L) (hL : L = (n : Int)) (hn : n ≤ 17592186044416) (hB : B ≤ w.heap.size)
    (hK : ∀ w', OwI w' B (some ⟨w.heap.size, 0, none⟩) n n (List.replicate n 0) → Below w.heap.size w w' → w.heap.size < w'.heap.size → wpList Tryz.prog ops Q rest (a.put o.dst (.slice (some ⟨w.heap.size, 0, none⟩) n n)) w') :
    wpList Tryz.prog ops Q (o :: rest) a w := by
  obtain ⟨i0, hi, hz0, hz1, hz2⟩ := info_parts Tryz.info_int
  refine wpList_make_full w hg l c _ hop B _ i0 (.int .i64 0) 1 Tryz.underlying22 hi hz0 hz1 .i64 .i64 L L n hl hc hL hL (by rw [hz2]; omega) (by unfold maxLen; omega) hB ?_
  intro w' ho hgr
  have h1 : OwI w' B (some ⟨w.heap.size, 0, none⟩) n n (List.replicate n 0) := by
    unfold OwI
    rw [Nat.mul_one, show (Value.int IntKind.i64 0).cells = #[Value.int .i64 0] from rfl, toList_madeCells_one] at ho
    simpa using ho
  exact hK w' h1 (grown_below hgr (Nat.le_refl _) (fun k hk => by cases hk)) h1.lt.2

theorem oneCell_ints (ys : List Int) : ∀ u ∈ ys.map (Value.int .i64), u.oneCell' = true := by
  intro u hu
  obtain ⟨y, _, rfl⟩ := List.mem_map.1 hu
  rfl
/-- 'append(l, s...)' of integers. -/
theorem appL {ops : Array Oper} {rest : List Oper} {o : Oper} {a : Act} {Q : Exit → Act → World → Prop} {w : World} {B : Nat} {av lv : Option Addr} {n c m lc : Nat} {xs ys : List Int} (hgd : o.guard = none) (s x : Operand)
    (ho : o.op = .call { callee := .builtin .append, args := #[s, x], argTypes := #[22, 22] })
    (hown : OwI w B av n c xs) (hl : SI w lv m lc ys) (hs : a.eval s = .slice av n c) (hx : a.eval x = .slice lv m lc)
    (hb1 : n + m ≤ 17592186044416) (hB : B ≤ w.heap.size)
    (h : ∀ a' c' w', OwI w' B a' (n + m) c' (xs ++ ys) → Below B w w' → wpList Tryz.prog ops Q rest (a.put o.dst (.slice a' (n + m) c')) w') :
    wpList Tryz.prog ops Q (o :: rest) a w := by
  obtain ⟨i0, hi, hz0, hz1, hz2⟩ := info_parts Tryz.info_int
  refine appS hgd s x _ ho B _ i0 (.int .i64 0) 1 8 Tryz.underlying22 hi hz0 hz1 hz2 rfl (by decide) av n c _ hown lv m lc _ hl (oneCell_ints ys) hs hx (by omega) (by omega) hB ?_
  intro a' c' w1 h1 h2
  exact h a' c' w1 (by unfold OwI; simpa using h1) h2
/-- '[]int{}'. -/
theorem OwI.empty (w : World) {B : Nat} (hB : B ≤ w.heap.size) : OwI (w.alloc (.cells #[] 3)) B (some ⟨w.heap.size, 0, none⟩) 0 0 [] :=
  ⟨by simp, .inr ⟨w.heap.size, 0, #[], rfl, hB, alloc_new _ _, by simp, by simp, by simp, by simp⟩⟩
/-- '[]int{x}'. -/
theorem OwI.one (w : World) {B : Nat} (hB : B ≤ w.heap.size) (x : Int) : OwI (w.alloc (.cells #[.int .i64 x] 3)) B (some ⟨w.heap.size, 0, none⟩) 1 1 [x] :=
  ⟨by simp, .inr ⟨w.heap.size, 1, #[.int .i64 x], rfl, hB, alloc_new _ _, by simp, by unfold maxLen; omega, by simp, by simp⟩⟩

set_option maxRecDepth 100000 in
set_option maxHeartbeats 400000 in
theorem copyInts_any (a : Option Addr) (n c : Nat) (xs : List Int) (w : World) (h1 : SI w a n c xs) (hn : n ≤ 1099511627776) :
    Calls Tryz.prog 31 #[.slice a n c] w fun e w' => ∃ a' c', e = .returned (.slice a' n c') ∧ OwI w' w.heap.size a' n c' xs ∧ Below w.heap.size w w' := by
  go_enter Tryz.func31, Tryz.ntmps31
  have hb : Below w.heap.size w (w.alloc (.cells #[] 3)) := (Below.refl _ _).alloc (Nat.le_refl _) _
  have hc := h1.cap
  have hm := h1.max
  go_wp2_with (at_builtin; refine appL rfl _ _ rfl (OwI.empty w (Nat.le_refl _)) (h1.keep hb) rfl rfl (by omega) (by simp) ?_; intro a' c' w1 ho hb1)
  go_ret
  exact ⟨a', c', rfl, by simpa using ho, hb.trans hb1⟩

end Go.Proofs.YteigmjlfpmdmoaaGreatDoor
