/- Words for slices in memory, for the numbers of the helpers' package, and how they are kept when a call makes memory of its own. -/
import Derived.Test.YtmaidjankakppaaChecked
import Derived.Test.YtmaidjankakppaaMix
import Derived.WalkKit
import Derived.WalkSpells
import Derived.WalkLawsBesides
import Derived.Deep.QuietTactic
import Derived.BigQuiet
import Derived.Lib.Hide
import Derived.IntWalk
import Derived.Laws.AppendOwnNone
import Derived.Deep.LoopGhost
import Derived.RegionTactic
import Derived.ChangeAlike
namespace Go.Proofs.Ytmaidjankakppaa
open Go.RowKit
open Calmly (Kept)

theorem kept_of {w w' : World} (h : Below w.heap.size w w') : Kept w w' := ⟨h.size, h.block⟩
theorem kept_and {W w : World} {G : Prop} (h : Below W.heap.size W w) (k : Below W.heap.size W w → G) : Kept W w ∧ G := ⟨kept_of h, k h⟩
theorem step_of {W w w' : World} (h : Below W.heap.size W w) (h' : Below w.heap.size w w') : Below W.heap.size W w' := h.trans (h'.mono h.size)
theorem cells_of {W w1 : World} (hb : Below W.heap.size W w1) : (∀ b o, b < W.heap.size → w1.cell? ⟨b, o, none⟩ = W.cell? ⟨b, o, none⟩) ∧ (∀ b o, b < W.heap.size → w1.frozen? ⟨b, o, none⟩ = W.frozen? ⟨b, o, none⟩) :=
  ⟨fun b o h => hb.cell (p := ⟨b, o, none⟩) h, fun b o h => hb.frozen (p := ⟨b, o, none⟩) h⟩
theorem below_drewN {B : Nat} {a w : World} (h : Below B a w) (n : Nat) : Below B a (w.drewN n) := ⟨h.os, h.tape, h.output, h.size, h.block⟩
theorem ret_int {k : IntKind} {a b : Int} (h : a = b) : Ending.returned (Value.int k a) = .returned (.int k b) := by rw [h]
theorem ret_bool {a b : Bool} (h : a = b) : Ending.returned (Value.bool a) = .returned (.bool b) := by rw [h]
theorem cell_lt {w : World} {b o : Nat} {v : Value} (h : w.cell? ⟨b, o, none⟩ = some v) : b < w.heap.size := by
  rcases Nat.lt_or_ge b w.heap.size with h' | h'
  · exact h'
  · simp [World.cell?, Array.getElem?_eq_none h'] at h
theorem cell_keep {w w' : World} {b o : Nat} {v : Value} (h : w.cell? ⟨b, o, none⟩ = some v) (hb : Below w.heap.size w w') : w'.cell? ⟨b, o, none⟩ = some v :=
  (hb.cell (p := ⟨b, o, none⟩) (cell_lt h)).trans h

theorem alloc_new (w : World) (o : Obj) : (w.alloc o).heap[w.heap.size]? = some o := by
  show (w.heap.push o)[w.heap.size]? = _
  simp
theorem cell_block {w : World} {b : Nat} {cs : Array Value} {e : TypeId} (h : w.heap[b]? = some (.cells cs e)) : ∀ o, w.cell? ⟨b, o, none⟩ = cs[o]? := fun o => by simp [World.cell?, h]
theorem frozen_block {w : World} {b : Nat} {cs : Array Value} {e : TypeId} (h : w.heap[b]? = some (.cells cs e)) : ∀ o, w.frozen? ⟨b, o, none⟩ = false := fun o => by simp [World.frozen?, h]

/-- Block r is a row of cells of type e. -/
def BlkT (w : World) (r : Nat) (e : TypeId) : Prop := ∃ cs, w.heap[r]? = some (.cells cs e)
theorem BlkT.lt {w : World} {r : Nat} {e : TypeId} (h : BlkT w r e) : r < w.heap.size := by
  obtain ⟨cs, h⟩ := h
  exact (Array.getElem?_eq_some_iff.1 h).1
theorem BlkT.below {w w' : World} {B r : Nat} {e : TypeId} (h : BlkT w r e) (hb : Below B w w') (hr : r < B) : BlkT w' r e := by
  obtain ⟨cs, h⟩ := h
  exact ⟨cs, (hb.block r hr).trans h⟩
theorem BlkT.keep {w w' : World} {r : Nat} {e : TypeId} (h : BlkT w r e) (hb : Below w.heap.size w w') : BlkT w' r e := h.below hb h.lt
theorem BlkT.set {w : World} {r : Nat} {e : TypeId} (h : BlkT w r e) (p : Addr) (v : Value) : BlkT (w.setCell p v) r e := by
  obtain ⟨cs, h⟩ := h
  simp only [BlkT, World.setCell, Array.getElem?_modify]
  by_cases hp : p.block = r
  · simp [hp, h]
  · simp [hp, h]
theorem BlkT.new (w : World) (cs : Array Value) (e : TypeId) : BlkT (w.alloc (.cells cs e)) w.heap.size e := ⟨cs, alloc_new _ _⟩
theorem BlkT.alloc {w : World} {r : Nat} {e : TypeId} (h : BlkT w r e) (o : Obj) : BlkT (w.alloc o) r e := h.below ((Below.refl w.heap.size w).alloc (Nat.le_refl _) o) h.lt
theorem BlkT.drew {w : World} {r : Nat} {e : TypeId} (h : BlkT w r e) : BlkT w.drew r e := h
theorem BlkT.drewN {w : World} {r : Nat} {e : TypeId} (h : BlkT w r e) (n : Nat) : BlkT (w.drewN n) r e := h
theorem BlkT.free {w : World} {r : Nat} {e : TypeId} (h : BlkT w r e) (o : Nat) : w.frozen? ⟨r, o, none⟩ = false := by
  obtain ⟨cs, h⟩ := h
  exact frozen_block h o
theorem BlkT.ne {w : World} {r r' : Nat} {e e' : TypeId} (h : BlkT w r e) (h' : BlkT w r' e') (he : e ≠ e') : r ≠ r' := by
  rintro rfl
  obtain ⟨cs, h⟩ := h
  obtain ⟨cs', h'⟩ := h'
  rw [h] at h'
  cases h'
  exact he rfl
theorem cell_set_ne {w : World} {r o b o' : Nat} {v : Value} (h : b ≠ r) : (w.setCell ⟨r, o, none⟩ v).cell? ⟨b, o', none⟩ = w.cell? ⟨b, o', none⟩ := by
  unfold World.cell?
  rw [Below.heap_setCell _ _ _ _ h]

theorem kept_alloc {W w : World} {o : Obj} {G : Prop} (h : Below W.heap.size W w) (k : Below W.heap.size W (w.alloc o) → (w.alloc o).heap[w.heap.size]? = some o → W.heap.size ≤ w.heap.size → G) : Kept W (w.alloc o) ∧ G :=
  ⟨kept_of (h.alloc h.size o), k (h.alloc h.size o) (alloc_new w o) h.size⟩
theorem blk_keep {w w' : World} {b : Nat} {o : Obj} (h : w.heap[b]? = some o) (hb : Below w.heap.size w w') : w'.heap[b]? = some o :=
  (hb.block b (Array.getElem?_eq_some_iff.1 h).1).trans h
theorem blk_lt {w : World} {b : Nat} {o : Obj} (h : w.heap[b]? = some o) : b < w.heap.size := (Array.getElem?_eq_some_iff.1 h).1
/-- Two cells of a block are stored into. -/
theorem set2 {v : World} {r : Nat} {x y u u' : Value} (h0 : v.cell? ⟨r, 0, none⟩ = some u) (h1 : v.cell? ⟨r, 1, none⟩ = some u') :
    ((v.setCell ⟨r, 0, none⟩ x).setCell ⟨r, 1, none⟩ y).cell? ⟨r, 0, none⟩ = some x ∧ ((v.setCell ⟨r, 0, none⟩ x).setCell ⟨r, 1, none⟩ y).cell? ⟨r, 1, none⟩ = some y ∧
    (∀ b o, b ≠ r → ((v.setCell ⟨r, 0, none⟩ x).setCell ⟨r, 1, none⟩ y).cell? ⟨b, o, none⟩ = v.cell? ⟨b, o, none⟩) ∧ (∀ b o, ((v.setCell ⟨r, 0, none⟩ x).setCell ⟨r, 1, none⟩ y).frozen? ⟨b, o, none⟩ = v.frozen? ⟨b, o, none⟩) := by
  have e1 := World.cell?_setCell_same v ⟨r, 0, none⟩ x h0
  refine ⟨?_, ?_, fun b o hb => ?_, fun b o => ?_⟩
  · rw [World.cell?_setCell_other _ _ _ _ (by simp)]
    exact e1
  · have e2 : (v.setCell ⟨r, 0, none⟩ x).cell? ⟨r, 1, none⟩ = some u' := by
      rw [World.cell?_setCell_other _ _ _ _ (by simp)]
      exact h1
    exact World.cell?_setCell_same _ _ _ e2
  · rw [cell_set_ne hb, cell_set_ne hb]
  · rw [World.frozen?_setCell, World.frozen?_setCell]

/-- The world by a name, and what is known of it. -/
theorem wp_gen {P : Program} {c : Code} {Q : Exit → Act → World → Prop} {a : Act} {w : World} (S : World → Prop) (hS : S w) (h : ∀ v, S v → c.wp P Q a v) : c.wp P Q a w := h w hS

/-- The slice of n elements of k cells each reads, cell by cell, as the list. -/
def Sl (w : World) (k : Nat) (a : Option Addr) (n c : Nat) (vs : List Value) : Prop :=
  vs.length = n * k ∧ n ≤ c ∧ c ≤ maxLen ∧ ((a = none ∧ c = 0) ∨ ∃ b off, a = some ⟨b, off, none⟩ ∧ ∀ i, i < n * k → w.cell? ⟨b, off + i, none⟩ = vs[i]?)

theorem Sl.keep {w w' : World} {k : Nat} {a : Option Addr} {n c : Nat} {vs : List Value} (h : Sl w k a n c vs) (hb : Below w.heap.size w w') : Sl w' k a n c vs := by
  obtain ⟨h1, h2, h3, h4⟩ := h
  refine ⟨h1, h2, h3, ?_⟩
  rcases h4 with h4 | ⟨b, off, ha, hc⟩
  · exact .inl h4
  · refine .inr ⟨b, off, ha, fun i hi => ?_⟩
    have := hc i hi
    have hs : i < vs.length := by omega
    rw [List.getElem?_eq_getElem hs] at this ⊢
    exact cell_keep this hb
/-- The slice lies in a row of elements of type e. -/
def In (w : World) (e : TypeId) (a : Option Addr) : Prop := a = none ∨ ∃ b off, a = some ⟨b, off, none⟩ ∧ BlkT w b e
theorem In.keep {w w' : World} {e : TypeId} {a : Option Addr} (h : In w e a) (hb : Below w.heap.size w w') : In w' e a := by
  rcases h with h | ⟨b, off, h1, h2⟩
  · exact .inl h
  · exact .inr ⟨b, off, h1, h2.keep hb⟩
theorem In.set {w : World} {e : TypeId} {a : Option Addr} (h : In w e a) (p : Addr) (v : Value) : In (w.setCell p v) e a := by
  rcases h with h | ⟨b, off, h1, h2⟩
  · exact .inl h
  · exact .inr ⟨b, off, h1, h2.set p v⟩
theorem In.of_owns {w : World} {base : Nat} {e : TypeId} {k : Nat} {a : Option Addr} {m c n : Nat} {xs : List Value} (h : w.ownsRow base e k (.slice a m c) n xs) : In w e a := by
  obtain ⟨_, h⟩ := h
  rcases h with ⟨he, _⟩ | ⟨g, cap, cur, he, _, hh, _⟩
  · cases he; exact .inl rfl
  · cases he; exact .inr ⟨g, 0, rfl, cur, hh⟩
/-- A store into a block of another type. -/
theorem Sl.set {w : World} {k : Nat} {a : Option Addr} {n c : Nat} {vs : List Value} {e e' : TypeId} {r o : Nat} {v : Value} (h : Sl w k a n c vs) (hi : In w e a) (hr : BlkT w r e') (he : e ≠ e') :
    Sl (w.setCell ⟨r, o, none⟩ v) k a n c vs := by
  obtain ⟨h1, h2, h3, h4⟩ := h
  refine ⟨h1, h2, h3, ?_⟩
  rcases h4 with h4 | ⟨b, off, ha, hc⟩
  · exact .inl h4
  · refine .inr ⟨b, off, ha, fun i hi' => ?_⟩
    rcases hi with hi | ⟨b', off', h5, h6⟩
    · rw [hi] at ha; cases ha
    · rw [h5] at ha
      cases ha
      rw [cell_set_ne (h6.ne hr he)]
      exact hc i hi'
theorem Sl.nil (w : World) (k : Nat) : Sl w k none 0 0 [] := ⟨by simp, Nat.le_refl _, Nat.zero_le _, .inl ⟨rfl, rfl⟩⟩
theorem Sl.of_owns {w : World} {base : Nat} {e : TypeId} {k : Nat} {v : Value} {n : Nat} {xs : List Value} (h : w.ownsRow base e k v n xs) :
    ∃ a c, v = .slice a n c ∧ Sl w k a n c xs := by
  obtain ⟨hl, h⟩ := h
  rcases h with ⟨rfl, rfl⟩ | ⟨g, cap, cur, rfl, hg, hh, hn, hm, hs, ht⟩
  · exact ⟨none, 0, rfl, by simpa using hl, Nat.le_refl _, Nat.zero_le _, .inl ⟨rfl, rfl⟩⟩
  · refine ⟨_, cap, rfl, hl, hn, hm, .inr ⟨g, 0, rfl, fun i hi => ?_⟩⟩
    subst ht
    have : i < cur.size := by
      have : n * k ≤ cap * k := Nat.mul_le_mul_right k hn
      omega
    simp [World.cell?, hh, this, hi, List.getElem?_take]

theorem grown_below {w w' : World} {B : Nat} {row : Option Nat} (hg : w.grownBy w' row) (hB : B ≤ w.heap.size) (hr : ∀ k, row = some k → B ≤ k) : Below B w w' :=
  (Below.refl B w).grown hg hB hr
theorem cells_new (w : World) (new : Array Value) (e : TypeId) : ∀ j u, new.toList[j]? = some u → (w.alloc (.cells new e)).cell? ((⟨w.heap.size, 0, none⟩ : Addr).add j) = some u := by
  intro j u hj
  have := cell_block (alloc_new w (.cells new e)) j
  have h2 : ((⟨w.heap.size, 0, none⟩ : Addr).add j) = ⟨w.heap.size, j, none⟩ := by
    unfold Addr.add
    split
    · rename_i h0; subst h0; rfl
    · simp
  rw [h2, this]
  simpa using hj

/-- 'append(l, x)' at a row of the call's own: it has one element more; what lay below the call's own blocks is as it was. -/
theorem app1 {P : Program} {ops : Array Oper} {rest : List Oper} {o : Oper} {a : Act} {Q : Exit → Act → World → Prop} {w0 : World} (hgd : o.guard = none) (s x : Operand) (t : TypeId)
    (ho : o.op = .call { callee := .builtin .append, args := #[s, x], argTypes := #[t, t] })
    (B : Nat) (e : TypeId) (i : TypeInfo) (z : Value) (k bytes : Nat) (ht : P.underlying t = some (.slice e)) (hi : P.info? e = some i) (hz : i.zero = some z)
    (hsize : i.size = k) (hby : i.bytes = bytes) (hzs : z.cells.size = k) (hsz : 0 < k)
    (av : Option Addr) (n c : Nat) (xs : List Value) (hown : w0.ownsRow B e k (.slice av n c) n xs) (new : Array Value)
    (hs : a.eval s = .slice av n c) (hx : a.eval x = .slice (some ⟨w0.heap.size, 0, none⟩) 1 1)
    (hl : new.size = k) (h1 : ∀ u ∈ new.toList, u.oneCell' = true) (hb1 : n + 1 ≤ 140737488355328) (hb : (n + 1) * bytes ≤ 140737488355328) (hB : B ≤ w0.heap.size)
    (h : ∀ a' c' w', w'.ownsRow B e k (.slice a' (n + 1) c') (n + 1) (xs ++ new.toList) → Below B w0 w' → w0.heap.size < w'.heap.size → wpList P ops Q rest (a.put o.dst (.slice a' (n + 1) c')) w') :
    wpList P ops Q (o :: rest) a (w0.alloc (.cells new e)) := by
  refine wpList_append_own _ hgd s x t ho B e i z k bytes ht hi hz hsize hby hzs hsz _ n xs hs (hown.alloc _) ⟨w0.heap.size, 0, none⟩ 1 1 new.toList hx (by simpa using hl) (cells_new w0 new e) h1 (by unfold maxLen; omega) hb (by simp; omega) ?_
  intro v' w1 ho1 hg hn
  have hrow : ∀ j, (Value.slice av n c).ownBlock = some j → B ≤ j := fun j hj => (hown.lt j hj).1
  have hb0 : Below B w0 (w0.alloc (.cells new e)) := (Below.refl _ _).alloc hB _
  have hb2 : Below B w0 w1 := hb0.trans (grown_below hg (by simp; omega) hrow)
  have hsz2 := hg.size
  obtain ⟨hlen, ho2⟩ := ho1
  rcases ho2 with ⟨_, h0⟩ | ⟨g, cap, cur, rfl, r⟩
  · omega
  · exact h _ _ w1 ⟨hlen, .inr ⟨g, cap, cur, rfl, r⟩⟩ hb2 (by simp at hsz2; omega)

theorem owns_slice {w : World} {B : Nat} {e : TypeId} {k : Nat} {v : Value} {n : Nat} {xs : List Value} (h : w.ownsRow B e k v n xs) : ∃ a c, v = .slice a n c := by
  obtain ⟨a, c, he, _⟩ := Sl.of_owns h
  exact ⟨a, c, he⟩

/-- 'append(l, s...)' at a row of the call's own: whatever the slice s. -/
theorem appS {P : Program} {ops : Array Oper} {rest : List Oper} {o : Oper} {a : Act} {Q : Exit → Act → World → Prop} {w : World} (hgd : o.guard = none) (s x : Operand) (t : TypeId)
    (ho : o.op = .call { callee := .builtin .append, args := #[s, x], argTypes := #[t, t] })
    (B : Nat) (e : TypeId) (i : TypeInfo) (z : Value) (k bytes : Nat) (ht : P.underlying t = some (.slice e)) (hi : P.info? e = some i) (hz : i.zero = some z)
    (hsize : i.size = k) (hby : i.bytes = bytes) (hzs : z.cells.size = k) (hsz : 0 < k)
    (av : Option Addr) (n c : Nat) (xs : List Value) (hown : w.ownsRow B e k (.slice av n c) n xs)
    (lv : Option Addr) (m lc : Nat) (vs : List Value) (hl : Sl w k lv m lc vs) (hone : ∀ u ∈ vs, u.oneCell' = true)
    (hs : a.eval s = .slice av n c) (hx : a.eval x = .slice lv m lc)
    (hb1 : n + m ≤ 140737488355328) (hb : (n + m) * bytes ≤ 140737488355328) (hB : B ≤ w.heap.size)
    (h : ∀ a' c' w', w'.ownsRow B e k (.slice a' (n + m) c') (n + m) (xs ++ vs) → Below B w w' → wpList P ops Q rest (a.put o.dst (.slice a' (n + m) c')) w') :
    wpList P ops Q (o :: rest) a w := by
  obtain ⟨g1, g2, g3, g4⟩ := hl
  have hrow : ∀ j, (Value.slice av n c).ownBlock = some j → B ≤ j := fun j hj => (hown.lt j hj).1
  rcases g4 with ⟨rfl, rfl⟩ | ⟨b, off, rfl, hc⟩
  · obtain rfl : m = 0 := by omega
    obtain rfl : vs = [] := by cases vs with | nil => rfl | cons _ _ => simp at g1
    refine wpList_append_own_none hgd s x t ho B e i k ht hi _ n xs hs hown hx ?_
    exact h av c w (by simpa using hown) (Below.refl _ _)
  · refine wpList_append_own _ hgd s x t ho B e i z k bytes ht hi hz hsize hby hzs hsz _ n xs hs hown ⟨b, off, none⟩ m lc vs hx g1 ?_ hone (by unfold maxLen; omega) hb hB ?_
    · intro j u hj
      have hjl : j < vs.length := (List.getElem?_eq_some_iff.1 hj).1
      have h2 : ((⟨b, off, none⟩ : Addr).add j) = ⟨b, off + j, none⟩ := by
        unfold Addr.add
        split
        · rename_i h0; subst h0; rfl
        · rfl
      rw [h2, hc j (by omega)]
      exact hj
    · intro v' w1 ho1 hg _
      obtain ⟨a', c', rfl⟩ := owns_slice ho1
      exact h a' c' w1 ho1 (grown_below hg hB hrow)

/-- A slice of integers. -/
def SI (w : World) (a : Option Addr) (n c : Nat) (xs : List Int) : Prop := Sl w 1 a n c (xs.map (Value.int .i64))
theorem SI.keep {w w' : World} {a : Option Addr} {n c : Nat} {xs : List Int} (h : SI w a n c xs) (hb : Below w.heap.size w w') : SI w' a n c xs := Sl.keep h hb
theorem SI.len {w : World} {a : Option Addr} {n c : Nat} {xs : List Int} (h : SI w a n c xs) : n = xs.length := by have := h.1; simp at this; omega
theorem SI.cap {w : World} {a : Option Addr} {n c : Nat} {xs : List Int} (h : SI w a n c xs) : n ≤ c := h.2.1
theorem SI.max {w : World} {a : Option Addr} {n c : Nat} {xs : List Int} (h : SI w a n c xs) : c ≤ 9223372036854775807 := h.2.2.1
/-- Either nil, or at a place. -/
theorem SI.place {w : World} {a : Option Addr} {n c : Nat} {xs : List Int} (h : SI w a n c xs) :
    (a = none ∧ n = 0 ∧ c = 0 ∧ xs = []) ∨ ∃ b off, a = some ⟨b, off, none⟩ ∧ ∀ i, i < n → w.cell? ⟨b, off + i, none⟩ = some (.int .i64 (xs[i]?.getD 0)) := by
  have hn := h.len
  obtain ⟨h1, h2, h3, h4⟩ := h
  rcases h4 with ⟨rfl, rfl⟩ | ⟨b, off, rfl, hc⟩
  · left
    have : n = 0 := by omega
    subst this
    exact ⟨rfl, rfl, rfl, by cases xs with | nil => rfl | cons _ _ => simp at hn⟩
  · right
    refine ⟨b, off, rfl, fun i hi => ?_⟩
    rw [hc i (by omega)]
    have : i < xs.length := by omega
    simp [this]
/-- The place of a slice that has an element. -/
theorem SI.at_ {w : World} {a : Option Addr} {n c : Nat} {xs : List Int} (h : SI w a n c xs) (hn : 0 < n) :
    ∃ b off, a = some ⟨b, off, none⟩ ∧ ∀ i, i < n → w.cell? ⟨b, off + i, none⟩ = some (.int .i64 (xs[i]?.getD 0)) := by
  rcases h.place with ⟨_, rfl, _, _⟩ | h
  · omega
  · exact h
end Go.Proofs.Ytmaidjankakppaa
