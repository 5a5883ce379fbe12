/- Rows of fractions of the call's own. Rows of slices of integers of the call's own. Matrices of fractions of the call's own. -/
import Derived.Test.YtfjcfbmfpefabaaGreatK10
import Derived.Maps.AppendAt
namespace Go.Proofs.YtfjcfbmfpefabaaGreat
open Go.RowKit Go.Wides
open Calmly (Kept)

/-- The cells of a fraction. -/
abbrev RC := (Int × Option Addr × Nat × Nat) × (Int × Option Addr × Nat × Nat)
def rc0 : RC := ((0, none, 0, 0), (0, none, 0, 0))
def rq1 (p : RC) : List Value := [.int .i64 p.1.1, .slice p.1.2.1 p.1.2.2.1 p.1.2.2.2, .int .i64 p.2.1, .slice p.2.2.1 p.2.2.2.1 p.2.2.2.2]
def rq (l : List RC) : List Value := l.flatMap rq1
theorem rq_len (l : List RC) : (rq l).length = l.length * 4 := by
  induction l with
  | nil => rfl
  | cons p l ih =>
    show (_ :: _ :: _ :: _ :: rq l).length = _
    simp [ih]
    omega
theorem rq_append (l m : List RC) : rq (l ++ m) = rq l ++ rq m := by simp [rq]
theorem rq_get (l : List RC) (i : Nat) (h : i < l.length) (j : Nat) (hj : j < 4) : (rq l)[4 * i + j]? = (rq1 (l[i]?.getD rc0))[j]? := by
  induction l generalizing i with
  | nil => simp at h
  | cons p l ih =>
    have e : rq (p :: l) = rq1 p ++ rq l := rfl
    rw [e]
    cases i with
    | zero =>
      rw [List.getElem?_append_left (by show _ < 4; omega)]
      simp
    | succ i =>
      have := ih i (by simpa using h)
      rw [List.getElem?_append_right (by show 4 ≤ _; omega)]
      simp only [List.getElem?_cons_succ]
      rw [← this]
      congr 1
      show 4 * (i + 1) + j - 4 = _
      omega
def SQ (w : World) (a : Option Addr) (n c : Nat) (l : List RC) : Prop := Sl w 4 a n c (rq l)
theorem SQ.len {w : World} {a : Option Addr} {n c : Nat} {l : List RC} (h : SQ w a n c l) : n = l.length := by have := h.1; rw [rq_len] at this; omega
theorem SQ.at_ {w : World} {a : Option Addr} {n c : Nat} {l : List RC} (h : SQ w a n c l) (hn : 0 < n) :
    ∃ b off, a = some ⟨b, off, none⟩ ∧ ∀ i, i < n → ∀ j, j < 4 → w.cell? ⟨b, off + i * 4 + j, none⟩ = (rq1 (l[i]?.getD rc0))[j]? := by
  have hl := h.len
  obtain ⟨h1, h2, h3, h4⟩ := h
  rcases h4 with rfl | ⟨b, off, rfl, hc⟩
  · omega
  · refine ⟨b, off, rfl, fun i hi j hj => ?_⟩
    rw [← rq_get l i (by omega) j hj, show off + i * 4 + j = off + (4 * i + j) by omega, hc (4 * i + j) (by omega)]
theorem Tryz.info_ratio : (Tryz.prog.info? 80).map (fun i => (i.zero, i.size, i.bytes)) = some (some (.agg #[.int .i64 0, .slice none 0 0, .int .i64 0, .slice none 0 0]), 4, 64) := by kernel_rfl
def OwQ (w : World) (B : Nat) (a : Option Addr) (n c : Nat) (l : List RC) : Prop := w.ownsRow B 80 4 (.slice a n c) n (rq l)
theorem OwQ.sq {w : World} {B : Nat} {a : Option Addr} {n c : Nat} {l : List RC} (h : OwQ w B a n c l) : SQ w a n c l := by
  obtain ⟨a', c', he, hs⟩ := Sl.of_owns h
  cases he
  exact hs
theorem OwQ.nil (w : World) (B : Nat) : OwQ w B none 0 0 [] := World.ownsRow_nil w B _ 4
theorem OwQ.keep {w w' : World} {B : Nat} {a : Option Addr} {n c : Nat} {l : List RC} (h : OwQ w B a n c l) (hb : Below w.heap.size w w') : OwQ w' B a n c l := by
  obtain ⟨h1, h2⟩ := h
  refine ⟨h1, ?_⟩
  rcases h2 with h2 | ⟨g, cap, cur, hv, hg, hh, r⟩
  · exact .inl h2
  · refine .inr ⟨g, cap, cur, hv, hg, ?_, r⟩
    rw [hb.block g (by have := (Array.getElem?_eq_some_iff.1 hh).1; omega)]
    exact hh

theorem WideV.frame {w w' : World} {s : Int} {a : Option Addr} {n c : Nat} {z : Int} (h : WideV w s a n c z) (hs : ∀ b, BlkT w b 3 → w'.heap[b]? = w.heap[b]?) : WideV w' s a n c z := by
  obtain ⟨ds, h1, h2, h3⟩ := h
  refine ⟨ds, ?_, ?_, h3⟩
  · obtain ⟨k1, k2, k3, k4⟩ := h1
    refine ⟨k1, k2, k3, ?_⟩
    rcases k4 with k4 | ⟨b, off, rfl, hc⟩
    · exact .inl k4
    · refine .inr ⟨b, off, rfl, fun i hi => ?_⟩
      rw [← hc i hi]
      have hb : w'.heap[b]? = w.heap[b]? := by
        rcases h2 with h2 | h2
        · cases h2
        · obtain ⟨b', off', h5, h6⟩ := h2
          cases h5
          exact hs _ h6
      simp [World.cell?, hb]
  · rcases h2 with h2 | ⟨b, off, h5, cs, h6⟩
    · exact .inl h2
    · exact .inr ⟨b, off, h5, cs, (hs b ⟨cs, h6⟩).trans h6⟩
/-- A fraction in a row: so many digits at most. -/
def RatC (w : World) (L : Nat) (p : RC) (q : Rat) : Prop := p.1.2.2.1 ≤ L ∧ p.2.2.2.1 ≤ L ∧ RatV w p.1.1 p.1.2.1 p.1.2.2.1 p.1.2.2.2 p.2.1 p.2.2.1 p.2.2.2.1 p.2.2.2.2 q
theorem RatC.keep {w w' : World} {L : Nat} {p : RC} {q : Rat} (h : RatC w L p q) (hb : Below w.heap.size w w') : RatC w' L p q := ⟨h.1, h.2.1, h.2.2.keep hb⟩
theorem RatC.frame {w w' : World} {L : Nat} {p : RC} {q : Rat} (h : RatC w L p q) (hs : ∀ b, BlkT w b 3 → w'.heap[b]? = w.heap[b]?) : RatC w' L p q := ⟨h.1, h.2.1, h.2.2.1.frame hs, h.2.2.2.frame hs⟩
theorem RatC.mono {w : World} {L L' : Nat} {p : RC} {q : Rat} (h : RatC w L p q) (hL : L ≤ L') : RatC w L' p q := ⟨Nat.le_trans h.1 hL, Nat.le_trans h.2.1 hL, h.2.2⟩
/-- A row of rational numbers of the call's own. -/
def RowQ (w : World) (B : Nat) (a : Option Addr) (n c L : Nat) (qs : List Rat) : Prop := ∃ l : List RC, OwQ w B a n c l ∧ l.length = qs.length ∧ ∀ i, i < qs.length → RatC w L (l[i]?.getD rc0) (qs[i]?.getD 0)
theorem RowQ.nil (w : World) (B L : Nat) : RowQ w B none 0 0 L [] := ⟨[], OwQ.nil _ _, rfl, fun i hi => absurd hi (by simp)⟩
theorem RowQ.keep {w w' : World} {B : Nat} {a : Option Addr} {n c L : Nat} {qs : List Rat} (h : RowQ w B a n c L qs) (hb : Below w.heap.size w w') : RowQ w' B a n c L qs := by
  obtain ⟨l, h1, h2, h3⟩ := h
  exact ⟨l, h1.keep hb, h2, fun i hi => (h3 i hi).keep hb⟩
theorem RowQ.drew {w : World} {B : Nat} {a : Option Addr} {n c L : Nat} {qs : List Rat} (h : RowQ w B a n c L qs) : RowQ w.drew B a n c L qs := h.keep (Below.refl _ _).drew
theorem RowQ.len {w : World} {B : Nat} {a : Option Addr} {n c L : Nat} {qs : List Rat} (h : RowQ w B a n c L qs) : n = qs.length := by
  obtain ⟨l, h1, h2, _⟩ := h
  rw [← h2]
  exact h1.sq.len
/-- An element read. -/
theorem RowQ.at_ {w : World} {B : Nat} {a : Option Addr} {n c L : Nat} {qs : List Rat} (h : RowQ w B a n c L qs) (i : Nat) (hi : i < n) :
    ∃ b off s a1 n1 c1 s' a2 n2 c2, a = some ⟨b, off, none⟩ ∧ w.cell? ⟨b, off + i * 4, none⟩ = some (.int .i64 s) ∧ w.cell? ⟨b, off + i * 4 + 1, none⟩ = some (.slice a1 n1 c1) ∧ w.cell? ⟨b, off + i * 4 + 2, none⟩ = some (.int .i64 s') ∧ w.cell? ⟨b, off + i * 4 + 3, none⟩ = some (.slice a2 n2 c2) ∧
      n1 ≤ L ∧ n2 ≤ L ∧ RatV w s a1 n1 c1 s' a2 n2 c2 (qs[i]?.getD 0) := by
  have hn := h.len
  obtain ⟨l, h1, h2, h3⟩ := h
  obtain ⟨b, off, rfl, hc⟩ := h1.sq.at_ (by omega)
  obtain ⟨k1, k2, k3⟩ := h3 i (by omega)
  exact ⟨b, off, _, _, _, _, _, _, _, _, rfl, hc i hi 0 (by omega), hc i hi 1 (by omega), hc i hi 2 (by omega), hc i hi 3 (by omega), k1, k2, k3⟩
theorem RowQ.one {w : World} {B : Nat} (hB : B ≤ w.heap.size) {s : Int} {a : Option Addr} {n c : Nat} {s' : Int} {a' : Option Addr} {n' c' L : Nat} {q : Rat} (h : RatV w s a n c s' a' n' c' q) (h1 : n ≤ L) (h2 : n' ≤ L) :
    RowQ (w.alloc (.cells #[.int .i64 s, .slice a n c, .int .i64 s', .slice a' n' c'] 80)) B (some ⟨w.heap.size, 0, none⟩) 1 1 L [q] := by
  refine ⟨[((s, a, n, c), (s', a', n', c'))], ⟨by simp [rq, rq1], .inr ⟨w.heap.size, 1, #[.int .i64 s, .slice a n c, .int .i64 s', .slice a' n' c'], rfl, hB, alloc_new _ _, by simp, by unfold maxLen; omega, by simp, by simp [rq, rq1]⟩⟩, rfl, fun i hi => ?_⟩
  obtain rfl : i = 0 := by simpa using hi
  exact ⟨h1, h2, h.keep ((Below.refl _ _).alloc (Nat.le_refl _) _)⟩

/-- An append to a row of fractions. -/
theorem appQ {ops : Array Oper} {rest : List Oper} {o : Oper} {act : Act} {Q : Exit → Act → World → Prop} {Wx : World} (w0 : World) {B : Nat} {av : Option Addr} {n c L : Nat} {qs : List Rat} {q : Rat} {s1 : Int} {a1 : Option Addr} {n1 c1 : Nat} {s2 : Int} {a2 : Option Addr} {n2 c2 : Nat}
    (hW : Wx = w0.alloc (.cells #[.int .i64 s1, .slice a1 n1 c1, .int .i64 s2, .slice a2 n2 c2] 80)) (hgd : o.guard = none) (s x' : Operand)
    (ho : o.op = .call { callee := .builtin .append, args := #[s, x'], argTypes := #[83, 83] })
    (hown : RowQ w0 B av n c L qs) (hq : RatV w0 s1 a1 n1 c1 s2 a2 n2 c2 q) (hl1 : n1 ≤ L) (hl2 : n2 ≤ L) (hs : act.eval s = .slice av n c) (hx : act.eval x' = .slice (some ⟨w0.heap.size, 0, none⟩) 1 1)
    (hb1 : n + 1 ≤ 1099511627776) (hB : B ≤ w0.heap.size)
    (h : ∀ a' c' w', RowQ w' B a' (n + 1) c' L (qs ++ [q]) → Below B w0 w' → w0.heap.size < w'.heap.size → wpList Tryz.prog ops Q rest (act.put o.dst (.slice a' (n + 1) c')) w') :
    wpList Tryz.prog ops Q (o :: rest) act Wx := by
  subst hW
  obtain ⟨i0, hi, hz0, hz1, hz2⟩ := info_parts Tryz.info_ratio
  have hnl := hown.len
  obtain ⟨l, hl, hle, hc⟩ := hown
  refine wpList_append_own_at _ hgd s x' _ ho B _ i0 (.agg #[.int .i64 0, .slice none 0 0, .int .i64 0, .slice none 0 0]) 4 64 Tryz.underlying83 hi hz0 hz1 hz2 rfl (by decide) _ n _ hs (World.ownsRow.alloc hl _) ⟨w0.heap.size, 0, none⟩ 1 1 (#[Value.int .i64 s1, .slice a1 n1 c1, .int .i64 s2, .slice a2 n2 c2]).toList hx (by simp) (cells_new w0 _ _) (by simp [Value.oneCell']) (by unfold maxLen; omega) (by omega) (by simp; omega) ?_
  intro v' w1 ho1 hg hn hat
  have hrow : ∀ j, (Value.slice av n c).ownBlock = some j → B ≤ j := fun j hj => (World.ownsRow.lt hl j hj).1
  have hb0 : Below B w0 (w0.alloc (.cells #[.int .i64 s1, .slice a1 n1 c1, .int .i64 s2, .slice a2 n2 c2] 80)) := (Below.refl _ _).alloc hB _
  have hb2 : Below B w0 w1 := hb0.trans (grown_below hg (by simp; omega) hrow)
  have hsz2 := hg.size
  have hfr : ∀ b, BlkT w0 b 3 → w1.heap[b]? = w0.heap[b]? := by
    intro b hbt
    have hlt := hbt.lt
    rw [hg.block b (by simp; omega) ?_]
    · exact ((Below.refl w0.heap.size w0).alloc (Nat.le_refl _) _).block b hlt
    · intro he
      cases av with
      | none => simp [Value.ownBlock] at he
      | some ad =>
        obtain ⟨h1, h2⟩ := hl
        rcases h2 with ⟨h2, _⟩ | ⟨g', cap', cur', hv, _, hh, _⟩
        · cases h2
        · cases hv
          simp [Value.ownBlock] at he
          subst he
          obtain ⟨cs, hcs⟩ := hbt
          rw [hh] at hcs
          cases hcs
  obtain ⟨hlen, ho2⟩ := ho1
  rcases ho2 with ⟨_, h0⟩ | ⟨g, cap, cur, rfl, r⟩
  · omega
  · refine h _ _ w1 ⟨l ++ [((s1, a1, n1, c1), (s2, a2, n2, c2))], ?_, by simp [hle], fun i hi => ?_⟩ hb2 (by simp at hsz2; omega)
    · unfold OwQ
      rw [rq_append]
      exact ⟨hlen, .inr ⟨g, cap, cur, rfl, r⟩⟩
    · rcases Nat.lt_or_ge i qs.length with h6 | h6
      · rw [List.getElem?_append_left (by omega), List.getElem?_append_left h6]
        exact (hc i h6).frame hfr
      · obtain rfl : i = qs.length := by simp at hi; omega
        rw [List.getElem?_append_right (by omega), List.getElem?_append_right (by omega), hle]
        simp only [Nat.sub_self, List.getElem?_cons_zero, Option.getD_some]
        exact ⟨hl1, hl2, hq.1.frame hfr, hq.2.frame hfr⟩
end Go.Proofs.YtfjcfbmfpefabaaGreat

namespace Go.Proofs.YtfjcfbmfpefabaaGreat
open Go.RowKit
open Calmly (Kept)

theorem SI.same {w w' : World} {a : Option Addr} {n c : Nat} {xs : List Int} (h : SI w a n c xs) (hs : ∀ b o, a = some ⟨b, o, none⟩ → w'.heap[b]? = w.heap[b]?) : SI w' a n c xs := by
  obtain ⟨h1, h2, h3, h4⟩ := h
  refine ⟨h1, h2, h3, ?_⟩
  rcases h4 with h4 | ⟨b, off, ha, hc⟩
  · exact .inl h4
  · refine .inr ⟨b, off, ha, fun i hi => ?_⟩
    rw [World.cell?_of_block (hs b off ha)]
    exact hc i hi
abbrev Hd := Option Addr × Nat × Nat
def hd0 : Hd := (none, 0, 0)
def hv (h : Hd) : Value := .slice h.1 h.2.1 h.2.2
/-- A row of slices of the call's own; each of them reads as its list, and lies in a row of integers. -/
def OwW (w : World) (B : Nat) (a : Option Addr) (n c : Nat) (ls : List (List Int)) : Prop :=
  ∃ hs : List Hd, w.ownsRow B 22 1 (.slice a n c) n (hs.map hv) ∧ hs.length = n ∧ ls.length = n ∧ ∀ i, i < n → SI w (hs[i]?.getD hd0).1 (hs[i]?.getD hd0).2.1 (hs[i]?.getD hd0).2.2 (ls[i]?.getD []) ∧ In w 3 (hs[i]?.getD hd0).1
theorem OwW.nil (w : World) (B : Nat) : OwW w B none 0 0 [] := ⟨[], World.ownsRow_nil w B _ 1, rfl, rfl, fun i hi => by omega⟩
theorem OwW.len {w : World} {B : Nat} {a : Option Addr} {n c : Nat} {ls : List (List Int)} (h : OwW w B a n c ls) : n = ls.length := by
  obtain ⟨_, _, _, h3, _⟩ := h
  exact h3.symm
theorem OwW.sw {w : World} {B : Nat} {a : Option Addr} {n c : Nat} {ls : List (List Int)} (h : OwW w B a n c ls) : SW w a n c ls := by
  obtain ⟨hs, h1, h2, h3, h4⟩ := h
  have h5 := h1.2
  obtain ⟨a', c', he, hl, hn, hm, hp⟩ := Sl.of_owns h1
  cases he
  refine ⟨h3.symm, hn, hm, ?_⟩
  rcases hp with hp | ⟨b, off, ha, hc⟩
  · rcases h5 with ⟨he, _⟩ | ⟨g, cap, cur, he, _⟩
    · cases he
      exact .inl ⟨rfl, rfl⟩
    · cases he
      exact .inr ⟨g, 0, rfl, fun i hi => by omega⟩
  · refine .inr ⟨b, off, ha, fun i hi => ?_⟩
    have := hc i (by omega)
    have hi2 : i < hs.length := by omega
    rw [List.getElem?_map, List.getElem?_eq_getElem hi2] at this
    refine ⟨_, _, _, this, ?_⟩
    have h5 := (h4 i hi).1
    rw [List.getElem?_eq_getElem hi2] at h5
    exact h5
theorem owns_below {w w' : World} {B B' : Nat} {e : TypeId} {k : Nat} {v : Value} {n : Nat} {xs : List Value} (h : w.ownsRow B e k v n xs) (hb : Below B' w w') (hB : w.heap.size ≤ B') : w'.ownsRow B e k v n xs := by
  obtain ⟨h1, h2⟩ := h
  refine ⟨h1, ?_⟩
  rcases h2 with h2 | ⟨g, cap, cur, hv, hg, hh, r⟩
  · exact .inl h2
  · refine .inr ⟨g, cap, cur, hv, hg, ?_, r⟩
    rw [hb.block g (by have := (Array.getElem?_eq_some_iff.1 hh).1; omega)]
    exact hh
theorem OwW.keep {w w' : World} {B : Nat} {a : Option Addr} {n c : Nat} {ls : List (List Int)} (h : OwW w B a n c ls) (hb : Below w.heap.size w w') : OwW w' B a n c ls := by
  obtain ⟨hs, h1, h2, h3, h4⟩ := h
  exact ⟨hs, owns_below h1 hb (Nat.le_refl _), h2, h3, fun i hi => ⟨(h4 i hi).1.keep hb, (h4 i hi).2.keep hb⟩⟩
theorem OwW.drew {w : World} {B : Nat} {a : Option Addr} {n c : Nat} {ls : List (List Int)} (h : OwW w B a n c ls) : OwW w.drew B a n c ls := h.keep (Below.refl _ _).drew
theorem OwI.in_ {w : World} {B : Nat} {a : Option Addr} {n c : Nat} {xs : List Int} (h : OwI w B a n c xs) : In w 3 a := In.of_owns h

theorem Tryz.info_ints : (Tryz.prog.info? 22).map (fun i => (i.zero, i.size, i.bytes)) = some (some (.slice none 0 0), 1, 24) := by kernel_rfl
/-- 'append' of a slice to a row of slices of the call's own. -/
theorem appW {ops : Array Oper} {rest : List Oper} {o : Oper} {a : Act} {Q : Exit → Act → World → Prop} {Wx : World} (w0 : World) {B : Nat} {av : Option Addr} {n c : Nat} {ls : List (List Int)} {h : Hd} {xs : List Int}
    (hW : Wx = w0.alloc (.cells #[.slice h.1 h.2.1 h.2.2] 22)) (hgd : o.guard = none) (s x : Operand)
    (ho : o.op = .call { callee := .builtin .append, args := #[s, x], argTypes := #[54, 54] })
    (hown : OwW w0 B av n c ls) (hsi : SI w0 h.1 h.2.1 h.2.2 xs) (hin : In w0 3 h.1) (hs : a.eval s = .slice av n c) (hx : a.eval x = .slice (some ⟨w0.heap.size, 0, none⟩) 1 1)
    (hb1 : n + 1 ≤ 1099511627776) (hB : B ≤ w0.heap.size)
    (hK : ∀ a' c' w', OwW w' B a' (n + 1) c' (ls ++ [xs]) → Below B w0 w' → w0.heap.size < w'.heap.size → wpList Tryz.prog ops Q rest (a.put o.dst (.slice a' (n + 1) c')) w') :
    wpList Tryz.prog ops Q (o :: rest) a Wx := by
  subst hW
  obtain ⟨hs', k1, k2, k3, k4⟩ := hown
  obtain ⟨i0, hi, hz0, hz1, hz2⟩ := info_parts Tryz.info_ints
  refine wpList_append_own_at _ hgd s x _ ho B _ i0 (.slice none 0 0) 1 24 Tryz.underlying54 hi hz0 hz1 hz2 rfl (by decide) _ n _ hs (World.ownsRow.alloc k1 _) ⟨w0.heap.size, 0, none⟩ 1 1 (#[Value.slice h.1 h.2.1 h.2.2]).toList hx (by simp) (cells_new w0 _ _) (by simp [Value.oneCell']) (by unfold maxLen; omega) (by omega) (by simp; omega) ?_
  intro v' w1 ho1 hg hn hat
  have hrow : ∀ j, (Value.slice av n c).ownBlock = some j → B ≤ j := fun j hj => (World.ownsRow.lt k1 j hj).1
  have hb0 : Below B w0 (w0.alloc (.cells #[.slice h.1 h.2.1 h.2.2] 22)) := (Below.refl _ _).alloc hB _
  have hb2 : Below B w0 w1 := hb0.trans (grown_below hg (by simp; omega) hrow)
  have hsz2 := hg.size
  -- what lies in a row of integers is as it was
  have same : ∀ (ad : Option Addr), In w0 3 ad → ∀ b o, ad = some ⟨b, o, none⟩ → w1.heap[b]? = w0.heap[b]? := by
    intro ad had b o he
    subst he
    rcases had with had | ⟨b', o', he, hbl⟩
    · cases had
    · cases he
      have hlt := hbl.lt
      rw [hg.block b (by simp; omega) ?_]
      · exact ((Below.refl w0.heap.size w0).alloc (Nat.le_refl _) _).block b hlt
      · intro hrw
        obtain ⟨_, k5⟩ := k1
        rcases k5 with ⟨k5, _⟩ | ⟨g, cap, cur, hv', _, hh, _⟩
        · cases k5
          simp [Value.ownBlock] at hrw
        · cases hv'
          simp [Value.ownBlock] at hrw
          subst hrw
          exact hbl.ne ⟨cur, hh⟩ (by decide) rfl
  have keepIn : ∀ (ad : Option Addr), In w0 3 ad → In w1 3 ad := by
    intro ad had
    rcases had with had | ⟨b', o', he, cs, hbl⟩
    · exact .inl had
    · exact .inr ⟨b', o', he, cs, (same ad (.inr ⟨b', o', he, cs, hbl⟩) b' o' he).trans hbl⟩
  obtain ⟨hlen, ho2⟩ := ho1
  rcases ho2 with ⟨_, h0⟩ | ⟨g, cap, cur, rfl, r⟩
  · omega
  · refine hK _ _ w1 ⟨hs' ++ [h], ?_, by simp; omega, by simp; omega, fun i hi' => ?_⟩ hb2 (by simp at hsz2; omega)
    · rw [List.map_append]
      exact ⟨hlen, .inr ⟨g, cap, cur, rfl, r⟩⟩
    · rcases Nat.lt_or_ge i n with hin' | hin'
      · rw [List.getElem?_append_left (by omega), List.getElem?_append_left (by omega)]
        obtain ⟨k5, k6⟩ := k4 i hin'
        exact ⟨k5.same (same _ k6), keepIn _ k6⟩
      · obtain rfl : i = n := by omega
        rw [List.getElem?_append_right (by omega), List.getElem?_append_right (by omega), k2, k3, Nat.sub_self]
        exact ⟨hsi.same (same _ hin), keepIn _ hin⟩
end Go.Proofs.YtfjcfbmfpefabaaGreat

namespace Go.Proofs.YtfjcfbmfpefabaaGreat
open Go.RowKit Go.Wides
open Calmly (Kept)

theorem setCell_same {w : World} {b o : Nat} {v : Value} (h : w.cell? ⟨b, o, none⟩ = some v) : w.setCell ⟨b, o, none⟩ v = w := by
  have key : (w.setCell ⟨b, o, none⟩ v).heap = w.heap := by
    apply Array.ext_getElem?
    intro j
    by_cases hj : b = j
    · subst hj
      cases hb : w.heap[b]? with
      | none => simp [World.cell?, hb] at h
      | some ob =>
        cases ob with
        | cells cs t =>
          have h2 : cs[o]? = some v := by simpa [World.cell?, hb] using h
          simp only [World.setCell, Array.getElem?_modify, hb]
          have : cs.setIfInBounds o v = cs := by
            apply Array.ext_getElem?
            intro k
            rw [Array.getElem?_setIfInBounds]
            split
            · subst_vars
              split
              · exact h2.symm
              · rename_i h3; rw [Array.getElem?_eq_none (by omega)] at h2; cases h2
            · rfl
          simp [this]
        | _ => simp [World.cell?, hb] at h
    · exact Below.heap_setCell _ _ _ _ (fun e => hj e.symm)
  show { w with heap := (w.setCell ⟨b, o, none⟩ v).heap } = w
  rw [key]

/-- Four cells stored, one after the other. -/
def set4 (w : World) (g o : Nat) (x y z u : Value) : World := (((w.setCell ⟨g, o, none⟩ x).setCell ⟨g, o + 1, none⟩ y).setCell ⟨g, o + 2, none⟩ z).setCell ⟨g, o + 3, none⟩ u
theorem cell_same {w w' : World} {b : Nat} (h : w'.heap[b]? = w.heap[b]?) (o : Nat) : w'.cell? ⟨b, o, none⟩ = w.cell? ⟨b, o, none⟩ := by simp [World.cell?, h]
theorem set4_other (w : World) (g o : Nat) (x y z u : Value) {b : Nat} (h : b ≠ g) : (set4 w g o x y z u).heap[b]? = w.heap[b]? := by
  unfold set4
  rw [Below.heap_setCell _ _ _ _ h, Below.heap_setCell _ _ _ _ h, Below.heap_setCell _ _ _ _ h, Below.heap_setCell _ _ _ _ h]
theorem set4_frame {w : World} {g : Nat} (hT : BlkT w g 80) (o : Nat) (x y z u : Value) : ∀ b, BlkT w b 3 → (set4 w g o x y z u).heap[b]? = w.heap[b]? := by
  intro b hb
  refine set4_other _ _ _ _ _ _ _ ?_
  rintro rfl
  obtain ⟨cs, hcs⟩ := hb
  obtain ⟨cs', hcs'⟩ := hT
  rw [hcs] at hcs'
  cases hcs'
theorem set4_below {B : Nat} {w V : World} (h : Below B w V) {g : Nat} (hg : B ≤ g) (o : Nat) (x y z u : Value) : Below B w (set4 V g o x y z u) :=
  (((h.setCell (p := ⟨g, o, none⟩) hg x).setCell (p := ⟨g, o + 1, none⟩) hg y).setCell (p := ⟨g, o + 2, none⟩) hg z).setCell (p := ⟨g, o + 3, none⟩) hg u
theorem rq_set (l : List RC) (p : RC) (k : Nat) (h : k < l.length) : rq (l.set k p) = ((((rq l).set (k * 4) (.int .i64 p.1.1)).set (k * 4 + 1) (.slice p.1.2.1 p.1.2.2.1 p.1.2.2.2)).set (k * 4 + 2) (.int .i64 p.2.1)).set (k * 4 + 3) (.slice p.2.2.1 p.2.2.2.1 p.2.2.2.2) := by
  induction l generalizing k with
  | nil => simp at h
  | cons q l ih =>
    have e : ∀ (q : RC) l, rq (q :: l) = .int .i64 q.1.1 :: .slice q.1.2.1 q.1.2.2.1 q.1.2.2.2 :: .int .i64 q.2.1 :: .slice q.2.2.1 q.2.2.2.1 q.2.2.2.2 :: rq l := fun _ _ => rfl
    cases k with
    | zero => rw [List.set_cons_zero, e, e]; rfl
    | succ k =>
      rw [List.set_cons_succ, e, e, ih k (by simpa using h), show (k + 1) * 4 = k * 4 + 1 + 1 + 1 + 1 by omega]
      rfl

theorem OwQ.blk {w : World} {B g n c : Nat} {l : List RC} (h : OwQ w B (some ⟨g, 0, none⟩) n c l) : BlkT w g 80 := by
  rcases In.of_owns h with h | ⟨b, o, he, h⟩
  · cases h
  · cases he; exact h
theorem OwQ.lo {w : World} {B g n c : Nat} {l : List RC} (h : OwQ w B (some ⟨g, 0, none⟩) n c l) : B ≤ g := (World.ownsRow.lt h g rfl).1
theorem OwQ.stored {w : World} {B g n c : Nat} {l : List RC} (h : OwQ w B (some ⟨g, 0, none⟩) n c l) (k : Nat) (hk : k < n) (p : RC) :
    OwQ (set4 w g (k * 4) (.int .i64 p.1.1) (.slice p.1.2.1 p.1.2.2.1 p.1.2.2.2) (.int .i64 p.2.1) (.slice p.2.2.1 p.2.2.2.1 p.2.2.2.2)) B (some ⟨g, 0, none⟩) n c (l.set k p) := by
  have hl := h.sq.len
  unfold OwQ
  rw [rq_set l p k (by omega)]
  exact (World.ownsRow.stored (World.ownsRow.stored (World.ownsRow.stored (World.ownsRow.stored h _ _).1 _ _).1 _ _).1 _ _).1
theorem owns_other {w w' : World} {B g n c k : Nat} {e : TypeId} {xs : List Value} (h : w.ownsRow B e k (.slice (some ⟨g, 0, none⟩) n c) n xs) (hs : w'.heap[g]? = w.heap[g]?) : w'.ownsRow B e k (.slice (some ⟨g, 0, none⟩) n c) n xs := by
  obtain ⟨k1, k2⟩ := h
  refine ⟨k1, ?_⟩
  rcases k2 with ⟨k2, _⟩ | ⟨g', cap, cur, hv, hg, hh, r'⟩
  · cases k2
  · cases hv
    exact .inr ⟨g, _, _, rfl, hg, hs.trans hh, r'⟩
theorem owns_weak {w : World} {B B' n k : Nat} {v : Value} {e : TypeId} {xs : List Value} (h : w.ownsRow B e k v n xs) (hB : B' ≤ B) : w.ownsRow B' e k v n xs := by
  obtain ⟨k1, k2⟩ := h
  refine ⟨k1, ?_⟩
  rcases k2 with k2 | ⟨g', cap, cur, hv, hg, r'⟩
  · exact .inl k2
  · exact .inr ⟨g', cap, cur, hv, Nat.le_trans hB hg, r'⟩

/-- A row of fractions at its place, each with a bound of its digits. -/
def RowF (w : World) (B g n c : Nat) (L : Nat → Nat) (f : Nat → Rat) : Prop := ∃ l : List RC, OwQ w B (some ⟨g, 0, none⟩) n c l ∧ l.length = n ∧ ∀ k, k < n → RatC w (L k) (l[k]?.getD rc0) (f k)
theorem RowF.keep {w w' : World} {B g n c : Nat} {L : Nat → Nat} {f : Nat → Rat} (h : RowF w B g n c L f) (hb : Below w.heap.size w w') : RowF w' B g n c L f := by
  obtain ⟨l, h1, h2, h3⟩ := h
  exact ⟨l, h1.keep hb, h2, fun k hk => (h3 k hk).keep hb⟩
theorem RowF.congr {w : World} {B g n c : Nat} {L L' : Nat → Nat} {f f' : Nat → Rat} (h : RowF w B g n c L f) (hL : ∀ k, k < n → L k ≤ L' k ∧ f k = f' k) : RowF w B g n c L' f' := by
  obtain ⟨l, h1, h2, h3⟩ := h
  exact ⟨l, h1, h2, fun k hk => by rw [← (hL k hk).2]; exact (h3 k hk).mono (hL k hk).1⟩
theorem RowF.weak {w : World} {B B' g n c : Nat} {L : Nat → Nat} {f : Nat → Rat} (h : RowF w B g n c L f) (hB : B' ≤ B) : RowF w B' g n c L f := by
  obtain ⟨l, h1, h2, h3⟩ := h
  exact ⟨l, owns_weak h1 hB, h2, h3⟩
theorem RowF.blk {w : World} {B g n c : Nat} {L : Nat → Nat} {f : Nat → Rat} (h : RowF w B g n c L f) : BlkT w g 80 := by
  obtain ⟨l, h1, _⟩ := h
  exact h1.blk
theorem RowF.lo {w : World} {B g n c : Nat} {L : Nat → Nat} {f : Nat → Rat} (h : RowF w B g n c L f) : B ≤ g := by
  obtain ⟨l, h1, _⟩ := h
  exact h1.lo
theorem RowF.at_ {w : World} {B g n c : Nat} {L : Nat → Nat} {f : Nat → Rat} (h : RowF w B g n c L f) (k : Nat) (hk : k < n) :
    ∃ s a1 n1 c1 s' a2 n2 c2, w.cell? ⟨g, k * 4, none⟩ = some (.int .i64 s) ∧ w.cell? ⟨g, k * 4 + 1, none⟩ = some (.slice a1 n1 c1) ∧ w.cell? ⟨g, k * 4 + 2, none⟩ = some (.int .i64 s') ∧ w.cell? ⟨g, k * 4 + 3, none⟩ = some (.slice a2 n2 c2) ∧
      n1 ≤ L k ∧ n2 ≤ L k ∧ RatV w s a1 n1 c1 s' a2 n2 c2 (f k) := by
  obtain ⟨l, h1, h2, h3⟩ := h
  obtain ⟨b, off, he, hc⟩ := h1.sq.at_ (by omega)
  cases he
  obtain ⟨k1, k2, k3⟩ := h3 k hk
  have e : ∀ j, 0 + k * 4 + j = k * 4 + j := fun j => by omega
  have c0 := hc k hk 0 (by omega)
  have c1 := hc k hk 1 (by omega)
  have c2 := hc k hk 2 (by omega)
  have c3 := hc k hk 3 (by omega)
  rw [e] at c0 c1 c2 c3
  exact ⟨_, _, _, _, _, _, _, _, c0, c1, c2, c3, k1, k2, k3⟩
theorem RowF.stored {w : World} {B g n c : Nat} {L : Nat → Nat} {f : Nat → Rat} (h : RowF w B g n c L f) {k : Nat} (hk : k < n) {s : Int} {a1 : Option Addr} {n1 c1 : Nat} {s' : Int} {a2 : Option Addr} {n2 c2 M : Nat} {q : Rat} (hq : RatV w s a1 n1 c1 s' a2 n2 c2 q) (h1 : n1 ≤ M) (h2 : n2 ≤ M) :
    RowF (set4 w g (k * 4) (.int .i64 s) (.slice a1 n1 c1) (.int .i64 s') (.slice a2 n2 c2)) B g n c (fun j => if j = k then M else L j) (fun j => if j = k then q else f j) := by
  obtain ⟨l, k1, k2, k3⟩ := h
  have hfr := set4_frame k1.blk (k * 4) (.int .i64 s) (.slice a1 n1 c1) (.int .i64 s') (.slice a2 n2 c2)
  have hst := k1.stored k hk ((s, a1, n1, c1), (s', a2, n2, c2))
  refine ⟨l.set k ((s, a1, n1, c1), (s', a2, n2, c2)), hst, by simpa using k2, fun j hj => ?_⟩
  by_cases hjk : j = k
  · subst hjk
    dsimp only
    rw [if_pos rfl, if_pos rfl, List.getElem?_set_self (by omega)]
    exact ⟨h1, h2, hq.1.frame hfr, hq.2.frame hfr⟩
  · dsimp only
    rw [if_neg hjk, if_neg hjk, List.getElem?_set_ne (Ne.symm hjk)]
    exact (k3 j hj).frame hfr
theorem RowF.other {w : World} {B g n c : Nat} {L : Nat → Nat} {f : Nat → Rat} (h : RowF w B g n c L f) {r : Nat} (hr : g ≠ r) (hT : BlkT w r 80) (o : Nat) (x y z u : Value) : RowF (set4 w r o x y z u) B g n c L f := by
  obtain ⟨l, h1, h2, h3⟩ := h
  exact ⟨l, owns_other h1 (set4_other _ _ _ _ _ _ _ hr), h2, fun k hk => (h3 k hk).frame (set4_frame hT _ _ _ _ _)⟩
theorem RowF.free {w : World} {B g n c : Nat} {L : Nat → Nat} {f : Nat → Rat} (h : RowF w B g n c L f) (j : Nat) : w.frozen? ⟨g, j, none⟩ = false := by
  obtain ⟨l, h1, _⟩ := h
  exact World.ownsRow.frozenAt h1 j
/-- A row of three fractions that is written out. -/
theorem RowF.three {w : World} {B : Nat} (hB : B ≤ w.heap.size) {L : Nat} {f : Nat → Rat} {s0 : Int} {a0 : Option Addr} {n0 c0 : Nat} {t0 : Int} {b0 : Option Addr} {m0 d0 : Nat} {s1 : Int} {a1 : Option Addr} {n1 c1 : Nat} {t1 : Int} {b1 : Option Addr} {m1 d1 : Nat} {s2 : Int} {a2 : Option Addr} {n2 c2 : Nat} {t2 : Int} {b2 : Option Addr} {m2 d2 : Nat}
    (h0 : RatV w s0 a0 n0 c0 t0 b0 m0 d0 (f 0)) (h1 : RatV w s1 a1 n1 c1 t1 b1 m1 d1 (f 1)) (h2 : RatV w s2 a2 n2 c2 t2 b2 m2 d2 (f 2)) (e0 : n0 ≤ L) (e1 : m0 ≤ L) (e2 : n1 ≤ L) (e3 : m1 ≤ L) (e4 : n2 ≤ L) (e5 : m2 ≤ L) :
    RowF (w.alloc (.cells #[.int .i64 s0, .slice a0 n0 c0, .int .i64 t0, .slice b0 m0 d0, .int .i64 s1, .slice a1 n1 c1, .int .i64 t1, .slice b1 m1 d1, .int .i64 s2, .slice a2 n2 c2, .int .i64 t2, .slice b2 m2 d2] 80)) B w.heap.size 3 3 (fun _ => L) f := by
  have hA : ∀ o, Below w.heap.size w (w.alloc o) := fun o => (Below.refl _ _).alloc (Nat.le_refl _) _
  refine ⟨[((s0, a0, n0, c0), (t0, b0, m0, d0)), ((s1, a1, n1, c1), (t1, b1, m1, d1)), ((s2, a2, n2, c2), (t2, b2, m2, d2))], ⟨by simp [rq, rq1], .inr ⟨w.heap.size, 3, _, rfl, hB, alloc_new _ _, by simp, by unfold maxLen; omega, by simp, by simp [rq, rq1]⟩⟩, rfl, fun k hk => ?_⟩
  rcases (by omega : k = 0 ∨ k = 1 ∨ k = 2) with rfl | rfl | rfl
  · exact ⟨e0, e1, h0.keep (hA _)⟩
  · exact ⟨e2, e3, h1.keep (hA _)⟩
  · exact ⟨e4, e5, h2.keep (hA _)⟩

/-- A matrix of fractions: rows of slices that lie in different blocks. -/
def MQ (w : World) (B g n m : Nat) (bs cs : Nat → Nat) (L : Nat → Nat → Nat) (f : Nat → Nat → Rat) : Prop :=
  BlkT w g 83 ∧ (∀ i, i < n → w.cell? ⟨g, i, none⟩ = some (.slice (some ⟨bs i, 0, none⟩) m (cs i)) ∧ RowF w B (bs i) m (cs i) (L i) (f i)) ∧ (∀ i j, i < n → j < n → bs i = bs j → i = j)
theorem MQ.keep {w w' : World} {B g n m : Nat} {bs cs : Nat → Nat} {L : Nat → Nat → Nat} {f : Nat → Nat → Rat} (h : MQ w B g n m bs cs L f) (hb : Below w.heap.size w w') : MQ w' B g n m bs cs L f :=
  ⟨h.1.keep hb, fun i hi => ⟨cell_keep (h.2.1 i hi).1 hb, (h.2.1 i hi).2.keep hb⟩, h.2.2⟩
theorem MQ.congr {w : World} {B g n m : Nat} {bs cs : Nat → Nat} {L L' : Nat → Nat → Nat} {f f' : Nat → Nat → Rat} (h : MQ w B g n m bs cs L f) (hL : ∀ i, i < n → ∀ k, k < m → L i k ≤ L' i k ∧ f i k = f' i k) : MQ w B g n m bs cs L' f' :=
  ⟨h.1, fun i hi => ⟨(h.2.1 i hi).1, (h.2.1 i hi).2.congr (hL i hi)⟩, h.2.2⟩
theorem MQ.ne {w : World} {B g n m : Nat} {bs cs : Nat → Nat} {L : Nat → Nat → Nat} {f : Nat → Nat → Rat} (h : MQ w B g n m bs cs L f) {i : Nat} (hi : i < n) : g ≠ bs i := by
  intro e
  obtain ⟨x, hx⟩ := h.1
  obtain ⟨y, hy⟩ := (h.2.1 i hi).2.blk
  rw [← e, hx] at hy
  cases hy
theorem MQ.stored {w : World} {B g n m : Nat} {bs cs : Nat → Nat} {L : Nat → Nat → Nat} {f : Nat → Nat → Rat} (h : MQ w B g n m bs cs L f) {i k : Nat} (hi : i < n) (hk : k < m) {s : Int} {a1 : Option Addr} {n1 c1 : Nat} {s' : Int} {a2 : Option Addr} {n2 c2 M : Nat} {q : Rat} (hq : RatV w s a1 n1 c1 s' a2 n2 c2 q) (h1 : n1 ≤ M) (h2 : n2 ≤ M) :
    MQ (set4 w (bs i) (k * 4) (.int .i64 s) (.slice a1 n1 c1) (.int .i64 s') (.slice a2 n2 c2)) B g n m bs cs (fun i' k' => if i' = i ∧ k' = k then M else L i' k') (fun i' k' => if i' = i ∧ k' = k then q else f i' k') := by
  have hne := h.ne hi
  have hs := set4_other w (bs i) (k * 4) (.int .i64 s) (.slice a1 n1 c1) (.int .i64 s') (.slice a2 n2 c2) hne
  have hT := (h.2.1 i hi).2.blk
  refine ⟨?_, fun i' hi' => ⟨?_, ?_⟩, h.2.2⟩
  · obtain ⟨x, hx⟩ := h.1
    exact ⟨x, hs.trans hx⟩
  · exact (cell_same hs i').trans (h.2.1 i' hi').1
  · by_cases he : i' = i
    · subst he
      refine ((h.2.1 i' hi').2.stored hk hq h1 h2).congr fun k' hk' => ?_
      by_cases hkk : k' = k <;> simp [hkk]
    · refine ((h.2.1 i' hi').2.other (fun e => he (h.2.2 _ _ hi' hi e)) hT _ _ _ _ _).congr fun k' hk' => ?_
      simp [he]
/-- A fresh block of a fraction beside a matrix. -/
theorem MQ.beside {w : World} {B g n m : Nat} {bs cs : Nat → Nat} {L : Nat → Nat → Nat} {f : Nat → Nat → Rat} (h : MQ w B g n m bs cs L f) {r : Nat} (hr : ∀ i, i < n → bs i ≠ r) (hT : BlkT w r 80) (o : Nat) (x y z u : Value) : MQ (set4 w r o x y z u) B g n m bs cs L f := by
  have hne : g ≠ r := by
    rintro rfl
    obtain ⟨x, hx⟩ := h.1
    obtain ⟨y, hy⟩ := hT
    rw [hx] at hy
    cases hy
  have hs := set4_other w r o x y z u hne
  refine ⟨?_, fun i hi => ⟨?_, (h.2.1 i hi).2.other (hr i hi) hT _ _ _ _ _⟩, h.2.2⟩
  · obtain ⟨x, hx⟩ := h.1
    exact ⟨x, hs.trans hx⟩
  · exact (cell_same hs i).trans (h.2.1 i hi).1
/-- Two rows that are written out. -/
theorem MQ.two {w : World} {B b0 b1 m c0 c1 : Nat} {L : Nat → Nat → Nat} {f : Nat → Nat → Rat} (h0 : RowF w B b0 m c0 (L 0) (f 0)) (h1 : RowF w B b1 m c1 (L 1) (f 1)) (hne : b0 ≠ b1) :
    MQ (w.alloc (.cells #[.slice (some ⟨b0, 0, none⟩) m c0, .slice (some ⟨b1, 0, none⟩) m c1] 83)) B w.heap.size 2 m (fun i => if i = 0 then b0 else b1) (fun i => if i = 0 then c0 else c1) L f := by
  have hA : ∀ o, Below w.heap.size w (w.alloc o) := fun o => (Below.refl _ _).alloc (Nat.le_refl _) _
  refine ⟨⟨_, alloc_new _ _⟩, fun i hi => ?_, fun i j hi hj e => ?_⟩
  · rcases (by omega : i = 0 ∨ i = 1) with rfl | rfl
    · exact ⟨by rw [cell_block (alloc_new _ _)]; rfl, h0.keep (hA _)⟩
    · exact ⟨by rw [cell_block (alloc_new _ _)]; rfl, h1.keep (hA _)⟩
  · rcases (by omega : i = 0 ∨ i = 1) with rfl | rfl <;> rcases (by omega : j = 0 ∨ j = 1) with rfl | rfl
    · rfl
    · exact absurd e hne
    · exact absurd e.symm hne
    · rfl

/-! ### Rows that are put together -/
def hdM (bs cs : Nat → Nat) (m n : Nat) : List Value := (List.range n).map (fun i => .slice (some ⟨bs i, 0, none⟩) m (cs i))
theorem hdM_congr {bs bs' cs cs' : Nat → Nat} (m : Nat) {n : Nat} (h : ∀ i, i < n → bs i = bs' i ∧ cs i = cs' i) : hdM bs cs m n = hdM bs' cs' m n := by
  refine List.map_congr_left fun i hi => ?_
  obtain ⟨h1, h2⟩ := h i (List.mem_range.1 hi)
  rw [h1, h2]
theorem hdM_succ (bs cs : Nat → Nat) (m n : Nat) : hdM bs cs m (n + 1) = hdM bs cs m n ++ [.slice (some ⟨bs n, 0, none⟩) m (cs n)] := by
  unfold hdM
  rw [List.range_succ, List.map_append]
  rfl
def OwM (w : World) (B : Nat) (a : Option Addr) (n c m : Nat) (bs cs : Nat → Nat) (L : Nat → Nat → Nat) (f : Nat → Nat → Rat) : Prop :=
  w.ownsRow B 83 1 (.slice a n c) n (hdM bs cs m n) ∧ (∀ i, i < n → RowF w B (bs i) m (cs i) (L i) (f i)) ∧ (∀ i j, i < n → j < n → bs i = bs j → i = j)
theorem OwM.nil (w : World) (B m : Nat) (bs cs : Nat → Nat) (L : Nat → Nat → Nat) (f : Nat → Nat → Rat) : OwM w B none 0 0 m bs cs L f := ⟨World.ownsRow_nil w B _ 1, fun i hi => by omega, fun i j hi => by omega⟩
theorem OwM.keep {w w' : World} {B : Nat} {a : Option Addr} {n c m : Nat} {bs cs : Nat → Nat} {L : Nat → Nat → Nat} {f : Nat → Nat → Rat} (h : OwM w B a n c m bs cs L f) (hb : Below w.heap.size w w') : OwM w' B a n c m bs cs L f :=
  ⟨owns_below h.1 hb (Nat.le_refl _), fun i hi => (h.2.1 i hi).keep hb, h.2.2⟩
theorem OwM.mq {w : World} {B : Nat} {a : Option Addr} {n c m : Nat} {bs cs : Nat → Nat} {L : Nat → Nat → Nat} {f : Nat → Nat → Rat} (h : OwM w B a n c m bs cs L f) (hn : 0 < n) : ∃ g, a = some ⟨g, 0, none⟩ ∧ B ≤ g ∧ MQ w B g n m bs cs L f := by
  obtain ⟨h1, h2, h3⟩ := h
  have h4 := h1.2
  rcases h4 with ⟨_, h0⟩ | ⟨g, cap, cur, hv, hg, hh, _⟩
  · omega
  · cases hv
    refine ⟨g, rfl, hg, ⟨cur, hh⟩, fun i hi => ⟨?_, h2 i hi⟩, h3⟩
    rw [World.ownsRow.cellAt h1 i (by omega)]
    unfold hdM
    rw [List.getElem?_map, List.getElem?_range hi]
    rfl
theorem Tryz.info_ratios : (Tryz.prog.info? 83).map (fun i => (i.zero, i.size, i.bytes)) = some (some (.slice none 0 0), 1, 24) := by kernel_rfl
/-- An append of a row to the rows. -/
theorem appM {ops : Array Oper} {rest : List Oper} {o : Oper} {act : Act} {Q : Exit → Act → World → Prop} {Wx : World} (w0 : World) {B : Nat} {av : Option Addr} {n c m : Nat} {bs cs : Nat → Nat} {L : Nat → Nat → Nat} {f : Nat → Nat → Rat} {b cb : Nat}
    (hW : Wx = w0.alloc (.cells #[.slice (some ⟨b, 0, none⟩) m cb] 83)) (hgd : o.guard = none) (s x' : Operand)
    (ho : o.op = .call { callee := .builtin .append, args := #[s, x'], argTypes := #[116, 116] })
    (hown : OwM w0 B av n c m bs cs L f) (hq : RowF w0 B b m cb (L n) (f n)) (hnb : ∀ i, i < n → bs i ≠ b) (hs : act.eval s = .slice av n c) (hx : act.eval x' = .slice (some ⟨w0.heap.size, 0, none⟩) 1 1)
    (hb1 : n + 1 ≤ 1099511627776) (hB : B ≤ w0.heap.size)
    (h : ∀ a' c' w', OwM w' B a' (n + 1) c' m (fun i => if i = n then b else bs i) (fun i => if i = n then cb else cs i) L f → Below B w0 w' → w0.heap.size < w'.heap.size → wpList Tryz.prog ops Q rest (act.put o.dst (.slice a' (n + 1) c')) w') :
    wpList Tryz.prog ops Q (o :: rest) act Wx := by
  subst hW
  obtain ⟨i0, hi, hz0, hz1, hz2⟩ := info_parts Tryz.info_ratios
  obtain ⟨hl, hc, hinj⟩ := hown
  refine wpList_append_own_at _ hgd s x' _ ho B _ i0 (.slice none 0 0) 1 24 Tryz.underlying116 hi hz0 hz1 hz2 rfl (by decide) _ n _ hs (World.ownsRow.alloc hl _) ⟨w0.heap.size, 0, none⟩ 1 1 (#[Value.slice (some ⟨b, 0, none⟩) m cb]).toList hx (by simp) (cells_new w0 _ _) (by simp [Value.oneCell']) (by unfold maxLen; omega) (by omega) (by simp; omega) ?_
  intro v' w1 ho1 hg hn hat
  have hrow : ∀ j, (Value.slice av n c).ownBlock = some j → B ≤ j := fun j hj => (World.ownsRow.lt hl j hj).1
  have hb0 : Below B w0 (w0.alloc (.cells #[.slice (some ⟨b, 0, none⟩) m cb] 83)) := (Below.refl _ _).alloc hB _
  have hb2 : Below B w0 w1 := hb0.trans (grown_below hg (by simp; omega) hrow)
  have hsz2 := hg.size
  have hfr : ∀ b' e, BlkT w0 b' e → e ≠ 83 → w1.heap[b']? = w0.heap[b']? := by
    intro b' e hbt hne
    have hlt := hbt.lt
    rw [hg.block b' (by simp; omega) ?_]
    · exact ((Below.refl w0.heap.size w0).alloc (Nat.le_refl _) _).block b' hlt
    · intro he
      cases av with
      | none => simp [Value.ownBlock] at he
      | some ad =>
        obtain ⟨h1, h2⟩ := hl
        rcases h2 with ⟨h2, _⟩ | ⟨g', cap', cur', hv, _, hh, _⟩
        · cases h2
        · cases hv
          simp [Value.ownBlock] at he
          subst he
          obtain ⟨cs', hcs⟩ := hbt
          rw [hh] at hcs
          cases hcs
          exact hne rfl
  have rowF : ∀ {b' cb' : Nat} {L' : Nat → Nat} {f' : Nat → Rat}, RowF w0 B b' m cb' L' f' → RowF w1 B b' m cb' L' f' := by
    intro b' cb' L' f' hr
    have hT := hr.blk
    obtain ⟨l, k1, k2, k3⟩ := hr
    exact ⟨l, owns_other k1 (hfr _ _ hT (by decide)), k2, fun k hk => (k3 k hk).frame (fun b'' hb'' => hfr b'' _ hb'' (by decide))⟩
  obtain ⟨hlen, ho2⟩ := ho1
  rcases ho2 with ⟨_, h0⟩ | ⟨g, cap, cur, rfl, r⟩
  · omega
  · refine h _ _ w1 ⟨?_, fun i hi => ?_, fun i j hi hj e => ?_⟩ hb2 (by simp at hsz2; omega)
    · rw [hdM_succ, hdM_congr (bs' := bs) (cs' := cs) m (fun i hi => ⟨if_neg (by omega), if_neg (by omega)⟩), if_pos rfl, if_pos rfl]
      exact ⟨hlen, .inr ⟨g, cap, cur, rfl, r⟩⟩
    · by_cases hin : i = n
      · subst hin
        dsimp only
        rw [if_pos rfl, if_pos rfl]
        exact rowF hq
      · dsimp only
        rw [if_neg hin, if_neg hin]
        exact rowF (hc i (by omega))
    · by_cases hin : i = n <;> by_cases hjn : j = n
      · omega
      · simp only [hin, if_true, hjn, if_false] at e
        exact absurd e.symm (hnb j (by omega))
      · simp only [hin, if_false, hjn, if_true] at e
        exact absurd e (hnb i (by omega))
      · simp only [hin, if_false, hjn] at e
        exact hinj i j (by omega) (by omega) e
/-- '[]Ratio{}'. -/
theorem OwQ.empty (w : World) {B : Nat} (hB : B ≤ w.heap.size) : OwQ (w.alloc (.cells #[] 80)) B (some ⟨w.heap.size, 0, none⟩) 0 0 [] :=
  ⟨by simp [rq], .inr ⟨w.heap.size, 0, #[], rfl, hB, alloc_new _ _, by simp, by simp, by simp, by simp [rq]⟩⟩
theorem oneCell_rq (l : List RC) : ∀ u ∈ rq l, u.oneCell' = true := by
  intro u hu
  obtain ⟨p, _, hp⟩ := List.mem_flatMap.1 hu
  simp only [rq1, List.mem_cons, List.not_mem_nil, or_false] at hp
  rcases hp with rfl | rfl | rfl | rfl <;> rfl
/-- A copy of a row of fractions: 'append([]Ratio{}, row...)'. -/
theorem appC {ops : Array Oper} {rest : List Oper} {o : Oper} {act : Act} {Q : Exit → Act → World → Prop} {Wx : World} (w0 : World) {lb n lc B' : Nat} {L : Nat → Nat} {f : Nat → Rat} (hW : Wx = w0.alloc (.cells #[] 80)) (hgd : o.guard = none) (s x : Operand)
    (ho : o.op = .call { callee := .builtin .append, args := #[s, x], argTypes := #[83, 83] })
    (hl : RowF w0 B' lb n lc L f) (hs : act.eval s = .slice (some ⟨w0.heap.size, 0, none⟩) 0 0) (hx : act.eval x = .slice (some ⟨lb, 0, none⟩) n lc)
    (hn : 0 < n) (hb1 : n ≤ 1000000)
    (h : ∀ b' c' w', RowF w' w0.heap.size b' n c' L f → Below w0.heap.size w0 w' → wpList Tryz.prog ops Q rest (act.put o.dst (.slice (some ⟨b', 0, none⟩) n c')) w') :
    wpList Tryz.prog ops Q (o :: rest) act Wx := by
  subst hW
  have hA : Below w0.heap.size w0 (w0.alloc (.cells #[] 80)) := (Below.refl _ _).alloc (Nat.le_refl _) _
  obtain ⟨i0, hi, hz0, hz1, hz2⟩ := info_parts Tryz.info_ratio
  obtain ⟨l, k1, k2, k3⟩ := hl
  refine appS hgd s x _ ho w0.heap.size _ i0 _ 4 64 Tryz.underlying83 hi hz0 hz1 hz2 rfl (by decide) _ 0 0 _ (OwQ.empty w0 (Nat.le_refl _)) _ n lc (rq l) (k1.keep hA).sq (oneCell_rq l) hs hx (by omega) (by omega) (by simp) ?_
  intro a' c' w1 h1 h2
  have hb := hA.trans h2
  obtain ⟨h3, h4⟩ := h1
  rcases h4 with ⟨_, h0⟩ | ⟨g, cap, cur, hv, r⟩
  · omega
  · cases hv
    rw [Nat.zero_add]
    refine h g c' w1 ⟨l, ⟨by simpa [rq] using h3, .inr ⟨g, c', cur, rfl, by simpa [rq] using r⟩⟩, k2, fun k hk => (k3 k hk).keep hb⟩ hb
end Go.Proofs.YtfjcfbmfpefabaaGreat
