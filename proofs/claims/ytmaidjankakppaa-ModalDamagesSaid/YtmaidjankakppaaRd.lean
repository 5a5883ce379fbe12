/- Rows of fractions of the call's own. -/
import Derived.Test.YtmaidjankakppaaRc
import Derived.Test.YtmaidjankakppaaRr
import Derived.Maps.AppendAt
namespace Go.Proofs.Ytmaidjankakppaa
open Go.RowKit Go.Wides
open Calmly (Kept)

/-- The cells of a fraction. -/
abbrev RC := (Int × Option Addr × Nat × Nat) × (Int × Option Addr × Nat × Nat)
def rc0 : RC := ((0, none, 0, 0), (0, none, 0, 0))
def rq1 (p : RC) : List Value := [.int .i64 p.1.1, .slice p.1.2.1 p.1.2.2.1 p.1.2.2.2, .int .i64 p.2.1, .slice p.2.2.1 p.2.2.2.1 p.2.2.2.2]
def rq (l : List RC) : List Value := l.flatMap rq1
theorem rq_len (l : List RC) : (rq l).length = l.length * 4 := by
  induction l with
  | nil => rfl
  | cons p l ih =>
    show (_ :: _ :: _ :: _ :: rq l).length = _
    simp [ih]
    omega
theorem rq_append (l m : List RC) : rq (l ++ m) = rq l ++ rq m := by simp [rq]
theorem rq_get (l : List RC) (i : Nat) (h : i < l.length) (j : Nat) (hj : j < 4) : (rq l)[4 * i + j]? = (rq1 (l[i]?.getD rc0))[j]? := by
  induction l generalizing i with
  | nil => simp at h
  | cons p l ih =>
    have e : rq (p :: l) = rq1 p ++ rq l := rfl
    rw [e]
    cases i with
    | zero =>
      rw [List.getElem?_append_left (by show _ < 4; omega)]
      simp
    | succ i =>
      have := ih i (by simpa using h)
      rw [List.getElem?_append_right (by show 4 ≤ _; omega)]
      simp only [List.getElem?_cons_succ]
      rw [← this]
      congr 1
      show 4 * (i + 1) + j - 4 = _
      omega
def SQ (w : World) (a : Option Addr) (n c : Nat) (l : List RC) : Prop := Sl w 4 a n c (rq l)
theorem SQ.len {w : World} {a : Option Addr} {n c : Nat} {l : List RC} (h : SQ w a n c l) : n = l.length := by have := h.1; rw [rq_len] at this; omega
theorem SQ.at_ {w : World} {a : Option Addr} {n c : Nat} {l : List RC} (h : SQ w a n c l) (hn : 0 < n) :
    ∃ b off, a = some ⟨b, off, none⟩ ∧ ∀ i, i < n → ∀ j, j < 4 → w.cell? ⟨b, off + i * 4 + j, none⟩ = (rq1 (l[i]?.getD rc0))[j]? := by
  have hl := h.len
  obtain ⟨h1, h2, h3, h4⟩ := h
  rcases h4 with ⟨rfl, rfl⟩ | ⟨b, off, rfl, hc⟩
  · omega
  · refine ⟨b, off, rfl, fun i hi j hj => ?_⟩
    rw [← rq_get l i (by omega) j hj, show off + i * 4 + j = off + (4 * i + j) by omega, hc (4 * i + j) (by omega)]
theorem Try.info_ratio : (Try.prog.info? 72).map (fun i => (i.zero, i.size, i.bytes)) = some (some (.agg #[.int .i64 0, .slice none 0 0, .int .i64 0, .slice none 0 0]), 4, 64) := by kernel_rfl
def OwQ (w : World) (B : Nat) (a : Option Addr) (n c : Nat) (l : List RC) : Prop := w.ownsRow B 72 4 (.slice a n c) n (rq l)
theorem OwQ.sq {w : World} {B : Nat} {a : Option Addr} {n c : Nat} {l : List RC} (h : OwQ w B a n c l) : SQ w a n c l := by
  obtain ⟨a', c', he, hs⟩ := Sl.of_owns h
  cases he
  exact hs
theorem OwQ.nil (w : World) (B : Nat) : OwQ w B none 0 0 [] := World.ownsRow_nil w B _ 4
theorem OwQ.keep {w w' : World} {B : Nat} {a : Option Addr} {n c : Nat} {l : List RC} (h : OwQ w B a n c l) (hb : Below w.heap.size w w') : OwQ w' B a n c l := by
  obtain ⟨h1, h2⟩ := h
  refine ⟨h1, ?_⟩
  rcases h2 with h2 | ⟨g, cap, cur, hv, hg, hh, r⟩
  · exact .inl h2
  · refine .inr ⟨g, cap, cur, hv, hg, ?_, r⟩
    rw [hb.block g (by have := (Array.getElem?_eq_some_iff.1 hh).1; omega)]
    exact hh

theorem WideV.frame {w w' : World} {s : Int} {a : Option Addr} {n c : Nat} {z : Int} (h : WideV w s a n c z) (hs : ∀ b, BlkT w b 3 → w'.heap[b]? = w.heap[b]?) : WideV w' s a n c z := by
  obtain ⟨ds, h1, h2, h3⟩ := h
  refine ⟨ds, ?_, ?_, h3⟩
  · obtain ⟨k1, k2, k3, k4⟩ := h1
    refine ⟨k1, k2, k3, ?_⟩
    rcases k4 with k4 | ⟨b, off, rfl, hc⟩
    · exact .inl k4
    · refine .inr ⟨b, off, rfl, fun i hi => ?_⟩
      rw [← hc i hi]
      have hb : w'.heap[b]? = w.heap[b]? := by
        rcases h2 with h2 | h2
        · cases h2
        · obtain ⟨b', off', h5, h6⟩ := h2
          cases h5
          exact hs _ h6
      simp [World.cell?, hb]
  · rcases h2 with h2 | ⟨b, off, h5, cs, h6⟩
    · exact .inl h2
    · exact .inr ⟨b, off, h5, cs, (hs b ⟨cs, h6⟩).trans h6⟩
/-- A fraction in a row: so many digits at most. -/
def RatC (w : World) (L : Nat) (p : RC) (q : Rat) : Prop := p.1.2.2.1 ≤ L ∧ p.2.2.2.1 ≤ L ∧ RatV w p.1.1 p.1.2.1 p.1.2.2.1 p.1.2.2.2 p.2.1 p.2.2.1 p.2.2.2.1 p.2.2.2.2 q
theorem RatC.keep {w w' : World} {L : Nat} {p : RC} {q : Rat} (h : RatC w L p q) (hb : Below w.heap.size w w') : RatC w' L p q := ⟨h.1, h.2.1, h.2.2.keep hb⟩
theorem RatC.frame {w w' : World} {L : Nat} {p : RC} {q : Rat} (h : RatC w L p q) (hs : ∀ b, BlkT w b 3 → w'.heap[b]? = w.heap[b]?) : RatC w' L p q := ⟨h.1, h.2.1, h.2.2.1.frame hs, h.2.2.2.frame hs⟩
theorem RatC.mono {w : World} {L L' : Nat} {p : RC} {q : Rat} (h : RatC w L p q) (hL : L ≤ L') : RatC w L' p q := ⟨Nat.le_trans h.1 hL, Nat.le_trans h.2.1 hL, h.2.2⟩
/-- A row of rational numbers of the call's own. -/
def RowQ (w : World) (B : Nat) (a : Option Addr) (n c L : Nat) (qs : List Rat) : Prop := ∃ l : List RC, OwQ w B a n c l ∧ l.length = qs.length ∧ ∀ i, i < qs.length → RatC w L (l[i]?.getD rc0) (qs[i]?.getD 0)
theorem RowQ.nil (w : World) (B L : Nat) : RowQ w B none 0 0 L [] := ⟨[], OwQ.nil _ _, rfl, fun i hi => absurd hi (by simp)⟩
theorem RowQ.keep {w w' : World} {B : Nat} {a : Option Addr} {n c L : Nat} {qs : List Rat} (h : RowQ w B a n c L qs) (hb : Below w.heap.size w w') : RowQ w' B a n c L qs := by
  obtain ⟨l, h1, h2, h3⟩ := h
  exact ⟨l, h1.keep hb, h2, fun i hi => (h3 i hi).keep hb⟩
theorem RowQ.drew {w : World} {B : Nat} {a : Option Addr} {n c L : Nat} {qs : List Rat} (h : RowQ w B a n c L qs) : RowQ w.drew B a n c L qs := h.keep (Below.refl _ _).drew
theorem RowQ.len {w : World} {B : Nat} {a : Option Addr} {n c L : Nat} {qs : List Rat} (h : RowQ w B a n c L qs) : n = qs.length := by
  obtain ⟨l, h1, h2, _⟩ := h
  rw [← h2]
  exact h1.sq.len
/-- An element read. -/
theorem RowQ.at_ {w : World} {B : Nat} {a : Option Addr} {n c L : Nat} {qs : List Rat} (h : RowQ w B a n c L qs) (i : Nat) (hi : i < n) :
    ∃ b off s a1 n1 c1 s' a2 n2 c2, a = some ⟨b, off, none⟩ ∧ w.cell? ⟨b, off + i * 4, none⟩ = some (.int .i64 s) ∧ w.cell? ⟨b, off + i * 4 + 1, none⟩ = some (.slice a1 n1 c1) ∧ w.cell? ⟨b, off + i * 4 + 2, none⟩ = some (.int .i64 s') ∧ w.cell? ⟨b, off + i * 4 + 3, none⟩ = some (.slice a2 n2 c2) ∧
      n1 ≤ L ∧ n2 ≤ L ∧ RatV w s a1 n1 c1 s' a2 n2 c2 (qs[i]?.getD 0) := by
  have hn := h.len
  obtain ⟨l, h1, h2, h3⟩ := h
  obtain ⟨b, off, rfl, hc⟩ := h1.sq.at_ (by omega)
  obtain ⟨k1, k2, k3⟩ := h3 i (by omega)
  exact ⟨b, off, _, _, _, _, _, _, _, _, rfl, hc i hi 0 (by omega), hc i hi 1 (by omega), hc i hi 2 (by omega), hc i hi 3 (by omega), k1, k2, k3⟩
theorem RowQ.one {w : World} {B : Nat} (hB : B ≤ w.heap.size) {s : Int} {a : Option Addr} {n c : Nat} {s' : Int} {a' : Option Addr} {n' c' L : Nat} {q : Rat} (h : RatV w s a n c s' a' n' c' q) (h1 : n ≤ L) (h2 : n' ≤ L) :
    RowQ (w.alloc (.cells #[.int .i64 s, .slice a n c, .int .i64 s', .slice a' n' c'] 72)) B (some ⟨w.heap.size, 0, none⟩) 1 1 L [q] := by
  refine ⟨[((s, a, n, c), (s', a', n', c'))], ⟨by simp [rq, rq1], .inr ⟨w.heap.size, 1, #[.int .i64 s, .slice a n c, .int .i64 s', .slice a' n' c'], rfl, hB, alloc_new _ _, by simp, by unfold maxLen; omega, by simp, by simp [rq, rq1]⟩⟩, rfl, fun i hi => ?_⟩
  obtain rfl : i = 0 := by simpa using hi
  exact ⟨h1, h2, h.keep ((Below.refl _ _).alloc (Nat.le_refl _) _)⟩

/-- An append to a row of fractions. -/
theorem appQ {ops : Array Oper} {rest : List Oper} {o : Oper} {act : Act} {Q : Exit → Act → World → Prop} {Wx : World} (w0 : World) {B : Nat} {av : Option Addr} {n c L : Nat} {qs : List Rat} {q : Rat} {s1 : Int} {a1 : Option Addr} {n1 c1 : Nat} {s2 : Int} {a2 : Option Addr} {n2 c2 : Nat}
    (hW : Wx = w0.alloc (.cells #[.int .i64 s1, .slice a1 n1 c1, .int .i64 s2, .slice a2 n2 c2] 72)) (hgd : o.guard = none) (s x' : Operand)
    (ho : o.op = .call { callee := .builtin .append, args := #[s, x'], argTypes := #[156, 156] })
    (hown : RowQ w0 B av n c L qs) (hq : RatV w0 s1 a1 n1 c1 s2 a2 n2 c2 q) (hl1 : n1 ≤ L) (hl2 : n2 ≤ L) (hs : act.eval s = .slice av n c) (hx : act.eval x' = .slice (some ⟨w0.heap.size, 0, none⟩) 1 1)
    (hb1 : n + 1 ≤ 1099511627776) (hB : B ≤ w0.heap.size)
    (h : ∀ a' c' w', RowQ w' B a' (n + 1) c' L (qs ++ [q]) → Below B w0 w' → w0.heap.size < w'.heap.size → wpList Try.prog ops Q rest (act.put o.dst (.slice a' (n + 1) c')) w') :
    wpList Try.prog ops Q (o :: rest) act Wx := by
  subst hW
  obtain ⟨i0, hi, hz0, hz1, hz2⟩ := info_parts Try.info_ratio
  have hnl := hown.len
  obtain ⟨l, hl, hle, hc⟩ := hown
  refine wpList_append_own_at _ hgd s x' _ ho B _ i0 (.agg #[.int .i64 0, .slice none 0 0, .int .i64 0, .slice none 0 0]) 4 64 Try.underlying156 hi hz0 hz1 hz2 rfl (by decide) _ n _ hs (World.ownsRow.alloc hl _) ⟨w0.heap.size, 0, none⟩ 1 1 (#[Value.int .i64 s1, .slice a1 n1 c1, .int .i64 s2, .slice a2 n2 c2]).toList hx (by simp) (cells_new w0 _ _) (by simp [Value.oneCell']) (by unfold maxLen; omega) (by omega) (by simp; omega) ?_
  intro v' w1 ho1 hg hn hat
  have hrow : ∀ j, (Value.slice av n c).ownBlock = some j → B ≤ j := fun j hj => (World.ownsRow.lt hl j hj).1
  have hb0 : Below B w0 (w0.alloc (.cells #[.int .i64 s1, .slice a1 n1 c1, .int .i64 s2, .slice a2 n2 c2] 72)) := (Below.refl _ _).alloc hB _
  have hb2 : Below B w0 w1 := hb0.trans (grown_below hg (by simp; omega) hrow)
  have hsz2 := hg.size
  have hfr : ∀ b, BlkT w0 b 3 → w1.heap[b]? = w0.heap[b]? := by
    intro b hbt
    have hlt := hbt.lt
    rw [hg.block b (by simp; omega) ?_]
    · exact ((Below.refl w0.heap.size w0).alloc (Nat.le_refl _) _).block b hlt
    · intro he
      cases av with
      | none => simp [Value.ownBlock] at he
      | some ad =>
        obtain ⟨h1, h2⟩ := hl
        rcases h2 with ⟨h2, _⟩ | ⟨g', cap', cur', hv, _, hh, _⟩
        · cases h2
        · cases hv
          simp [Value.ownBlock] at he
          subst he
          obtain ⟨cs, hcs⟩ := hbt
          rw [hh] at hcs
          cases hcs
  obtain ⟨hlen, ho2⟩ := ho1
  rcases ho2 with ⟨_, h0⟩ | ⟨g, cap, cur, rfl, r⟩
  · omega
  · refine h _ _ w1 ⟨l ++ [((s1, a1, n1, c1), (s2, a2, n2, c2))], ?_, by simp [hle], fun i hi => ?_⟩ hb2 (by simp at hsz2; omega)
    · unfold OwQ
      rw [rq_append]
      exact ⟨hlen, .inr ⟨g, cap, cur, rfl, r⟩⟩
    · rcases Nat.lt_or_ge i qs.length with h6 | h6
      · rw [List.getElem?_append_left (by omega), List.getElem?_append_left h6]
        exact (hc i h6).frame hfr
      · obtain rfl : i = qs.length := by simp at hi; omega
        rw [List.getElem?_append_right (by omega), List.getElem?_append_right (by omega), hle]
        simp only [Nat.sub_self, List.getElem?_cons_zero, Option.getD_some]
        exact ⟨hl1, hl2, hq.1.frame hfr, hq.2.frame hfr⟩
end Go.Proofs.Ytmaidjankakppaa
