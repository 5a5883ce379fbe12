/- Rows of ranges of the call's own. -/
import Derived.Test.YtmaidjankakppaaBa
namespace Go.Proofs.Ytmaidjankakppaa
open Go.RowKit
open Calmly (Kept)

/-- The cells of ranges. -/
def rv (l : List (Int × Int)) : List Value := l.flatMap fun p => [Value.int .i64 p.1, Value.int .i64 p.2]
theorem rv_len (l : List (Int × Int)) : (rv l).length = l.length * 2 := by
  induction l with
  | nil => rfl
  | cons p l ih =>
    show (_ :: _ :: rv l).length = _
    simp [ih]
    omega
theorem rv_append (l m : List (Int × Int)) : rv (l ++ m) = rv l ++ rv m := by simp [rv]
theorem rv_get (l : List (Int × Int)) (i : Nat) (h : i < l.length) : (rv l)[2 * i]? = some (.int .i64 (l[i]?.getD (0, 0)).1) ∧ (rv l)[2 * i + 1]? = some (.int .i64 (l[i]?.getD (0, 0)).2) := by
  induction l generalizing i with
  | nil => simp at h
  | cons p l ih =>
    have e : rv (p :: l) = Value.int .i64 p.1 :: Value.int .i64 p.2 :: rv l := rfl
    rw [e]
    cases i with
    | zero => simp
    | succ i =>
      have := ih i (by simpa using h)
      rw [show 2 * (i + 1) = 2 * i + 1 + 1 by omega]
      simpa using this

/-- A slice of ranges. -/
def SR (w : World) (a : Option Addr) (n c : Nat) (l : List (Int × Int)) : Prop := Sl w 2 a n c (rv l)
theorem SR.keep {w w' : World} {a : Option Addr} {n c : Nat} {l : List (Int × Int)} (h : SR w a n c l) (hb : Below w.heap.size w w') : SR w' a n c l := Sl.keep h hb
theorem SR.len {w : World} {a : Option Addr} {n c : Nat} {l : List (Int × Int)} (h : SR w a n c l) : n = l.length := by have := h.1; rw [rv_len] at this; omega
theorem SR.cap {w : World} {a : Option Addr} {n c : Nat} {l : List (Int × Int)} (h : SR w a n c l) : n ≤ c := h.2.1
theorem SR.max {w : World} {a : Option Addr} {n c : Nat} {l : List (Int × Int)} (h : SR w a n c l) : c ≤ 9223372036854775807 := h.2.2.1
theorem SR.drew {w : World} {a : Option Addr} {n c : Nat} {l : List (Int × Int)} (h : SR w a n c l) : SR w.drew a n c l := h
theorem SR.nil (w : World) : SR w none 0 0 [] := Sl.nil w 2
/-- The place of a slice that has an element. -/
theorem SR.at_ {w : World} {a : Option Addr} {n c : Nat} {l : List (Int × Int)} (h : SR w a n c l) (hn : 0 < n) :
    ∃ b off, a = some ⟨b, off, none⟩ ∧ ∀ i, i < n → w.cell? ⟨b, off + i * 2, none⟩ = some (.int .i64 (l[i]?.getD (0, 0)).1) ∧ w.cell? ⟨b, off + i * 2 + 1, none⟩ = some (.int .i64 (l[i]?.getD (0, 0)).2) := by
  have hl := h.len
  obtain ⟨h1, h2, h3, h4⟩ := h
  rcases h4 with ⟨rfl, rfl⟩ | ⟨b, off, rfl, hc⟩
  · omega
  · refine ⟨b, off, rfl, fun i hi => ?_⟩
    obtain ⟨e1, e2⟩ := rv_get l i (by omega)
    rw [Nat.mul_comm i 2, hc (2 * i) (by omega), show off + 2 * i + 1 = off + (2 * i + 1) by omega, hc (2 * i + 1) (by omega)]
    exact ⟨e1, e2⟩

theorem Try.info_range : (Try.prog.info? 63).map (fun i => (i.zero, i.size, i.bytes)) = some (some (.agg #[.int .i64 0, .int .i64 0]), 2, 16) := by kernel_rfl

/-- A row of ranges of the call's own. -/
def OwR (w : World) (B : Nat) (a : Option Addr) (n c : Nat) (l : List (Int × Int)) : Prop := w.ownsRow B 63 2 (.slice a n c) n (rv l)
theorem OwR.nil (w : World) (B : Nat) : OwR w B none 0 0 [] := World.ownsRow_nil w B _ 2
theorem OwR.sr {w : World} {B : Nat} {a : Option Addr} {n c : Nat} {l : List (Int × Int)} (h : OwR w B a n c l) : SR w a n c l := by
  obtain ⟨a', c', he, hs⟩ := Sl.of_owns h
  cases he
  exact hs
theorem OwR.len {w : World} {B : Nat} {a : Option Addr} {n c : Nat} {l : List (Int × Int)} (h : OwR w B a n c l) : n = l.length := h.sr.len
theorem OwR.below {w w' : World} {B B' : Nat} {a : Option Addr} {n c : Nat} {l : List (Int × Int)} (h : OwR w B a n c l) (hb : Below B' w w') (hB : w.heap.size ≤ B') : OwR w' B a n c l := by
  obtain ⟨h1, h2⟩ := h
  refine ⟨h1, ?_⟩
  rcases h2 with h2 | ⟨g, cap, cur, hv, hg, hh, r⟩
  · exact .inl h2
  · refine .inr ⟨g, cap, cur, hv, hg, ?_, r⟩
    rw [hb.block g (by have := (Array.getElem?_eq_some_iff.1 hh).1; omega)]
    exact hh
theorem OwR.keep {w w' : World} {B : Nat} {a : Option Addr} {n c : Nat} {l : List (Int × Int)} (h : OwR w B a n c l) (hb : Below w.heap.size w w') : OwR w' B a n c l := h.below hb (Nat.le_refl _)
theorem OwR.drew {w : World} {B : Nat} {a : Option Addr} {n c : Nat} {l : List (Int × Int)} (h : OwR w B a n c l) : OwR w.drew B a n c l := h
theorem OwR.weak {w : World} {B B' : Nat} {a : Option Addr} {n c : Nat} {l : List (Int × Int)} (h : OwR w B a n c l) (hB : B' ≤ B) : OwR w B' a n c l := by
  obtain ⟨h1, h2⟩ := h
  refine ⟨h1, ?_⟩
  rcases h2 with h2 | ⟨g, cap, cur, hv, hg, r⟩
  · exact .inl h2
  · exact .inr ⟨g, cap, cur, hv, Nat.le_trans hB hg, r⟩
/-- A store below the call's own rows. -/
theorem OwR.under {w : World} {B : Nat} {a : Option Addr} {n c : Nat} {l : List (Int × Int)} (h : OwR w B a n c l) {r o : Nat} (hr : r < B) (v : Value) : OwR (w.setCell ⟨r, o, none⟩ v) B a n c l := by
  obtain ⟨h1, h2⟩ := h
  refine ⟨h1, ?_⟩
  rcases h2 with h2 | ⟨g, cap, cur, hv, hg, hh, r'⟩
  · exact .inl h2
  · refine .inr ⟨g, cap, cur, hv, hg, ?_, r'⟩
    rw [Below.heap_setCell _ _ _ _ (by show g ≠ r; omega)]
    exact hh
theorem appR {ops : Array Oper} {rest : List Oper} {o : Oper} {a : Act} {Q : Exit → Act → World → Prop} {w0 : World} {B : Nat} {av : Option Addr} {n c : Nat} {l : List (Int × Int)} {x y : Int} (hgd : o.guard = none) (s x' : Operand)
    (ho : o.op = .call { callee := .builtin .append, args := #[s, x'], argTypes := #[42, 42] })
    (hown : OwR w0 B av n c l) (hs : a.eval s = .slice av n c) (hx : a.eval x' = .slice (some ⟨w0.heap.size, 0, none⟩) 1 1)
    (hb1 : n + 1 ≤ 1099511627776) (hB : B ≤ w0.heap.size)
    (h : ∀ a' c' w', OwR w' B a' (n + 1) c' (l ++ [(x, y)]) → Below B w0 w' → w0.heap.size < w'.heap.size → wpList Try.prog ops Q rest (a.put o.dst (.slice a' (n + 1) c')) w') :
    wpList Try.prog ops Q (o :: rest) a (w0.alloc (.cells #[.int .i64 x, .int .i64 y] 63)) := by
  obtain ⟨i0, hi, hz0, hz1, hz2⟩ := info_parts Try.info_range
  refine app1 hgd s x' _ ho B _ i0 (.agg #[.int .i64 0, .int .i64 0]) 2 16 Try.underlying42 hi hz0 hz1 hz2 rfl (by decide) av n c _ hown #[.int .i64 x, .int .i64 y] hs hx rfl (by simp [Value.oneCell']) (by omega) (by omega) hB ?_
  intro a' c' w1 h1 h2 h3
  exact h a' c' w1 (by unfold OwR; rw [rv_append]; exact h1) h2 h3
end Go.Proofs.Ytmaidjankakppaa
