/- Rows of ranges of the call's own. The arguments of a law, opened: a slice that came in reads as a list of numbers. The arguments of a law, opened: structs that came in. The arguments of a law, opened: an array of two numbers. The arguments of a law, opened: loads and parts, and an array of two lists of numbers. Contracts of the small functions of chapter 6's package. Contracts of chapter 6's package: frames. -/
import Derived.Test.YtmaidjankakppaaK02
import Derived.ProofKit
import Derived.OpenShut
namespace Go.Proofs.Ytmaidjankakppaa
open Go.RowKit
open Calmly (Kept)

/-- The cells of ranges. -/
def rv (l : List (Int × Int)) : List Value := l.flatMap fun p => [Value.int .i64 p.1, Value.int .i64 p.2]
theorem rv_len (l : List (Int × Int)) : (rv l).length = l.length * 2 := by
  induction l with
  | nil => rfl
  | cons p l ih =>
    show (_ :: _ :: rv l).length = _
    simp [ih]
    omega
theorem rv_append (l m : List (Int × Int)) : rv (l ++ m) = rv l ++ rv m := by simp [rv]
theorem rv_get (l : List (Int × Int)) (i : Nat) (h : i < l.length) : (rv l)[2 * i]? = some (.int .i64 (l[i]?.getD (0, 0)).1) ∧ (rv l)[2 * i + 1]? = some (.int .i64 (l[i]?.getD (0, 0)).2) := by
  induction l generalizing i with
  | nil => simp at h
  | cons p l ih =>
    have e : rv (p :: l) = Value.int .i64 p.1 :: Value.int .i64 p.2 :: rv l := rfl
    rw [e]
    cases i with
    | zero => simp
    | succ i =>
      have := ih i (by simpa using h)
      rw [show 2 * (i + 1) = 2 * i + 1 + 1 by omega]
      simpa using this

/-- A slice of ranges. -/
def SR (w : World) (a : Option Addr) (n c : Nat) (l : List (Int × Int)) : Prop := Sl w 2 a n c (rv l)
theorem SR.keep {w w' : World} {a : Option Addr} {n c : Nat} {l : List (Int × Int)} (h : SR w a n c l) (hb : Below w.heap.size w w') : SR w' a n c l := Sl.keep h hb
theorem SR.len {w : World} {a : Option Addr} {n c : Nat} {l : List (Int × Int)} (h : SR w a n c l) : n = l.length := by have := h.1; rw [rv_len] at this; omega
theorem SR.cap {w : World} {a : Option Addr} {n c : Nat} {l : List (Int × Int)} (h : SR w a n c l) : n ≤ c := h.2.1
theorem SR.max {w : World} {a : Option Addr} {n c : Nat} {l : List (Int × Int)} (h : SR w a n c l) : c ≤ 9223372036854775807 := h.2.2.1
theorem SR.drew {w : World} {a : Option Addr} {n c : Nat} {l : List (Int × Int)} (h : SR w a n c l) : SR w.drew a n c l := h
theorem SR.nil (w : World) : SR w none 0 0 [] := Sl.nil w 2
/-- The place of a slice that has an element. -/
theorem SR.at_ {w : World} {a : Option Addr} {n c : Nat} {l : List (Int × Int)} (h : SR w a n c l) (hn : 0 < n) :
    ∃ b off, a = some ⟨b, off, none⟩ ∧ ∀ i, i < n → w.cell? ⟨b, off + i * 2, none⟩ = some (.int .i64 (l[i]?.getD (0, 0)).1) ∧ w.cell? ⟨b, off + i * 2 + 1, none⟩ = some (.int .i64 (l[i]?.getD (0, 0)).2) := by
  have hl := h.len
  obtain ⟨h1, h2, h3, h4⟩ := h
  rcases h4 with ⟨rfl, rfl⟩ | ⟨b, off, rfl, hc⟩
  · omega
  · refine ⟨b, off, rfl, fun i hi => ?_⟩
    obtain ⟨e1, e2⟩ := rv_get l i (by omega)
    rw [Nat.mul_comm i 2, hc (2 * i) (by omega), show off + 2 * i + 1 = off + (2 * i + 1) by omega, hc (2 * i + 1) (by omega)]
    exact ⟨e1, e2⟩

theorem Try.info_range : (Try.prog.info? 63).map (fun i => (i.zero, i.size, i.bytes)) = some (some (.agg #[.int .i64 0, .int .i64 0]), 2, 16) := by kernel_rfl

/-- A row of ranges of the call's own. -/
def OwR (w : World) (B : Nat) (a : Option Addr) (n c : Nat) (l : List (Int × Int)) : Prop := w.ownsRow B 63 2 (.slice a n c) n (rv l)
theorem OwR.nil (w : World) (B : Nat) : OwR w B none 0 0 [] := World.ownsRow_nil w B _ 2
theorem OwR.sr {w : World} {B : Nat} {a : Option Addr} {n c : Nat} {l : List (Int × Int)} (h : OwR w B a n c l) : SR w a n c l := by
  obtain ⟨a', c', he, hs⟩ := Sl.of_owns h
  cases he
  exact hs
theorem OwR.len {w : World} {B : Nat} {a : Option Addr} {n c : Nat} {l : List (Int × Int)} (h : OwR w B a n c l) : n = l.length := h.sr.len
theorem OwR.below {w w' : World} {B B' : Nat} {a : Option Addr} {n c : Nat} {l : List (Int × Int)} (h : OwR w B a n c l) (hb : Below B' w w') (hB : w.heap.size ≤ B') : OwR w' B a n c l := by
  obtain ⟨h1, h2⟩ := h
  refine ⟨h1, ?_⟩
  rcases h2 with h2 | ⟨g, cap, cur, hv, hg, hh, r⟩
  · exact .inl h2
  · refine .inr ⟨g, cap, cur, hv, hg, ?_, r⟩
    rw [hb.block g (by have := (Array.getElem?_eq_some_iff.1 hh).1; omega)]
    exact hh
theorem OwR.keep {w w' : World} {B : Nat} {a : Option Addr} {n c : Nat} {l : List (Int × Int)} (h : OwR w B a n c l) (hb : Below w.heap.size w w') : OwR w' B a n c l := h.below hb (Nat.le_refl _)
theorem OwR.drew {w : World} {B : Nat} {a : Option Addr} {n c : Nat} {l : List (Int × Int)} (h : OwR w B a n c l) : OwR w.drew B a n c l := h
theorem OwR.weak {w : World} {B B' : Nat} {a : Option Addr} {n c : Nat} {l : List (Int × Int)} (h : OwR w B a n c l) (hB : B' ≤ B) : OwR w B' a n c l := by
  obtain ⟨h1, h2⟩ := h
  refine ⟨h1, ?_⟩
  rcases h2 with h2 | ⟨g, cap, cur, hv, hg, r⟩
  · exact .inl h2
  · exact .inr ⟨g, cap, cur, hv, Nat.le_trans hB hg, r⟩
/-- A store below the call's own rows. -/
theorem OwR.under {w : World} {B : Nat} {a : Option Addr} {n c : Nat} {l : List (Int × Int)} (h : OwR w B a n c l) {r o : Nat} (hr : r < B) (v : Value) : OwR (w.setCell ⟨r, o, none⟩ v) B a n c l := by
  obtain ⟨h1, h2⟩ := h
  refine ⟨h1, ?_⟩
  rcases h2 with h2 | ⟨g, cap, cur, hv, hg, hh, r'⟩
  · exact .inl h2
  · refine .inr ⟨g, cap, cur, hv, hg, ?_, r'⟩
    rw [Below.heap_setCell _ _ _ _ (by show g ≠ r; omega)]
    exact hh
theorem appR {ops : Array Oper} {rest : List Oper} {o : Oper} {a : Act} {Q : Exit → Act → World → Prop} {w0 : World} {B : Nat} {av : Option Addr} {n c : Nat} {l : List (Int × Int)} {x y : Int} (hgd : o.guard = none) (s x' : Operand)
    (ho : o.op = .call { callee := .builtin .append, args := #[s, x'], argTypes := #[42, 42] })
    (hown : OwR w0 B av n c l) (hs : a.eval s = .slice av n c) (hx : a.eval x' = .slice (some ⟨w0.heap.size, 0, none⟩) 1 1)
    (hb1 : n + 1 ≤ 1099511627776) (hB : B ≤ w0.heap.size)
    (h : ∀ a' c' w', OwR w' B a' (n + 1) c' (l ++ [(x, y)]) → Below B w0 w' → w0.heap.size < w'.heap.size → wpList Try.prog ops Q rest (a.put o.dst (.slice a' (n + 1) c')) w') :
    wpList Try.prog ops Q (o :: rest) a (w0.alloc (.cells #[.int .i64 x, .int .i64 y] 63)) := by
  obtain ⟨i0, hi, hz0, hz1, hz2⟩ := info_parts Try.info_range
  refine app1 hgd s x' _ ho B _ i0 (.agg #[.int .i64 0, .int .i64 0]) 2 16 Try.underlying42 hi hz0 hz1 hz2 rfl (by decide) av n c _ hown #[.int .i64 x, .int .i64 y] hs hx rfl (by simp [Value.oneCell']) (by omega) (by omega) hB ?_
  intro a' c' w1 h1 h2 h3
  exact h a' c' w1 (by unfold OwR; rw [rv_append]; exact h1) h2 h3
end Go.Proofs.Ytmaidjankakppaa

namespace Go.Proofs.Ytmaidjankakppaa
set_option maxRecDepth 100000
open Go.ChangeShapes Go.WideShapes Go.ChangeAt Go.RowKit

theorem okWide_spot {P : Program} {w : World} {base : Nat} {t e : TypeId} {a : Addr} {n c : Nat} (ht : P.underlying t = some (.slice e)) (h : Value.okWide P w .any base t (.slice (some a) n c)) : a.spot = none := by
  simp only [Value.okWide, ht, Cell.okWide, Cell.ok, World.has] at h
  exact h.2.2.2.1

theorem add_none (b off i : Nat) : Addr.add ⟨b, off, none⟩ i = ⟨b, off + i, none⟩ := by
  unfold Addr.add
  split
  · simp_all
  · rfl

/-- Each cell of a slice of structs of ints is an int. -/
theorem open_recs {H : Type} {enc : TypeId × Value → H} {P : Program} {w : World} {base : Nat} {t e k : Nat} {fs : Array Field} {v : Value} {d : DataW H} {p : List MemPlace}
    (ht : P.underlying t = some (.slice e)) (he : P.underlying e = some (.struct fs)) (hk : P.cellsOf e = k) (k0 : 0 < k)
    (hF : ∀ i, i < k → ∃ f, fs[i]? = some f ∧ f.offset = i ∧ P.cellsOf f.type = 1 ∧ P.underlying f.type = some (.int .i64))
    (hok : Value.okWide P w .any base t v) (h : DataW.Trod enc P w 0 (fun _ => true) true t v d p) :
    ∃ a n c, ∃ zs : List Int, v = .slice a n c ∧ Sl w k a n c (zs.map (Value.int .i64)) ∧ zs.length = n * k ∧ ∀ z ∈ zs, (Lit.int .i64 z).wf = true := by
  obtain ⟨a, n, c, rfl⟩ := okWide_slice ht hok
  obtain ⟨fuel, hf⟩ := h
  rcases DataW.trod_slice ht hf with ⟨hcs, _⟩ | ⟨a', len, cap, elems, rest, m, _, hcs, _, hb, hl, hm, hlen, hel, _, _⟩
  · simp [Value.cells] at hcs
    obtain ⟨rfl, rfl, rfl⟩ := hcs
    exact ⟨none, 0, 0, [], rfl, Sl.nil w k, by simp, by simp⟩
  · simp [Value.cells] at hcs
    obtain ⟨rfl, rfl, rfl⟩ := hcs
    have hs : a'.spot = none := okWide_spot ht hok
    obtain ⟨b, off, spot⟩ := a'
    cases hs
    simp only [add_none] at hel
    have each : ∀ i, i < n * k → ∃ z, w.cell? ⟨b, off + i, none⟩ = some (.int .i64 z) ∧ (Lit.int .i64 z).wf = true := by
      intro i hi
      have hq : i / k < n := (Nat.div_lt_iff_lt_mul k0).2 hi
      have hr : i % k < k := Nat.mod_lt _ k0
      have h1 := hel (i / k) hq
      obtain ⟨y, hy⟩ : ∃ y, elems[i / k]? = some y := ⟨elems[i / k], List.getElem?_eq_getElem (by omega)⟩
      rw [hy, hk, Option.bind_eq_some_iff] at h1
      obtain ⟨cs', hc', ht'⟩ := h1
      obtain ⟨xs, m', _, _, _, hxl, hx⟩ := DataW.trod_struct he ht'
      obtain ⟨f, hf1, hf2, hf3, hf4⟩ := hF (i % k) hr
      have h2 := hx _ f hf1
      rw [hf2, hf3] at h2
      have h3 : i % k < xs.length := by
        have := (Array.getElem?_eq_some_iff.1 hf1).1
        omega
      rw [List.getElem?_eq_getElem h3] at h2
      obtain ⟨z, hz, _, hw⟩ := DataW.trod_int hf4 h2
      refine ⟨z, ?_, hw⟩
      have h4 := (World.cells?_some hc').2.2 (i % k) hr
      have h5 : cs'[i % k]? = some (.int .i64 z) := by
        have h6 : ((cs'.drop (i % k)).take 1)[0]? = some (Value.int .i64 z) := by rw [hz]; rfl
        rw [List.getElem?_take_of_lt (by omega), List.getElem?_drop] at h6
        simpa using h6
      rw [h5] at h4
      rw [← h4]
      have h7 : i / k * k + i % k = i := by rw [Nat.mul_comm]; exact Nat.div_add_mod i k
      rw [add_none, Nat.add_assoc, h7]
    have : ∃ zs : List Int, zs.length = n * k ∧ ∀ i, i < n * k → w.cell? ⟨b, off + i, none⟩ = some (.int .i64 (zs.getD i 0)) ∧ (Lit.int .i64 (zs.getD i 0)).wf = true := by
      let g : Nat → Int := fun i => match w.cell? ⟨b, off + i, none⟩ with | some (.int .i64 z) => z | _ => 0
      refine ⟨(List.range (n * k)).map g, by simp, fun i hi => ?_⟩
      obtain ⟨z, hz, hw⟩ := each i hi
      have hg : ((List.range (n * k)).map g).getD i 0 = z := by
        simp [List.getD_eq_getElem?_getD, hi, g, hz]
      rw [hg]
      exact ⟨hz, hw⟩
    obtain ⟨zs, hzl, hz⟩ := this
    refine ⟨some ⟨b, off, none⟩, n, c, zs, rfl, ⟨by simpa using hzl, hl, hm, .inr ?_⟩, hzl, ?_⟩
    · refine ⟨b, off, rfl, fun i hi => ?_⟩
      have := (hz i hi).1
      rw [this, List.getElem?_map, List.getElem?_eq_getElem (by omega)]
      simp [List.getD_eq_getElem?_getD, List.getElem?_eq_getElem (show i < zs.length by omega)]
    · intro z hzm
      obtain ⟨i, hi, rfl⟩ := List.getElem_of_mem hzm
      have := (hz i (by omega)).2
      simpa [List.getD_eq_getElem?_getD, List.getElem?_eq_getElem hi] using this

theorem rv_of (zs : List Int) (n : Nat) (h : zs.length = n * 2) : ∃ l : List (Int × Int), rv l = zs.map (Value.int .i64) := by
  induction n generalizing zs with
  | zero => exact ⟨[], by have : zs = [] := List.length_eq_zero_iff.1 (by omega); subst this; rfl⟩
  | succ n ih =>
    match zs, h with
    | [], h => simp at h
    | [x], h => simp at h; omega
    | x :: y :: zs, h =>
      obtain ⟨l, hl⟩ := ih zs (by simp at h; omega)
      refine ⟨(x, y) :: l, ?_⟩
      show _ :: _ :: rv l = _
      rw [hl]
      rfl
theorem rv_mem {l : List (Int × Int)} {zs : List Int} (h : rv l = zs.map (Value.int .i64)) : ∀ q ∈ l, q.1 ∈ zs ∧ q.2 ∈ zs := by
  intro q hq
  have h1 : Value.int .i64 q.1 ∈ rv l := by simp only [rv, List.mem_flatMap]; exact ⟨q, hq, by simp⟩
  have h2 : Value.int .i64 q.2 ∈ rv l := by simp only [rv, List.mem_flatMap]; exact ⟨q, hq, by simp⟩
  rw [h] at h1 h2
  simp at h1 h2
  exact ⟨h1, h2⟩

theorem Try.own' : ownKnob Try.prog.godebug = none := by kernel_rfl
theorem Try.laidOut' : laidOutB Try.prog = true := by kernel_rfl

/-- A slice of ranges that came in. -/
theorem open_ranges {H : Type} {enc : TypeId × Value → H} {w : World} {base : Nat} {v : Value} {d : DataW H} {p : List MemPlace}
    (hok : Value.okWide Try.prog w .any base 42 v) (h : DataW.Trod enc Try.prog w 0 (fun _ => true) true 42 v d p) :
    ∃ a n c l, v = .slice a n c ∧ SR w a n c l ∧ ∀ q ∈ l, (Lit.int .i64 q.1).wf = true ∧ (Lit.int .i64 q.2).wf = true := by
  obtain ⟨a, n, c, zs, rfl, hs, hl, hw⟩ := open_recs (k := 2) Try.underlying42 Try.underlying63 (by kernel_rfl) (by omega) (by
    intro i hi
    match i, hi with
    | 0, _ => exact ⟨_, rfl, rfl, by kernel_rfl, Try.underlying3⟩
    | 1, _ => exact ⟨_, rfl, rfl, by kernel_rfl, Try.underlying3⟩) hok h
  obtain ⟨l, hl'⟩ := rv_of zs n hl
  rw [← hl'] at hs
  exact ⟨a, n, c, l, rfl, hs, fun q hq => ⟨hw _ (rv_mem hl' q hq).1, hw _ (rv_mem hl' q hq).2⟩⟩

/-- A slice of numbers that came in. -/
theorem open_nums {H : Type} {enc : TypeId × Value → H} {w : World} {base : Nat} {v : Value} {d : DataW H} {p : List MemPlace}
    (hok : Value.okWide Try.prog w .any base 22 v) (h : DataW.Trod enc Try.prog w 0 (fun _ => true) true 22 v d p) :
    ∃ a n c l, v = .slice a n c ∧ SI w a n c l ∧ ∀ q ∈ l, (Lit.int .i64 q).wf = true := by
  obtain ⟨a, n, c, rfl⟩ := okWide_slice Try.underlying22 hok
  obtain ⟨fuel, hf⟩ := h
  rcases open_ints Try.underlying22 Try.underlying3 (by kernel_rfl) hf with ⟨hcs, _⟩ | ⟨x, l, c', zs, hcs, _, hl, hm, hz, _, hcell, hwz⟩
  · simp [Value.cells] at hcs
    obtain ⟨rfl, rfl, rfl⟩ := hcs
    exact ⟨none, 0, 0, [], rfl, Sl.nil w 1, by simp⟩
  · simp [Value.cells] at hcs
    obtain ⟨rfl, rfl, rfl⟩ := hcs
    have hs : x.spot = none := okWide_spot Try.underlying22 hok
    have hz' : zs.length = c := by simpa using hz
    refine ⟨some x, n, c, zs.take n, rfl, ⟨by simp; omega, hl, hm, .inr ?_⟩, fun q hq => hwz q (List.mem_of_mem_take hq)⟩
    obtain ⟨b, off, spot⟩ := x
    cases hs
    refine ⟨b, off, rfl, fun i hi => ?_⟩
    have := hcell i (by omega)
    rw [add_none] at this
    rw [this, List.getElem?_map, List.getElem?_take_of_lt (by omega), List.getElem?_eq_getElem (by omega)]
    simp [List.getD_eq_getElem?_getD, List.getElem?_eq_getElem (show i < zs.length by omega)]

end Go.Proofs.Ytmaidjankakppaa

namespace Go.Proofs.Ytmaidjankakppaa
set_option maxRecDepth 100000
open Go.ChangeShapes Go.WideShapes Go.ChangeAt Go.RowKit

/-- A struct that came in, field by field. -/
theorem open_struct {H : Type} {enc : TypeId × Value → H} {P : Program} {w : World} {base : Nat} {t : TypeId} {fs : Array Field} {ts : List TypeId} {v : Value} {d : DataW H} {p : List MemPlace}
    (ht : P.underlying t = some (.struct fs)) (hts : P.cellTypes P.depth t = some ts) (hok : Value.okWide P w .any base t v) (h : DataW.Trod enc P w 0 (fun _ => true) true t v d p) :
    ∃ cs : Array Value, v = .agg cs ∧ cs.size = P.cellsOf t ∧ (∀ (i : Nat) (u : Value), cs[i]? = some u → ∃ ty, ts[i % ts.length]? = some ty ∧ Cell.okWide P w .any base ty u) ∧
      ∀ (i : Nat) (f : Field), fs[i]? = some f → ∃ fuel x, DataW.trod enc P w 0 (fun _ => true) true fuel f.type ((cs.toList.drop f.offset).take (P.cellsOf f.type)) = some x := by
  simp only [Value.okWide, ht] at hok
  obtain ⟨cs, rfl, hsz, ts', hts', _, hall⟩ := hok
  rw [hts] at hts'
  cases hts'
  obtain ⟨fuel, hf⟩ := h
  obtain ⟨xs, n, _, _, _, hxl, hx⟩ := DataW.trod_struct ht hf
  refine ⟨cs, rfl, hsz, hall, fun i f hfi => ?_⟩
  have := hx i f hfi
  have hlt : i < xs.length := by
    have := (Array.getElem?_eq_some_iff.1 hfi).1
    omega
  rw [List.getElem?_eq_getElem hlt] at this
  exact ⟨n, _, this⟩

theorem cell_of_int {H : Type} {enc : TypeId × Value → H} {P : Program} {w : World} {fuel : Nat} {t : TypeId} {k : IntKind} {u : Value} {x : DataW H × List MemPlace} (ht : P.underlying t = some (.int k))
    (h : DataW.trod enc P w 0 (fun _ => true) true fuel t [u] = some x) : ∃ n, u = .int k n ∧ (Lit.int k n).wf = true := by
  obtain ⟨n, hn, _, hw⟩ := DataW.trod_int ht h
  cases hn
  exact ⟨n, rfl, hw⟩
theorem cell_of_slice {H : Type} {enc : TypeId × Value → H} {P : Program} {w : World} {base fuel : Nat} {t e : TypeId} {u : Value} {x : DataW H × List MemPlace} (ht : P.underlying t = some (.slice e)) (hok : Cell.okWide P w .any base t u)
    (h : DataW.trod enc P w 0 (fun _ => true) true fuel t [u] = some x) : Value.okWide P w .any base t u ∧ ∃ d p, DataW.Trod enc P w 0 (fun _ => true) true t u d p := by
  have h1 : Value.okWide P w .any base t u := by
    simp only [Value.okWide, ht]
    exact hok
  obtain ⟨a, n, c, rfl⟩ := okWide_slice ht h1
  exact ⟨h1, x.1, x.2, fuel, by simpa [Value.cells] using h⟩

theorem two_cells {cs : Array Value} (h : cs.size = 2) : ∃ x y, cs = #[x, y] := by
  obtain ⟨l⟩ := cs
  match l, h with
  | [x, y], _ => exact ⟨x, y, rfl⟩

/-- A decay that came in. -/
theorem open_decay {H : Type} {enc : TypeId × Value → H} {w : World} {base : Nat} {v : Value} {d : DataW H} {p : List MemPlace}
    (hok : Value.okWide Try.prog w .any base 87 v) (h : DataW.Trod enc Try.prog w 0 (fun _ => true) true 87 v d p) :
    ∃ a n c l off, v = .agg #[.slice a n c, .int .i64 off] ∧ SI w a n c l ∧ (∀ q ∈ l, (Lit.int .i64 q).wf = true) ∧ (Lit.int .i64 off).wf = true := by
  obtain ⟨cs, rfl, hsz, hall, hf⟩ := open_struct (ts := [22, 3]) Try.underlying87 (by kernel_rfl) hok h
  obtain ⟨x, y, rfl⟩ := two_cells (hsz.trans (by kernel_rfl))
  obtain ⟨m0, x0, h0⟩ := hf 0 _ rfl
  obtain ⟨m1, x1, h1⟩ := hf 1 _ rfl
  have c22 : Try.prog.cellsOf 22 = 1 := by kernel_rfl
  have c3 : Try.prog.cellsOf 3 = 1 := by kernel_rfl
  simp only [c22, c3] at h0 h1
  obtain ⟨off, rfl, hw⟩ := cell_of_int Try.underlying3 h1
  obtain ⟨ty, hty, ho⟩ := hall 0 x rfl
  cases hty
  obtain ⟨k1, d', p', k2⟩ := cell_of_slice Try.underlying22 ho h0
  obtain ⟨a, n, c, l, rfl, hs, hwl⟩ := open_nums k1 k2
  exact ⟨a, n, c, l, off, rfl, hs, hwl, hw⟩

/-- A frame that came in. -/
theorem open_frame {H : Type} {enc : TypeId × Value → H} {w : World} {base : Nat} {v : Value} {d : DataW H} {p : List MemPlace}
    (hok : Value.okWide Try.prog w .any base 24 v) (h : DataW.Trod enc Try.prog w 0 (fun _ => true) true 24 v d p) :
    ∃ a n c l b m e k, v = .agg #[.slice a n c, .slice b m e] ∧ SI w a n c l ∧ (∀ q ∈ l, (Lit.int .i64 q).wf = true) ∧ SI w b m e k ∧ (∀ q ∈ k, (Lit.int .i64 q).wf = true) := by
  obtain ⟨cs, rfl, hsz, hall, hf⟩ := open_struct (ts := [22, 22]) Try.underlying24 (by kernel_rfl) hok h
  obtain ⟨x, y, rfl⟩ := two_cells (hsz.trans (by kernel_rfl))
  obtain ⟨m0, x0, h0⟩ := hf 0 _ rfl
  obtain ⟨m1, x1, h1⟩ := hf 1 _ rfl
  have c22 : Try.prog.cellsOf 22 = 1 := by kernel_rfl
  simp only [c22] at h0 h1
  obtain ⟨ty, hty, ho⟩ := hall 0 x rfl
  cases hty
  obtain ⟨k1, d', p', k2⟩ := cell_of_slice Try.underlying22 ho h0
  obtain ⟨a, n, c, l, rfl, hs, hwl⟩ := open_nums k1 k2
  obtain ⟨ty, hty, ho⟩ := hall 1 y rfl
  cases hty
  obtain ⟨k1, d', p', k2⟩ := cell_of_slice Try.underlying22 ho h1
  obtain ⟨a', n', c', l', rfl, hs', hwl'⟩ := open_nums k1 k2
  exact ⟨a, n, c, l, a', n', c', l', rfl, hs, hwl, hs', hwl'⟩

/-- A fraction that came in. -/
theorem open_frac {H : Type} {enc : TypeId × Value → H} {w : World} {base : Nat} {v : Value} {d : DataW H} {p : List MemPlace}
    (hok : Value.okWide Try.prog w .any base 34 v) (h : DataW.Trod enc Try.prog w 0 (fun _ => true) true 34 v d p) :
    ∃ x y, v = .agg #[.int .i64 x, .int .i64 y] ∧ (Lit.int .i64 x).wf = true ∧ (Lit.int .i64 y).wf = true := by
  obtain ⟨cs, rfl, hsz, hall, hf⟩ := open_struct (ts := [3, 3]) Try.underlying34 (by kernel_rfl) hok h
  obtain ⟨x, y, rfl⟩ := two_cells (hsz.trans (by kernel_rfl))
  obtain ⟨m0, x0, h0⟩ := hf 0 _ rfl
  obtain ⟨m1, x1, h1⟩ := hf 1 _ rfl
  have c3 : Try.prog.cellsOf 3 = 1 := by kernel_rfl
  simp only [c3] at h0 h1
  obtain ⟨n, rfl, hw⟩ := cell_of_int Try.underlying3 h0
  obtain ⟨m, rfl, hw'⟩ := cell_of_int Try.underlying3 h1
  exact ⟨n, m, rfl, hw, hw'⟩
/-- A damage that came in. -/
theorem open_damage {H : Type} {enc : TypeId × Value → H} {w : World} {base : Nat} {v : Value} {d : DataW H} {p : List MemPlace}
    (hok : Value.okWide Try.prog w .any base 46 v) (h : DataW.Trod enc Try.prog w 0 (fun _ => true) true 46 v d p) :
    ∃ x y, v = .agg #[.int .i64 x, .int .i64 y] ∧ (Lit.int .i64 x).wf = true ∧ (Lit.int .i64 y).wf = true := by
  obtain ⟨cs, rfl, hsz, hall, hf⟩ := open_struct (ts := [3, 3]) Try.underlying46 (by kernel_rfl) hok h
  obtain ⟨x, y, rfl⟩ := two_cells (hsz.trans (by kernel_rfl))
  obtain ⟨m0, x0, h0⟩ := hf 0 _ rfl
  obtain ⟨m1, x1, h1⟩ := hf 1 _ rfl
  have c3 : Try.prog.cellsOf 3 = 1 := by kernel_rfl
  simp only [c3] at h0 h1
  obtain ⟨n, rfl, hw⟩ := cell_of_int Try.underlying3 h0
  obtain ⟨m, rfl, hw'⟩ := cell_of_int Try.underlying3 h1
  exact ⟨n, m, rfl, hw, hw'⟩

end Go.Proofs.Ytmaidjankakppaa

namespace Go.Proofs.Ytmaidjankakppaa
set_option maxRecDepth 100000
open Go.ChangeShapes Go.WideShapes Go.ChangeAt Go.RowKit

/-- An array of two numbers that came in. -/
theorem open_pair {H : Type} {enc : TypeId × Value → H} {w : World} {base : Nat} {v : Value} {d : DataW H} {p : List MemPlace}
    (hok : Value.okWide Try.prog w .any base 58 v) (h : DataW.Trod enc Try.prog w 0 (fun _ => true) true 58 v d p) :
    ∃ x y, v = .agg #[.int .i64 x, .int .i64 y] ∧ (Lit.int .i64 x).wf = true ∧ (Lit.int .i64 y).wf = true := by
  simp only [Value.okWide, Try.underlying58] at hok
  obtain ⟨cs, rfl, hsz, _⟩ := hok
  obtain ⟨x, y, rfl⟩ := two_cells (hsz.trans (by kernel_rfl))
  obtain ⟨fuel, hf⟩ := h
  obtain ⟨xs, n, _, _, _, hxl, hx⟩ := DataW.trod_array Try.underlying58 hf
  have c3 : Try.prog.cellsOf 3 = 1 := by kernel_rfl
  have h0 := hx 0 (by omega)
  have h1 := hx 1 (by omega)
  simp only [c3] at h0 h1
  rw [List.getElem?_eq_getElem (by omega)] at h0 h1
  obtain ⟨n, rfl, hw⟩ := cell_of_int Try.underlying3 h0
  obtain ⟨m, rfl, hw'⟩ := cell_of_int Try.underlying3 h1
  exact ⟨n, m, rfl, hw, hw'⟩
end Go.Proofs.Ytmaidjankakppaa

namespace Go.Proofs.Ytmaidjankakppaa
set_option maxRecDepth 100000
open Go.ChangeShapes Go.WideShapes Go.ChangeAt Go.RowKit

/-- Loads and parts that came in. -/
theorem open_numbers {H : Type} {enc : TypeId × Value → H} {w : World} {base : Nat} {v : Value} {d : DataW H} {p : List MemPlace}
    (hok : Value.okWide Try.prog w .any base 115 v) (h : DataW.Trod enc Try.prog w 0 (fun _ => true) true 115 v d p) :
    ∃ a n c l b m e k, v = .agg #[.slice a n c, .slice b m e] ∧ SI w a n c l ∧ (∀ q ∈ l, (Lit.int .i64 q).wf = true) ∧ SI w b m e k ∧ (∀ q ∈ k, (Lit.int .i64 q).wf = true) := by
  obtain ⟨cs, rfl, hsz, hall, hf⟩ := open_struct (ts := [22, 22]) Try.underlying115 (by kernel_rfl) hok h
  obtain ⟨x, y, rfl⟩ := two_cells (hsz.trans (by kernel_rfl))
  obtain ⟨m0, x0, h0⟩ := hf 0 _ rfl
  obtain ⟨m1, x1, h1⟩ := hf 1 _ rfl
  have c22 : Try.prog.cellsOf 22 = 1 := by kernel_rfl
  simp only [c22] at h0 h1
  obtain ⟨ty, hty, ho⟩ := hall 0 x rfl
  cases hty
  obtain ⟨k1, d', p', k2⟩ := cell_of_slice Try.underlying22 ho h0
  obtain ⟨a, n, c, l, rfl, hs, hwl⟩ := open_nums k1 k2
  obtain ⟨ty, hty, ho⟩ := hall 1 y rfl
  cases hty
  obtain ⟨k1, d', p', k2⟩ := cell_of_slice Try.underlying22 ho h1
  obtain ⟨a', n', c', l', rfl, hs', hwl'⟩ := open_nums k1 k2
  exact ⟨a, n, c, l, a', n', c', l', rfl, hs, hwl, hs', hwl'⟩

/-- An array of two lists of numbers that came in. -/
theorem open_lists2 {H : Type} {enc : TypeId × Value → H} {w : World} {base : Nat} {v : Value} {d : DataW H} {p : List MemPlace}
    (hok : Value.okWide Try.prog w .any base 131 v) (h : DataW.Trod enc Try.prog w 0 (fun _ => true) true 131 v d p) :
    ∃ a n c l b m e k, v = .agg #[.slice a n c, .slice b m e] ∧ SI w a n c l ∧ (∀ q ∈ l, (Lit.int .i64 q).wf = true) ∧ SI w b m e k ∧ (∀ q ∈ k, (Lit.int .i64 q).wf = true) := by
  simp only [Value.okWide, Try.underlying131] at hok
  obtain ⟨cs, rfl, hsz, ts', hts', _, hall⟩ := hok
  have hts : Try.prog.cellTypes Try.prog.depth 131 = some [22, 22] := by kernel_rfl
  rw [hts] at hts'
  cases hts'
  obtain ⟨x, y, rfl⟩ := two_cells (hsz.trans (by kernel_rfl))
  obtain ⟨fuel, hf⟩ := h
  obtain ⟨xs, n, _, _, _, hxl, hx⟩ := DataW.trod_array Try.underlying131 hf
  have c3 : Try.prog.cellsOf 22 = 1 := by kernel_rfl
  have h0 := hx 0 (by omega)
  have h1 := hx 1 (by omega)
  simp only [c3] at h0 h1
  rw [List.getElem?_eq_getElem (by omega)] at h0 h1
  obtain ⟨ty, hty, ho⟩ := hall 0 x rfl
  cases hty
  obtain ⟨k1, d', p', k2⟩ := cell_of_slice Try.underlying22 ho h0
  obtain ⟨a, n, c, l, rfl, hs, hwl⟩ := open_nums k1 k2
  obtain ⟨ty, hty, ho⟩ := hall 1 y rfl
  cases hty
  obtain ⟨k1, d', p', k2⟩ := cell_of_slice Try.underlying22 ho h1
  obtain ⟨a', n', c', l', rfl, hs', hwl'⟩ := open_nums k1 k2
  exact ⟨a, n, c, l, a', n', c', l', rfl, hs, hwl, hs', hwl'⟩
end Go.Proofs.Ytmaidjankakppaa

namespace Go.Proofs.Ytmaidjankakppaa
open Go.RowKit
open Calmly (Kept)

set_option maxHeartbeats 400000 in
theorem mWithin_any (n lo hi : Int) (w : World) :
    Calls Try.prog 93 #[.int .i64 n, .int .i64 lo, .int .i64 hi] w fun e w' => e = .returned (.bool (wIn n lo hi)) ∧ w = w' := by
  go_enter Try.func93, Try.ntmps93
  go_wp2
  · go_ret
    refine ⟨ret_bool ?_, rfl⟩
    have h : lo ≤ n := by assumption
    simp [wIn, h]
  · go_ret
    refine ⟨ret_bool ?_, rfl⟩
    have : wIn n lo hi = false := wIn_false.2 (.inl (by assumption))
    rw [this]

theorem isSized_any (n m : Int) (w : World) (h1 : -9223372036854775807 ≤ m) (h2 : m ≤ 9223372036854775807) :
    Calls Try.prog 120 #[.int .i64 n, .int .i64 m] w fun e w' => e = .returned (.bool (wIn n (-m) m)) ∧ w = w' := by
  go_enter Try.func120, Try.ntmps120
  go_wp2_with fail
  refine (mWithin_any n (-m) m _).mono ?_
  rintro e w1 ⟨rfl, rfl⟩
  go_wp2_with fail
  go_ret
  exact ⟨rfl, rfl⟩

theorem isDen_any (n : Int) (w : World) :
    Calls Try.prog 104 #[.int .i64 n] w fun e w' => e = .returned (.bool (wIn n 1 50)) ∧ w = w' := by
  go_enter Try.func104, Try.ntmps104
  go_wp2_with fail
  refine (mWithin_any n 1 50 _).mono ?_
  rintro e w1 ⟨rfl, rfl⟩
  go_wp2_with fail
  go_ret
  exact ⟨rfl, rfl⟩

/-- No error if something is so. -/
def unlessE (b : Bool) (x : Int) : Int := if b then 0 else x
theorem unless_any (b : Bool) (x : Int) (w : World) :
    Calls Try.prog 92 #[.bool b, .int .i64 x] w fun e w' => e = .returned (.int .i64 (unlessE b x)) ∧ w = w' := by
  cases b
  · go_enter Try.func92, Try.ntmps92
    go_wp2
    go_ret
    exact ⟨rfl, rfl⟩
  · go_enter Try.func92, Try.ntmps92
    go_wp2
    go_ret
    exact ⟨rfl, rfl⟩

theorem sign_any (n : Int) (w : World) :
    Calls Try.prog 123 #[.int .i64 n] w fun e w' => e = .returned (.int .i64 n.sign) ∧ w = w' := by
  rcases Int.lt_trichotomy n 0 with h | h | h
  · have h2 : ¬ 0 < n := by omega
    go_enter Try.func123, Try.ntmps123
    go_wp2
    go_ret
    exact ⟨ret_int (Int.sign_eq_neg_one_of_neg h).symm, rfl⟩
  · subst h
    go_enter Try.func123, Try.ntmps123
    go_wp2
    go_ret
    exact ⟨rfl, rfl⟩
  · go_enter Try.func123, Try.ntmps123
    go_wp2
    go_ret
    exact ⟨ret_int (Int.sign_eq_one_of_pos h).symm, rfl⟩

/-- The first number of a list that is not 0. -/
def firstE : List Int → Int
  | [] => 0
  | x :: l => if x = 0 then firstE l else x
theorem firstE_drop (xs : List Int) (k : Nat) (h : k < xs.length) : firstE (xs.drop k) = if xs[k]?.getD 0 = 0 then firstE (xs.drop (k + 1)) else xs[k]?.getD 0 := by
  rw [List.drop_eq_getElem_cons h]
  simp [firstE, h]

set_option maxRecDepth 100000 in
set_option maxHeartbeats 400000 in
theorem first_any (a : Option Addr) (n c : Nat) (xs : List Int) (w : World) (h1 : SI w a n c xs) :
    Calls Try.prog 91 #[.slice a n c] w fun e w' => e = .returned (.int .i64 (firstE xs)) ∧ w = w' := by
  obtain ⟨l1, l2⟩ : n ≤ xs.length ∧ xs.length ≤ n := by have := h1.len; omega
  have m1 := h1.max
  have c1 := h1.cap
  go_enter Try.func91, Try.ntmps91
  go_wp2
  go_loop [7] (fun i => ∃ k : Nat, k ≤ n ∧ i = .int .i64 k ∧ firstE xs = firstE (xs.drop k)) (fun i => n - (intOf i).toNat)
  case atStart => exact ⟨0, by omega, rfl, rfl⟩
  case round =>
    obtain ⟨k, hk, rfl, ht⟩ := hrel
    have HT := Lib.hid ht
    clear ht
    by_cases hlt : k < n
    · obtain ⟨b1, o1, rfl, hc1⟩ := h1.at_ (by omega)
      have e1 := hc1 k hlt
      clear hc1
      have hd := firstE_drop xs k (by omega)
      have HD := Lib.hid hd
      clear hd
      have hi : (k : Int) < (n : Int) := by omega
      have hi0 : (0 : Int) ≤ (k : Int) := by omega
      go_wp2
      · have hne : (xs[k]?.getD 0 != 0) = true := by assumption
        go_ret
        refine ⟨ret_int ?_, rfl⟩
        rw [HT.out, HD.out, if_neg (by simpa using hne)]
      · have hne : (xs[k]?.getD 0 != 0) = false := by assumption
        go_round
        case rel => exact ⟨k + 1, by omega, by go_num, by rw [HT.out, HD.out, if_pos (by simpa using hne)]⟩
        case measure => simp [intOf]; omega
    · have hle : (n : Int) ≤ (k : Int) := by omega
      go_wp2
      go_ret
      refine ⟨ret_int ?_, rfl⟩
      rw [HT.out, List.drop_eq_nil_of_le (by omega)]
      rfl

/-- A list of two errors, as the call lays it. -/
theorem SI.two (w : World) (x y : Int) (e : TypeId) {r : Nat} (hr : r = w.heap.size) : SI (w.alloc (.cells #[.int .i64 x, .int .i64 y] e)) (some ⟨r, 0, none⟩) 2 2 [x, y] := by
  subst hr
  refine ⟨rfl, Nat.le_refl _, by unfold maxLen; omega, .inr ⟨_, 0, rfl, fun i hi => ?_⟩⟩
  rw [Nat.zero_add, cell_block (alloc_new _ _)]
  simp
theorem SI.three (w : World) (x y z : Int) (e : TypeId) {r : Nat} (hr : r = w.heap.size) : SI (w.alloc (.cells #[.int .i64 x, .int .i64 y, .int .i64 z] e)) (some ⟨r, 0, none⟩) 3 3 [x, y, z] := by
  subst hr
  refine ⟨rfl, Nat.le_refl _, by unfold maxLen; omega, .inr ⟨_, 0, rfl, fun i hi => ?_⟩⟩
  rw [Nat.zero_add, cell_block (alloc_new _ _)]
  simp
theorem SI.four (w : World) (x y z u : Int) (e : TypeId) {r : Nat} (hr : r = w.heap.size) : SI (w.alloc (.cells #[.int .i64 x, .int .i64 y, .int .i64 z, .int .i64 u] e)) (some ⟨r, 0, none⟩) 4 4 [x, y, z, u] := by
  subst hr
  refine ⟨rfl, Nat.le_refl _, by unfold maxLen; omega, .inr ⟨_, 0, rfl, fun i hi => ?_⟩⟩
  rw [Nat.zero_add, cell_block (alloc_new _ _)]
  simp

/-- The greatest common divisor of a list. -/
def gcds (l : List Int) : Nat := l.foldl (fun g x => Int.gcd g x) 0
theorem gcds_take (xs : List Int) (k : Nat) (h : k < xs.length) : gcds (xs.take (k + 1)) = Int.gcd (gcds (xs.take k)) (xs[k]?.getD 0) := by
  unfold gcds
  rw [List.take_succ_eq_append_getElem h, List.foldl_append, List.getElem?_eq_getElem h]
  rfl

set_option maxRecDepth 100000 in
set_option maxHeartbeats 1000000 in
theorem divisor_any (a : Option Addr) (n c : Nat) (xs : List Int) (w : World) (h1 : SI w a n c xs) (hb : ∀ x ∈ xs, -9223372036854775807 ≤ x ∧ x ≤ 9223372036854775807) :
    Calls Try.prog 129 #[.slice a n c] w fun e w' => e = .returned (.int .i64 (gcds xs)) ∧ ∃ n, w' = w.drewN n := by
  obtain ⟨l1, l2⟩ : n ≤ xs.length ∧ xs.length ≤ n := by have := h1.len; omega
  have m1 := h1.max
  have c1 := h1.cap
  have HB := Lib.hid hb
  clear hb
  go_enter Try.func129, Try.ntmps129
  go_wp2
  go_loopw [3, 8] (fun g i wr => ∃ (k : Nat) (p : Int), k ≤ n ∧ i = .int .i64 k ∧ g = .int .i64 p ∧ p.natAbs = gcds (xs.take k) ∧ -9223372036854775807 ≤ p ∧ p ≤ 9223372036854775807 ∧ ∃ n, wr = w.drewN n) (fun _ i _ => n - (intOf i).toNat)
  case atStart => exact ⟨0, 0, by omega, rfl, rfl, rfl, by omega, by omega, 0, rfl⟩
  case round =>
    obtain ⟨k, p, hk, rfl, rfl, hg, hp1, hp2, q, rfl⟩ := hrel
    have HG := Lib.hid hg
    clear hg
    by_cases hlt : k < n
    · obtain ⟨b1, o1, rfl, hc1⟩ := h1.at_ (by omega)
      have e1 := hc1 k hlt
      clear hc1
      have hd := gcds_take xs k (by omega)
      rw [← HG.out] at hd
      have HD := Lib.hid hd
      clear hd
      have hx : -9223372036854775807 ≤ xs[k]?.getD 0 ∧ xs[k]?.getD 0 ≤ 9223372036854775807 := by
        have : k < xs.length := by omega
        simp only [List.getElem?_eq_getElem this, Option.getD_some]
        exact HB.out _ (List.getElem_mem this)
      obtain ⟨hx1, hx2⟩ := hx
      generalize xs[k]?.getD 0 = x at *
      have hi : (k : Int) < (n : Int) := by omega
      have hi0 : (0 : Int) ≤ (k : Int) := by omega
      go_wp2_with fail
      go_loopw [3, 5] (fun g y wr => ∃ (u v : Int), g = .int .i64 u ∧ y = .int .i64 v ∧ Int.gcd u v = Int.gcd p x ∧ -9223372036854775807 ≤ u ∧ u ≤ 9223372036854775807 ∧ -9223372036854775807 ≤ v ∧ v ≤ 9223372036854775807 ∧ ∃ n, wr = w.drewN n) (fun _ y _ => (intOf y).natAbs)
      case atStart => exact ⟨p, x, rfl, rfl, rfl, hp1, hp2, hx1, hx2, q, rfl⟩
      case round =>
        obtain ⟨u, v, rfl, rfl, hg, hu1, hu2, hv1, hv2, q', rfl⟩ := hrel
        have HG2 := Lib.hid hg
        clear hg
        by_cases hz : v = 0
        · have hb : (v != 0) = false := by simp [hz]
          have Hz := Lib.hid hz
          clear hz
          go_wp2_with fail
          go_round
          case rel =>
            refine ⟨k + 1, u, by omega, by go_num, rfl, ?_, hu1, hu2, q', rfl⟩
            have := HG2.out
            rw [Hz.out] at this
            have h3 := HD.out
            rw [Int.gcd] at h3 this
            simp at h3 this
            rw [h3, this, Int.gcd]
          case measure => simp [intOf]; omega
        · have hb : (v != 0) = true := by simpa using hz
          have h1 := tmod_bd (a := u) hz hv1 hv2
          have h2 := tmod_lt (a := u) hz
          have hc : (v == 0) = false := by simpa using hz
          go_wp2_with fail
          refine Calmly.wp_region_mix 5 (.fl 0 <| .fl 1 <| .fl 2 <| .fl 3 <| .fl 4 <| .tail [5]) (by kernel_rfl) (by kernel_rfl) ?_
          go_wp2_with (first | ((with_reducible refine Calmly.is_fl ?_); refine Calmly.mix_fl rfl ?_ (fun _ _ => ?_); (first | exact .move _ | exact .load _ _ | exact .fieldAddr _ _ _ (by kernel_rfl) | exact .assign _ | exact .binOp _ _ _ _ _ rfl | exact .indexAddr _ _ _ | exact .len _ _ (by kernel_rfl) | exact .field _ _ _ | exact .extract _ _ | exact .pick _ _ _ | exact .build _ _ | exact .slice _ _ _ _ _ | exact .unOp _ _ _ rfl | exact .index _ _ _ | exact .max _ _ _ rfl rfl | exact .min _ _ _ rfl rfl)) | ((with_reducible refine Calmly.is_gl ?_); refine Calmly.mix_gl rfl rfl rfl ?_; first | ((first | with_reducible refine Calmly.gl_tt ?_ (fun _ _ => ?_) | with_reducible refine Calmly.gl_ff ?_ (fun _ _ => ?_)); (first | exact .move _ | exact .load _ _ | exact .fieldAddr _ _ _ (by kernel_rfl) | exact .assign _ | exact .binOp _ _ _ _ _ rfl | exact .indexAddr _ _ _ | exact .len _ _ (by kernel_rfl) | exact .field _ _ _ | exact .extract _ _ | exact .pick _ _ _ | exact .build _ _ | exact .slice _ _ _ _ _ | exact .unOp _ _ _ rfl | exact .index _ _ _ | exact .max _ _ _ rfl rfl | exact .min _ _ _ rfl rfl)) | with_reducible refine Calmly.gl_tf (fun _ _ => ?_) | with_reducible refine Calmly.gl_ft (fun _ _ => ?_)) | ((with_reducible refine Calmly.is_eff ?_); refine Calmly.mix_eff rfl (fun _ _ => ?_)) | ((with_reducible refine Calmly.is_gf ?_); refine Calmly.mix_gf rfl rfl rfl ?_; first | with_reducible refine Calmly.gf_tt (fun _ _ => ?_) | with_reducible refine Calmly.gf_ff (fun _ _ => ?_) | with_reducible refine Calmly.gf_tf (kept_of hk) (fun _ _ => ?_) | with_reducible refine Calmly.gf_ft (kept_of hk) (fun _ _ => ?_)) | ((with_reducible refine Calmly.is_tail ?_); first | refine Calmly.mix_tail_nil ?_ | refine Calmly.mix_tail rfl (fun _ _ => ?_)) | ((with_reducible refine Calmly.is_kept ?_); refine ⟨kept_of hk, ?_⟩) | (with_reducible refine Calmly.mix_alt ?_ ?_))
          go_roundw
          case rel => exact ⟨v, u.tmod v, rfl, rfl, by rw [gcd_step]; exact HG2.out, hv1, hv2, h1.1, h1.2, q' + 1, rfl⟩
          case measure => simpa [intOf] using h2
    · have hle : (n : Int) ≤ (k : Int) := by omega
      by_cases hlt2 : p < -p
      · go_wp2_with fail
        go_ret
        refine ⟨ret_int ?_, q, rfl⟩
        have := HG.out
        rw [List.take_of_length_le (by omega)] at this
        rw [← this]
        omega
      · go_wp2_with fail
        go_ret
        refine ⟨ret_int ?_, q, rfl⟩
        have := HG.out
        rw [List.take_of_length_le (by omega)] at this
        rw [← this]
        omega
end Go.Proofs.Ytmaidjankakppaa

namespace Go.Proofs.Ytmaidjankakppaa
open Go.RowKit
open Calmly (Kept)

set_option maxHeartbeats 1000000 in
theorem above_any (a b : Option Addr) (n c m d : Nat) (ks : List Int) (i : Int) (w : World) (h1 : SI w b m d ks) (hi : 0 ≤ i) (hi2 : i < 9223372036854775807) :
    Calls Try.prog 95 #[.agg #[.slice a n c, .slice b m d], .int .i64 i] w fun e w' => e = .returned (.int .i64 (ks[i.toNat + 1]?.getD 0)) ∧ Below w.heap.size w w' := by
  obtain ⟨l1, l2⟩ : m ≤ ks.length ∧ ks.length ≤ m := by have := h1.len; omega
  have m1 := h1.max
  have c1 := h1.cap
  have hb : ∀ o, Below w.heap.size w (w.alloc o) := fun o => (Below.refl _ _).alloc (Nat.le_refl _) _
  by_cases hlt : i + 1 < m
  · obtain ⟨b1, o1, rfl, hc1⟩ := h1.at_ (by omega)
    have e1 := hc1 (i.toNat + 1) (by omega)
    clear hc1
    have hlt' := cell_lt e1
    have hj : (i + 1).toNat = i.toNat + 1 := by omega
    go_enter Try.func95, Try.ntmps95
    go_wp2
    go_ret
    exact ⟨rfl, hb _⟩
  · have hge : (m : Int) ≤ i + 1 := by omega
    go_enter Try.func95, Try.ntmps95
    go_wp2
    go_ret
    refine ⟨ret_int ?_, hb _⟩
    rw [List.getElem?_eq_none (by omega)]
    rfl

theorem gcds_two (x y : Int) : gcds [x, y] = Int.gcd x y := by
  show Int.gcd ((Int.gcd 0 x : Nat) : Int) y = _
  simp [Int.gcd]

set_option maxRecDepth 100000 in
set_option maxHeartbeats 1000000 in
theorem fraction_any (x y : Int) (w : World) (hx1 : -9223372036854775807 ≤ x) (hx2 : x ≤ 9223372036854775807) (hy1 : 0 < y) (hy2 : y ≤ 9223372036854775807) :
    Calls Try.prog 96 #[.int .i64 x, .int .i64 y] w fun e w' => e = .returned (.agg #[.int .i64 (x.tdiv (Int.gcd x y)), .int .i64 (y.tdiv (Int.gcd x y))]) ∧ Below w.heap.size w w' := by
  go_enter Try.func96, Try.ntmps96
  go_wp2_with fail
  refine (divisor_any _ 2 2 [x, y] _ (SI.two _ x y _ (by simp)) (by simp; omega)).mono ?_
  rintro e w1 ⟨rfl, k, rfl⟩
  rw [gcds_two]
  have hg0 : (0 : Int) < Int.gcd x y := by have := Int.gcd_pos_of_ne_zero_right (a := x) (b := y) (by omega); omega
  have hg1 : (Int.gcd x y : Int) ≤ 9223372036854775807 := by have := Int.gcd_le_right x hy1; omega
  obtain ⟨g, hgg⟩ : ∃ g : Int, (Int.gcd x y : Int) = g := ⟨_, rfl⟩
  rw [hgg] at hg0 hg1 ⊢
  have HGG := Lib.hid hgg
  clear hgg
  have hg2 : (g == 0) = false := by simp; omega
  have b1 : -9223372036854775807 ≤ x.tdiv g ∧ x.tdiv g ≤ 9223372036854775807 := by
    have := Int.natAbs_tdiv_le_natAbs x g
    omega
  have b2 : -9223372036854775807 ≤ y.tdiv g ∧ y.tdiv g ≤ 9223372036854775807 := by
    have := Int.natAbs_tdiv_le_natAbs y g
    omega
  obtain ⟨b11, b12⟩ := b1
  obtain ⟨b21, b22⟩ := b2
  go_wp2_with fail
  refine Calmly.wp_region_mix 6 (.fl 0 <| .fl 1 <| .fl 2 <| .fl 3 <| .fl 4 <| .fl 5 <| .tail [6, 7]) (by kernel_rfl) (by kernel_rfl) ?_
  go_wp2_with (first | ((with_reducible refine Calmly.is_fl ?_); refine Calmly.mix_fl rfl ?_ (fun _ _ => ?_); (first | exact .move _ | exact .load _ _ | exact .fieldAddr _ _ _ (by kernel_rfl) | exact .assign _ | exact .binOp _ _ _ _ _ rfl | exact .indexAddr _ _ _ | exact .len _ _ (by kernel_rfl) | exact .field _ _ _ | exact .extract _ _ | exact .pick _ _ _ | exact .build _ _ | exact .slice _ _ _ _ _ | exact .unOp _ _ _ rfl | exact .index _ _ _ | exact .max _ _ _ rfl rfl | exact .min _ _ _ rfl rfl)) | ((with_reducible refine Calmly.is_gl ?_); refine Calmly.mix_gl rfl rfl rfl ?_; first | ((first | with_reducible refine Calmly.gl_tt ?_ (fun _ _ => ?_) | with_reducible refine Calmly.gl_ff ?_ (fun _ _ => ?_)); (first | exact .move _ | exact .load _ _ | exact .fieldAddr _ _ _ (by kernel_rfl) | exact .assign _ | exact .binOp _ _ _ _ _ rfl | exact .indexAddr _ _ _ | exact .len _ _ (by kernel_rfl) | exact .field _ _ _ | exact .extract _ _ | exact .pick _ _ _ | exact .build _ _ | exact .slice _ _ _ _ _ | exact .unOp _ _ _ rfl | exact .index _ _ _ | exact .max _ _ _ rfl rfl | exact .min _ _ _ rfl rfl)) | with_reducible refine Calmly.gl_tf (fun _ _ => ?_) | with_reducible refine Calmly.gl_ft (fun _ _ => ?_)) | ((with_reducible refine Calmly.is_eff ?_); refine Calmly.mix_eff rfl (fun _ _ => ?_)) | ((with_reducible refine Calmly.is_gf ?_); refine Calmly.mix_gf rfl rfl rfl ?_; first | with_reducible refine Calmly.gf_tt (fun _ _ => ?_) | with_reducible refine Calmly.gf_ff (fun _ _ => ?_) | with_reducible refine Calmly.gf_tf (kept_of hk) (fun _ _ => ?_) | with_reducible refine Calmly.gf_ft (kept_of hk) (fun _ _ => ?_)) | ((with_reducible refine Calmly.is_tail ?_); first | refine Calmly.mix_tail_nil ?_ | refine Calmly.mix_tail rfl (fun _ _ => ?_)) | ((with_reducible refine Calmly.is_kept ?_); refine ⟨kept_of hk, ?_⟩) | (with_reducible refine Calmly.mix_alt ?_ ?_))
  refine bodyPost_ret (v := .agg #[.int .i64 (x.tdiv g), .int .i64 (y.tdiv g)]) (by simp [results, Try.results96, go_sem]) rfl ⟨by rw [HGG.out], ?_⟩
  exact ((below_drewN (((Below.refl _ _).alloc (Nat.le_refl _) _).alloc (by simp) _) k).drew.setCell (by simp) _).setCell (by simp) _
/-- The first storey that is not valid. -/
def badF : Nat → List Int → List Int → Int × Int
  | _, [], _ => (0, 0)
  | i, m :: ms, ks => if wIn m 1 10 && wIn (ks.head?.getD 0) 1 20 then badF (i + 1) ms ks.tail else ((i : Int), 2)
theorem badF_drop (ms ks : List Int) (k : Nat) (h : k < ms.length) : badF k (ms.drop k) (ks.drop k) =
    if wIn (ms[k]?.getD 0) 1 10 && wIn (ks[k]?.getD 0) 1 20 then badF (k + 1) (ms.drop (k + 1)) (ks.drop (k + 1)) else ((k : Int), 2) := by
  rw [List.drop_eq_getElem_cons h]
  simp [badF, h]
/-- The index and the error of a frame. -/
def checkF (ms ks : List Int) : Int × Int := if ms.length = 0 ∨ ks.length ≠ ms.length then (0, 10) else if 4 < ms.length then (0, 8) else badF 0 ms ks
theorem checkF_shape {ms ks : List Int} (h : ms.length = 0 ∨ ks.length ≠ ms.length) : checkF ms ks = (0, 10) := by unfold checkF; rw [if_pos h]
theorem checkF_large {ms ks : List Int} (h : ¬ (ms.length = 0 ∨ ks.length ≠ ms.length)) (h2 : 4 < ms.length) : checkF ms ks = (0, 8) := by unfold checkF; rw [if_neg h, if_pos h2]
theorem checkF_rest {ms ks : List Int} (h : ¬ (ms.length = 0 ∨ ks.length ≠ ms.length)) (h2 : ¬ 4 < ms.length) : checkF ms ks = badF 0 ms ks := by unfold checkF; rw [if_neg h, if_neg h2]

theorem ret_two {a b c d : Int} (h : (a, b) = (c, d)) : Ending.returned (Value.tuple #[.int .i64 a, .int .i64 b]) = .returned (.tuple #[.int .i64 c, .int .i64 d]) := by cases h; rfl

set_option maxRecDepth 100000 in
set_option maxHeartbeats 2000000 in
theorem rCheckFrame_any (a b : Option Addr) (n c m d : Nat) (ms ks : List Int) (w : World) (h1 : SI w a n c ms) (h2 : SI w b m d ks) :
    Calls Try.prog 21 #[.agg #[.slice a n c, .slice b m d]] w fun e w' => e = .returned (.tuple #[.int .i64 (checkF ms ks).1, .int .i64 (checkF ms ks).2]) ∧ Below w.heap.size w w' := by
  obtain ⟨l1, l2⟩ : n ≤ ms.length ∧ ms.length ≤ n := by have := h1.len; omega
  obtain ⟨k1, k2⟩ : m ≤ ks.length ∧ ks.length ≤ m := by have := h2.len; omega
  have m1 := h1.max
  have c1 := h1.cap
  have m2 := h2.max
  have c2 := h2.cap
  have hb : ∀ o, Below w.heap.size w (w.alloc o) := fun o => (Below.refl _ _).alloc (Nat.le_refl _) _
  by_cases hz : n = 0
  · have hn : ((n : Int) == 0) = true := by simp [hz]
    have hr := checkF_shape (ms := ms) (ks := ks) (.inl (by omega))
    have HR := Lib.hid hr
    clear hr
    go_enter Try.func21, Try.ntmps21
    go_wp2
    go_ret2
    exact ⟨ret_two HR.out.symm, hb _⟩
  have hn : ((n : Int) == 0) = false := by simp [hz]
  by_cases he : m = n
  case neg =>
    have hn2 : ((m : Int) != (n : Int)) = true := by simp; omega
    have hr := checkF_shape (ms := ms) (ks := ks) (.inr (by omega))
    have HR := Lib.hid hr
    clear hr
    go_enter Try.func21, Try.ntmps21
    go_wp2
    go_ret2
    exact ⟨ret_two HR.out.symm, hb _⟩
  subst he
  by_cases hl : 4 < m
  · have hr := checkF_large (ms := ms) (ks := ks) (by omega) (by omega)
    have HR := Lib.hid hr
    clear hr
    go_enter Try.func21, Try.ntmps21
    go_wp2
    go_ret2
    exact ⟨ret_two HR.out.symm, hb _⟩
  have hr := checkF_rest (ms := ms) (ks := ks) (by omega) (by omega)
  have HR := Lib.hid hr
  clear hr
  go_enter Try.func21, Try.ntmps21
  go_wp2
  go_loop [4] (fun i => ∃ k : Nat, k ≤ m ∧ i = .int .i64 k ∧ badF 0 ms ks = badF k (ms.drop k) (ks.drop k)) (fun i => m - (intOf i).toNat)
  case atStart => exact ⟨0, by omega, rfl, rfl⟩
  case round =>
    obtain ⟨k, hk, rfl, ht⟩ := hrel
    have HT := Lib.hid ht
    clear ht
    by_cases hlt : k < m
    · obtain ⟨b1, o1, rfl, hc1⟩ := h1.at_ (by omega)
      obtain ⟨b2, o2, rfl, hc2⟩ := h2.at_ (by omega)
      have e1 := hc1 k hlt
      have e2 := hc2 k hlt
      clear hc1 hc2
      have hlt1 := cell_lt e1
      have hlt2 := cell_lt e2
      have hd := badF_drop ms ks k (by omega)
      have HD := Lib.hid hd
      clear hd
      have hi : (k : Int) < (m : Int) := by omega
      have hi0 : (0 : Int) ≤ (k : Int) := by omega
      go_wp2_with fail
      refine (within_any _ 1 10 _).mono ?_
      rintro e w1 ⟨rfl, rfl⟩
      cases hw : wIn (ms[k]?.getD 0) 1 10
      · go_wp2_with fail
        go_ret2
        refine ⟨ret_two ?_, hb _⟩
        rw [HR.out, HT.out, HD.out, hw]
        rfl
      · go_wp2_with fail
        refine (within_any _ 1 20 _).mono ?_
        rintro e w1 ⟨rfl, rfl⟩
        cases hv : wIn (ks[k]?.getD 0) 1 20
        · go_wp2_with fail
          go_ret2
          refine ⟨ret_two ?_, hb _⟩
          rw [HR.out, HT.out, HD.out, hw, hv]
          rfl
        · go_wp2_with fail
          go_round
          case rel => exact ⟨k + 1, by omega, by go_num, by rw [HT.out, HD.out, hw, hv]; rfl⟩
          case measure => simp [intOf]; omega
    · have hle : (m : Int) ≤ (k : Int) := by omega
      go_wp2
      go_ret2
      refine ⟨ret_two ?_, hb _⟩
      rw [HR.out, HT.out, List.drop_eq_nil_of_le (by omega)]
      rfl

set_option maxHeartbeats 400000 in
theorem FrameErr_any (a b : Option Addr) (n c m d : Nat) (ms ks : List Int) (w : World) (h1 : SI w a n c ms) (h2 : SI w b m d ks) :
    Calls Try.prog 28 #[.agg #[.slice a n c, .slice b m d]] w fun e w' => e = .returned (.int .i64 (checkF ms ks).2) ∧ Below w.heap.size w w' := by
  have hb : ∀ o, Below w.heap.size w (w.alloc o) := fun o => (Below.refl _ _).alloc (Nat.le_refl _) _
  go_enter Try.func28, Try.ntmps28
  go_wp2_with fail
  refine (rCheckFrame_any a b n c m d ms ks _ (h1.keep (hb _)) (h2.keep (hb _))).mono ?_
  rintro e w1 ⟨rfl, hb1⟩
  go_wp2_with fail
  go_ret
  exact ⟨rfl, (hb _).trans (hb1.mono (by simp))⟩

set_option maxHeartbeats 1000000 in
theorem Own_any (a b : Option Addr) (n c m d : Nat) (ks : List Int) (i : Int) (w : World) (h1 : SI w b m d ks) (hi : 0 ≤ i) (hi2 : i < m) (hks : ∀ k ∈ ks, 1 ≤ k ∧ k ≤ 20) :
    Calls Try.prog 97 #[.agg #[.slice a n c, .slice b m d], .int .i64 i] w fun e w' => e = .returned (.int .i64 (ks[i.toNat]?.getD 0 + ks[i.toNat + 1]?.getD 0)) ∧ Below w.heap.size w w' := by
  obtain ⟨l1, l2⟩ : m ≤ ks.length ∧ ks.length ≤ m := by have := h1.len; omega
  have m1 := h1.max
  have c1 := h1.cap
  have hb : ∀ o, Below w.heap.size w (w.alloc o) := fun o => (Below.refl _ _).alloc (Nat.le_refl _) _
  have hk : ∀ j, j < m → 1 ≤ ks[j]?.getD 0 ∧ ks[j]?.getD 0 ≤ 20 := fun j hj => by
    have : j < ks.length := by omega
    rw [List.getElem?_eq_getElem this]
    exact hks _ (List.getElem_mem this)
  obtain ⟨b1, o1, rfl, hc1⟩ := h1.at_ (by omega)
  have e1 := hc1 i.toNat (by omega)
  have hlt' := cell_lt e1
  obtain ⟨x1, x2⟩ := hk i.toNat (by omega)
  by_cases hlt : i + 1 < m
  · have e2 := hc1 (i.toNat + 1) (by omega)
    obtain ⟨y1, y2⟩ := hk (i.toNat + 1) (by omega)
    clear hc1 hk hks
    have hj : (i + 1).toNat = i.toNat + 1 := by omega
    go_enter Try.func97, Try.ntmps97
    go_wp2_with fail
    refine Calmly.wp_region_mix 11 (.fl 0 <| .fl 1 <| .fl 2 <| .fl 3 <| .fl 4 <| .fl 5 <| .fl 6 <| .fl 7 <| .fl 8 <| .fl 9 <| .fl 10 <| .tail [11, 12]) (by kernel_rfl) (by kernel_rfl) ?_
    go_wp2_with (first | ((with_reducible refine Calmly.is_fl ?_); refine Calmly.mix_fl rfl ?_ (fun _ _ => ?_); (first | exact .move _ | exact .load _ _ | exact .fieldAddr _ _ _ (by kernel_rfl) | exact .assign _ | exact .binOp _ _ _ _ _ rfl | exact .indexAddr _ _ _ | exact .len _ _ (by kernel_rfl) | exact .field _ _ _ | exact .extract _ _ | exact .pick _ _ _ | exact .build _ _ | exact .slice _ _ _ _ _ | exact .unOp _ _ _ rfl | exact .index _ _ _ | exact .max _ _ _ rfl rfl | exact .min _ _ _ rfl rfl)) | ((with_reducible refine Calmly.is_gl ?_); refine Calmly.mix_gl rfl rfl rfl ?_; first | ((first | with_reducible refine Calmly.gl_tt ?_ (fun _ _ => ?_) | with_reducible refine Calmly.gl_ff ?_ (fun _ _ => ?_)); (first | exact .move _ | exact .load _ _ | exact .fieldAddr _ _ _ (by kernel_rfl) | exact .assign _ | exact .binOp _ _ _ _ _ rfl | exact .indexAddr _ _ _ | exact .len _ _ (by kernel_rfl) | exact .field _ _ _ | exact .extract _ _ | exact .pick _ _ _ | exact .build _ _ | exact .slice _ _ _ _ _ | exact .unOp _ _ _ rfl | exact .index _ _ _ | exact .max _ _ _ rfl rfl | exact .min _ _ _ rfl rfl)) | with_reducible refine Calmly.gl_tf (fun _ _ => ?_) | with_reducible refine Calmly.gl_ft (fun _ _ => ?_)) | ((with_reducible refine Calmly.is_eff ?_); refine Calmly.mix_eff rfl (fun _ _ => ?_)) | ((with_reducible refine Calmly.is_gf ?_); refine Calmly.mix_gf rfl rfl rfl ?_; first | with_reducible refine Calmly.gf_tt (fun _ _ => ?_) | with_reducible refine Calmly.gf_ff (fun _ _ => ?_) | with_reducible refine Calmly.gf_tf (kept_of hk) (fun _ _ => ?_) | with_reducible refine Calmly.gf_ft (kept_of hk) (fun _ _ => ?_)) | ((with_reducible refine Calmly.is_tail ?_); first | refine Calmly.mix_tail_nil ?_ | refine Calmly.mix_tail rfl (fun _ _ => ?_)) | ((with_reducible refine Calmly.is_kept ?_); refine ⟨kept_of hk, ?_⟩) | (with_reducible refine Calmly.mix_alt ?_ ?_))
    go_ret
    exact ⟨rfl, (hb _).drew⟩
  · have hge : (m : Int) ≤ i + 1 := by omega
    clear hc1 hk hks
    go_enter Try.func97, Try.ntmps97
    go_wp2
    go_ret
    refine ⟨ret_int ?_, hb _⟩
    rw [List.getElem?_eq_none (l := ks) (i := i.toNat + 1) (by omega)]
    simp
end Go.Proofs.Ytmaidjankakppaa
