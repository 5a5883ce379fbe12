/- Rows of ranges of the call's own. The arguments of a law, opened: a slice that came in reads as a list of numbers. The arguments of a law, opened: structs that came in. The arguments of a law, opened: an array of two numbers. Numerals, and texts that are cut at a byte: plain laws, no program in sight. Texts as lists of bytes; the place of a byte. Rows of texts. -/
import Derived.Test.YteigmjlfpmdmoaaGreatDoorK02
import Derived.ProofKit
import Derived.OpenShut
import Derived.Lib.AtoiTie
import Derived.Lib.ItoaNum
import Derived.Lib.IndexMore
import Derived.Lib.Join
import Derived.Lib.Strings
import Derived.Lib.CutLaws
namespace Go.Proofs.YteigmjlfpmdmoaaGreatDoor
open Go.RowKit
open Calmly (Kept)

/-- The cells of ranges. -/
def rv (l : List (Int × Int)) : List Value := l.flatMap fun p => [Value.int .i64 p.1, Value.int .i64 p.2]
theorem rv_len (l : List (Int × Int)) : (rv l).length = l.length * 2 := by
  induction l with
  | nil => rfl
  | cons p l ih =>
    show (_ :: _ :: rv l).length = _
    simp [ih]
    omega
theorem rv_append (l m : List (Int × Int)) : rv (l ++ m) = rv l ++ rv m := by simp [rv]
theorem rv_get (l : List (Int × Int)) (i : Nat) (h : i < l.length) : (rv l)[2 * i]? = some (.int .i64 (l[i]?.getD (0, 0)).1) ∧ (rv l)[2 * i + 1]? = some (.int .i64 (l[i]?.getD (0, 0)).2) := by
  induction l generalizing i with
  | nil => simp at h
  | cons p l ih =>
    have e : rv (p :: l) = Value.int .i64 p.1 :: Value.int .i64 p.2 :: rv l := rfl
    rw [e]
    cases i with
    | zero => simp
    | succ i =>
      have := ih i (by simpa using h)
      rw [show 2 * (i + 1) = 2 * i + 1 + 1 by omega]
      simpa using this

/-- A slice of ranges. -/
def SR (w : World) (a : Option Addr) (n c : Nat) (l : List (Int × Int)) : Prop := Sl w 2 a n c (rv l)
theorem SR.keep {w w' : World} {a : Option Addr} {n c : Nat} {l : List (Int × Int)} (h : SR w a n c l) (hb : Below w.heap.size w w') : SR w' a n c l := Sl.keep h hb
theorem SR.len {w : World} {a : Option Addr} {n c : Nat} {l : List (Int × Int)} (h : SR w a n c l) : n = l.length := by have := h.1; rw [rv_len] at this; omega
theorem SR.cap {w : World} {a : Option Addr} {n c : Nat} {l : List (Int × Int)} (h : SR w a n c l) : n ≤ c := h.2.1
theorem SR.max {w : World} {a : Option Addr} {n c : Nat} {l : List (Int × Int)} (h : SR w a n c l) : c ≤ 9223372036854775807 := h.2.2.1
theorem SR.drew {w : World} {a : Option Addr} {n c : Nat} {l : List (Int × Int)} (h : SR w a n c l) : SR w.drew a n c l := h
theorem SR.nil (w : World) : SR w none 0 0 [] := Sl.nil w 2
/-- The place of a slice that has an element. -/
theorem SR.at_ {w : World} {a : Option Addr} {n c : Nat} {l : List (Int × Int)} (h : SR w a n c l) (hn : 0 < n) :
    ∃ b off, a = some ⟨b, off, none⟩ ∧ ∀ i, i < n → w.cell? ⟨b, off + i * 2, none⟩ = some (.int .i64 (l[i]?.getD (0, 0)).1) ∧ w.cell? ⟨b, off + i * 2 + 1, none⟩ = some (.int .i64 (l[i]?.getD (0, 0)).2) := by
  have hl := h.len
  obtain ⟨h1, h2, h3, h4⟩ := h
  rcases h4 with rfl | ⟨b, off, rfl, hc⟩
  · omega
  · refine ⟨b, off, rfl, fun i hi => ?_⟩
    obtain ⟨e1, e2⟩ := rv_get l i (by omega)
    rw [Nat.mul_comm i 2, hc (2 * i) (by omega), show off + 2 * i + 1 = off + (2 * i + 1) by omega, hc (2 * i + 1) (by omega)]
    exact ⟨e1, e2⟩

theorem Tryz.info_range : (Tryz.prog.info? 46).map (fun i => (i.zero, i.size, i.bytes)) = some (some (.agg #[.int .i64 0, .int .i64 0]), 2, 16) := by kernel_rfl

/-- A row of ranges of the call's own. -/
def OwR (w : World) (B : Nat) (a : Option Addr) (n c : Nat) (l : List (Int × Int)) : Prop := w.ownsRow B 46 2 (.slice a n c) n (rv l)
theorem OwR.nil (w : World) (B : Nat) : OwR w B none 0 0 [] := World.ownsRow_nil w B _ 2
theorem OwR.sr {w : World} {B : Nat} {a : Option Addr} {n c : Nat} {l : List (Int × Int)} (h : OwR w B a n c l) : SR w a n c l := by
  obtain ⟨a', c', he, hs⟩ := Sl.of_owns h
  cases he
  exact hs
theorem OwR.len {w : World} {B : Nat} {a : Option Addr} {n c : Nat} {l : List (Int × Int)} (h : OwR w B a n c l) : n = l.length := h.sr.len
theorem OwR.below {w w' : World} {B B' : Nat} {a : Option Addr} {n c : Nat} {l : List (Int × Int)} (h : OwR w B a n c l) (hb : Below B' w w') (hB : w.heap.size ≤ B') : OwR w' B a n c l := by
  obtain ⟨h1, h2⟩ := h
  refine ⟨h1, ?_⟩
  rcases h2 with h2 | ⟨g, cap, cur, hv, hg, hh, r⟩
  · exact .inl h2
  · refine .inr ⟨g, cap, cur, hv, hg, ?_, r⟩
    rw [hb.block g (by have := (Array.getElem?_eq_some_iff.1 hh).1; omega)]
    exact hh
theorem OwR.keep {w w' : World} {B : Nat} {a : Option Addr} {n c : Nat} {l : List (Int × Int)} (h : OwR w B a n c l) (hb : Below w.heap.size w w') : OwR w' B a n c l := h.below hb (Nat.le_refl _)
theorem OwR.drew {w : World} {B : Nat} {a : Option Addr} {n c : Nat} {l : List (Int × Int)} (h : OwR w B a n c l) : OwR w.drew B a n c l := h
theorem OwR.weak {w : World} {B B' : Nat} {a : Option Addr} {n c : Nat} {l : List (Int × Int)} (h : OwR w B a n c l) (hB : B' ≤ B) : OwR w B' a n c l := by
  obtain ⟨h1, h2⟩ := h
  refine ⟨h1, ?_⟩
  rcases h2 with h2 | ⟨g, cap, cur, hv, hg, r⟩
  · exact .inl h2
  · exact .inr ⟨g, cap, cur, hv, Nat.le_trans hB hg, r⟩
/-- A store below the call's own rows. -/
theorem OwR.under {w : World} {B : Nat} {a : Option Addr} {n c : Nat} {l : List (Int × Int)} (h : OwR w B a n c l) {r o : Nat} (hr : r < B) (v : Value) : OwR (w.setCell ⟨r, o, none⟩ v) B a n c l := by
  obtain ⟨h1, h2⟩ := h
  refine ⟨h1, ?_⟩
  rcases h2 with h2 | ⟨g, cap, cur, hv, hg, hh, r'⟩
  · exact .inl h2
  · refine .inr ⟨g, cap, cur, hv, hg, ?_, r'⟩
    rw [Below.heap_setCell _ _ _ _ (by show g ≠ r; omega)]
    exact hh
theorem appR {ops : Array Oper} {rest : List Oper} {o : Oper} {a : Act} {Q : Exit → Act → World → Prop} {w0 : World} {B : Nat} {av : Option Addr} {n c : Nat} {l : List (Int × Int)} {x y : Int} (hgd : o.guard = none) (s x' : Operand)
    (ho : o.op = .call { callee := .builtin .append, args := #[s, x'], argTypes := #[35, 35] })
    (hown : OwR w0 B av n c l) (hs : a.eval s = .slice av n c) (hx : a.eval x' = .slice (some ⟨w0.heap.size, 0, none⟩) 1 1)
    (hb1 : n + 1 ≤ 1099511627776) (hB : B ≤ w0.heap.size)
    (h : ∀ a' c' w', OwR w' B a' (n + 1) c' (l ++ [(x, y)]) → Below B w0 w' → w0.heap.size < w'.heap.size → wpList Tryz.prog ops Q rest (a.put o.dst (.slice a' (n + 1) c')) w') :
    wpList Tryz.prog ops Q (o :: rest) a (w0.alloc (.cells #[.int .i64 x, .int .i64 y] 46)) := by
  obtain ⟨i0, hi, hz0, hz1, hz2⟩ := info_parts Tryz.info_range
  refine app1 hgd s x' _ ho B _ i0 (.agg #[.int .i64 0, .int .i64 0]) 2 16 Tryz.underlying35 hi hz0 hz1 hz2 rfl (by decide) av n c _ hown #[.int .i64 x, .int .i64 y] hs hx rfl (by simp [Value.oneCell']) (by omega) (by omega) hB ?_
  intro a' c' w1 h1 h2 h3
  exact h a' c' w1 (by unfold OwR; rw [rv_append]; exact h1) h2 h3
end Go.Proofs.YteigmjlfpmdmoaaGreatDoor

namespace Go.Proofs.YteigmjlfpmdmoaaGreatDoor
set_option maxRecDepth 100000
open Go.ChangeShapes Go.WideShapes Go.ChangeAt Go.RowKit

theorem okWide_spot {P : Program} {w : World} {base : Nat} {t e : TypeId} {a : Addr} {n c : Nat} (ht : P.underlying t = some (.slice e)) (h : Value.okWide P w .any base t (.slice (some a) n c)) : a.spot = none := by
  simp only [Value.okWide, ht, Cell.okWide, Cell.ok, World.has] at h
  exact h.2.2.2.1

theorem add_none (b off i : Nat) : Addr.add ⟨b, off, none⟩ i = ⟨b, off + i, none⟩ := by
  unfold Addr.add
  split
  · simp_all
  · rfl

/-- Each cell of a slice of structs of ints is an int. -/
theorem open_recs {H : Type} {enc : TypeId × Value → H} {P : Program} {w : World} {base : Nat} {t e k : Nat} {fs : Array Field} {v : Value} {d : DataW H} {p : List MemPlace}
    (ht : P.underlying t = some (.slice e)) (he : P.underlying e = some (.struct fs)) (hk : P.cellsOf e = k) (k0 : 0 < k)
    (hF : ∀ i, i < k → ∃ f, fs[i]? = some f ∧ f.offset = i ∧ P.cellsOf f.type = 1 ∧ P.underlying f.type = some (.int .i64))
    (hok : Value.okWide P w .any base t v) (h : DataW.Trod enc P w 0 (fun _ => true) true t v d p) :
    ∃ a n c, ∃ zs : List Int, v = .slice a n c ∧ Sl w k a n c (zs.map (Value.int .i64)) ∧ zs.length = n * k ∧ ∀ z ∈ zs, (Lit.int .i64 z).wf = true := by
  obtain ⟨a, n, c, rfl⟩ := okWide_slice ht hok
  obtain ⟨fuel, hf⟩ := h
  rcases DataW.trod_slice ht hf with ⟨hcs, _⟩ | ⟨a', len, cap, elems, rest, m, _, hcs, _, hb, hl, hm, hlen, hel, _, _⟩
  · simp [Value.cells] at hcs
    obtain ⟨rfl, rfl, rfl⟩ := hcs
    exact ⟨none, 0, 0, [], rfl, Sl.nil w k, by simp, by simp⟩
  · simp [Value.cells] at hcs
    obtain ⟨rfl, rfl, rfl⟩ := hcs
    have hs : a'.spot = none := okWide_spot ht hok
    obtain ⟨b, off, spot⟩ := a'
    cases hs
    simp only [add_none] at hel
    have each : ∀ i, i < n * k → ∃ z, w.cell? ⟨b, off + i, none⟩ = some (.int .i64 z) ∧ (Lit.int .i64 z).wf = true := by
      intro i hi
      have hq : i / k < n := (Nat.div_lt_iff_lt_mul k0).2 hi
      have hr : i % k < k := Nat.mod_lt _ k0
      have h1 := hel (i / k) hq
      obtain ⟨y, hy⟩ : ∃ y, elems[i / k]? = some y := ⟨elems[i / k], List.getElem?_eq_getElem (by omega)⟩
      rw [hy, hk, Option.bind_eq_some_iff] at h1
      obtain ⟨cs', hc', ht'⟩ := h1
      obtain ⟨xs, m', _, _, _, hxl, hx⟩ := DataW.trod_struct he ht'
      obtain ⟨f, hf1, hf2, hf3, hf4⟩ := hF (i % k) hr
      have h2 := hx _ f hf1
      rw [hf2, hf3] at h2
      have h3 : i % k < xs.length := by
        have := (Array.getElem?_eq_some_iff.1 hf1).1
        omega
      rw [List.getElem?_eq_getElem h3] at h2
      obtain ⟨z, hz, _, hw⟩ := DataW.trod_int hf4 h2
      refine ⟨z, ?_, hw⟩
      have h4 := (World.cells?_some hc').2.2 (i % k) hr
      have h5 : cs'[i % k]? = some (.int .i64 z) := by
        have h6 : ((cs'.drop (i % k)).take 1)[0]? = some (Value.int .i64 z) := by rw [hz]; rfl
        rw [List.getElem?_take_of_lt (by omega), List.getElem?_drop] at h6
        simpa using h6
      rw [h5] at h4
      rw [← h4]
      have h7 : i / k * k + i % k = i := by rw [Nat.mul_comm]; exact Nat.div_add_mod i k
      rw [add_none, Nat.add_assoc, h7]
    have : ∃ zs : List Int, zs.length = n * k ∧ ∀ i, i < n * k → w.cell? ⟨b, off + i, none⟩ = some (.int .i64 (zs.getD i 0)) ∧ (Lit.int .i64 (zs.getD i 0)).wf = true := by
      let g : Nat → Int := fun i => match w.cell? ⟨b, off + i, none⟩ with | some (.int .i64 z) => z | _ => 0
      refine ⟨(List.range (n * k)).map g, by simp, fun i hi => ?_⟩
      obtain ⟨z, hz, hw⟩ := each i hi
      have hg : ((List.range (n * k)).map g).getD i 0 = z := by
        simp [List.getD_eq_getElem?_getD, hi, g, hz]
      rw [hg]
      exact ⟨hz, hw⟩
    obtain ⟨zs, hzl, hz⟩ := this
    refine ⟨some ⟨b, off, none⟩, n, c, zs, rfl, ⟨by simpa using hzl, hl, hm, .inr ?_⟩, hzl, ?_⟩
    · refine ⟨b, off, rfl, fun i hi => ?_⟩
      have := (hz i hi).1
      rw [this, List.getElem?_map, List.getElem?_eq_getElem (by omega)]
      simp [List.getD_eq_getElem?_getD, List.getElem?_eq_getElem (show i < zs.length by omega)]
    · intro z hzm
      obtain ⟨i, hi, rfl⟩ := List.getElem_of_mem hzm
      have := (hz i (by omega)).2
      simpa [List.getD_eq_getElem?_getD, List.getElem?_eq_getElem hi] using this

theorem rv_of (zs : List Int) (n : Nat) (h : zs.length = n * 2) : ∃ l : List (Int × Int), rv l = zs.map (Value.int .i64) := by
  induction n generalizing zs with
  | zero => exact ⟨[], by have : zs = [] := List.length_eq_zero_iff.1 (by omega); subst this; rfl⟩
  | succ n ih =>
    match zs, h with
    | [], h => simp at h
    | [x], h => simp at h; omega
    | x :: y :: zs, h =>
      obtain ⟨l, hl⟩ := ih zs (by simp at h; omega)
      refine ⟨(x, y) :: l, ?_⟩
      show _ :: _ :: rv l = _
      rw [hl]
      rfl
theorem rv_mem {l : List (Int × Int)} {zs : List Int} (h : rv l = zs.map (Value.int .i64)) : ∀ q ∈ l, q.1 ∈ zs ∧ q.2 ∈ zs := by
  intro q hq
  have h1 : Value.int .i64 q.1 ∈ rv l := by simp only [rv, List.mem_flatMap]; exact ⟨q, hq, by simp⟩
  have h2 : Value.int .i64 q.2 ∈ rv l := by simp only [rv, List.mem_flatMap]; exact ⟨q, hq, by simp⟩
  rw [h] at h1 h2
  simp at h1 h2
  exact ⟨h1, h2⟩

theorem Tryz.own' : ownKnob Tryz.prog.godebug = none := by kernel_rfl
theorem Tryz.laidOut' : laidOutB Tryz.prog = true := by kernel_rfl

/-- A slice of ranges that came in. -/
theorem open_ranges {H : Type} {enc : TypeId × Value → H} {w : World} {base : Nat} {v : Value} {d : DataW H} {p : List MemPlace}
    (hok : Value.okWide Tryz.prog w .any base 35 v) (h : DataW.Trod enc Tryz.prog w 0 (fun _ => true) true 35 v d p) :
    ∃ a n c l, v = .slice a n c ∧ SR w a n c l ∧ ∀ q ∈ l, (Lit.int .i64 q.1).wf = true ∧ (Lit.int .i64 q.2).wf = true := by
  obtain ⟨a, n, c, zs, rfl, hs, hl, hw⟩ := open_recs (k := 2) Tryz.underlying35 Tryz.underlying46 (by kernel_rfl) (by omega) (by
    intro i hi
    match i, hi with
    | 0, _ => exact ⟨_, rfl, rfl, by kernel_rfl, Tryz.underlying3⟩
    | 1, _ => exact ⟨_, rfl, rfl, by kernel_rfl, Tryz.underlying3⟩) hok h
  obtain ⟨l, hl'⟩ := rv_of zs n hl
  rw [← hl'] at hs
  exact ⟨a, n, c, l, rfl, hs, fun q hq => ⟨hw _ (rv_mem hl' q hq).1, hw _ (rv_mem hl' q hq).2⟩⟩

/-- A slice of numbers that came in. -/
theorem open_nums {H : Type} {enc : TypeId × Value → H} {w : World} {base : Nat} {v : Value} {d : DataW H} {p : List MemPlace}
    (hok : Value.okWide Tryz.prog w .any base 22 v) (h : DataW.Trod enc Tryz.prog w 0 (fun _ => true) true 22 v d p) :
    ∃ a n c l, v = .slice a n c ∧ SI w a n c l ∧ ∀ q ∈ l, (Lit.int .i64 q).wf = true := by
  obtain ⟨a, n, c, rfl⟩ := okWide_slice Tryz.underlying22 hok
  obtain ⟨fuel, hf⟩ := h
  rcases open_ints Tryz.underlying22 Tryz.underlying3 (by kernel_rfl) hf with ⟨hcs, _⟩ | ⟨x, l, c', zs, hcs, _, hl, hm, hz, _, hcell, hwz⟩
  · simp [Value.cells] at hcs
    obtain ⟨rfl, rfl, rfl⟩ := hcs
    exact ⟨none, 0, 0, [], rfl, Sl.nil w 1, by simp⟩
  · simp [Value.cells] at hcs
    obtain ⟨rfl, rfl, rfl⟩ := hcs
    have hs : x.spot = none := okWide_spot Tryz.underlying22 hok
    have hz' : zs.length = c := by simpa using hz
    refine ⟨some x, n, c, zs.take n, rfl, ⟨by simp; omega, hl, hm, .inr ?_⟩, fun q hq => hwz q (List.mem_of_mem_take hq)⟩
    obtain ⟨b, off, spot⟩ := x
    cases hs
    refine ⟨b, off, rfl, fun i hi => ?_⟩
    have := hcell i (by omega)
    rw [add_none] at this
    rw [this, List.getElem?_map, List.getElem?_take_of_lt (by omega), List.getElem?_eq_getElem (by omega)]
    simp [List.getD_eq_getElem?_getD, List.getElem?_eq_getElem (show i < zs.length by omega)]

end Go.Proofs.YteigmjlfpmdmoaaGreatDoor

namespace Go.Proofs.YteigmjlfpmdmoaaGreatDoor
set_option maxRecDepth 100000
open Go.ChangeShapes Go.WideShapes Go.ChangeAt Go.RowKit

/-- A struct that came in, field by field. -/
theorem open_struct {H : Type} {enc : TypeId × Value → H} {P : Program} {w : World} {base : Nat} {t : TypeId} {fs : Array Field} {ts : List TypeId} {v : Value} {d : DataW H} {p : List MemPlace}
    (ht : P.underlying t = some (.struct fs)) (hts : P.cellTypes P.depth t = some ts) (hok : Value.okWide P w .any base t v) (h : DataW.Trod enc P w 0 (fun _ => true) true t v d p) :
    ∃ cs : Array Value, v = .agg cs ∧ cs.size = P.cellsOf t ∧ (∀ (i : Nat) (u : Value), cs[i]? = some u → ∃ ty, ts[i % ts.length]? = some ty ∧ Cell.okWide P w .any base ty u) ∧
      ∀ (i : Nat) (f : Field), fs[i]? = some f → ∃ fuel x, DataW.trod enc P w 0 (fun _ => true) true fuel f.type ((cs.toList.drop f.offset).take (P.cellsOf f.type)) = some x := by
  simp only [Value.okWide, ht] at hok
  obtain ⟨cs, rfl, hsz, ts', hts', _, hall⟩ := hok
  rw [hts] at hts'
  cases hts'
  obtain ⟨fuel, hf⟩ := h
  obtain ⟨xs, n, _, _, _, hxl, hx⟩ := DataW.trod_struct ht hf
  refine ⟨cs, rfl, hsz, hall, fun i f hfi => ?_⟩
  have := hx i f hfi
  have hlt : i < xs.length := by
    have := (Array.getElem?_eq_some_iff.1 hfi).1
    omega
  rw [List.getElem?_eq_getElem hlt] at this
  exact ⟨n, _, this⟩

theorem cell_of_int {H : Type} {enc : TypeId × Value → H} {P : Program} {w : World} {fuel : Nat} {t : TypeId} {k : IntKind} {u : Value} {x : DataW H × List MemPlace} (ht : P.underlying t = some (.int k))
    (h : DataW.trod enc P w 0 (fun _ => true) true fuel t [u] = some x) : ∃ n, u = .int k n ∧ (Lit.int k n).wf = true := by
  obtain ⟨n, hn, _, hw⟩ := DataW.trod_int ht h
  cases hn
  exact ⟨n, rfl, hw⟩
theorem cell_of_slice {H : Type} {enc : TypeId × Value → H} {P : Program} {w : World} {base fuel : Nat} {t e : TypeId} {u : Value} {x : DataW H × List MemPlace} (ht : P.underlying t = some (.slice e)) (hok : Cell.okWide P w .any base t u)
    (h : DataW.trod enc P w 0 (fun _ => true) true fuel t [u] = some x) : Value.okWide P w .any base t u ∧ ∃ d p, DataW.Trod enc P w 0 (fun _ => true) true t u d p := by
  have h1 : Value.okWide P w .any base t u := by
    simp only [Value.okWide, ht]
    exact hok
  obtain ⟨a, n, c, rfl⟩ := okWide_slice ht h1
  exact ⟨h1, x.1, x.2, fuel, by simpa [Value.cells] using h⟩

theorem two_cells {cs : Array Value} (h : cs.size = 2) : ∃ x y, cs = #[x, y] := by
  obtain ⟨l⟩ := cs
  match l, h with
  | [x, y], _ => exact ⟨x, y, rfl⟩

/-- A decay that came in. -/
theorem open_decay {H : Type} {enc : TypeId × Value → H} {w : World} {base : Nat} {v : Value} {d : DataW H} {p : List MemPlace}
    (hok : Value.okWide Tryz.prog w .any base 28 v) (h : DataW.Trod enc Tryz.prog w 0 (fun _ => true) true 28 v d p) :
    ∃ a n c l off, v = .agg #[.slice a n c, .int .i64 off] ∧ SI w a n c l ∧ (∀ q ∈ l, (Lit.int .i64 q).wf = true) ∧ (Lit.int .i64 off).wf = true := by
  obtain ⟨cs, rfl, hsz, hall, hf⟩ := open_struct (ts := [22, 3]) Tryz.underlying28 (by kernel_rfl) hok h
  obtain ⟨x, y, rfl⟩ := two_cells (hsz.trans (by kernel_rfl))
  obtain ⟨m0, x0, h0⟩ := hf 0 _ rfl
  obtain ⟨m1, x1, h1⟩ := hf 1 _ rfl
  have c22 : Tryz.prog.cellsOf 22 = 1 := by kernel_rfl
  have c3 : Tryz.prog.cellsOf 3 = 1 := by kernel_rfl
  simp only [c22, c3] at h0 h1
  obtain ⟨off, rfl, hw⟩ := cell_of_int Tryz.underlying3 h1
  obtain ⟨ty, hty, ho⟩ := hall 0 x rfl
  cases hty
  obtain ⟨k1, d', p', k2⟩ := cell_of_slice Tryz.underlying22 ho h0
  obtain ⟨a, n, c, l, rfl, hs, hwl⟩ := open_nums k1 k2
  exact ⟨a, n, c, l, off, rfl, hs, hwl, hw⟩

/-- A frame that came in. -/
theorem open_frame {H : Type} {enc : TypeId × Value → H} {w : World} {base : Nat} {v : Value} {d : DataW H} {p : List MemPlace}
    (hok : Value.okWide Tryz.prog w .any base 52 v) (h : DataW.Trod enc Tryz.prog w 0 (fun _ => true) true 52 v d p) :
    ∃ a n c l b m e k, v = .agg #[.slice a n c, .slice b m e] ∧ SI w a n c l ∧ (∀ q ∈ l, (Lit.int .i64 q).wf = true) ∧ SI w b m e k ∧ (∀ q ∈ k, (Lit.int .i64 q).wf = true) := by
  obtain ⟨cs, rfl, hsz, hall, hf⟩ := open_struct (ts := [22, 22]) Tryz.underlying52 (by kernel_rfl) hok h
  obtain ⟨x, y, rfl⟩ := two_cells (hsz.trans (by kernel_rfl))
  obtain ⟨m0, x0, h0⟩ := hf 0 _ rfl
  obtain ⟨m1, x1, h1⟩ := hf 1 _ rfl
  have c22 : Tryz.prog.cellsOf 22 = 1 := by kernel_rfl
  simp only [c22] at h0 h1
  obtain ⟨ty, hty, ho⟩ := hall 0 x rfl
  cases hty
  obtain ⟨k1, d', p', k2⟩ := cell_of_slice Tryz.underlying22 ho h0
  obtain ⟨a, n, c, l, rfl, hs, hwl⟩ := open_nums k1 k2
  obtain ⟨ty, hty, ho⟩ := hall 1 y rfl
  cases hty
  obtain ⟨k1, d', p', k2⟩ := cell_of_slice Tryz.underlying22 ho h1
  obtain ⟨a', n', c', l', rfl, hs', hwl'⟩ := open_nums k1 k2
  exact ⟨a, n, c, l, a', n', c', l', rfl, hs, hwl, hs', hwl'⟩

/-- A fraction that came in. -/
theorem open_frac {H : Type} {enc : TypeId × Value → H} {w : World} {base : Nat} {v : Value} {d : DataW H} {p : List MemPlace}
    (hok : Value.okWide Tryz.prog w .any base 39 v) (h : DataW.Trod enc Tryz.prog w 0 (fun _ => true) true 39 v d p) :
    ∃ x y, v = .agg #[.int .i64 x, .int .i64 y] ∧ (Lit.int .i64 x).wf = true ∧ (Lit.int .i64 y).wf = true := by
  obtain ⟨cs, rfl, hsz, hall, hf⟩ := open_struct (ts := [3, 3]) Tryz.underlying39 (by kernel_rfl) hok h
  obtain ⟨x, y, rfl⟩ := two_cells (hsz.trans (by kernel_rfl))
  obtain ⟨m0, x0, h0⟩ := hf 0 _ rfl
  obtain ⟨m1, x1, h1⟩ := hf 1 _ rfl
  simp only at h0 h1
  obtain ⟨n, rfl, hw⟩ := cell_of_int Tryz.underlying3 h0
  obtain ⟨m, rfl, hw'⟩ := cell_of_int Tryz.underlying3 h1
  exact ⟨n, m, rfl, hw, hw'⟩
/-- A damage that came in. -/
theorem open_damage {H : Type} {enc : TypeId × Value → H} {w : World} {base : Nat} {v : Value} {d : DataW H} {p : List MemPlace}
    (hok : Value.okWide Tryz.prog w .any base 74 v) (h : DataW.Trod enc Tryz.prog w 0 (fun _ => true) true 74 v d p) :
    ∃ x y, v = .agg #[.int .i64 x, .int .i64 y] ∧ (Lit.int .i64 x).wf = true ∧ (Lit.int .i64 y).wf = true := by
  obtain ⟨cs, rfl, hsz, hall, hf⟩ := open_struct (ts := [3, 3]) Tryz.underlying74 (by kernel_rfl) hok h
  obtain ⟨x, y, rfl⟩ := two_cells (hsz.trans (by kernel_rfl))
  obtain ⟨m0, x0, h0⟩ := hf 0 _ rfl
  obtain ⟨m1, x1, h1⟩ := hf 1 _ rfl
  simp only at h0 h1
  obtain ⟨n, rfl, hw⟩ := cell_of_int Tryz.underlying3 h0
  obtain ⟨m, rfl, hw'⟩ := cell_of_int Tryz.underlying3 h1
  exact ⟨n, m, rfl, hw, hw'⟩

end Go.Proofs.YteigmjlfpmdmoaaGreatDoor

namespace Go.Proofs.YteigmjlfpmdmoaaGreatDoor
set_option maxRecDepth 100000
open Go.ChangeShapes Go.WideShapes Go.ChangeAt Go.RowKit

/-- An array of two numbers that came in. -/
theorem open_pair {H : Type} {enc : TypeId × Value → H} {w : World} {base : Nat} {v : Value} {d : DataW H} {p : List MemPlace}
    (hok : Value.okWide Tryz.prog w .any base 23 v) (h : DataW.Trod enc Tryz.prog w 0 (fun _ => true) true 23 v d p) :
    ∃ x y, v = .agg #[.int .i64 x, .int .i64 y] ∧ (Lit.int .i64 x).wf = true ∧ (Lit.int .i64 y).wf = true := by
  simp only [Value.okWide, Tryz.underlying23] at hok
  obtain ⟨cs, rfl, hsz, _⟩ := hok
  obtain ⟨x, y, rfl⟩ := two_cells (hsz.trans (by kernel_rfl))
  obtain ⟨fuel, hf⟩ := h
  obtain ⟨xs, n, _, _, _, hxl, hx⟩ := DataW.trod_array Tryz.underlying23 hf
  have c3 : Tryz.prog.cellsOf 3 = 1 := by kernel_rfl
  have h0 := hx 0 (by omega)
  have h1 := hx 1 (by omega)
  simp only [c3] at h0 h1
  rw [List.getElem?_eq_getElem (by omega)] at h0 h1
  obtain ⟨n, rfl, hw⟩ := cell_of_int Tryz.underlying3 h0
  obtain ⟨m, rfl, hw'⟩ := cell_of_int Tryz.underlying3 h1
  exact ⟨n, m, rfl, hw, hw'⟩
end Go.Proofs.YteigmjlfpmdmoaaGreatDoor

namespace Go.Proofs.YteigmjlfpmdmoaaGreatDoor

theorem decFrom_snoc (l : List UInt8) (b : UInt8) : ∀ acc, Lib.decFrom acc (l ++ [b]) = (Lib.decFrom acc l).bind fun m => (Lib.digitVal b).map fun d => m * 10 + d := by
  induction l with
  | nil => intro acc; simp only [List.nil_append, Lib.decFrom]; cases h : Lib.digitVal b <;> simp
  | cons a t ih =>
    intro acc
    simp only [List.cons_append, Lib.decFrom]
    cases h : Lib.digitVal a with
    | none => simp
    | some d => exact ih _

theorem digitVal_some {b : UInt8} {d : Nat} (h : Lib.digitVal b = some d) : d < 10 ∧ b = UInt8.ofNat (48 + d) := by
  unfold Lib.digitVal at h
  split at h
  · injection h with h
    refine ⟨by omega, UInt8.toNat_inj.1 ?_⟩
    rw [UInt8.toNat_ofNat']
    omega
  · cases h
theorem toNat_dig {d : Nat} (h : d < 10) : (UInt8.ofNat (48 + d)).toNat = 48 + d := by
  rw [UInt8.toNat_ofNat']
  omega
theorem digitVal_ofNat {d : Nat} (h : d < 10) : Lib.digitVal (UInt8.ofNat (48 + d)) = some d := by
  unfold Lib.digitVal
  rw [toNat_dig h, if_pos (by omega)]
  congr 1
  omega

theorem dec_ne (m : Nat) : Lib.decDigits m ≠ [] := fun h => by
  have h1 := Lib.decDigits_length m
  have := Lib.nDigits_pos m
  rw [h] at h1
  simp at h1
  omega

theorem decFrom_dec (m : Nat) : Lib.decFrom 0 (Lib.decDigits m) = some m := by
  induction m using Nat.strongRecOn with
  | _ m ih =>
    by_cases h : m < 10
    · rw [Lib.decDigits, dif_pos h]
      simp only [Lib.decFrom, digitVal_ofNat h, Nat.zero_mul, Nat.zero_add]
    · rw [Lib.decDigits, dif_neg h, decFrom_snoc, ih (m / 10) (by omega), digitVal_ofNat (by omega)]
      simp
      omega

theorem dec_head {m : Nat} (h1 : 1 ≤ m) : (Lib.decDigits m).head? ≠ some 48 := by
  induction m using Nat.strongRecOn with
  | _ m ih =>
    by_cases h : m < 10
    · rw [Lib.decDigits, dif_pos h]
      intro hc
      simp only [List.head?_cons, Option.some.injEq] at hc
      have := congrArg UInt8.toNat hc
      rw [toNat_dig h] at this
      simp at this
      omega
    · rw [Lib.decDigits, dif_neg h, List.head?_append]
      have := ih (m / 10) (by omega) (by omega)
      cases hh : (Lib.decDigits (m / 10)).head? with
      | none => exact absurd (List.head?_eq_none_iff.1 hh) (dec_ne _)
      | some x => rw [hh] at this; simpa using this

theorem dec_digits (m : Nat) : ∀ b ∈ Lib.decDigits m, 48 ≤ b.toNat ∧ b.toNat ≤ 57 := by
  induction m using Nat.strongRecOn with
  | _ m ih =>
    intro b hb
    by_cases h : m < 10
    · rw [Lib.decDigits, dif_pos h] at hb
      simp only [List.mem_singleton] at hb
      rw [hb, toNat_dig h]
      omega
    · rw [Lib.decDigits, dif_neg h] at hb
      rcases List.mem_append.1 hb with hb | hb
      · exact ih (m / 10) (by omega) b hb
      · simp only [List.mem_singleton] at hb
        rw [hb, toNat_dig (by omega)]
        omega

theorem dec_of : ∀ (k : Nat) (l : List UInt8) (m : Nat), l.length = k → l ≠ [] → (l.head? = some 48 → l.length = 1) → Lib.decFrom 0 l = some m → l = Lib.decDigits m := by
  intro k
  induction k with
  | zero => intro l m hk hne; exact absurd (List.length_eq_zero_iff.1 hk) hne
  | succ k ih =>
    intro l m hk hne hh hd
    rcases List.eq_nil_or_concat l with h | ⟨r, b, h⟩
    · exact absurd h hne
    rw [List.concat_eq_append] at h
    subst h
    rw [decFrom_snoc] at hd
    cases hr : Lib.decFrom 0 r with
    | none => rw [hr] at hd; simp at hd
    | some a =>
      rw [hr] at hd
      cases hb : Lib.digitVal b with
      | none => rw [hb] at hd; simp at hd
      | some d =>
        rw [hb] at hd
        simp only [Option.bind_some, Option.map_some, Option.some.injEq] at hd
        obtain ⟨hd9, rfl⟩ := digitVal_some hb
        by_cases hr0 : r = []
        · subst hr0
          simp only [Lib.decFrom, Option.some.injEq] at hr
          rw [Lib.decDigits, dif_pos (by omega), ← hd, ← hr]
          simp
        · have hlen : r.length = k := by simpa using hk
          have hhead : (r ++ [UInt8.ofNat (48 + d)]).head? = r.head? := by
            rw [List.head?_append]
            cases h : r.head? with
            | none => exact absurd (List.head?_eq_none_iff.1 h) hr0
            | some x => rfl
          have hlp : 0 < r.length := List.length_pos_iff.2 hr0
          have hn48 : r.head? ≠ some 48 := fun hc => by
            have := hh (by rw [hhead]; exact hc)
            simp at this
            exact hr0 this
          have e := ih r a hlen hr0 (fun hc => absurd hc hn48) hr
          have ha : 1 ≤ a := by
            rcases Nat.eq_zero_or_pos a with h0 | h0
            · subst h0
              rw [Lib.decDigits, dif_pos (by omega)] at e
              rw [e] at hn48
              exact absurd rfl hn48
            · exact h0
          rw [Lib.decDigits, dif_neg (by omega), e]
          congr 2
          · omega
          · congr 2
            omega

theorem itoa_neg' {n : Int} (h : n < 0) : Lib.itoa n = 45 :: Lib.decDigits n.natAbs := by unfold Lib.itoa; rw [if_pos h]
theorem itoa_pos' {n : Int} (h : 0 ≤ n) : Lib.itoa n = Lib.decDigits n.natAbs := by
  unfold Lib.itoa
  rw [if_neg (by omega)]
  congr 1
  omega

theorem dec_head45 (m : Nat) : (Lib.decDigits m).head? ≠ some 45 := fun h => by
  cases hl : Lib.decDigits m with
  | nil => exact dec_ne m hl
  | cons a t =>
    rw [hl] at h
    simp only [List.head?_cons, Option.some.injEq] at h
    have := dec_digits m a (by rw [hl]; exact List.mem_cons_self)
    rw [h] at this
    exact absurd this.1 (by decide)

/-- A number with at most d digits, as it must be written. -/
def numF (l : List UInt8) (d : Nat) : Option Int :=
  if l.head? = some 45 then
    (if l.tail = [] ∨ d < l.tail.length ∨ l.tail.head? = some 48 then none else (Lib.decFrom 0 l.tail).map fun (m : Nat) => -(m : Int))
  else if l = [] ∨ d < l.length ∨ (l.head? = some 48 ∧ 1 < l.length) then none else (Lib.decFrom 0 l).map fun (m : Nat) => (m : Int)

theorem numF_eq {l : List UInt8} {d : Nat} {n : Int} (h : numF l d = some n) : l = Lib.itoa n ∧ (Lib.decDigits n.natAbs).length ≤ d := by
  unfold numF at h
  split at h
  · rename_i h45
    split at h
    · cases h
    · rename_i hc
      simp only [not_or, Nat.not_lt] at hc
      obtain ⟨m, hm, rfl⟩ := Option.map_eq_some_iff.1 h
      have e := dec_of _ l.tail m rfl hc.1 (fun hx => absurd hx hc.2.2) hm
      have hm1 : 1 ≤ m := by
        rcases Nat.eq_zero_or_pos m with h0 | h0
        · subst h0
          rw [Lib.decDigits, dif_pos (by omega)] at e
          rw [e] at hc
          exact absurd rfl hc.2.2
        · exact h0
      have hl : l = 45 :: l.tail := by
        cases l with
        | nil => simp at h45
        | cons a t => simp only [List.head?_cons, Option.some.injEq] at h45; rw [h45]; rfl
      have hna : (-(m : Int)).natAbs = m := by omega
      rw [itoa_neg' (by omega), hna, ← e]
      exact ⟨hl, hc.2.1⟩
  · split at h
    · cases h
    · rename_i hc
      simp only [not_or, Nat.not_lt, not_and] at hc
      obtain ⟨m, hm, rfl⟩ := Option.map_eq_some_iff.1 h
      have hlp : 0 < l.length := List.length_pos_iff.2 hc.1
      have e := dec_of _ l m rfl hc.1 (fun hx => by have := hc.2.2 hx; omega) hm
      have hna : ((m : Int)).natAbs = m := by omega
      rw [itoa_pos' (by omega), hna, ← e]
      exact ⟨rfl, hc.2.1⟩

theorem numF_cons45 (r : List UInt8) (d : Nat) : numF (45 :: r) d = if r = [] ∨ d < r.length ∨ r.head? = some 48 then none else (Lib.decFrom 0 r).map fun (m : Nat) => -(m : Int) := by
  unfold numF
  rw [if_pos (by rfl)]
  rfl

theorem numF_itoa (n : Int) (d : Nat) : numF (Lib.itoa n) d = if (Lib.decDigits n.natAbs).length ≤ d then some n else none := by
  by_cases hn : n < 0
  · rw [itoa_neg' hn, numF_cons45]
    have h1 := dec_ne n.natAbs
    have h2 : (Lib.decDigits n.natAbs).head? ≠ some 48 := dec_head (by omega)
    by_cases hd : (Lib.decDigits n.natAbs).length ≤ d
    · rw [if_neg (by simp only [not_or, Nat.not_lt]; exact ⟨h1, hd, h2⟩), if_pos hd, decFrom_dec]
      simp only [Option.map_some, Option.some.injEq]
      omega
    · rw [if_pos (by right; left; omega), if_neg hd]
  · rw [itoa_pos' (by omega)]
    unfold numF
    rw [if_neg (dec_head45 _)]
    have h1 := dec_ne n.natAbs
    by_cases hd : (Lib.decDigits n.natAbs).length ≤ d
    · have h2 : ¬ ((Lib.decDigits n.natAbs).head? = some 48 ∧ 1 < (Lib.decDigits n.natAbs).length) := fun ⟨ha, hb⟩ => by
        by_cases h0 : 1 ≤ n.natAbs
        · exact dec_head h0 ha
        · have e0 : n.natAbs = 0 := by omega
          rw [e0, Lib.decDigits, dif_pos (by omega)] at hb
          simp at hb
      rw [if_neg (by simp only [not_or, Nat.not_lt]; exact ⟨h1, hd, h2⟩), if_pos hd, decFrom_dec]
      simp only [Option.map_some, Option.some.injEq]
      omega
    · rw [if_pos (by right; left; omega), if_neg hd]

theorem numF_atoi {l : List UInt8} {d : Nat} {n : Int} (h : numF l d = some n) (hd : d ≤ 17) : Lib.atoiAll l = .ok n := by
  have hl := numF_eq h
  have hlen : l.length ≤ 18 := by
    rw [hl.1]
    by_cases hn : n < 0
    · rw [itoa_neg' hn, List.length_cons]; omega
    · rw [itoa_pos' (by omega)]; omega
  rw [Lib.atoiAll_short l hlen]
  have hdec : ∀ m, Lib.decNat (Lib.decDigits m) = some m := fun m => by
    unfold Lib.decNat
    rw [if_neg (by simp [dec_ne m]), decFrom_dec]
  have : Lib.atoi l = some n := by
    rw [hl.1]
    by_cases hn : n < 0
    · rw [itoa_neg' hn]
      simp only [Lib.atoi, beq_self_eq_true, if_true, hdec, Option.map_some, Option.some.injEq]
      omega
    · rw [itoa_pos' (by omega)]
      cases hx : Lib.decDigits n.natAbs with
      | nil => exact absurd hx (dec_ne _)
      | cons a t =>
        have ha := dec_digits n.natAbs a (by rw [hx]; exact List.mem_cons_self)
        have h45 : ¬ (a == 45) = true := by
          intro hc
          rw [beq_iff_eq] at hc
          subst hc
          exact absurd ha.1 (by decide)
        have h43 : ¬ (a == 43) = true := by
          intro hc
          rw [beq_iff_eq] at hc
          subst hc
          exact absurd ha.1 (by decide)
        simp only [Lib.atoi]
        rw [if_neg h45, if_neg h43, ← hx, hdec]
        simp only [Option.map_some, Option.some.injEq]
        omega
  rw [this]
  rfl

theorem trim_itoa (n : Int) : Lib.trimPrefix (Lib.itoa n) [45] = Lib.decDigits n.natAbs := by
  by_cases hn : n < 0
  · rw [itoa_neg' hn]
    simp [Lib.trimPrefix, Lib.hasPrefix]
  · rw [itoa_pos' (by omega)]
    cases hx : Lib.decDigits n.natAbs with
    | nil => exact absurd hx (dec_ne _)
    | cons a t =>
      have h45 := dec_head45 n.natAbs
      rw [hx] at h45
      have : ¬ (45 : UInt8) = a := fun hc => h45 (by rw [← hc]; rfl)
      simp [Lib.trimPrefix, Lib.hasPrefix, this]

/-- A word as a number, below 0 or not. -/
def wordP (l : List UInt8) (d : Nat) (below : Bool) : Option Int :=
  match numF l d with
  | some n => if n < 0 ∧ below = false then none else some n
  | none => none

theorem word_syn {l : List UInt8} {d : Nat} {b : Bool} (hd : d ≤ 17) (h : ∀ n, Lib.atoiAll l ≠ .ok n) : wordP l d b = none := by
  unfold wordP
  cases hn : numF l d with
  | none => rfl
  | some n => exact absurd (numF_atoi hn hd) (h n)
theorem word_not {l : List UInt8} {d : Nat} {b : Bool} {n : Int} (hd : d ≤ 17) (h : Lib.atoiAll l = .ok n) (hi : Lib.itoa n ≠ l) : wordP l d b = none := by
  unfold wordP
  cases hn : numF l d with
  | none => rfl
  | some m =>
    have := numF_atoi hn hd
    rw [h] at this
    injection this with this
    subst this
    exact absurd (numF_eq hn).1.symm hi
theorem word_neg {l : List UInt8} {d : Nat} {b : Bool} {n : Int} (hi : Lib.itoa n = l) (h0 : n < 0) (hb : b = false) : wordP l d b = none := by
  unfold wordP
  rw [← hi, numF_itoa]
  split
  · rename_i m hm
    split at hm
    · injection hm with hm
      subst hm
      rw [if_pos ⟨h0, hb⟩]
    · cases hm
  · rfl
theorem word_long {l : List UInt8} {d : Nat} {b : Bool} {n : Int} (hi : Lib.itoa n = l) (hl : d < (Lib.trimPrefix l [45]).length) : wordP l d b = none := by
  unfold wordP
  subst hi
  rw [trim_itoa] at hl
  rw [numF_itoa, if_neg (by omega)]
theorem word_ok {l : List UInt8} {d : Nat} {b : Bool} {n : Int} (hi : Lib.itoa n = l) (h0 : n < 0 → b = true) (hl : (Lib.trimPrefix l [45]).length ≤ d) : wordP l d b = some n := by
  unfold wordP
  subst hi
  rw [trim_itoa] at hl
  rw [numF_itoa, if_pos hl]
  simp only
  rw [if_neg]
  intro ⟨h1, h2⟩
  rw [h0 h1] at h2
  cases h2

/-- Words as numbers. -/
def numsF (d : Nat) (b : Bool) : List (List UInt8) → Option (List Int)
  | [] => some []
  | w :: r => match wordP w d b with
    | none => none
    | some n => (numsF d b r).map (n :: ·)

theorem numsF_app (d : Nat) (b : Bool) (xs ys : List (List UInt8)) : numsF d b (xs ++ ys) = (numsF d b xs).bind fun a => (numsF d b ys).map (a ++ ·) := by
  induction xs with
  | nil => simp [numsF]
  | cons x r ih =>
    simp only [List.cons_append, numsF]
    cases wordP x d b with
    | none => rfl
    | some n =>
      simp only [ih]
      cases numsF d b r with
      | none => rfl
      | some a => cases numsF d b ys <;> simp

theorem numsF_snoc {d : Nat} {b : Bool} {xs : List (List UInt8)} {out : List Int} (h : numsF d b xs = some out) (w : List UInt8) (n : Int) (hw : wordP w d b = some n) : numsF d b (xs ++ [w]) = some (out ++ [n]) := by
  rw [numsF_app, h]
  simp [numsF, hw]
theorem numsF_bad {d : Nat} {b : Bool} {xs ys : List (List UInt8)} (w : List UInt8) (hw : wordP w d b = none) : numsF d b (xs ++ w :: ys) = none := by
  rw [numsF_app]
  cases numsF d b xs <;> simp [numsF, hw]
theorem numsF_len {d : Nat} {b : Bool} : ∀ {xs : List (List UInt8)} {out : List Int}, numsF d b xs = some out → out.length = xs.length
  | [], out, h => by simp only [numsF, Option.some.injEq] at h; subst h; rfl
  | w :: r, out, h => by
    simp only [numsF] at h
    cases hw : wordP w d b with
    | none => rw [hw] at h; cases h
    | some n =>
      rw [hw] at h
      obtain ⟨o, ho, rfl⟩ := Option.map_eq_some_iff.1 h
      simp [numsF_len ho]

/-- The parts of a text between the bytes c. -/
def cutB (c : UInt8) : List UInt8 → List (List UInt8)
  | [] => [[]]
  | a :: r => if a = c then [] :: cutB c r else
    match cutB c r with
    | h :: t => (a :: h) :: t
    | [] => [[a]]

theorem cutB_ne (c : UInt8) (l : List UInt8) : cutB c l ≠ [] := by
  cases l with
  | nil => simp [cutB]
  | cons a r =>
    simp only [cutB]
    split
    · simp
    · split <;> simp

theorem cutB_one {c : UInt8} : ∀ {x : List UInt8}, c ∉ x → cutB c x = [x]
  | [], _ => rfl
  | a :: r, h => by
    have h1 : a ≠ c := fun e => h (by rw [e]; exact List.mem_cons_self)
    have h2 : c ∉ r := fun e => h (List.mem_cons_of_mem _ e)
    simp [cutB, h1, cutB_one h2]
theorem cutB_at {c : UInt8} : ∀ {x : List UInt8} (y : List UInt8), c ∉ x → cutB c (x ++ c :: y) = x :: cutB c y
  | [], y, _ => by simp [cutB]
  | a :: r, y, h => by
    have h1 : a ≠ c := fun e => h (by rw [e]; exact List.mem_cons_self)
    have h2 : c ∉ r := fun e => h (List.mem_cons_of_mem _ e)
    simp [cutB, h1, cutB_at y h2]

/-- What the parts hold. -/
theorem cutB_mem {c b : UInt8} (hbc : b ≠ c) : ∀ {l : List UInt8}, b ∈ l → ∃ p ∈ cutB c l, b ∈ p
  | [], h => by simp at h
  | a :: r, h => by
    simp only [cutB]
    by_cases ha : a = c
    · rw [if_pos ha]
      have hr : b ∈ r := by
        rcases List.mem_cons.1 h with e | e
        · exact absurd (e.trans ha) hbc
        · exact e
      obtain ⟨p, hp, hb⟩ := cutB_mem hbc hr
      exact ⟨p, List.mem_cons_of_mem _ hp, hb⟩
    · rw [if_neg ha]
      cases hc : cutB c r with
      | nil => exact absurd hc (cutB_ne c r)
      | cons q t =>
        rcases List.mem_cons.1 h with e | e
        · exact ⟨a :: q, List.mem_cons_self, by rw [e]; exact List.mem_cons_self⟩
        · obtain ⟨p, hp, hb⟩ := cutB_mem hbc e
          rw [hc] at hp
          rcases List.mem_cons.1 hp with e2 | e2
          · exact ⟨a :: q, List.mem_cons_self, by rw [← e2]; exact List.mem_cons_of_mem _ hb⟩
          · exact ⟨p, List.mem_cons_of_mem _ e2, hb⟩

theorem numF_bytes {l : List UInt8} {d : Nat} {n : Int} (h : numF l d = some n) : ∀ b ∈ l, b = 45 ∨ (48 ≤ b.toNat ∧ b.toNat ≤ 57) := by
  intro b hb
  rw [(numF_eq h).1] at hb
  by_cases hn : n < 0
  · rw [itoa_neg' hn] at hb
    rcases List.mem_cons.1 hb with e | e
    · exact .inl e
    · exact .inr (dec_digits _ b e)
  · rw [itoa_pos' (by omega)] at hb
    exact .inr (dec_digits _ b hb)

theorem numsF_none {d : Nat} {bl : Bool} {w : List UInt8} : ∀ {ws : List (List UInt8)}, w ∈ ws → wordP w d bl = none → numsF d bl ws = none
  | [], h, _ => by simp at h
  | x :: r, h, hw => by
    simp only [numsF]
    rcases List.mem_cons.1 h with e | e
    · rw [← e, hw]
    · cases wordP x d bl with
      | none => rfl
      | some n => simp [numsF_none e hw]

/-- A text with a semicolon is no list of numbers. -/
theorem nums_semi {d : Nat} {bl : Bool} {l : List UInt8} (h : (59 : UInt8) ∈ l) : numsF d bl (cutB 32 l) = none := by
  obtain ⟨p, hp, hb⟩ := cutB_mem (c := 32) (b := 59) (by decide) h
  refine numsF_none hp ?_
  unfold wordP
  cases hn : numF p d with
  | none => rfl
  | some n =>
    rcases numF_bytes hn 59 hb with e | e
    · exact absurd e (by decide)
    · exact absurd e.2 (by decide)

/-- Numbers with blanks between them. -/
def wordsF (l : List Int) : List UInt8 := Lib.join (l.map Lib.itoa) [32]

theorem itoa_bytes (n : Int) : ∀ b ∈ Lib.itoa n, b = 45 ∨ (48 ≤ b.toNat ∧ b.toNat ≤ 57) := by
  intro b hb
  by_cases hn : n < 0
  · rw [itoa_neg' hn] at hb
    rcases List.mem_cons.1 hb with e | e
    · exact .inl e
    · exact .inr (dec_digits _ b e)
  · rw [itoa_pos' (by omega)] at hb
    exact .inr (dec_digits _ b hb)
theorem itoa_no32 (n : Int) : (32 : UInt8) ∉ Lib.itoa n := fun h => by
  rcases itoa_bytes n 32 h with e | e
  · exact absurd e (by decide)
  · exact absurd e.1 (by decide)
theorem itoa_no59 (n : Int) : (59 : UInt8) ∉ Lib.itoa n := fun h => by
  rcases itoa_bytes n 59 h with e | e
  · exact absurd e (by decide)
  · exact absurd e.2 (by decide)

theorem join_cons2 (x y : List UInt8) (r : List (List UInt8)) (s : List UInt8) : Lib.join (x :: y :: r) s = x ++ s ++ Lib.join (y :: r) s := by
  rw [Lib.join_cons, Lib.join_cons]
  simp [Lib.joinTail, List.append_assoc]

theorem cut_words : ∀ (l : List Int), l ≠ [] → cutB 32 (wordsF l) = l.map Lib.itoa
  | [], h => absurd rfl h
  | [n], _ => by
    simp only [wordsF, List.map_cons, List.map_nil, Lib.join_one]
    exact cutB_one (itoa_no32 n)
  | n :: m :: r, _ => by
    have ih := cut_words (m :: r) (by simp)
    simp only [wordsF, List.map_cons] at ih ⊢
    rw [join_cons2, List.append_assoc, List.singleton_append, cutB_at _ (itoa_no32 n), ih]

theorem words_no59 : ∀ (l : List Int), (59 : UInt8) ∉ wordsF l
  | [] => by simp [wordsF, Lib.join_nil]
  | [n] => by simpa only [wordsF, List.map_cons, List.map_nil, Lib.join_one] using itoa_no59 n
  | n :: m :: r => by
    have ih := words_no59 (m :: r)
    simp only [wordsF, List.map_cons] at ih ⊢
    rw [join_cons2]
    simp only [List.mem_append, not_or]
    exact ⟨⟨itoa_no59 n, by decide⟩, ih⟩

theorem numsF_itoa (d : Nat) (b : Bool) : ∀ (l : List Int), (∀ n ∈ l, (Lib.decDigits n.natAbs).length ≤ d ∧ (n < 0 → b = true)) → numsF d b (l.map Lib.itoa) = some l
  | [], _ => rfl
  | n :: r, h => by
    have h1 := h n List.mem_cons_self
    have e : wordP (Lib.itoa n) d b = some n := word_ok rfl h1.2 (by rw [trim_itoa]; exact h1.1)
    simp only [List.map_cons, numsF, e, numsF_itoa d b r (fun m hm => h m (List.mem_cons_of_mem _ hm))]
    rfl

/-- How many digits a number has at most. -/
theorem dec_len (d : Nat) : ∀ m : Nat, m < 10 ^ d → 1 ≤ d → (Lib.decDigits m).length ≤ d := by
  induction d with
  | zero => intro m _ h; omega
  | succ d ih =>
    intro m hm _
    by_cases h : m < 10
    · rw [Lib.decDigits, dif_pos h]; simp
    · have hd : 1 ≤ d := by
        rcases Nat.eq_zero_or_pos d with e | e
        · subst e; simp at hm; omega
        · exact e
      rw [Lib.decDigits, dif_neg h, List.length_append]
      have := ih (m / 10) (by rw [Nat.pow_succ] at hm; omega) hd
      simp
      omega

/-- Two lists of numbers. -/
def bothF (d : Nat) (b : Bool) (s : List UInt8) : Option (List Int × List Int) :=
  match cutB 59 s with
  | [x, y] => (numsF d false (cutB 32 x)).bind fun m => (numsF d b (cutB 32 y)).map fun k => (m, k)
  | _ => none

theorem bothF_words (d : Nat) (b : Bool) (m k : List Int) (hm : m ≠ []) (hk : k ≠ [])
    (h1 : ∀ n ∈ m, (Lib.decDigits n.natAbs).length ≤ d ∧ 0 ≤ n) (h2 : ∀ n ∈ k, (Lib.decDigits n.natAbs).length ≤ d ∧ (n < 0 → b = true)) :
    bothF d b (wordsF m ++ 59 :: wordsF k) = some (m, k) := by
  unfold bothF
  rw [cutB_at _ (words_no59 m), cutB_one (words_no59 k)]
  simp only [cut_words m hm, cut_words k hk]
  rw [numsF_itoa d false m (fun n hn => ⟨(h1 n hn).1, fun h0 => by have := (h1 n hn).2; omega⟩), numsF_itoa d b k h2]
  rfl

/-- Cut at the first semicolon, as the program does. -/
theorem bothF_hit {d : Nat} {b : Bool} (x y : List UInt8) (hx : (59 : UInt8) ∉ x) :
    bothF d b (x ++ 59 :: y) = (numsF d false (cutB 32 x)).bind fun m => (numsF d b (cutB 32 y)).map fun k => (m, k) := by
  unfold bothF
  rw [cutB_at _ hx]
  by_cases hy : (59 : UInt8) ∈ y
  · rw [nums_semi hy]
    cases hc : cutB 59 y with
    | nil => exact absurd hc (cutB_ne _ _)
    | cons p t =>
      cases t with
      | cons q t => cases numsF d false (cutB 32 x) <;> rfl
      | nil =>
        exfalso
        obtain ⟨q, hq, _⟩ : ∃ q r : List UInt8, y = q ++ 59 :: r ∧ (59 : UInt8) ∉ q := by
          clear hc
          induction y with
          | nil => simp at hy
          | cons a r ih =>
            by_cases ha : a = 59
            · exact ⟨[], r, by rw [ha]; rfl, by simp⟩
            · have hr : (59 : UInt8) ∈ r := by
                rcases List.mem_cons.1 hy with e | e
                · exact absurd e.symm ha
                · exact e
              obtain ⟨q, r', e, hq⟩ := ih hr
              refine ⟨a :: q, r', by rw [e]; rfl, ?_⟩
              intro hm
              rcases List.mem_cons.1 hm with e2 | e2
              · exact ha e2.symm
              · exact hq e2
        rename_i h
        obtain ⟨rfl, hq2⟩ := h
        rw [cutB_at _ hq2] at hc
        injection hc with _ hc
        exact cutB_ne _ _ hc
  · rw [cutB_one hy]
theorem bothF_miss {d : Nat} {b : Bool} {s : List UInt8} (hs : (59 : UInt8) ∉ s) : bothF d b s = none := by
  unfold bothF
  rw [cutB_one hs]
end Go.Proofs.YteigmjlfpmdmoaaGreatDoor

namespace Go.Proofs.YteigmjlfpmdmoaaGreatDoor

/-- The text of a list of bytes. -/
def bs (l : List UInt8) : ByteArray := ⟨l.toArray⟩
theorem bs_of (s : ByteArray) : bs s.data.toList = s := Lib.mk_data s
theorem bs_mk (l : List UInt8) : (⟨l.toArray⟩ : ByteArray) = bs l := rfl
theorem bs_list (l : List UInt8) : (bs l).data.toList = l := by simp [bs]
theorem bs_size (l : List UInt8) : (bs l).size = l.length := by rw [Lib.size_eq, bs_list]
theorem bs_extract (l : List UInt8) (a b : Nat) : (bs l).extract a b = bs ((l.drop a).take (b - a)) := by rw [Lib.extract_eq, bs_list]; rfl
theorem bs_inj {x y : List UInt8} (h : bs x = bs y) : x = y := by rw [← bs_list x, h, bs_list]
theorem bs_toList (l : List UInt8) : (bs l).toList = l := by rw [Lib.toList_data, bs_list]
theorem bs_beq_ne {x y : List UInt8} (h : ¬ x = y) : ((bs x).toList == (bs y).toList) = false := by
  rw [bs_toList, bs_toList]
  simp [h]
theorem bs_app (x y : List UInt8) : bs x ++ bs y = bs (x ++ y) := by
  apply ByteArray.ext
  simp [bs]

theorem bs_get (l : List UInt8) (i : Nat) (h : i < l.length) (h' : i < (bs l).size) : ((bs l)[i]'h').toNat = (l[i]'h).toNat := by
  exact congrArg UInt8.toNat (List.getElem_toArray (xs := l) (i := i) (by simpa using h))

theorem drop_split {s : List UInt8} {fr i : Nat} (hfi : fr ≤ i) (h : i < s.length) : s.drop fr = (s.drop fr).take (i - fr) ++ s[i] :: s.drop (i + 1) := by
  have e := (List.take_append_drop (i - fr) (s.drop fr)).symm
  rw [List.drop_drop, show fr + (i - fr) = i by omega, List.drop_eq_getElem_cons h] at e
  exact e
theorem take_more {s : List UInt8} {fr i : Nat} (hfi : fr ≤ i) (h : i < s.length) : (s.drop fr).take (i + 1 - fr) = (s.drop fr).take (i - fr) ++ [s[i]] := by
  rw [show i + 1 - fr = i - fr + 1 by omega, List.take_add_one]
  congr 1
  rw [List.getElem?_drop, show fr + (i - fr) = i by omega]
  simp [h]

theorem idx_cases (c : UInt8) : ∀ l : List UInt8, (Lib.index l [c] = -1 ∧ c ∉ l) ∨ ∃ x y, l = x ++ c :: y ∧ c ∉ x ∧ Lib.index l [c] = x.length
  | [] => .inl ⟨rfl, by simp⟩
  | a :: r => by
    unfold Lib.index
    by_cases ha : c = a
    · subst ha
      right
      exact ⟨[], r, rfl, by simp, by simp⟩
    · have hp : ([c] : List UInt8).isPrefixOf (a :: r) = false := by
        simp [List.isPrefixOf, ha]
      rw [hp]
      rcases idx_cases c r with ⟨h1, h2⟩ | ⟨x, y, rfl, h2, h3⟩
      · left
        rw [h1]
        refine ⟨rfl, ?_⟩
        intro h
        rcases List.mem_cons.1 h with e | e
        · exact ha e
        · exact h2 e
      · right
        refine ⟨a :: x, y, rfl, ?_, ?_⟩
        · intro h
          rcases List.mem_cons.1 h with e | e
          · exact ha e
          · exact h2 e
        · rw [h3]
          have : ((x.length : Int) == -1) = false := by rw [beq_eq_false_iff_ne]; omega
          simp [this]
theorem cutB_le (c : UInt8) : ∀ (l : List UInt8), ∀ p ∈ cutB c l, p.length ≤ l.length
  | [], p, h => by simp [cutB] at h; simp [h]
  | a :: r, p, h => by
    have ih := cutB_le c r
    simp only [cutB] at h
    split at h
    · rcases List.mem_cons.1 h with e | e
      · simp [e]
      · have := ih p e; simp only [List.length_cons]; omega
    · split at h
      · rename_i q t hq
        rw [hq] at ih
        rcases List.mem_cons.1 h with e | e
        · have := ih q List.mem_cons_self
          rw [e]; simp only [List.length_cons]; omega
        · have := ih p (List.mem_cons_of_mem _ e); simp only [List.length_cons]; omega
      · simp at h; simp [h]
theorem cutB_count (c : UInt8) : ∀ (l : List UInt8), (cutB c l).length ≤ l.length + 1
  | [] => by simp [cutB]
  | a :: r => by
    have ih := cutB_count c r
    simp only [cutB]
    split
    · simp only [List.length_cons]; omega
    · split
      · rename_i q t hq
        rw [hq] at ih
        simp only [List.length_cons] at ih ⊢
        omega
      · simp
theorem cut_hit {x y : List UInt8} {c : UInt8} (h : c ∉ x) : Lib.cut (x ++ c :: y) [c] = (x, y, true) := by
  rcases idx_cases c (x ++ c :: y) with ⟨_, h2⟩ | ⟨x', y', he, h2, h3⟩
  · exact absurd (by simp) h2
  · have e := congrArg (cutB c) he
    rw [cutB_at _ h, cutB_at _ h2] at e
    injection e with e1 _
    subst e1
    unfold Lib.cut
    rw [h3, if_pos (by omega)]
    simp
theorem cut_miss {l : List UInt8} {c : UInt8} (h : c ∉ l) : Lib.cut l [c] = (l, [], false) := by
  rcases idx_cases c l with ⟨h1, _⟩ | ⟨x', y', rfl, h2, h3⟩
  · unfold Lib.cut
    rw [h1]
    rfl
  · exact absurd (by simp) h
end Go.Proofs.YteigmjlfpmdmoaaGreatDoor

namespace Go.Proofs.YteigmjlfpmdmoaaGreatDoor
open Go.RowKit
open Calmly (Kept)

theorem Tryz.info_string : (Tryz.prog.info? 9).map (fun i => (i.zero, i.size, i.bytes)) = some (some (.string ByteArray.empty), 1, 16) := by kernel_rfl
/-- A text as a value. -/
abbrev tv (l : List UInt8) : Value := .string (bs l)
/-- The slice reads as these texts. -/
def ST (w : World) (a : Option Addr) (n c : Nat) (ws : List (List UInt8)) : Prop := Sl w 1 a n c (ws.map tv)
theorem ST.keep {w w' : World} {a : Option Addr} {n c : Nat} {ws : List (List UInt8)} (h : ST w a n c ws) (hb : Below w.heap.size w w') : ST w' a n c ws := Sl.keep h hb
theorem ST.len {w : World} {a : Option Addr} {n c : Nat} {ws : List (List UInt8)} (h : ST w a n c ws) : n = ws.length := by
  have := h.1
  simpa using this.symm
theorem ST.cap {w : World} {a : Option Addr} {n c : Nat} {ws : List (List UInt8)} (h : ST w a n c ws) : n ≤ c := h.2.1
theorem ST.max {w : World} {a : Option Addr} {n c : Nat} {ws : List (List UInt8)} (h : ST w a n c ws) : c ≤ 9223372036854775807 := h.2.2.1
theorem ST.at_ {w : World} {a : Option Addr} {n c : Nat} {ws : List (List UInt8)} (h : ST w a n c ws) (hn : 0 < n) : ∃ b o, a = some ⟨b, o, none⟩ ∧ ∀ i, i < n → w.cell? ⟨b, o + i, none⟩ = some (tv (ws[i]?.getD [])) := by
  obtain ⟨h1, h2, h3, h4⟩ := h
  rcases h4 with h4 | ⟨b, o, ha, hc⟩
  · omega
  · refine ⟨b, o, ha, fun i hi => ?_⟩
    have hl : i < ws.length := by simp at h1; omega
    rw [hc i (by omega)]
    simp [hl]
def OwT (w : World) (B : Nat) (a : Option Addr) (n c : Nat) (ws : List (List UInt8)) : Prop := w.ownsRow B 9 1 (.slice a n c) n (ws.map tv)
theorem OwT.nil (w : World) (B : Nat) : OwT w B none 0 0 [] := World.ownsRow_nil w B _ 1
theorem OwT.st {w : World} {B : Nat} {a : Option Addr} {n c : Nat} {ws : List (List UInt8)} (h : OwT w B a n c ws) : ST w a n c ws := by
  obtain ⟨a', c', he, hs⟩ := Sl.of_owns h
  cases he
  exact hs
theorem OwT.len {w : World} {B : Nat} {a : Option Addr} {n c : Nat} {ws : List (List UInt8)} (h : OwT w B a n c ws) : n = ws.length := h.st.len
theorem OwT.drew {w : World} {B : Nat} {a : Option Addr} {n c : Nat} {ws : List (List UInt8)} (h : OwT w B a n c ws) : OwT w.drew B a n c ws := h
theorem OwT.below {w w' : World} {B B' : Nat} {a : Option Addr} {n c : Nat} {ws : List (List UInt8)} (h : OwT w B a n c ws) (hb : Below B' w w') (hB : w.heap.size ≤ B') : OwT w' B a n c ws := by
  unfold OwT at *
  obtain ⟨h1, h2⟩ := h
  refine ⟨h1, ?_⟩
  rcases h2 with h2 | ⟨g, cap, cur, hv, hg, hh, r⟩
  · exact .inl h2
  · exact .inr ⟨g, cap, cur, hv, hg, (hb.block g (Nat.lt_of_lt_of_le (Array.getElem?_eq_some_iff.1 hh).1 hB)).trans hh, r⟩
theorem OwT.keep {w w' : World} {B : Nat} {a : Option Addr} {n c : Nat} {ws : List (List UInt8)} (h : OwT w B a n c ws) (hb : Below w.heap.size w w') : OwT w' B a n c ws := h.below hb (Nat.le_refl _)
theorem appT {ops : Array Oper} {rest : List Oper} {o : Oper} {a : Act} {Q : Exit → Act → World → Prop} {w0 : World} {B : Nat} {av : Option Addr} {n c : Nat} {ws : List (List UInt8)} {v : List UInt8} (hgd : o.guard = none) (s x : Operand)
    (ho : o.op = .call { callee := .builtin .append, args := #[s, x], argTypes := #[131, 131] })
    (hown : OwT w0 B av n c ws) (hs : a.eval s = .slice av n c) (hx : a.eval x = .slice (some ⟨w0.heap.size, 0, none⟩) 1 1)
    (hb1 : n + 1 ≤ 8796093022208) (hB : B ≤ w0.heap.size)
    (h : ∀ a' c' w', OwT w' B a' (n + 1) c' (ws ++ [v]) → Below B w0 w' → w0.heap.size < w'.heap.size → wpList Tryz.prog ops Q rest (a.put o.dst (.slice a' (n + 1) c')) w') :
    wpList Tryz.prog ops Q (o :: rest) a (w0.alloc (.cells #[.string (bs v)] 9)) := by
  obtain ⟨i0, hi, hz0, hz1, hz2⟩ := info_parts Tryz.info_string
  refine app1 hgd s x _ ho B _ i0 (.string ByteArray.empty) 1 16 Tryz.underlying131 hi hz0 hz1 hz2 rfl (by decide) av n c _ hown #[.string (bs v)] hs hx rfl (by simp [Value.oneCell']) (by omega) (by omega) hB ?_
  intro a' c' w1 h1 h2 h3
  exact h a' c' w1 (by unfold OwT; simpa using h1) h2 h3
end Go.Proofs.YteigmjlfpmdmoaaGreatDoor
