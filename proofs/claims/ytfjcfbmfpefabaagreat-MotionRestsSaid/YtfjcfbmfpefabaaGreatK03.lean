/- Rows of ranges of the call's own. The arguments of a law, opened: a slice that came in reads as a list of numbers. The arguments of a law, opened: structs that came in. Slices of slices of integers, and slices of rows of four integers. The arguments of chapter 2's laws, opened: records, rows of structs of integers, slices of slices. The arguments of chapter 2's laws, opened: bands, oscillators, peaks, lists of lists, matches. The arguments of the law of rests, opened: parts and prices. Words that the packages share: errors in their order, the greatest common divisor of a list, short lists as a call lays them. Words that the packages share: appends behind a region that draws its order, the greatest common divisor of a list. -/
import Derived.Test.YtfjcfbmfpefabaaGreatK02
import Derived.ProofKit
import Derived.OpenShut
namespace Go.Proofs.YtfjcfbmfpefabaaGreat
open Go.RowKit
open Calmly (Kept)

/-- The cells of ranges. -/
def rv (l : List (Int × Int)) : List Value := l.flatMap fun p => [Value.int .i64 p.1, Value.int .i64 p.2]
theorem rv_len (l : List (Int × Int)) : (rv l).length = l.length * 2 := by
  induction l with
  | nil => rfl
  | cons p l ih =>
    show (_ :: _ :: rv l).length = _
    simp [ih]
    omega
theorem rv_append (l m : List (Int × Int)) : rv (l ++ m) = rv l ++ rv m := by simp [rv]
theorem rv_get (l : List (Int × Int)) (i : Nat) (h : i < l.length) : (rv l)[2 * i]? = some (.int .i64 (l[i]?.getD (0, 0)).1) ∧ (rv l)[2 * i + 1]? = some (.int .i64 (l[i]?.getD (0, 0)).2) := by
  induction l generalizing i with
  | nil => simp at h
  | cons p l ih =>
    have e : rv (p :: l) = Value.int .i64 p.1 :: Value.int .i64 p.2 :: rv l := rfl
    rw [e]
    cases i with
    | zero => simp
    | succ i =>
      have := ih i (by simpa using h)
      rw [show 2 * (i + 1) = 2 * i + 1 + 1 by omega]
      simpa using this

/-- A slice of ranges. -/
def SR (w : World) (a : Option Addr) (n c : Nat) (l : List (Int × Int)) : Prop := Sl w 2 a n c (rv l)
theorem SR.keep {w w' : World} {a : Option Addr} {n c : Nat} {l : List (Int × Int)} (h : SR w a n c l) (hb : Below w.heap.size w w') : SR w' a n c l := Sl.keep h hb
theorem SR.len {w : World} {a : Option Addr} {n c : Nat} {l : List (Int × Int)} (h : SR w a n c l) : n = l.length := by have := h.1; rw [rv_len] at this; omega
theorem SR.cap {w : World} {a : Option Addr} {n c : Nat} {l : List (Int × Int)} (h : SR w a n c l) : n ≤ c := h.2.1
theorem SR.max {w : World} {a : Option Addr} {n c : Nat} {l : List (Int × Int)} (h : SR w a n c l) : c ≤ 9223372036854775807 := h.2.2.1
theorem SR.drew {w : World} {a : Option Addr} {n c : Nat} {l : List (Int × Int)} (h : SR w a n c l) : SR w.drew a n c l := h
theorem SR.nil (w : World) : SR w none 0 0 [] := Sl.nil w 2
/-- The place of a slice that has an element. -/
theorem SR.at_ {w : World} {a : Option Addr} {n c : Nat} {l : List (Int × Int)} (h : SR w a n c l) (hn : 0 < n) :
    ∃ b off, a = some ⟨b, off, none⟩ ∧ ∀ i, i < n → w.cell? ⟨b, off + i * 2, none⟩ = some (.int .i64 (l[i]?.getD (0, 0)).1) ∧ w.cell? ⟨b, off + i * 2 + 1, none⟩ = some (.int .i64 (l[i]?.getD (0, 0)).2) := by
  have hl := h.len
  obtain ⟨h1, h2, h3, h4⟩ := h
  rcases h4 with rfl | ⟨b, off, rfl, hc⟩
  · omega
  · refine ⟨b, off, rfl, fun i hi => ?_⟩
    obtain ⟨e1, e2⟩ := rv_get l i (by omega)
    rw [Nat.mul_comm i 2, hc (2 * i) (by omega), show off + 2 * i + 1 = off + (2 * i + 1) by omega, hc (2 * i + 1) (by omega)]
    exact ⟨e1, e2⟩

theorem Tryz.info_range : (Tryz.prog.info? 103).map (fun i => (i.zero, i.size, i.bytes)) = some (some (.agg #[.int .i64 0, .int .i64 0]), 2, 16) := by kernel_rfl

/-- A row of ranges of the call's own. -/
def OwR (w : World) (B : Nat) (a : Option Addr) (n c : Nat) (l : List (Int × Int)) : Prop := w.ownsRow B 103 2 (.slice a n c) n (rv l)
theorem OwR.nil (w : World) (B : Nat) : OwR w B none 0 0 [] := World.ownsRow_nil w B _ 2
theorem OwR.sr {w : World} {B : Nat} {a : Option Addr} {n c : Nat} {l : List (Int × Int)} (h : OwR w B a n c l) : SR w a n c l := by
  obtain ⟨a', c', he, hs⟩ := Sl.of_owns h
  cases he
  exact hs
theorem OwR.len {w : World} {B : Nat} {a : Option Addr} {n c : Nat} {l : List (Int × Int)} (h : OwR w B a n c l) : n = l.length := h.sr.len
theorem OwR.below {w w' : World} {B B' : Nat} {a : Option Addr} {n c : Nat} {l : List (Int × Int)} (h : OwR w B a n c l) (hb : Below B' w w') (hB : w.heap.size ≤ B') : OwR w' B a n c l := by
  obtain ⟨h1, h2⟩ := h
  refine ⟨h1, ?_⟩
  rcases h2 with h2 | ⟨g, cap, cur, hv, hg, hh, r⟩
  · exact .inl h2
  · refine .inr ⟨g, cap, cur, hv, hg, ?_, r⟩
    rw [hb.block g (by have := (Array.getElem?_eq_some_iff.1 hh).1; omega)]
    exact hh
theorem OwR.keep {w w' : World} {B : Nat} {a : Option Addr} {n c : Nat} {l : List (Int × Int)} (h : OwR w B a n c l) (hb : Below w.heap.size w w') : OwR w' B a n c l := h.below hb (Nat.le_refl _)
theorem OwR.drew {w : World} {B : Nat} {a : Option Addr} {n c : Nat} {l : List (Int × Int)} (h : OwR w B a n c l) : OwR w.drew B a n c l := h
theorem OwR.weak {w : World} {B B' : Nat} {a : Option Addr} {n c : Nat} {l : List (Int × Int)} (h : OwR w B a n c l) (hB : B' ≤ B) : OwR w B' a n c l := by
  obtain ⟨h1, h2⟩ := h
  refine ⟨h1, ?_⟩
  rcases h2 with h2 | ⟨g, cap, cur, hv, hg, r⟩
  · exact .inl h2
  · exact .inr ⟨g, cap, cur, hv, Nat.le_trans hB hg, r⟩
/-- A store below the call's own rows. -/
theorem OwR.under {w : World} {B : Nat} {a : Option Addr} {n c : Nat} {l : List (Int × Int)} (h : OwR w B a n c l) {r o : Nat} (hr : r < B) (v : Value) : OwR (w.setCell ⟨r, o, none⟩ v) B a n c l := by
  obtain ⟨h1, h2⟩ := h
  refine ⟨h1, ?_⟩
  rcases h2 with h2 | ⟨g, cap, cur, hv, hg, hh, r'⟩
  · exact .inl h2
  · refine .inr ⟨g, cap, cur, hv, hg, ?_, r'⟩
    rw [Below.heap_setCell _ _ _ _ (by show g ≠ r; omega)]
    exact hh
end Go.Proofs.YtfjcfbmfpefabaaGreat

namespace Go.Proofs.YtfjcfbmfpefabaaGreat
set_option maxRecDepth 100000
open Go.ChangeShapes Go.WideShapes Go.ChangeAt Go.RowKit

theorem okWide_spot {P : Program} {w : World} {base : Nat} {t e : TypeId} {a : Addr} {n c : Nat} (ht : P.underlying t = some (.slice e)) (h : Value.okWide P w .any base t (.slice (some a) n c)) : a.spot = none := by
  simp only [Value.okWide, ht, Cell.okWide, Cell.ok, World.has] at h
  exact h.2.2.2.1

theorem add_none (b off i : Nat) : Addr.add ⟨b, off, none⟩ i = ⟨b, off + i, none⟩ := by
  unfold Addr.add
  split
  · simp_all
  · rfl

/-- Each cell of a slice of structs of ints is an int. -/
theorem open_recs {H : Type} {enc : TypeId × Value → H} {P : Program} {w : World} {base : Nat} {t e k : Nat} {fs : Array Field} {v : Value} {d : DataW H} {p : List MemPlace}
    (ht : P.underlying t = some (.slice e)) (he : P.underlying e = some (.struct fs)) (hk : P.cellsOf e = k) (k0 : 0 < k)
    (hF : ∀ i, i < k → ∃ f, fs[i]? = some f ∧ f.offset = i ∧ P.cellsOf f.type = 1 ∧ P.underlying f.type = some (.int .i64))
    (hok : Value.okWide P w .any base t v) (h : DataW.Trod enc P w 0 (fun _ => true) true t v d p) :
    ∃ a n c, ∃ zs : List Int, v = .slice a n c ∧ Sl w k a n c (zs.map (Value.int .i64)) ∧ zs.length = n * k ∧ ∀ z ∈ zs, (Lit.int .i64 z).wf = true := by
  obtain ⟨a, n, c, rfl⟩ := okWide_slice ht hok
  obtain ⟨fuel, hf⟩ := h
  rcases DataW.trod_slice ht hf with ⟨hcs, _⟩ | ⟨a', len, cap, elems, rest, m, _, hcs, _, hb, hl, hm, hlen, hel, _, _⟩
  · simp [Value.cells] at hcs
    obtain ⟨rfl, rfl, rfl⟩ := hcs
    exact ⟨none, 0, 0, [], rfl, Sl.nil w k, by simp, by simp⟩
  · simp [Value.cells] at hcs
    obtain ⟨rfl, rfl, rfl⟩ := hcs
    have hs : a'.spot = none := okWide_spot ht hok
    obtain ⟨b, off, spot⟩ := a'
    cases hs
    simp only [add_none] at hel
    have each : ∀ i, i < n * k → ∃ z, w.cell? ⟨b, off + i, none⟩ = some (.int .i64 z) ∧ (Lit.int .i64 z).wf = true := by
      intro i hi
      have hq : i / k < n := (Nat.div_lt_iff_lt_mul k0).2 hi
      have hr : i % k < k := Nat.mod_lt _ k0
      have h1 := hel (i / k) hq
      obtain ⟨y, hy⟩ : ∃ y, elems[i / k]? = some y := ⟨elems[i / k], List.getElem?_eq_getElem (by omega)⟩
      rw [hy, hk, Option.bind_eq_some_iff] at h1
      obtain ⟨cs', hc', ht'⟩ := h1
      obtain ⟨xs, m', _, _, _, hxl, hx⟩ := DataW.trod_struct he ht'
      obtain ⟨f, hf1, hf2, hf3, hf4⟩ := hF (i % k) hr
      have h2 := hx _ f hf1
      rw [hf2, hf3] at h2
      have h3 : i % k < xs.length := by
        have := (Array.getElem?_eq_some_iff.1 hf1).1
        omega
      rw [List.getElem?_eq_getElem h3] at h2
      obtain ⟨z, hz, _, hw⟩ := DataW.trod_int hf4 h2
      refine ⟨z, ?_, hw⟩
      have h4 := (World.cells?_some hc').2.2 (i % k) hr
      have h5 : cs'[i % k]? = some (.int .i64 z) := by
        have h6 : ((cs'.drop (i % k)).take 1)[0]? = some (Value.int .i64 z) := by rw [hz]; rfl
        rw [List.getElem?_take_of_lt (by omega), List.getElem?_drop] at h6
        simpa using h6
      rw [h5] at h4
      rw [← h4]
      have h7 : i / k * k + i % k = i := by rw [Nat.mul_comm]; exact Nat.div_add_mod i k
      rw [add_none, Nat.add_assoc, h7]
    have : ∃ zs : List Int, zs.length = n * k ∧ ∀ i, i < n * k → w.cell? ⟨b, off + i, none⟩ = some (.int .i64 (zs.getD i 0)) ∧ (Lit.int .i64 (zs.getD i 0)).wf = true := by
      let g : Nat → Int := fun i => match w.cell? ⟨b, off + i, none⟩ with | some (.int .i64 z) => z | _ => 0
      refine ⟨(List.range (n * k)).map g, by simp, fun i hi => ?_⟩
      obtain ⟨z, hz, hw⟩ := each i hi
      have hg : ((List.range (n * k)).map g).getD i 0 = z := by
        simp [List.getD_eq_getElem?_getD, hi, g, hz]
      rw [hg]
      exact ⟨hz, hw⟩
    obtain ⟨zs, hzl, hz⟩ := this
    refine ⟨some ⟨b, off, none⟩, n, c, zs, rfl, ⟨by simpa using hzl, hl, hm, .inr ?_⟩, hzl, ?_⟩
    · refine ⟨b, off, rfl, fun i hi => ?_⟩
      have := (hz i hi).1
      rw [this, List.getElem?_map, List.getElem?_eq_getElem (by omega)]
      simp [List.getD_eq_getElem?_getD, List.getElem?_eq_getElem (show i < zs.length by omega)]
    · intro z hzm
      obtain ⟨i, hi, rfl⟩ := List.getElem_of_mem hzm
      have := (hz i (by omega)).2
      simpa [List.getD_eq_getElem?_getD, List.getElem?_eq_getElem hi] using this

theorem rv_of (zs : List Int) (n : Nat) (h : zs.length = n * 2) : ∃ l : List (Int × Int), rv l = zs.map (Value.int .i64) := by
  induction n generalizing zs with
  | zero => exact ⟨[], by have : zs = [] := List.length_eq_zero_iff.1 (by omega); subst this; rfl⟩
  | succ n ih =>
    match zs, h with
    | [], h => simp at h
    | [x], h => simp at h; omega
    | x :: y :: zs, h =>
      obtain ⟨l, hl⟩ := ih zs (by simp at h; omega)
      refine ⟨(x, y) :: l, ?_⟩
      show _ :: _ :: rv l = _
      rw [hl]
      rfl
theorem rv_mem {l : List (Int × Int)} {zs : List Int} (h : rv l = zs.map (Value.int .i64)) : ∀ q ∈ l, q.1 ∈ zs ∧ q.2 ∈ zs := by
  intro q hq
  have h1 : Value.int .i64 q.1 ∈ rv l := by simp only [rv, List.mem_flatMap]; exact ⟨q, hq, by simp⟩
  have h2 : Value.int .i64 q.2 ∈ rv l := by simp only [rv, List.mem_flatMap]; exact ⟨q, hq, by simp⟩
  rw [h] at h1 h2
  simp at h1 h2
  exact ⟨h1, h2⟩

theorem Tryz.own' : ownKnob Tryz.prog.godebug = none := by kernel_rfl
theorem Tryz.laidOut' : laidOutB Tryz.prog = true := by kernel_rfl

/-- A slice of numbers that came in. -/
theorem open_nums {H : Type} {enc : TypeId × Value → H} {w : World} {base : Nat} {v : Value} {d : DataW H} {p : List MemPlace}
    (hok : Value.okWide Tryz.prog w .any base 22 v) (h : DataW.Trod enc Tryz.prog w 0 (fun _ => true) true 22 v d p) :
    ∃ a n c l, v = .slice a n c ∧ SI w a n c l ∧ ∀ q ∈ l, (Lit.int .i64 q).wf = true := by
  obtain ⟨a, n, c, rfl⟩ := okWide_slice Tryz.underlying22 hok
  obtain ⟨fuel, hf⟩ := h
  rcases open_ints Tryz.underlying22 Tryz.underlying3 (by kernel_rfl) hf with ⟨hcs, _⟩ | ⟨x, l, c', zs, hcs, _, hl, hm, hz, _, hcell, hwz⟩
  · simp [Value.cells] at hcs
    obtain ⟨rfl, rfl, rfl⟩ := hcs
    exact ⟨none, 0, 0, [], rfl, Sl.nil w 1, by simp⟩
  · simp [Value.cells] at hcs
    obtain ⟨rfl, rfl, rfl⟩ := hcs
    have hs : x.spot = none := okWide_spot Tryz.underlying22 hok
    have hz' : zs.length = c := by simpa using hz
    refine ⟨some x, n, c, zs.take n, rfl, ⟨by simp; omega, hl, hm, .inr ?_⟩, fun q hq => hwz q (List.mem_of_mem_take hq)⟩
    obtain ⟨b, off, spot⟩ := x
    cases hs
    refine ⟨b, off, rfl, fun i hi => ?_⟩
    have := hcell i (by omega)
    rw [add_none] at this
    rw [this, List.getElem?_map, List.getElem?_take_of_lt (by omega), List.getElem?_eq_getElem (by omega)]
    simp [List.getD_eq_getElem?_getD, List.getElem?_eq_getElem (show i < zs.length by omega)]

end Go.Proofs.YtfjcfbmfpefabaaGreat

namespace Go.Proofs.YtfjcfbmfpefabaaGreat
set_option maxRecDepth 100000
open Go.ChangeShapes Go.WideShapes Go.ChangeAt Go.RowKit

/-- A struct that came in, field by field. -/
theorem open_struct {H : Type} {enc : TypeId × Value → H} {P : Program} {w : World} {base : Nat} {t : TypeId} {fs : Array Field} {ts : List TypeId} {v : Value} {d : DataW H} {p : List MemPlace}
    (ht : P.underlying t = some (.struct fs)) (hts : P.cellTypes P.depth t = some ts) (hok : Value.okWide P w .any base t v) (h : DataW.Trod enc P w 0 (fun _ => true) true t v d p) :
    ∃ cs : Array Value, v = .agg cs ∧ cs.size = P.cellsOf t ∧ (∀ (i : Nat) (u : Value), cs[i]? = some u → ∃ ty, ts[i % ts.length]? = some ty ∧ Cell.okWide P w .any base ty u) ∧
      ∀ (i : Nat) (f : Field), fs[i]? = some f → ∃ fuel x, DataW.trod enc P w 0 (fun _ => true) true fuel f.type ((cs.toList.drop f.offset).take (P.cellsOf f.type)) = some x := by
  simp only [Value.okWide, ht] at hok
  obtain ⟨cs, rfl, hsz, ts', hts', _, hall⟩ := hok
  rw [hts] at hts'
  cases hts'
  obtain ⟨fuel, hf⟩ := h
  obtain ⟨xs, n, _, _, _, hxl, hx⟩ := DataW.trod_struct ht hf
  refine ⟨cs, rfl, hsz, hall, fun i f hfi => ?_⟩
  have := hx i f hfi
  have hlt : i < xs.length := by
    have := (Array.getElem?_eq_some_iff.1 hfi).1
    omega
  rw [List.getElem?_eq_getElem hlt] at this
  exact ⟨n, _, this⟩

theorem cell_of_int {H : Type} {enc : TypeId × Value → H} {P : Program} {w : World} {fuel : Nat} {t : TypeId} {k : IntKind} {u : Value} {x : DataW H × List MemPlace} (ht : P.underlying t = some (.int k))
    (h : DataW.trod enc P w 0 (fun _ => true) true fuel t [u] = some x) : ∃ n, u = .int k n ∧ (Lit.int k n).wf = true := by
  obtain ⟨n, hn, _, hw⟩ := DataW.trod_int ht h
  cases hn
  exact ⟨n, rfl, hw⟩
theorem cell_of_slice {H : Type} {enc : TypeId × Value → H} {P : Program} {w : World} {base fuel : Nat} {t e : TypeId} {u : Value} {x : DataW H × List MemPlace} (ht : P.underlying t = some (.slice e)) (hok : Cell.okWide P w .any base t u)
    (h : DataW.trod enc P w 0 (fun _ => true) true fuel t [u] = some x) : Value.okWide P w .any base t u ∧ ∃ d p, DataW.Trod enc P w 0 (fun _ => true) true t u d p := by
  have h1 : Value.okWide P w .any base t u := by
    simp only [Value.okWide, ht]
    exact hok
  obtain ⟨a, n, c, rfl⟩ := okWide_slice ht h1
  exact ⟨h1, x.1, x.2, fuel, by simpa [Value.cells] using h⟩

theorem two_cells {cs : Array Value} (h : cs.size = 2) : ∃ x y, cs = #[x, y] := by
  obtain ⟨l⟩ := cs
  match l, h with
  | [x, y], _ => exact ⟨x, y, rfl⟩

/-- A fraction that came in. -/
theorem open_frac {H : Type} {enc : TypeId × Value → H} {w : World} {base : Nat} {v : Value} {d : DataW H} {p : List MemPlace}
    (hok : Value.okWide Tryz.prog w .any base 74 v) (h : DataW.Trod enc Tryz.prog w 0 (fun _ => true) true 74 v d p) :
    ∃ x y, v = .agg #[.int .i64 x, .int .i64 y] ∧ (Lit.int .i64 x).wf = true ∧ (Lit.int .i64 y).wf = true := by
  obtain ⟨cs, rfl, hsz, hall, hf⟩ := open_struct (ts := [3, 3]) Tryz.underlying74 (by kernel_rfl) hok h
  obtain ⟨x, y, rfl⟩ := two_cells (hsz.trans (by kernel_rfl))
  obtain ⟨m0, x0, h0⟩ := hf 0 _ rfl
  obtain ⟨m1, x1, h1⟩ := hf 1 _ rfl
  simp only at h0 h1
  obtain ⟨n, rfl, hw⟩ := cell_of_int Tryz.underlying3 h0
  obtain ⟨m, rfl, hw'⟩ := cell_of_int Tryz.underlying3 h1
  exact ⟨n, m, rfl, hw, hw'⟩
end Go.Proofs.YtfjcfbmfpefabaaGreat

namespace Go.Proofs.YtfjcfbmfpefabaaGreat
open Go.RowKit
open Calmly (Kept)

/-- A slice of slices of integers. -/
def SW (w : World) (a : Option Addr) (n c : Nat) (ws : List (List Int)) : Prop :=
  n = ws.length ∧ n ≤ c ∧ c ≤ maxLen ∧ ((a = none ∧ c = 0) ∨ ∃ b off, a = some ⟨b, off, none⟩ ∧ ∀ i, i < n → ∃ a' n' c', w.cell? ⟨b, off + i, none⟩ = some (.slice a' n' c') ∧ SI w a' n' c' (ws[i]?.getD []))
theorem SW.keep {w w' : World} {a : Option Addr} {n c : Nat} {ws : List (List Int)} (h : SW w a n c ws) (hb : Below w.heap.size w w') : SW w' a n c ws := by
  obtain ⟨h1, h2, h3, h4⟩ := h
  refine ⟨h1, h2, h3, ?_⟩
  rcases h4 with h4 | ⟨b, off, ha, hc⟩
  · exact .inl h4
  · refine .inr ⟨b, off, ha, fun i hi => ?_⟩
    obtain ⟨a', n', c', e1, e2⟩ := hc i hi
    exact ⟨a', n', c', cell_keep e1 hb, e2.keep hb⟩
theorem SW.drew {w : World} {a : Option Addr} {n c : Nat} {ws : List (List Int)} (h : SW w a n c ws) : SW w.drew a n c ws := h
theorem SW.len {w : World} {a : Option Addr} {n c : Nat} {ws : List (List Int)} (h : SW w a n c ws) : n = ws.length := h.1
theorem SW.cap {w : World} {a : Option Addr} {n c : Nat} {ws : List (List Int)} (h : SW w a n c ws) : n ≤ c := h.2.1
theorem SW.max {w : World} {a : Option Addr} {n c : Nat} {ws : List (List Int)} (h : SW w a n c ws) : c ≤ 9223372036854775807 := h.2.2.1
theorem SW.nil (w : World) : SW w none 0 0 [] := ⟨rfl, Nat.le_refl _, Nat.zero_le _, .inl ⟨rfl, rfl⟩⟩
/-- The place of one that has an element. -/
theorem SW.at_ {w : World} {a : Option Addr} {n c : Nat} {ws : List (List Int)} (h : SW w a n c ws) (hn : 0 < n) :
    ∃ b off, a = some ⟨b, off, none⟩ ∧ ∀ i, i < n → ∃ a' n' c', w.cell? ⟨b, off + i, none⟩ = some (.slice a' n' c') ∧ SI w a' n' c' (ws[i]?.getD []) := by
  obtain ⟨h1, h2, h3, h4⟩ := h
  rcases h4 with ⟨_, rfl⟩ | h4
  · omega
  · exact h4
/-- '[][]int{l}'. -/
theorem SW.one (w : World) {a : Option Addr} {n c : Nat} {xs : List Int} (h : SI w a n c xs) (e : TypeId) {r : Nat} (hr : r = w.heap.size) : SW (w.alloc (.cells #[.slice a n c] e)) (some ⟨r, 0, none⟩) 1 1 [xs] := by
  subst hr
  refine ⟨rfl, Nat.le_refl _, by unfold maxLen; omega, .inr ⟨_, 0, rfl, fun i hi => ?_⟩⟩
  obtain rfl : i = 0 := by omega
  refine ⟨a, n, c, ?_, h.keep ((Below.refl _ _).alloc (Nat.le_refl _) _)⟩
  rw [Nat.zero_add, cell_block (alloc_new _ _)]
  rfl

/-- Four integers. -/
abbrev Four := (Int × Int) × (Int × Int)
def four0 : Four := ((0, 0), (0, 0))
/-- The cells of rows of four. -/
def bv (l : List Four) : List Value := l.flatMap fun p => [Value.int .i64 p.1.1, Value.int .i64 p.1.2, Value.int .i64 p.2.1, Value.int .i64 p.2.2]
theorem bv_len (l : List Four) : (bv l).length = l.length * 4 := by
  induction l with
  | nil => rfl
  | cons p l ih =>
    show (_ :: _ :: _ :: _ :: bv l).length = _
    simp [ih]
    omega
theorem bv_append (l m : List Four) : bv (l ++ m) = bv l ++ bv m := by simp [bv]
theorem bv_get (l : List Four) (i : Nat) (h : i < l.length) : (bv l)[4 * i]? = some (.int .i64 (l[i]?.getD four0).1.1) ∧ (bv l)[4 * i + 1]? = some (.int .i64 (l[i]?.getD four0).1.2) ∧ (bv l)[4 * i + 2]? = some (.int .i64 (l[i]?.getD four0).2.1) ∧ (bv l)[4 * i + 3]? = some (.int .i64 (l[i]?.getD four0).2.2) := by
  induction l generalizing i with
  | nil => simp at h
  | cons p l ih =>
    have e : bv (p :: l) = Value.int .i64 p.1.1 :: Value.int .i64 p.1.2 :: Value.int .i64 p.2.1 :: Value.int .i64 p.2.2 :: bv l := rfl
    rw [e]
    cases i with
    | zero => simp
    | succ i =>
      have := ih i (by simpa using h)
      rw [show 4 * (i + 1) = 4 * i + 1 + 1 + 1 + 1 by omega]
      simpa using this
/-- A slice of rows of four. -/
def SB (w : World) (a : Option Addr) (n c : Nat) (l : List Four) : Prop := Sl w 4 a n c (bv l)
theorem SB.keep {w w' : World} {a : Option Addr} {n c : Nat} {l : List Four} (h : SB w a n c l) (hb : Below w.heap.size w w') : SB w' a n c l := Sl.keep h hb
theorem SB.len {w : World} {a : Option Addr} {n c : Nat} {l : List Four} (h : SB w a n c l) : n = l.length := by have := h.1; rw [bv_len] at this; omega
theorem SB.cap {w : World} {a : Option Addr} {n c : Nat} {l : List Four} (h : SB w a n c l) : n ≤ c := h.2.1
theorem SB.max {w : World} {a : Option Addr} {n c : Nat} {l : List Four} (h : SB w a n c l) : c ≤ 9223372036854775807 := h.2.2.1
theorem SB.drew {w : World} {a : Option Addr} {n c : Nat} {l : List Four} (h : SB w a n c l) : SB w.drew a n c l := h
theorem SB.nil (w : World) : SB w none 0 0 [] := Sl.nil w 4
theorem SB.at_ {w : World} {a : Option Addr} {n c : Nat} {l : List Four} (h : SB w a n c l) (hn : 0 < n) :
    ∃ b off, a = some ⟨b, off, none⟩ ∧ ∀ i, i < n → w.cell? ⟨b, off + i * 4, none⟩ = some (.int .i64 (l[i]?.getD four0).1.1) ∧ w.cell? ⟨b, off + i * 4 + 1, none⟩ = some (.int .i64 (l[i]?.getD four0).1.2) ∧
      w.cell? ⟨b, off + i * 4 + 2, none⟩ = some (.int .i64 (l[i]?.getD four0).2.1) ∧ w.cell? ⟨b, off + i * 4 + 3, none⟩ = some (.int .i64 (l[i]?.getD four0).2.2) := by
  have hl := h.len
  obtain ⟨h1, h2, h3, h4⟩ := h
  rcases h4 with rfl | ⟨b, off, rfl, hc⟩
  · omega
  · refine ⟨b, off, rfl, fun i hi => ?_⟩
    obtain ⟨e1, e2, e3, e4⟩ := bv_get l i (by omega)
    rw [Nat.mul_comm i 4, hc (4 * i) (by omega), show off + 4 * i + 1 = off + (4 * i + 1) by omega, hc (4 * i + 1) (by omega), show off + 4 * i + 2 = off + (4 * i + 2) by omega, hc (4 * i + 2) (by omega), show off + 4 * i + 3 = off + (4 * i + 3) by omega, hc (4 * i + 3) (by omega)]
    exact ⟨e1, e2, e3, e4⟩
theorem SB.lit (w : World) (l : List Four) (e : TypeId) {r n : Nat} (hr : r = w.heap.size) (hn : n = l.length) (hm : n ≤ 1000) : SB (w.alloc (.cells (bv l).toArray e)) (some ⟨r, 0, none⟩) n n l := by
  subst hr hn
  refine ⟨bv_len l, Nat.le_refl _, by unfold maxLen; omega, .inr ⟨_, 0, rfl, fun i hi => ?_⟩⟩
  rw [Nat.zero_add, cell_block (alloc_new _ _)]
  simp
end Go.Proofs.YtfjcfbmfpefabaaGreat

namespace Go.Proofs.YtfjcfbmfpefabaaGreat
set_option maxRecDepth 100000
open Go.ChangeShapes Go.WideShapes Go.ChangeAt Go.RowKit

/-- All k cells of a value of the type are integers. -/
def IC {H : Type} (enc : TypeId × Value → H) (P : Program) (w : World) (t : TypeId) (k : Nat) : Prop :=
  ∀ (fuel : Nat) (cs : List Value) (x : DataW H × List MemPlace), DataW.trod enc P w 0 (fun _ => true) true fuel t cs = some x → ∀ i, i < k → ∃ z, cs[i]? = some (.int .i64 z) ∧ (Lit.int .i64 z).wf = true
theorem ic_int {H : Type} {enc : TypeId × Value → H} {P : Program} {w : World} {t : TypeId} (ht : P.underlying t = some (.int .i64)) : IC enc P w t 1 := by
  intro fuel cs x h i hi
  obtain ⟨z, hz, _, hw⟩ := DataW.trod_int ht h
  obtain rfl : i = 0 := by omega
  exact ⟨z, by rw [hz]; rfl, hw⟩
theorem ic_struct {H : Type} {enc : TypeId × Value → H} {P : Program} {w : World} {t : TypeId} {fs : Array Field} {k : Nat} (ht : P.underlying t = some (.struct fs))
    (hF : ∀ i, i < k → ∃ (j : Nat) (f : Field) (d : Nat), fs[j]? = some f ∧ f.offset + d = i ∧ d < P.cellsOf f.type ∧ IC enc P w f.type (P.cellsOf f.type)) : IC enc P w t k := by
  intro fuel cs x h i hi
  obtain ⟨xs, m', _, _, _, hxl, hx⟩ := DataW.trod_struct ht h
  obtain ⟨j, f, d, hj, hd, hd2, hic⟩ := hF i hi
  have h2 := hx j f hj
  have h3 : j < xs.length := by
    have := (Array.getElem?_eq_some_iff.1 hj).1
    omega
  rw [List.getElem?_eq_getElem h3] at h2
  obtain ⟨z, hz, hw⟩ := hic _ _ _ h2 d hd2
  refine ⟨z, ?_, hw⟩
  rw [List.getElem?_take_of_lt hd2, List.getElem?_drop, hd] at hz
  exact hz

/-- A slice of values whose cells are integers. -/
theorem open_recsI {H : Type} {enc : TypeId × Value → H} {P : Program} {w : World} {base : Nat} {t e k : Nat} {v : Value} {d : DataW H} {p : List MemPlace}
    (ht : P.underlying t = some (.slice e)) (hk : P.cellsOf e = k) (k0 : 0 < k) (hI : IC enc P w e k)
    (hok : Value.okWide P w .any base t v) (h : DataW.Trod enc P w 0 (fun _ => true) true t v d p) :
    ∃ a n c, ∃ zs : List Int, v = .slice a n c ∧ Sl w k a n c (zs.map (Value.int .i64)) ∧ zs.length = n * k ∧ ∀ z ∈ zs, (Lit.int .i64 z).wf = true := by
  obtain ⟨a, n, c, rfl⟩ := okWide_slice ht hok
  obtain ⟨fuel, hf⟩ := h
  rcases DataW.trod_slice ht hf with ⟨hcs, _⟩ | ⟨a', len, cap, elems, rest, m, _, hcs, _, hb, hl, hm, hlen, hel, _, _⟩
  · simp [Value.cells] at hcs
    obtain ⟨rfl, rfl, rfl⟩ := hcs
    exact ⟨none, 0, 0, [], rfl, Sl.nil w k, by simp, by simp⟩
  · simp [Value.cells] at hcs
    obtain ⟨rfl, rfl, rfl⟩ := hcs
    have hs : a'.spot = none := okWide_spot ht hok
    obtain ⟨b, off, spot⟩ := a'
    cases hs
    simp only [add_none] at hel
    have each : ∀ i, i < n * k → ∃ z, w.cell? ⟨b, off + i, none⟩ = some (.int .i64 z) ∧ (Lit.int .i64 z).wf = true := by
      intro i hi
      have hq : i / k < n := (Nat.div_lt_iff_lt_mul k0).2 hi
      have hr : i % k < k := Nat.mod_lt _ k0
      have h1 := hel (i / k) hq
      obtain ⟨y, hy⟩ : ∃ y, elems[i / k]? = some y := ⟨elems[i / k], List.getElem?_eq_getElem (by omega)⟩
      rw [hy, hk, Option.bind_eq_some_iff] at h1
      obtain ⟨cs', hc', ht'⟩ := h1
      obtain ⟨z, hz, hw⟩ := hI _ _ _ ht' (i % k) hr
      refine ⟨z, ?_, hw⟩
      have h4 := (World.cells?_some hc').2.2 (i % k) hr
      have h5 : cs'[i % k]? = some (.int .i64 z) := by simpa using hz
      rw [h5] at h4
      rw [← h4]
      have h7 : i / k * k + i % k = i := by rw [Nat.mul_comm]; exact Nat.div_add_mod i k
      rw [add_none, Nat.add_assoc, h7]
    have : ∃ zs : List Int, zs.length = n * k ∧ ∀ i, i < n * k → w.cell? ⟨b, off + i, none⟩ = some (.int .i64 (zs.getD i 0)) ∧ (Lit.int .i64 (zs.getD i 0)).wf = true := by
      let g : Nat → Int := fun i => match w.cell? ⟨b, off + i, none⟩ with | some (.int .i64 z) => z | _ => 0
      refine ⟨(List.range (n * k)).map g, by simp, fun i hi => ?_⟩
      obtain ⟨z, hz, hw⟩ := each i hi
      have hg : ((List.range (n * k)).map g).getD i 0 = z := by
        simp [List.getD_eq_getElem?_getD, hi, g, hz]
      rw [hg]
      exact ⟨hz, hw⟩
    obtain ⟨zs, hzl, hz⟩ := this
    refine ⟨some ⟨b, off, none⟩, n, c, zs, rfl, ⟨by simpa using hzl, hl, hm, .inr ?_⟩, hzl, ?_⟩
    · refine ⟨b, off, rfl, fun i hi => ?_⟩
      have := (hz i hi).1
      rw [this, List.getElem?_map, List.getElem?_eq_getElem (by omega)]
      simp [List.getD_eq_getElem?_getD, List.getElem?_eq_getElem (show i < zs.length by omega)]
    · intro z hzm
      obtain ⟨i, hi, rfl⟩ := List.getElem_of_mem hzm
      have := (hz i (by omega)).2
      simpa [List.getD_eq_getElem?_getD, List.getElem?_eq_getElem hi] using this

/-- A struct whose cells are integers. -/
theorem open_recI {H : Type} {enc : TypeId × Value → H} {P : Program} {w : World} {base : Nat} {t : TypeId} {fs : Array Field} {ts : List TypeId} {k : Nat} {v : Value} {d : DataW H} {p : List MemPlace}
    (ht : P.underlying t = some (.struct fs)) (hts : P.cellTypes P.depth t = some ts) (hk : P.cellsOf t = k) (hI : IC enc P w t k)
    (hok : Value.okWide P w .any base t v) (h : DataW.Trod enc P w 0 (fun _ => true) true t v d p) :
    ∃ zs : List Int, v = .agg (zs.map (Value.int .i64)).toArray ∧ zs.length = k ∧ ∀ z ∈ zs, (Lit.int .i64 z).wf = true := by
  obtain ⟨cs, rfl, hsz, _, _⟩ := open_struct ht hts hok h
  obtain ⟨fuel, hf⟩ := h
  have each := hI fuel _ _ hf
  have : ∃ zs : List Int, zs.length = k ∧ ∀ i, i < k → cs[i]? = some (.int .i64 (zs.getD i 0)) ∧ (Lit.int .i64 (zs.getD i 0)).wf = true := by
    let g : Nat → Int := fun i => match cs[i]? with | some (.int .i64 z) => z | _ => 0
    refine ⟨(List.range k).map g, by simp, fun i hi => ?_⟩
    obtain ⟨z, hz, hw⟩ := each i hi
    have hz' : cs[i]? = some (.int .i64 z) := by simpa [Value.cells] using hz
    have hg : ((List.range k).map g).getD i 0 = z := by
      simp [List.getD_eq_getElem?_getD, hi, g, hz']
    rw [hg]
    exact ⟨hz', hw⟩
  obtain ⟨zs, hzl, hz⟩ := this
  refine ⟨zs, ?_, hzl, ?_⟩
  · congr 1
    refine Array.ext (by simp; omega) fun i h1 h2 => ?_
    have h3 : i < k := by omega
    have := (hz i h3).1
    rw [Array.getElem?_eq_getElem h1] at this
    have h4 := Option.some.inj this
    rw [h4]
    simp [List.getD_eq_getElem?_getD, List.getElem?_eq_getElem (show i < zs.length by omega)]
  · intro z hzm
    obtain ⟨i, hi, rfl⟩ := List.getElem_of_mem hzm
    have := (hz i (by omega)).2
    simpa [List.getD_eq_getElem?_getD, List.getElem?_eq_getElem hi] using this

/-- A record that came in. -/
theorem open_record {H : Type} {enc : TypeId × Value → H} {w : World} {base : Nat} {v : Value} {d : DataW H} {p : List MemPlace}
    (hok : Value.okWide Tryz.prog w .any base 24 v) (h : DataW.Trod enc Tryz.prog w 0 (fun _ => true) true 24 v d p) :
    ∃ s a n c l, v = .agg #[.int .i64 s, .slice a n c] ∧ (Lit.int .i64 s).wf = true ∧ SI w a n c l ∧ (∀ q ∈ l, (Lit.int .i64 q).wf = true) := by
  obtain ⟨cs, rfl, hsz, hall, hf⟩ := open_struct (ts := [3, 22]) Tryz.underlying24 (by kernel_rfl) hok h
  obtain ⟨x, y, rfl⟩ := two_cells (hsz.trans (by kernel_rfl))
  obtain ⟨m0, x0, h0⟩ := hf 0 _ rfl
  obtain ⟨m1, x1, h1⟩ := hf 1 _ rfl
  simp only at h0 h1
  obtain ⟨s, rfl, hw⟩ := cell_of_int Tryz.underlying3 h0
  obtain ⟨ty, hty, ho⟩ := hall 1 y rfl
  cases hty
  obtain ⟨k1, d', p', k2⟩ := cell_of_slice Tryz.underlying22 ho h1
  obtain ⟨a, n, c, l, rfl, hs, hwl⟩ := open_nums k1 k2
  exact ⟨s, a, n, c, l, rfl, hw, hs, hwl⟩
end Go.Proofs.YtfjcfbmfpefabaaGreat

namespace Go.Proofs.YtfjcfbmfpefabaaGreat
set_option maxRecDepth 100000
open Go.ChangeShapes Go.WideShapes Go.ChangeAt Go.RowKit

theorem bv_of (zs : List Int) (n : Nat) (h : zs.length = n * 4) : ∃ l : List Four, bv l = zs.map (Value.int .i64) := by
  induction n generalizing zs with
  | zero => exact ⟨[], by have : zs = [] := List.length_eq_zero_iff.1 (by omega); subst this; rfl⟩
  | succ n ih =>
    match zs, h with
    | [], h => simp at h
    | [x], h => simp at h; omega
    | [x, y], h => simp at h; omega
    | [x, y, u], h => simp at h; omega
    | x :: y :: u :: v :: zs, h =>
      obtain ⟨l, hl⟩ := ih zs (by simp at h; omega)
      refine ⟨((x, y), (u, v)) :: l, ?_⟩
      show _ :: _ :: _ :: _ :: bv l = _
      rw [hl]
      rfl
theorem bv_mem {l : List Four} {zs : List Int} (h : bv l = zs.map (Value.int .i64)) : ∀ q ∈ l, (q.1.1 ∈ zs ∧ q.1.2 ∈ zs) ∧ q.2.1 ∈ zs ∧ q.2.2 ∈ zs := by
  intro q hq
  have h1 : Value.int .i64 q.1.1 ∈ bv l := by simp only [bv, List.mem_flatMap]; exact ⟨q, hq, by simp⟩
  have h2 : Value.int .i64 q.1.2 ∈ bv l := by simp only [bv, List.mem_flatMap]; exact ⟨q, hq, by simp⟩
  have h3 : Value.int .i64 q.2.1 ∈ bv l := by simp only [bv, List.mem_flatMap]; exact ⟨q, hq, by simp⟩
  have h4 : Value.int .i64 q.2.2 ∈ bv l := by simp only [bv, List.mem_flatMap]; exact ⟨q, hq, by simp⟩
  rw [h] at h1 h2 h3 h4
  simp at h1 h2 h3 h4
  exact ⟨⟨h1, h2⟩, h3, h4⟩

theorem ic_at {H : Type} {enc : TypeId × Value → H} {P : Program} {w : World} {fs : Array Field} {i k : Nat} (j d : Nat) {f : Field} (hj : fs[j]? = some f) (ho : f.offset + d = i) (hk : P.cellsOf f.type = k) (hd : d < k) (hI : IC enc P w f.type k) :
    ∃ (j : Nat) (f : Field) (d : Nat), fs[j]? = some f ∧ f.offset + d = i ∧ d < P.cellsOf f.type ∧ IC enc P w f.type (P.cellsOf f.type) := ⟨j, f, d, hj, ho, by rw [hk]; exact hd, by rw [hk]; exact hI⟩
theorem ic_osc {H : Type} {enc : TypeId × Value → H} {w : World} : IC enc Tryz.prog w 52 2 := by
  refine ic_struct Tryz.underlying52 fun i hi => ?_
  match i, hi with
  | 0, _ => exact ic_at 0 0 rfl rfl (by kernel_rfl) (by omega) (ic_int Tryz.underlying3)
  | 1, _ => exact ic_at 1 0 rfl rfl (by kernel_rfl) (by omega) (ic_int Tryz.underlying3)
theorem ic_range {H : Type} {enc : TypeId × Value → H} {w : World} : IC enc Tryz.prog w 103 2 := by
  refine ic_struct Tryz.underlying103 fun i hi => ?_
  match i, hi with
  | 0, _ => exact ic_at 0 0 rfl rfl (by kernel_rfl) (by omega) (ic_int Tryz.underlying3)
  | 1, _ => exact ic_at 1 0 rfl rfl (by kernel_rfl) (by omega) (ic_int Tryz.underlying3)
theorem ic_frac {H : Type} {enc : TypeId × Value → H} {w : World} : IC enc Tryz.prog w 74 2 := by
  refine ic_struct Tryz.underlying74 fun i hi => ?_
  match i, hi with
  | 0, _ => exact ic_at 0 0 rfl rfl (by kernel_rfl) (by omega) (ic_int Tryz.underlying3)
  | 1, _ => exact ic_at 1 0 rfl rfl (by kernel_rfl) (by omega) (ic_int Tryz.underlying3)
theorem ic_band {H : Type} {enc : TypeId × Value → H} {w : World} : IC enc Tryz.prog w 105 4 := by
  refine ic_struct Tryz.underlying105 fun i hi => ?_
  match i, hi with
  | 0, _ => exact ic_at 0 0 rfl rfl (by kernel_rfl) (by omega) ic_osc
  | 1, _ => exact ic_at 0 1 rfl rfl (by kernel_rfl) (by omega) ic_osc
  | 2, _ => exact ic_at 1 0 rfl rfl (by kernel_rfl) (by omega) ic_range
  | 3, _ => exact ic_at 1 1 rfl rfl (by kernel_rfl) (by omega) ic_range
/-- A number that came in. -/
theorem open_num {H : Type} {enc : TypeId × Value → H} {w : World} {base : Nat} {v : Value} {d : DataW H} {p : List MemPlace}
    (hok : Value.okWide Tryz.prog w .any base 3 v) (h : DataW.Trod enc Tryz.prog w 0 (fun _ => true) true 3 v d p) : ∃ x, v = .int .i64 x ∧ (Lit.int .i64 x).wf = true := by
  obtain ⟨n, rfl⟩ := okWide_int Tryz.underlying3 hok
  obtain ⟨fuel, hf⟩ := h
  obtain ⟨z, hz, hw⟩ := cell_of_int (u := .int .i64 n) Tryz.underlying3 (by simpa [Value.cells] using hf)
  cases hz
  exact ⟨n, rfl, hw⟩

/-- Bands that came in. -/
theorem open_bands {H : Type} {enc : TypeId × Value → H} {w : World} {base : Nat} {v : Value} {d : DataW H} {p : List MemPlace}
    (hok : Value.okWide Tryz.prog w .any base 55 v) (h : DataW.Trod enc Tryz.prog w 0 (fun _ => true) true 55 v d p) :
    ∃ a n c l, v = .slice a n c ∧ SB w a n c l ∧ ∀ q ∈ l, ((Lit.int .i64 q.1.1).wf = true ∧ (Lit.int .i64 q.1.2).wf = true) ∧ (Lit.int .i64 q.2.1).wf = true ∧ (Lit.int .i64 q.2.2).wf = true := by
  obtain ⟨a, n, c, zs, rfl, hs, hl, hw⟩ := open_recsI (k := 4) Tryz.underlying55 (by kernel_rfl) (by omega) ic_band hok h
  obtain ⟨l, hl'⟩ := bv_of zs n hl
  rw [← hl'] at hs
  refine ⟨a, n, c, l, rfl, hs, fun q hq => ?_⟩
  obtain ⟨⟨h1, h2⟩, h3, h4⟩ := bv_mem hl' q hq
  exact ⟨⟨hw _ h1, hw _ h2⟩, hw _ h3, hw _ h4⟩
/-- An oscillator that came in. -/
theorem open_osc {H : Type} {enc : TypeId × Value → H} {w : World} {base : Nat} {v : Value} {d : DataW H} {p : List MemPlace}
    (hok : Value.okWide Tryz.prog w .any base 52 v) (h : DataW.Trod enc Tryz.prog w 0 (fun _ => true) true 52 v d p) :
    ∃ x y, v = .agg #[.int .i64 x, .int .i64 y] ∧ (Lit.int .i64 x).wf = true ∧ (Lit.int .i64 y).wf = true := by
  obtain ⟨zs, rfl, hl, hw⟩ := open_recI (k := 2) (ts := [3, 3]) Tryz.underlying52 (by kernel_rfl) (by kernel_rfl) ic_osc hok h
  match zs, hl, hw with
  | [x, y], _, hw => exact ⟨x, y, rfl, hw x (by simp), hw y (by simp)⟩
/-- A list within a slice of lists: its numbers; where it has no room its place may be anything. -/
theorem open_inner {H : Type} {enc : TypeId × Value → H} {w : World} {fuel : Nat} {cs : List Value} {x : DataW H × List MemPlace}
    (h : DataW.trod enc Tryz.prog w 0 (fun _ => true) true fuel 22 cs = some x) :
    ∃ a n c l, cs = [.slice a n c] ∧ SI w a n c l ∧ ∀ q ∈ l, (Lit.int .i64 q).wf = true := by
  rcases open_ints Tryz.underlying22 Tryz.underlying3 (by kernel_rfl) h with ⟨rfl, _⟩ | ⟨y, l, c', zs, rfl, _, hl, hm, hz, _, hcell, hwz⟩
  · exact ⟨none, 0, 0, [], rfl, Sl.nil w 1, by simp⟩
  · have hz' : zs.length = c' := by simpa using hz
    refine ⟨some y, l, c', zs.take l, rfl, ⟨by simp; omega, hl, hm, ?_⟩, fun q hq => hwz q (List.mem_of_mem_take hq)⟩
    by_cases h0 : c' = 0
    · exact .inl h0
    right
    obtain ⟨b, off, spot⟩ := y
    have hs : spot = none := by
      have := hcell 0 (by omega)
      rw [show Addr.add ⟨b, off, spot⟩ 0 = ⟨b, off, spot⟩ from rfl] at this
      unfold World.cell? at this
      split at this
      · cases spot with
        | none => rfl
        | some _ => simp at this
      · cases this
    subst hs
    refine ⟨b, off, rfl, fun i hi => ?_⟩
    have := hcell i (by omega)
    rw [add_none] at this
    rw [this, List.getElem?_map, List.getElem?_take_of_lt (by omega), List.getElem?_eq_getElem (by omega)]
    simp [List.getD_eq_getElem?_getD, List.getElem?_eq_getElem (show i < zs.length by omega)]

/-- Lists that came in. -/
theorem open_lists {H : Type} {enc : TypeId × Value → H} {w : World} {base : Nat} {v : Value} {d : DataW H} {p : List MemPlace}
    (hok : Value.okWide Tryz.prog w .any base 54 v) (h : DataW.Trod enc Tryz.prog w 0 (fun _ => true) true 54 v d p) :
    ∃ a n c ws, v = .slice a n c ∧ SW w a n c ws ∧ ∀ l ∈ ws, ∀ q ∈ l, (Lit.int .i64 q).wf = true := by
  obtain ⟨a, n, c, rfl⟩ := okWide_slice Tryz.underlying54 hok
  obtain ⟨fuel, hf⟩ := h
  rcases DataW.trod_slice Tryz.underlying54 hf with ⟨hcs, _⟩ | ⟨a', len, cap, elems, rest, m, _, hcs, _, hb, hl, hm, hlen, hel, _, _⟩
  · simp [Value.cells] at hcs
    obtain ⟨rfl, rfl, rfl⟩ := hcs
    exact ⟨none, 0, 0, [], rfl, SW.nil w, by simp⟩
  · simp [Value.cells] at hcs
    obtain ⟨rfl, rfl, rfl⟩ := hcs
    have hs : a'.spot = none := okWide_spot Tryz.underlying54 hok
    obtain ⟨b, off, spot⟩ := a'
    cases hs
    have hk : Tryz.prog.cellsOf 22 = 1 := by kernel_rfl
    simp only [add_none, hk, Nat.mul_one] at hel
    have each : ∀ i, i < n → ∃ a1 n1 c1 l, w.cell? ⟨b, off + i, none⟩ = some (.slice a1 n1 c1) ∧ SI w a1 n1 c1 l ∧ ∀ q ∈ l, (Lit.int .i64 q).wf = true := by
      intro i hi
      have h1 := hel i hi
      obtain ⟨y, hy⟩ : ∃ y, elems[i]? = some y := ⟨elems[i], List.getElem?_eq_getElem (by omega)⟩
      rw [hy, Option.bind_eq_some_iff] at h1
      obtain ⟨cs', hc', ht'⟩ := h1
      obtain ⟨a1, n1, c1, l, rfl, h2, h3⟩ := open_inner ht'
      refine ⟨a1, n1, c1, l, ?_, h2, h3⟩
      have h4 := (World.cells?_some hc').2.2 0 (by omega)
      rw [add_none] at h4
      exact h4
    have : ∃ ws : List (List Int), ws.length = n ∧ ∀ i, i < n → ∃ a1 n1 c1, w.cell? ⟨b, off + i, none⟩ = some (.slice a1 n1 c1) ∧ SI w a1 n1 c1 (ws[i]?.getD []) ∧ ∀ q ∈ ws[i]?.getD [], (Lit.int .i64 q).wf = true := by
      have key : ∀ k, k ≤ n → ∃ ws : List (List Int), ws.length = k ∧ ∀ i, i < k → ∃ a1 n1 c1, w.cell? ⟨b, off + i, none⟩ = some (.slice a1 n1 c1) ∧ SI w a1 n1 c1 (ws[i]?.getD []) ∧ ∀ q ∈ ws[i]?.getD [], (Lit.int .i64 q).wf = true := by
        intro k
        induction k with
        | zero => exact fun _ => ⟨[], rfl, fun i hi => by omega⟩
        | succ k ih =>
          intro hk'
          obtain ⟨ws, e1, e2⟩ := ih (by omega)
          obtain ⟨a1, n1, c1, l, g1, g2, g3⟩ := each k (by omega)
          refine ⟨ws ++ [l], by simp [e1], fun i hi => ?_⟩
          by_cases hik : i = k
          · subst hik
            refine ⟨a1, n1, c1, g1, ?_, ?_⟩
            · rw [List.getElem?_append_right (by omega)]
              simpa [e1] using g2
            · rw [List.getElem?_append_right (by omega)]
              simpa [e1] using g3
          · obtain ⟨a2, n2, c2, f1, f2, f3⟩ := e2 i (by omega)
            rw [List.getElem?_append_left (by omega)]
            exact ⟨a2, n2, c2, f1, f2, f3⟩
      exact key n (Nat.le_refl _)
    obtain ⟨ws, e1, e2⟩ := this
    refine ⟨_, n, c, ws, rfl, ⟨e1.symm, hl, hm, .inr ⟨b, off, rfl, fun i hi => ?_⟩⟩, ?_⟩
    · obtain ⟨a1, n1, c1, f1, f2, _⟩ := e2 i hi
      exact ⟨a1, n1, c1, f1, f2⟩
    · intro l hlm
      obtain ⟨i, hi, rfl⟩ := List.getElem_of_mem hlm
      obtain ⟨_, _, _, _, _, f3⟩ := e2 i (by omega)
      rw [List.getElem?_eq_getElem hi] at f3
      exact f3

end Go.Proofs.YtfjcfbmfpefabaaGreat

namespace Go.Proofs.YtfjcfbmfpefabaaGreat
set_option maxRecDepth 100000
open Go.ChangeShapes Go.WideShapes Go.ChangeAt Go.RowKit

/-- Parts that came in. -/
theorem open_parts {H : Type} {enc : TypeId × Value → H} {w : World} {base : Nat} {v : Value} {d : DataW H} {p : List MemPlace}
    (hok : Value.okWide Tryz.prog w .any base 26 v) (h : DataW.Trod enc Tryz.prog w 0 (fun _ => true) true 26 v d p) :
    ∃ s a n c l, v = .agg #[.int .i64 s, .slice a n c] ∧ (Lit.int .i64 s).wf = true ∧ SI w a n c l ∧ (∀ q ∈ l, (Lit.int .i64 q).wf = true) := by
  obtain ⟨cs, rfl, hsz, hall, hf⟩ := open_struct (ts := [3, 22]) Tryz.underlying26 (by kernel_rfl) hok h
  obtain ⟨x, y, rfl⟩ := two_cells (hsz.trans (by kernel_rfl))
  obtain ⟨m0, x0, h0⟩ := hf 0 _ rfl
  obtain ⟨m1, x1, h1⟩ := hf 1 _ rfl
  simp only at h0 h1
  obtain ⟨s, rfl, hw⟩ := cell_of_int Tryz.underlying3 h0
  obtain ⟨ty, hty, ho⟩ := hall 1 y rfl
  cases hty
  obtain ⟨k1, d', p', k2⟩ := cell_of_slice Tryz.underlying22 ho h1
  obtain ⟨a, n, c, l, rfl, hs, hwl⟩ := open_nums k1 k2
  exact ⟨s, a, n, c, l, rfl, hw, hs, hwl⟩
theorem ic_prices {H : Type} {enc : TypeId × Value → H} {w : World} : IC enc Tryz.prog w 28 3 := by
  refine ic_struct Tryz.underlying28 fun i hi => ?_
  match i, hi with
  | 0, _ => exact ic_at 0 0 rfl rfl (by kernel_rfl) (by omega) (ic_int Tryz.underlying3)
  | 1, _ => exact ic_at 1 0 rfl rfl (by kernel_rfl) (by omega) (ic_int Tryz.underlying3)
  | 2, _ => exact ic_at 2 0 rfl rfl (by kernel_rfl) (by omega) (ic_int Tryz.underlying3)
/-- Prices that came in. -/
theorem open_prices {H : Type} {enc : TypeId × Value → H} {w : World} {base : Nat} {v : Value} {d : DataW H} {p : List MemPlace}
    (hok : Value.okWide Tryz.prog w .any base 28 v) (h : DataW.Trod enc Tryz.prog w 0 (fun _ => true) true 28 v d p) :
    ∃ x y z, v = .agg #[.int .i64 x, .int .i64 y, .int .i64 z] ∧ (Lit.int .i64 x).wf = true ∧ (Lit.int .i64 y).wf = true ∧ (Lit.int .i64 z).wf = true := by
  obtain ⟨zs, rfl, hl, hw⟩ := open_recI (k := 3) (ts := [3, 3, 3]) Tryz.underlying28 (by kernel_rfl) (by kernel_rfl) ic_prices hok h
  match zs, hl, hw with
  | [x, y, z], _, hw => exact ⟨x, y, z, rfl, hw x (by simp), hw y (by simp), hw z (by simp)⟩
end Go.Proofs.YtfjcfbmfpefabaaGreat

namespace Go.Proofs.YtfjcfbmfpefabaaGreat
open Go.RowKit

/-- No error if something is so. -/
def unlessE (b : Bool) (x : Int) : Int := if b then 0 else x

/-- The first number of a list that is not 0. -/
def firstE : List Int → Int
  | [] => 0
  | x :: l => if x = 0 then firstE l else x
theorem firstE_drop (xs : List Int) (k : Nat) (h : k < xs.length) : firstE (xs.drop k) = if xs[k]?.getD 0 = 0 then firstE (xs.drop (k + 1)) else xs[k]?.getD 0 := by
  rw [List.drop_eq_getElem_cons h]
  simp [firstE, h]

/-- A list of two errors, as the call lays it. -/
theorem SI.two (w : World) (x y : Int) (e : TypeId) {r : Nat} (hr : r = w.heap.size) : SI (w.alloc (.cells #[.int .i64 x, .int .i64 y] e)) (some ⟨r, 0, none⟩) 2 2 [x, y] := by
  subst hr
  refine ⟨rfl, Nat.le_refl _, by unfold maxLen; omega, .inr ⟨_, 0, rfl, fun i hi => ?_⟩⟩
  rw [Nat.zero_add, cell_block (alloc_new _ _)]
  simp
theorem SI.three (w : World) (x y z : Int) (e : TypeId) {r : Nat} (hr : r = w.heap.size) : SI (w.alloc (.cells #[.int .i64 x, .int .i64 y, .int .i64 z] e)) (some ⟨r, 0, none⟩) 3 3 [x, y, z] := by
  subst hr
  refine ⟨rfl, Nat.le_refl _, by unfold maxLen; omega, .inr ⟨_, 0, rfl, fun i hi => ?_⟩⟩
  rw [Nat.zero_add, cell_block (alloc_new _ _)]
  simp
theorem SI.four (w : World) (x y z u : Int) (e : TypeId) {r : Nat} (hr : r = w.heap.size) : SI (w.alloc (.cells #[.int .i64 x, .int .i64 y, .int .i64 z, .int .i64 u] e)) (some ⟨r, 0, none⟩) 4 4 [x, y, z, u] := by
  subst hr
  refine ⟨rfl, Nat.le_refl _, by unfold maxLen; omega, .inr ⟨_, 0, rfl, fun i hi => ?_⟩⟩
  rw [Nat.zero_add, cell_block (alloc_new _ _)]
  simp

/-- The greatest common divisor of a list. -/
def gcds (l : List Int) : Nat := l.foldl (fun g x => Int.gcd g x) 0
theorem gcds_take (xs : List Int) (k : Nat) (h : k < xs.length) : gcds (xs.take (k + 1)) = Int.gcd (gcds (xs.take k)) (xs[k]?.getD 0) := by
  unfold gcds
  rw [List.take_succ_eq_append_getElem h, List.foldl_append, List.getElem?_eq_getElem h]
  rfl
end Go.Proofs.YtfjcfbmfpefabaaGreat

namespace Go.Calmly
theorem wpOps_list {P : Program} {ops : Array Oper} {Q : Exit → Act → World → Prop} (l : List Nat) : wpOps P ops Q l = wpList P ops Q (l.filterMap (fun i => ops[i]?)) := by
  induction l with
  | nil => funext a w; simp [wpOps, wpList]
  | cons i l ih =>
    funext a w
    cases h : ops[i]? with
    | none => simp only [wpOps, h, List.filterMap_cons, ih]
    | some o => simp only [wpOps, h, List.filterMap_cons, ih, wpList]
/-- The next operation of the tail is one that may have no room: an append. -/
theorem mix_tail_app {P : Program} {ops : Array Oper} {Q : Exit → Act → World → Prop} {w0 : World} {i : Nat} {l : List Nat} {dst : Option Tmp} {op : Op} {ty : TypeId} {pos : String} {after : Array Edge} {a : Act} {w : World} (hi : ops[i]? = some ⟨dst, op, ty, pos, after, none⟩)
    (h : ∀ rest, (∀ a' w', WpMix P ops Q w0 (.tail l) a' w' → wpList P ops Q rest a' w') → wpList P ops Q (⟨dst, op, ty, pos, after, none⟩ :: rest) a w) : WpMix P ops Q w0 (.tail (i :: l)) a w := by
  refine ⟨?_⟩
  show wpOps P ops Q (i :: l) a w
  rw [wpOps_list, List.filterMap_cons, hi]
  refine h _ fun a' w' hh => ?_
  have := hh.out
  rw [← wpOps_list]
  exact this
end Go.Calmly
namespace Go.Proofs.YtfjcfbmfpefabaaGreat
open Go.RowKit
open Calmly (Kept)

/-- An append to a row of numbers, the world being that of the new number up to what is drawn. -/
theorem appIw {ops : Array Oper} {rest : List Oper} {o : Oper} {a : Act} {Q : Exit → Act → World → Prop} {Wx : World} (w0 : World) {B : Nat} {av : Option Addr} {n c : Nat} {xs : List Int} {v : Int}
    (hW : Wx = w0.alloc (.cells #[.int .i64 v] 3)) (hgd : o.guard = none) (s x : Operand)
    (ho : o.op = .call { callee := .builtin .append, args := #[s, x], argTypes := #[22, 22] })
    (hown : OwI w0 B av n c xs) (hs : a.eval s = .slice av n c) (hx : a.eval x = .slice (some ⟨w0.heap.size, 0, none⟩) 1 1)
    (hb1 : n + 1 ≤ 17592186044416) (hB : B ≤ w0.heap.size)
    (h : ∀ a' c' w', OwI w' B a' (n + 1) c' (xs ++ [v]) → Below B w0 w' → w0.heap.size < w'.heap.size → wpList Tryz.prog ops Q rest (a.put o.dst (.slice a' (n + 1) c')) w') :
    wpList Tryz.prog ops Q (o :: rest) a Wx := by
  subst hW
  exact appI hgd s x ho hown hs hx hb1 hB h
theorem gcd_mul_dvd (d a b x : Nat) : d ∣ Nat.gcd a b * x ↔ d ∣ a * x ∧ d ∣ b * x := by
  rw [← Nat.gcd_mul_right, Nat.dvd_gcd_iff]
theorem gcds_fold (l : List Int) (g d x : Nat) : d ∣ (l.foldl (fun g x => Int.gcd g x) g) * x ↔ d ∣ g * x ∧ ∀ p ∈ l, d ∣ p.natAbs * x := by
  induction l generalizing g with
  | nil => simp
  | cons p l ih =>
    rw [List.foldl_cons, ih]
    have : Int.gcd (g : Int) p = Nat.gcd g p.natAbs := by simp [Int.gcd]
    rw [this, gcd_mul_dvd]
    simp [and_assoc]
theorem gcds_dvd (l : List Int) (d x : Nat) : d ∣ gcds l * x ↔ ∀ p ∈ l, d ∣ p.natAbs * x := by
  unfold gcds
  rw [gcds_fold]
  simp
theorem gcds_dvd_mem {l : List Int} {p : Int} (h : p ∈ l) : ((gcds l : Nat) : Int) ∣ p := by
  have := (gcds_dvd l (gcds l) 1).1 (by simp) p h
  rw [Nat.mul_one] at this
  exact Int.natAbs_dvd_natAbs.1 (by simpa using this)
theorem gcds_pos {l : List Int} {p : Int} (h : p ∈ l) (hp : p ≠ 0) : 0 < gcds l := by
  rcases Nat.eq_zero_or_pos (gcds l) with h0 | h0
  · have := gcds_dvd_mem h
    rw [h0] at this
    simp at this
    exact absurd this hp
  · exact h0
end Go.Proofs.YtfjcfbmfpefabaaGreat
