/- The arguments of a law, opened: structs that came in. -/
import Derived.Test.YtmaidjankakppaaOa
namespace Go.Proofs.Ytmaidjankakppaa
set_option maxRecDepth 100000
open Go.ChangeShapes Go.WideShapes Go.ChangeAt Go.RowKit

/-- A struct that came in, field by field. -/
theorem open_struct {H : Type} {enc : TypeId × Value → H} {P : Program} {w : World} {base : Nat} {t : TypeId} {fs : Array Field} {ts : List TypeId} {v : Value} {d : DataW H} {p : List MemPlace}
    (ht : P.underlying t = some (.struct fs)) (hts : P.cellTypes P.depth t = some ts) (hok : Value.okWide P w .any base t v) (h : DataW.Trod enc P w 0 (fun _ => true) true t v d p) :
    ∃ cs : Array Value, v = .agg cs ∧ cs.size = P.cellsOf t ∧ (∀ (i : Nat) (u : Value), cs[i]? = some u → ∃ ty, ts[i % ts.length]? = some ty ∧ Cell.okWide P w .any base ty u) ∧
      ∀ (i : Nat) (f : Field), fs[i]? = some f → ∃ fuel x, DataW.trod enc P w 0 (fun _ => true) true fuel f.type ((cs.toList.drop f.offset).take (P.cellsOf f.type)) = some x := by
  simp only [Value.okWide, ht] at hok
  obtain ⟨cs, rfl, hsz, ts', hts', _, hall⟩ := hok
  rw [hts] at hts'
  cases hts'
  obtain ⟨fuel, hf⟩ := h
  obtain ⟨xs, n, _, _, _, hxl, hx⟩ := DataW.trod_struct ht hf
  refine ⟨cs, rfl, hsz, hall, fun i f hfi => ?_⟩
  have := hx i f hfi
  have hlt : i < xs.length := by
    have := (Array.getElem?_eq_some_iff.1 hfi).1
    omega
  rw [List.getElem?_eq_getElem hlt] at this
  exact ⟨n, _, this⟩

theorem cell_of_int {H : Type} {enc : TypeId × Value → H} {P : Program} {w : World} {fuel : Nat} {t : TypeId} {k : IntKind} {u : Value} {x : DataW H × List MemPlace} (ht : P.underlying t = some (.int k))
    (h : DataW.trod enc P w 0 (fun _ => true) true fuel t [u] = some x) : ∃ n, u = .int k n ∧ (Lit.int k n).wf = true := by
  obtain ⟨n, hn, _, hw⟩ := DataW.trod_int ht h
  cases hn
  exact ⟨n, rfl, hw⟩
theorem cell_of_slice {H : Type} {enc : TypeId × Value → H} {P : Program} {w : World} {base fuel : Nat} {t e : TypeId} {u : Value} {x : DataW H × List MemPlace} (ht : P.underlying t = some (.slice e)) (hok : Cell.okWide P w .any base t u)
    (h : DataW.trod enc P w 0 (fun _ => true) true fuel t [u] = some x) : Value.okWide P w .any base t u ∧ ∃ d p, DataW.Trod enc P w 0 (fun _ => true) true t u d p := by
  have h1 : Value.okWide P w .any base t u := by
    simp only [Value.okWide, ht]
    exact hok
  obtain ⟨a, n, c, rfl⟩ := okWide_slice ht h1
  exact ⟨h1, x.1, x.2, fuel, by simpa [Value.cells] using h⟩

theorem two_cells {cs : Array Value} (h : cs.size = 2) : ∃ x y, cs = #[x, y] := by
  obtain ⟨l⟩ := cs
  match l, h with
  | [x, y], _ => exact ⟨x, y, rfl⟩

/-- A decay that came in. -/
theorem open_decay {H : Type} {enc : TypeId × Value → H} {w : World} {base : Nat} {v : Value} {d : DataW H} {p : List MemPlace}
    (hok : Value.okWide Try.prog w .any base 87 v) (h : DataW.Trod enc Try.prog w 0 (fun _ => true) true 87 v d p) :
    ∃ a n c l off, v = .agg #[.slice a n c, .int .i64 off] ∧ SI w a n c l ∧ (∀ q ∈ l, (Lit.int .i64 q).wf = true) ∧ (Lit.int .i64 off).wf = true := by
  obtain ⟨cs, rfl, hsz, hall, hf⟩ := open_struct (ts := [22, 3]) Try.underlying87 (by kernel_rfl) hok h
  obtain ⟨x, y, rfl⟩ := two_cells (hsz.trans (by kernel_rfl))
  obtain ⟨m0, x0, h0⟩ := hf 0 _ rfl
  obtain ⟨m1, x1, h1⟩ := hf 1 _ rfl
  have c22 : Try.prog.cellsOf 22 = 1 := by kernel_rfl
  have c3 : Try.prog.cellsOf 3 = 1 := by kernel_rfl
  simp only [c22, c3] at h0 h1
  obtain ⟨off, rfl, hw⟩ := cell_of_int Try.underlying3 h1
  obtain ⟨ty, hty, ho⟩ := hall 0 x rfl
  cases hty
  obtain ⟨k1, d', p', k2⟩ := cell_of_slice Try.underlying22 ho h0
  obtain ⟨a, n, c, l, rfl, hs, hwl⟩ := open_nums k1 k2
  exact ⟨a, n, c, l, off, rfl, hs, hwl, hw⟩

/-- A frame that came in. -/
theorem open_frame {H : Type} {enc : TypeId × Value → H} {w : World} {base : Nat} {v : Value} {d : DataW H} {p : List MemPlace}
    (hok : Value.okWide Try.prog w .any base 24 v) (h : DataW.Trod enc Try.prog w 0 (fun _ => true) true 24 v d p) :
    ∃ a n c l b m e k, v = .agg #[.slice a n c, .slice b m e] ∧ SI w a n c l ∧ (∀ q ∈ l, (Lit.int .i64 q).wf = true) ∧ SI w b m e k ∧ (∀ q ∈ k, (Lit.int .i64 q).wf = true) := by
  obtain ⟨cs, rfl, hsz, hall, hf⟩ := open_struct (ts := [22, 22]) Try.underlying24 (by kernel_rfl) hok h
  obtain ⟨x, y, rfl⟩ := two_cells (hsz.trans (by kernel_rfl))
  obtain ⟨m0, x0, h0⟩ := hf 0 _ rfl
  obtain ⟨m1, x1, h1⟩ := hf 1 _ rfl
  have c22 : Try.prog.cellsOf 22 = 1 := by kernel_rfl
  simp only [c22] at h0 h1
  obtain ⟨ty, hty, ho⟩ := hall 0 x rfl
  cases hty
  obtain ⟨k1, d', p', k2⟩ := cell_of_slice Try.underlying22 ho h0
  obtain ⟨a, n, c, l, rfl, hs, hwl⟩ := open_nums k1 k2
  obtain ⟨ty, hty, ho⟩ := hall 1 y rfl
  cases hty
  obtain ⟨k1, d', p', k2⟩ := cell_of_slice Try.underlying22 ho h1
  obtain ⟨a', n', c', l', rfl, hs', hwl'⟩ := open_nums k1 k2
  exact ⟨a, n, c, l, a', n', c', l', rfl, hs, hwl, hs', hwl'⟩

/-- A fraction that came in. -/
theorem open_frac {H : Type} {enc : TypeId × Value → H} {w : World} {base : Nat} {v : Value} {d : DataW H} {p : List MemPlace}
    (hok : Value.okWide Try.prog w .any base 34 v) (h : DataW.Trod enc Try.prog w 0 (fun _ => true) true 34 v d p) :
    ∃ x y, v = .agg #[.int .i64 x, .int .i64 y] ∧ (Lit.int .i64 x).wf = true ∧ (Lit.int .i64 y).wf = true := by
  obtain ⟨cs, rfl, hsz, hall, hf⟩ := open_struct (ts := [3, 3]) Try.underlying34 (by kernel_rfl) hok h
  obtain ⟨x, y, rfl⟩ := two_cells (hsz.trans (by kernel_rfl))
  obtain ⟨m0, x0, h0⟩ := hf 0 _ rfl
  obtain ⟨m1, x1, h1⟩ := hf 1 _ rfl
  have c3 : Try.prog.cellsOf 3 = 1 := by kernel_rfl
  simp only [c3] at h0 h1
  obtain ⟨n, rfl, hw⟩ := cell_of_int Try.underlying3 h0
  obtain ⟨m, rfl, hw'⟩ := cell_of_int Try.underlying3 h1
  exact ⟨n, m, rfl, hw, hw'⟩
/-- A damage that came in. -/
theorem open_damage {H : Type} {enc : TypeId × Value → H} {w : World} {base : Nat} {v : Value} {d : DataW H} {p : List MemPlace}
    (hok : Value.okWide Try.prog w .any base 46 v) (h : DataW.Trod enc Try.prog w 0 (fun _ => true) true 46 v d p) :
    ∃ x y, v = .agg #[.int .i64 x, .int .i64 y] ∧ (Lit.int .i64 x).wf = true ∧ (Lit.int .i64 y).wf = true := by
  obtain ⟨cs, rfl, hsz, hall, hf⟩ := open_struct (ts := [3, 3]) Try.underlying46 (by kernel_rfl) hok h
  obtain ⟨x, y, rfl⟩ := two_cells (hsz.trans (by kernel_rfl))
  obtain ⟨m0, x0, h0⟩ := hf 0 _ rfl
  obtain ⟨m1, x1, h1⟩ := hf 1 _ rfl
  have c3 : Try.prog.cellsOf 3 = 1 := by kernel_rfl
  simp only [c3] at h0 h1
  obtain ⟨n, rfl, hw⟩ := cell_of_int Try.underlying3 h0
  obtain ⟨m, rfl, hw'⟩ := cell_of_int Try.underlying3 h1
  exact ⟨n, m, rfl, hw, hw'⟩

end Go.Proofs.Ytmaidjankakppaa
