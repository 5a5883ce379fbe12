/- The arguments of a law, opened: an array of two numbers. -/
import Derived.Test.YtmaidjankakppaaOb
namespace Go.Proofs.Ytmaidjankakppaa
set_option maxRecDepth 100000
open Go.ChangeShapes Go.WideShapes Go.ChangeAt Go.RowKit

/-- An array of two numbers that came in. -/
theorem open_pair {H : Type} {enc : TypeId × Value → H} {w : World} {base : Nat} {v : Value} {d : DataW H} {p : List MemPlace}
    (hok : Value.okWide Try.prog w .any base 58 v) (h : DataW.Trod enc Try.prog w 0 (fun _ => true) true 58 v d p) :
    ∃ x y, v = .agg #[.int .i64 x, .int .i64 y] ∧ (Lit.int .i64 x).wf = true ∧ (Lit.int .i64 y).wf = true := by
  simp only [Value.okWide, Try.underlying58] at hok
  obtain ⟨cs, rfl, hsz, _⟩ := hok
  obtain ⟨x, y, rfl⟩ := two_cells (hsz.trans (by kernel_rfl))
  obtain ⟨fuel, hf⟩ := h
  obtain ⟨xs, n, _, _, _, hxl, hx⟩ := DataW.trod_array Try.underlying58 hf
  have c3 : Try.prog.cellsOf 3 = 1 := by kernel_rfl
  have h0 := hx 0 (by omega)
  have h1 := hx 1 (by omega)
  simp only [c3] at h0 h1
  rw [List.getElem?_eq_getElem (by omega)] at h0 h1
  obtain ⟨n, rfl, hw⟩ := cell_of_int Try.underlying3 h0
  obtain ⟨m, rfl, hw'⟩ := cell_of_int Try.underlying3 h1
  exact ⟨n, m, rfl, hw, hw'⟩
end Go.Proofs.Ytmaidjankakppaa
