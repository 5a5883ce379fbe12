/- The arguments of a law, opened: squares after a run. -/
import Derived.Test.YtmaidjankakppaaOb
namespace Go.Proofs.Ytmaidjankakppaa
set_option maxRecDepth 100000
open Go.ChangeShapes Go.WideShapes Go.ChangeAt Go.RowKit

/-- Squares after a run that came in. -/
theorem open_after {H : Type} {enc : TypeId × Value → H} {w : World} {base : Nat} {v : Value} {d : DataW H} {p : List MemPlace}
    (hok : Value.okWide Try.prog w .any base 44 v) (h : DataW.Trod enc Try.prog w 0 (fun _ => true) true 44 v d p) :
    ∃ den a n c l, v = .agg #[.int .i64 den, .slice a n c] ∧ SR w a n c l ∧ (Lit.int .i64 den).wf = true := by
  obtain ⟨cs, rfl, hsz, hall, hf⟩ := open_struct (ts := [3, 42]) Try.underlying44 (by kernel_rfl) hok h
  obtain ⟨x, y, rfl⟩ := two_cells (hsz.trans (by kernel_rfl))
  obtain ⟨m0, x0, h0⟩ := hf 0 _ rfl
  obtain ⟨m1, x1, h1⟩ := hf 1 _ rfl
  have c42 : Try.prog.cellsOf 42 = 1 := by kernel_rfl
  have c3 : Try.prog.cellsOf 3 = 1 := by kernel_rfl
  simp only [c3] at h0
  simp only [c42] at h1
  obtain ⟨den, rfl, hw⟩ := cell_of_int Try.underlying3 h0
  obtain ⟨ty, hty, ho⟩ := hall 1 y rfl
  cases hty
  obtain ⟨k1, d', p', k2⟩ := cell_of_slice Try.underlying42 ho h1
  obtain ⟨a, n, c, l, rfl, hs, _⟩ := open_ranges k1 k2
  exact ⟨den, a, n, c, l, rfl, hs, hw⟩
end Go.Proofs.Ytmaidjankakppaa
