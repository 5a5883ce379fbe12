/- The plain law of traces: signs that change at as many points as there are roots enclose the sum of the roots. -/
import Derived.Test.YtmaidjankakppaaPb
import Derived.Test.YtmaidjankakppaaNa
namespace Go.Proofs.Ytmaidjankakppaa
open Go.RowKit

/-- The two greatest coefficients of the last determinant. -/
def tQ (ms ks : List Int) : Nat → Rat × Rat
  | 0 => (1, 0)
  | i + 1 => (-((ms[i]?.getD 0 : Int) : Rat) * (tQ ms ks i).1, ((ks[i]?.getD 0 + ks[i + 1]?.getD 0 : Int) : Rat) * (tQ ms ks i).1 - ((ms[i]?.getD 0 : Int) : Rat) * (tQ ms ks i).2)
theorem tQ_sum {ms ks : List Int} (n : Nat) (hn : n ≤ ms.length) (hm : ∀ i, i < ms.length → 1 ≤ ms[i]?.getD 0) : (tQ ms ks n).2 = -((tQ ms ks n).1 * sumQ ms ks n) := by
  induction n with
  | zero => show (0 : Rat) = -(1 * 0); decide +kernel
  | succ n ih =>
    have ih := ih (by omega)
    have hm1 := hm n (by omega)
    show _ * _ - _ * _ = -(-_ * _ * (_ + Rat.divInt _ _))
    rw [ih, Rat.divInt_eq_div]
    have hne : ((ms[n]?.getD 0 : Int) : Rat) ≠ 0 := fun h => by
      have : ms[n]?.getD 0 = 0 := Rat.intCast_inj.1 h
      omega
    have e := Rat.div_mul_cancel (a := ((ks[n]?.getD 0 + ks[n + 1]?.getD 0 : Int) : Rat)) hne
    generalize ((ks[n]?.getD 0 + ks[n + 1]?.getD 0 : Int) : Rat) / ((ms[n]?.getD 0 : Int) : Rat) = z at *
    grind
theorem tQ_pos {ms ks : List Int} (n : Nat) (hn : n ≤ ms.length) (hm : ∀ i, i < ms.length → 1 ≤ ms[i]?.getD 0) : (n % 2 = 0 → 0 < (tQ ms ks n).1) ∧ (n % 2 = 1 → (tQ ms ks n).1 < 0) := by
  induction n with
  | zero => exact ⟨fun _ => by show (0 : Rat) < 1; decide +kernel, fun h => by omega⟩
  | succ n ih =>
    obtain ⟨h1, h2⟩ := ih (by omega)
    have hm1 : (0 : Rat) < ((ms[n]?.getD 0 : Int) : Rat) := by
      have := hm n (by omega)
      exact (show ((0 : Int) : Rat) < _ from Rat.intCast_lt_intCast.2 (by omega))
    show (_ → 0 < -_ * _) ∧ (_ → -_ * _ < 0)
    refine ⟨fun h => ?_, fun h => ?_⟩
    · have := Rat.mul_pos hm1 (show 0 < -(tQ ms ks n).1 by have := h2 (by omega); grind)
      grind
    · have := Rat.mul_pos hm1 (h1 (by omega))
      grind
theorem dQ_pol1 (ms ks : List Int) (x : Rat) : (dQ ms ks x 1).2 = (tQ ms ks 1).1 * x + (tQ ms ks 1).2 := by
  simp only [dQ, tQ]
  grind
theorem dQ_pol2 (ms ks : List Int) : ∃ E : Rat, ∀ x : Rat, (dQ ms ks x 2).2 = (tQ ms ks 2).1 * (x * x) + (tQ ms ks 2).2 * x + E := by
  refine ⟨((ks[0]?.getD 0 + ks[1]?.getD 0 : Int) : Rat) * ((ks[1]?.getD 0 + ks[2]?.getD 0 : Int) : Rat) - ((ks[1]?.getD 0 * ks[1]?.getD 0 : Int) : Rat), fun x => ?_⟩
  simp only [dQ, tQ]
  generalize ((ks[0]?.getD 0 + ks[0 + 1]?.getD 0 : Int) : Rat) = a0
  generalize ((ks[1]?.getD 0 + ks[1 + 1]?.getD 0 : Int) : Rat) = a1
  generalize ((ks[1]?.getD 0 * ks[1]?.getD 0 : Int) : Rat) = k1
  generalize ((ks[0]?.getD 0 * ks[0]?.getD 0 : Int) : Rat) = k0
  generalize ((ms[0]?.getD 0 : Int) : Rat) = m0
  generalize ((ms[1]?.getD 0 : Int) : Rat) = m1
  grind
theorem dQ_pol3 (ms ks : List Int) : ∃ D E : Rat, ∀ x : Rat, (dQ ms ks x 3).2 = (tQ ms ks 3).1 * (x * x * x) + (tQ ms ks 3).2 * (x * x) + D * x + E := by
  obtain ⟨E, h⟩ := dQ_pol2 ms ks
  have h1 := dQ_pol1 ms ks
  refine ⟨((ks[2]?.getD 0 + ks[2 + 1]?.getD 0 : Int) : Rat) * (tQ ms ks 2).2 - ((ms[2]?.getD 0 : Int) : Rat) * E - ((ks[2]?.getD 0 * ks[2]?.getD 0 : Int) : Rat) * (tQ ms ks 1).1, ((ks[2]?.getD 0 + ks[2 + 1]?.getD 0 : Int) : Rat) * E - ((ks[2]?.getD 0 * ks[2]?.getD 0 : Int) : Rat) * (tQ ms ks 1).2, fun x => ?_⟩
  show (_ - x * _) * (dQ ms ks x 2).2 - _ * (dQ ms ks x 1).2 = (-_ * (tQ ms ks 2).1) * _ + (_ * (tQ ms ks 2).1 - _ * (tQ ms ks 2).2) * _ + _ * _ + _
  rw [h x, h1 x]
  generalize tQ ms ks 2 = t2
  generalize tQ ms ks 1 = t1
  generalize ((ks[2]?.getD 0 + ks[2 + 1]?.getD 0 : Int) : Rat) = a2
  generalize ((ks[2]?.getD 0 * ks[2]?.getD 0 : Int) : Rat) = k2
  generalize ((ms[2]?.getD 0 : Int) : Rat) = m2
  grind
theorem dQ_pol4 (ms ks : List Int) : ∃ C D E : Rat, ∀ x : Rat, (dQ ms ks x 4).2 = (tQ ms ks 4).1 * (x * x * x * x) + (tQ ms ks 4).2 * (x * x * x) + C * (x * x) + D * x + E := by
  obtain ⟨D, E, h⟩ := dQ_pol3 ms ks
  obtain ⟨E', h1⟩ := dQ_pol2 ms ks
  refine ⟨((ks[3]?.getD 0 + ks[3 + 1]?.getD 0 : Int) : Rat) * (tQ ms ks 3).2 - ((ms[3]?.getD 0 : Int) : Rat) * D - ((ks[3]?.getD 0 * ks[3]?.getD 0 : Int) : Rat) * (tQ ms ks 2).1,
    ((ks[3]?.getD 0 + ks[3 + 1]?.getD 0 : Int) : Rat) * D - ((ms[3]?.getD 0 : Int) : Rat) * E - ((ks[3]?.getD 0 * ks[3]?.getD 0 : Int) : Rat) * (tQ ms ks 2).2,
    ((ks[3]?.getD 0 + ks[3 + 1]?.getD 0 : Int) : Rat) * E - ((ks[3]?.getD 0 * ks[3]?.getD 0 : Int) : Rat) * E', fun x => ?_⟩
  show (_ - x * _) * (dQ ms ks x 3).2 - _ * (dQ ms ks x 2).2 = (-_ * (tQ ms ks 3).1) * _ + (_ * (tQ ms ks 3).1 - _ * (tQ ms ks 3).2) * _ + _ * _ + _ * _ + _
  rw [h x, h1 x]
  generalize tQ ms ks 3 = t3
  generalize tQ ms ks 2 = t2
  generalize ((ks[3]?.getD 0 + ks[3 + 1]?.getD 0 : Int) : Rat) = a3
  generalize ((ks[3]?.getD 0 * ks[3]?.getD 0 : Int) : Rat) = k3
  generalize ((ms[3]?.getD 0 : Int) : Rat) = m3
  grind

/-- What signs that change say about the sum of roots. -/
theorem interp1 {A B b : Rat} (hA : 0 < A) (S : Rat) (hB : B = -(A * S)) (h0 : 0 ≤ A * b + B) : S ≤ b := by
  rcases Rat.le_total (a := S) (b := b) with h | h
  · exact h
  · by_cases he : S = b
    · rw [he]
      exact Rat.le_refl
    · have := Rat.mul_pos hA (show 0 < S - b by have := Rat.lt_of_le_of_ne h (Ne.symm he); grind)
      grind
theorem vand {V X : Rat} (hV : 0 < V) (h : 0 ≤ X * V) : 0 ≤ X := by
  rcases Rat.le_total (a := 0) (b := X) with h1 | h1
  · exact h1
  · by_cases he : X = 0
    · rw [he]
      exact Rat.le_refl
    · have := Rat.mul_pos (show 0 < -X by have := Rat.lt_of_le_of_ne h1 he; grind) hV
      grind
theorem interp2 {A B E b0 b1 : Rat} (h01 : b0 < b1) (f0 : A * (b0 * b0) + B * b0 + E ≤ 0) (f1 : 0 ≤ A * (b1 * b1) + B * b1 + E) : 0 ≤ A * (b0 + b1) + B := by
  refine vand (V := b1 - b0) (by grind) ?_
  grind
theorem interp3 {A B D E b0 b1 b2 : Rat} (h01 : b0 < b1) (h12 : b1 < b2) (f0 : 0 ≤ A * (b0 * b0 * b0) + B * (b0 * b0) + D * b0 + E) (f1 : A * (b1 * b1 * b1) + B * (b1 * b1) + D * b1 + E ≤ 0) (f2 : 0 ≤ A * (b2 * b2 * b2) + B * (b2 * b2) + D * b2 + E) :
    0 ≤ A * (b0 + b1 + b2) + B := by
  have p01 : 0 < b1 - b0 := by grind
  have p12 : 0 < b2 - b1 := by grind
  have p02 : 0 < b2 - b0 := by grind
  refine vand (V := (b1 - b0) * (b2 - b1) * (b2 - b0)) (Rat.mul_pos (Rat.mul_pos p01 p12) p02) ?_
  have e0 := Rat.mul_nonneg f0 (Rat.le_of_lt p12)
  have e1 := Rat.mul_nonneg (show 0 ≤ -(A * (b1 * b1 * b1) + B * (b1 * b1) + D * b1 + E) by grind) (Rat.le_of_lt p02)
  have e2 := Rat.mul_nonneg f2 (Rat.le_of_lt p01)
  have e : (A * (b0 + b1 + b2) + B) * ((b1 - b0) * (b2 - b1) * (b2 - b0)) = (A * (b0 * b0 * b0) + B * (b0 * b0) + D * b0 + E) * (b2 - b1) + -(A * (b1 * b1 * b1) + B * (b1 * b1) + D * b1 + E) * (b2 - b0) + (A * (b2 * b2 * b2) + B * (b2 * b2) + D * b2 + E) * (b1 - b0) := by grind
  rw [e]
  grind
theorem interp4 {A B C D E b0 b1 b2 b3 : Rat} (h01 : b0 < b1) (h12 : b1 < b2) (h23 : b2 < b3) (f0 : A * (b0 * b0 * b0 * b0) + B * (b0 * b0 * b0) + C * (b0 * b0) + D * b0 + E ≤ 0) (f1 : 0 ≤ A * (b1 * b1 * b1 * b1) + B * (b1 * b1 * b1) + C * (b1 * b1) + D * b1 + E)
    (f2 : A * (b2 * b2 * b2 * b2) + B * (b2 * b2 * b2) + C * (b2 * b2) + D * b2 + E ≤ 0) (f3 : 0 ≤ A * (b3 * b3 * b3 * b3) + B * (b3 * b3 * b3) + C * (b3 * b3) + D * b3 + E) :
    0 ≤ A * (b0 + b1 + b2 + b3) + B := by
  have p01 : 0 < b1 - b0 := by grind
  have p12 : 0 < b2 - b1 := by grind
  have p23 : 0 < b3 - b2 := by grind
  have p02 : 0 < b2 - b0 := by grind
  have p13 : 0 < b3 - b1 := by grind
  have p03 : 0 < b3 - b0 := by grind
  refine vand (V := (b1 - b0) * (b2 - b0) * (b3 - b0) * (b2 - b1) * (b3 - b1) * (b3 - b2)) (Rat.mul_pos (Rat.mul_pos (Rat.mul_pos (Rat.mul_pos (Rat.mul_pos p01 p02) p03) p12) p13) p23) ?_
  have e0 := Rat.mul_nonneg (show 0 ≤ -(A * (b0 * b0 * b0 * b0) + B * (b0 * b0 * b0) + C * (b0 * b0) + D * b0 + E) by grind) (Rat.le_of_lt (Rat.mul_pos (Rat.mul_pos p12 p13) p23))
  have e1 := Rat.mul_nonneg f1 (Rat.le_of_lt (Rat.mul_pos (Rat.mul_pos p02 p03) p23))
  have e2 := Rat.mul_nonneg (show 0 ≤ -(A * (b2 * b2 * b2 * b2) + B * (b2 * b2 * b2) + C * (b2 * b2) + D * b2 + E) by grind) (Rat.le_of_lt (Rat.mul_pos (Rat.mul_pos p01 p03) p13))
  have e3 := Rat.mul_nonneg f3 (Rat.le_of_lt (Rat.mul_pos (Rat.mul_pos p01 p02) p12))
  have e : (A * (b0 + b1 + b2 + b3) + B) * ((b1 - b0) * (b2 - b0) * (b3 - b0) * (b2 - b1) * (b3 - b1) * (b3 - b2)) =
      -(A * (b0 * b0 * b0 * b0) + B * (b0 * b0 * b0) + C * (b0 * b0) + D * b0 + E) * ((b2 - b1) * (b3 - b1) * (b3 - b2)) + (A * (b1 * b1 * b1 * b1) + B * (b1 * b1 * b1) + C * (b1 * b1) + D * b1 + E) * ((b2 - b0) * (b3 - b0) * (b3 - b2)) +
      -(A * (b2 * b2 * b2 * b2) + B * (b2 * b2 * b2) + C * (b2 * b2) + D * b2 + E) * ((b1 - b0) * (b3 - b0) * (b3 - b1)) + (A * (b3 * b3 * b3 * b3) + B * (b3 * b3 * b3) + C * (b3 * b3) + D * b3 + E) * ((b1 - b0) * (b2 - b0) * (b2 - b1)) := by grind
  rw [e]
  exact Rat.add_nonneg (Rat.add_nonneg (Rat.add_nonneg e0 e1) e2) e3
end Go.Proofs.Ytmaidjankakppaa
