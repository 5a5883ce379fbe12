/- The reference's counts are the program's. -/
import Derived.Test.YtmaidjankakppaaRg
namespace Go.Proofs.Ytmaidjankakppaa
open Go.RowKit Go.Wides
open Calmly (Kept)

/-- The determinants of rational numbers, and those of whole ones. -/
theorem dQ_det (ms ks : List Int) (num den : Int) (hd : 0 < den) (i : Nat) :
    (((detRow ms ks num den i).2 : Int) : Rat) = (den : Rat) ^ i * (dQ ms ks (Rat.divInt num den) i).2 ∧ (((detRow ms ks num den i).1 : Int) : Rat) * (den : Rat) = (den : Rat) ^ i * (dQ ms ks (Rat.divInt num den) i).1 := by
  have hdr : (den : Rat) ≠ 0 := by
    intro h
    have h2 : (den : Rat) = ((0 : Int) : Rat) := h
    have := Rat.intCast_inj.1 h2
    omega
  have hq : Rat.divInt num den * (den : Rat) = (num : Rat) := by
    rw [Rat.divInt_eq_div]
    exact Rat.div_mul_cancel hdr
  generalize Rat.divInt num den = q at *
  induction i with
  | zero => constructor <;> simp [detRow, dQ]
  | succ i ih =>
    obtain ⟨h1, h2⟩ := ih
    refine ⟨?_, ?_⟩
    · show ((detNext _ _ _ _ _ _ _ _ : Int) : Rat) = _ * (_ * _ - _ * _)
      have hn : detNext (ks[i]?.getD 0 + ks[i + 1]?.getD 0) (ms[i]?.getD 0) (ks[i]?.getD 0) num den i (detRow ms ks num den i).1 (detRow ms ks num den i).2 =
          (den * (ks[i]?.getD 0 + ks[i + 1]?.getD 0) - num * ms[i]?.getD 0) * (detRow ms ks num den i).2 - den * den * ks[i]?.getD 0 * ks[i]?.getD 0 * (detRow ms ks num den i).1 := by
        unfold detNext
        split
        · rename_i h0
          subst h0
          simp [detRow]
        · rfl
      rw [hn]
      generalize detRow ms ks num den i = R at *
      generalize dQ ms ks q i = D at *
      obtain ⟨r1, r2⟩ := R
      obtain ⟨d1, d2⟩ := D
      dsimp only at *
      generalize ks[i]?.getD 0 = k at *
      generalize ks[i + 1]?.getD 0 = k' at *
      generalize ms[i]?.getD 0 = m at *
      simp only [Rat.intCast_sub, Rat.intCast_mul, Rat.intCast_add, Rat.pow_succ]
      rw [h1]
      generalize (den : Rat) ^ i = P at *
      grind
    · show (((detRow ms ks num den i).2 : Int) : Rat) * _ = _ * (dQ ms ks q i).2
      rw [h1, Rat.pow_succ]
      grind
theorem num_neg {y : Rat} (h : y < 0) : y.num < 0 := by
  rcases Int.lt_or_le y.num 0 with h1 | h1
  · exact h1
  · exact absurd h (Rat.not_lt.2 (Rat.num_nonneg.1 h1))
theorem num_pos {y : Rat} (h : 0 < y) : 0 < y.num := by
  have h1 : 0 ≤ y.num := Rat.num_nonneg.2 (Rat.le_of_lt h)
  have h2 : y.num ≠ 0 := fun h3 => by
    rw [Rat.num_eq_zero.1 h3] at h
    exact absurd h (by decide)
  omega
theorem rat_cases (y : Rat) : y < 0 ∨ y = 0 ∨ 0 < y := by
  rcases Rat.le_total (a := y) (b := 0) with h | h
  · by_cases h2 : y = 0
    · exact .inr (.inl h2)
    · exact .inl (Rat.lt_of_le_of_ne h h2)
  · by_cases h2 : y = 0
    · exact .inr (.inl h2)
    · exact .inr (.inr (Rat.lt_of_le_of_ne h (Ne.symm h2)))
theorem sign_of_mul {z : Int} {P y : Rat} (hP : 0 < P) (h : (z : Rat) = P * y) : y.num.sign = z.sign := by
  rcases rat_cases y with hy | hy | hy
  · have h1 : (z : Rat) < 0 := by
      have := Rat.mul_pos hP (show 0 < -y by grind)
      grind
    have h2 : z < 0 := Rat.intCast_lt_intCast.1 h1
    rw [Int.sign_eq_neg_one_of_neg h2, Int.sign_eq_neg_one_of_neg (num_neg hy)]
  · rw [hy, Rat.mul_zero] at h
    have h2 : z = 0 := Rat.intCast_inj.1 h
    rw [h2, hy]
    rfl
  · have h1 : 0 < (z : Rat) := by
      rw [h]
      exact Rat.mul_pos hP hy
    have h2 : 0 < z := Rat.intCast_lt_intCast.1 h1
    rw [Int.sign_eq_one_of_pos h2, Int.sign_eq_one_of_pos (num_pos hy)]
theorem dQ_sign (ms ks : List Int) (num den : Int) (hd : 0 < den) (i : Nat) : (dQ ms ks (Rat.divInt num den) i).2.num.sign = (detRow ms ks num den i).2.sign :=
  sign_of_mul (Rat.pow_pos (Rat.intCast_lt_intCast.2 hd)) (dQ_det ms ks num den hd i).1

/-- The signs' count. -/
def dnum (ms ks : List Int) (q : Rat) (n : Nat) : List Int := (List.range n).map (fun i => (dQ ms ks q (i + 1)).2.num)
theorem dnum_succ (ms ks : List Int) (q : Rat) (n : Nat) : dnum ms ks q (n + 1) = dnum ms ks q n ++ [(dQ ms ks q (n + 1)).2.num] := by
  unfold dnum
  rw [List.range_succ, List.map_append]
  rfl
theorem dnum_len (ms ks : List Int) (q : Rat) (n : Nat) : (dnum ms ks q n).length = n := by simp [dnum]
def belowQ (ms ks : List Int) (q : Rat) (n : Nat) : Int × Int := ((bAll (dnum ms ks q n)).1, (bAll (dnum ms ks q n)).2.1)
theorem belowQ_bd (ms ks : List Int) (q : Rat) (n : Nat) : 0 ≤ (belowQ ms ks q n).1 ∧ (belowQ ms ks q n).1 ≤ n := by
  have := bAll_bd (dnum ms ks q n)
  rw [dnum_len] at this
  exact this
theorem belowQ_succ (ms ks : List Int) (q : Rat) (n : Nat) : belowQ ms ks q (n + 1) = if (dQ ms ks q (n + 1)).2.num.sign ≠ 0 ∧ (dQ ms ks q (n + 1)).2.num.sign ≠ (belowQ ms ks q n).2 then ((belowQ ms ks q n).1 + 1, (dQ ms ks q (n + 1)).2.num.sign) else belowQ ms ks q n := by
  unfold belowQ
  rw [dnum_succ, bAll_snoc]
  unfold bStep
  split <;> rfl
theorem belowQ_eq (ms ks : List Int) (num den : Int) (hd : 0 < den) (n : Nat) : belowQ ms ks (Rat.divInt num den) n = ((bAll (dets ms ks num den n)).1, (bAll (dets ms ks num den n)).2.1) := by
  induction n with
  | zero => rfl
  | succ n ih =>
    rw [belowQ_succ, ih, dets_succ, bAll_snoc, dQ_sign _ _ _ _ hd]
    unfold bStep
    dsimp only
    split <;> rfl
theorem belowQ_F (ms ks : List Int) (num den : Int) (hd : 0 < den) : (belowQ ms ks (Rat.divInt num den) ms.length).1 = belowF ms ks num den := by rw [belowQ_eq _ _ _ _ hd]; rfl
theorem modeQ_F {ms ks : List Int} (h : Fr ms ks) (num den : Int) (hd : 0 < den) : ((dQ ms ks (Rat.divInt num den) ms.length).2.num.sign == 0) = modeF ms ks num den := by
  rw [dQ_sign _ _ _ _ hd]
  unfold modeF
  obtain ⟨n, hn⟩ : ∃ n, ms.length = n + 1 := ⟨ms.length - 1, by have := h.pos; omega⟩
  rw [hn, dets_succ, bAll_snoc]
  have : (bStep (bAll (dets ms ks num den n)) (detRow ms ks num den (n + 1)).2).2.2 = (detRow ms ks num den (n + 1)).2 := by
    unfold bStep
    split <;> rfl
  rw [this]
  rw [Bool.eq_iff_iff]
  simp
end Go.Proofs.Ytmaidjankakppaa
