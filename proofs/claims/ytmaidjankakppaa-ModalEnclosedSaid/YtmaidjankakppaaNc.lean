/- The plain law of traces: the sum of all squares lies between the sums of the ends of enclosures. -/
import Derived.Test.YtmaidjankakppaaNb
namespace Go.Proofs.Ytmaidjankakppaa
open Go.RowKit

theorem belowQ_inv (ms ks : List Int) (q : Rat) (i : Nat) : ((belowQ ms ks q i).1 % 2 = 0 → (belowQ ms ks q i).2 = 1) ∧ ((belowQ ms ks q i).1 % 2 = 1 → (belowQ ms ks q i).2 = -1) ∧ ((dQ ms ks q i).2.num.sign = 0 ∨ (dQ ms ks q i).2.num.sign = (belowQ ms ks q i).2) := by
  induction i with
  | zero => exact ⟨fun _ => rfl, fun h => absurd (show (0 : Int) % 2 = 1 from h) (by decide), .inr rfl⟩
  | succ i ih =>
    obtain ⟨h1, h2, _⟩ := ih
    rw [belowQ_succ]
    have h4 : (dQ ms ks q (i + 1)).2.num.sign = 0 ∨ (dQ ms ks q (i + 1)).2.num.sign = 1 ∨ (dQ ms ks q (i + 1)).2.num.sign = -1 := by
      rcases Int.lt_trichotomy (dQ ms ks q (i + 1)).2.num 0 with h | h | h
      · exact .inr (.inr (Int.sign_eq_neg_one_of_neg h))
      · exact .inl (by rw [h]; rfl)
      · exact .inr (.inl (Int.sign_eq_one_of_pos h))
    generalize (dQ ms ks q (i + 1)).2.num.sign = t at *
    generalize belowQ ms ks q i = B at *
    obtain ⟨c, s⟩ := B
    dsimp only at *
    split
    · dsimp only
      refine ⟨fun h => ?_, fun h => ?_, .inr rfl⟩
      · have := h2 (by omega)
        omega
      · have := h1 (by omega)
        omega
    · refine ⟨h1, h2, ?_⟩
      dsimp only
      omega
theorem belowQ_cn (ms ks : List Int) (q : Rat) : Cn ms ks q (fun i => (belowQ ms ks q i).1) where
  zero := rfl
  step := fun i => by
    rw [belowQ_succ]
    split
    · exact .inr rfl
    · exact .inl rfl
  ev := fun i h => by
    obtain ⟨h1, _, h3⟩ := belowQ_inv ms ks q i
    rw [h1 h] at h3
    rcases rat_cases (dQ ms ks q i).2 with h4 | h4 | h4
    · have := num_neg h4
      rw [Int.sign_eq_neg_one_of_neg this] at h3
      omega
    · rw [h4]
      exact Rat.le_refl
    · exact Rat.le_of_lt h4
  od := fun i h => by
    obtain ⟨_, h2, h3⟩ := belowQ_inv ms ks q i
    rw [h2 h] at h3
    rcases rat_cases (dQ ms ks q i).2 with h4 | h4 | h4
    · exact Rat.le_of_lt h4
    · rw [h4]
      exact Rat.le_refl
    · have := num_pos h4
      rw [Int.sign_eq_one_of_pos this] at h3
      omega
theorem belowQ_mono {ms ks : List Int} (h : Fr ms ks) {num num' den : Int} (hd : 0 < den) (hn : num ≤ num') (i : Nat) (hi : i ≤ ms.length) : (belowQ ms ks (Rat.divInt num den) i).1 ≤ (belowQ ms ks (Rat.divInt num' den) i).1 := by
  have hk : ∀ j, j < i → 0 < ks[j]?.getD 0 := fun j hj => by have := h.k j (by omega); omega
  obtain ⟨_, _, _, e1⟩ := phs_det ms ks num den hd i hk
  obtain ⟨_, _, _, e2⟩ := phs_det ms ks num' den hd i hk
  rw [belowQ_eq _ _ _ _ hd, belowQ_eq _ _ _ _ hd, e1, e2]
  refine (phs_mono hd hd i hk (fun j hj => ?_)).count
  have := h.m j (by omega)
  exact Int.mul_le_mul_of_nonneg_right (Int.mul_le_mul_of_nonneg_right hn (by omega)) (by omega)
theorem Fr.sm {ms ks : List Int} (h : Fr ms ks) : Sm ms ks where
  m := fun i hi => by
    have := h.m i hi
    exact ⟨Rat.intCast_le_intCast.2 (by omega : (0 : Int) ≤ _), Rat.intCast_le_intCast.2 (by omega : _ ≤ (10 : Int))⟩
  a := fun i => by
    have h1 := h.k0 i
    have h2 := h.k0 (i + 1)
    exact ⟨Rat.intCast_le_intCast.2 (by omega : (0 : Int) ≤ _), Rat.intCast_le_intCast.2 (by omega : _ ≤ (40 : Int))⟩
  k := fun i => by
    have h1 := h.k0 i
    have e1 := Int.mul_nonneg h1.1 h1.1
    have e2 := Int.mul_le_mul h1.2 h1.2 h1.1 (by omega)
    exact ⟨Rat.intCast_le_intCast.2 (by omega : (0 : Int) ≤ _), Rat.intCast_le_intCast.2 (by omega : _ ≤ (400 : Int))⟩
  k1 := fun i hi => by
    have h1 := h.k i hi
    have e1 := Int.mul_le_mul h1.1 h1.1 (by omega) (by omega)
    exact Rat.intCast_le_intCast.2 (by omega : (1 : Int) ≤ _)
theorem div_cancel {num den : Int} (hd : 0 < den) : Rat.divInt num den * (den : Rat) = (num : Rat) := by
  rw [Rat.divInt_eq_div]
  refine Rat.div_mul_cancel ?_
  intro h
  have h2 : (den : Rat) = ((0 : Int) : Rat) := h
  have := Rat.intCast_inj.1 h2
  omega
theorem le_of_mul {x y d : Rat} (hd : 0 < d) (h : x * d ≤ y * d) : x ≤ y := by
  have := vand (X := y - x) hd (by grind)
  grind
theorem lt_of_mul {x y d : Rat} (hd : 0 < d) (h : x * d < y * d) : x < y := by
  have h1 := le_of_mul hd (Rat.le_of_lt h)
  by_cases he : x = y
  · rw [he] at h
    exact absurd h (by grind)
  · exact Rat.lt_of_le_of_ne h1 he
/-- The count steps by one at most between numerators beside each other, for great denominators. -/
theorem below_step {ms ks : List Int} (h : Fr ms ks) {num den : Int} (hd : 100000000000000000000000000 ≤ den) (hn : 0 ≤ num) (hn2 : num + 1 ≤ 82 * den) : belowF ms ks (num + 1) den ≤ belowF ms ks num den + 1 := by
  have hd0 : 0 < den := by omega
  have hdr : (0 : Rat) < (den : Rat) := Rat.intCast_lt_intCast.2 hd0
  rw [← belowQ_F _ _ _ _ hd0, ← belowQ_F _ _ _ _ hd0]
  have e1 := div_cancel (num := num) hd0
  have e2 := div_cancel (num := num + 1) hd0
  have e3 := div_cancel (num := 1) hd0
  have hsum : Rat.divInt (num + 1) den = Rat.divInt num den + Rat.divInt 1 den := by
    rw [Rat.intCast_add] at e2
    have l1 : Rat.divInt (num + 1) den * (den : Rat) ≤ (Rat.divInt num den + Rat.divInt 1 den) * (den : Rat) := by grind
    have l2 : (Rat.divInt num den + Rat.divInt 1 den) * (den : Rat) ≤ Rat.divInt (num + 1) den * (den : Rat) := by grind
    exact Rat.le_antisymm (le_of_mul hdr l1) (le_of_mul hdr l2)
  have q0 : 0 ≤ Rat.divInt num den := le_of_mul hdr (by
    have : ((0 : Int) : Rat) ≤ (num : Rat) := Rat.intCast_le_intCast.2 hn
    have h0 : ((0 : Int) : Rat) = 0 := rfl
    grind)
  have p0 : 0 ≤ Rat.divInt 1 den := le_of_mul hdr (by
    have h0 : ((1 : Int) : Rat) = 1 := rfl
    grind)
  have q1 : Rat.divInt num den + Rat.divInt 1 den ≤ 82 := by
    rw [← hsum]
    refine le_of_mul hdr ?_
    rw [e2]
    have : ((num + 1 : Int) : Rat) ≤ ((82 * den : Int) : Rat) := Rat.intCast_le_intCast.2 hn2
    rw [Rat.intCast_mul] at this
    exact this
  have p1 : Rat.divInt 1 den * 100000000000000000000000000 ≤ 1 := by
    have h1 : ((100000000000000000000000000 : Int) : Rat) ≤ (den : Rat) := Rat.intCast_le_intCast.2 hd
    have h2 := Rat.mul_nonneg p0 (show 0 ≤ (den : Rat) - ((100000000000000000000000000 : Int) : Rat) by grind)
    have h0 : ((1 : Int) : Rat) = 1 := rfl
    have h3 : ((100000000000000000000000000 : Int) : Rat) = 100000000000000000000000000 := rfl
    grind
  rw [hsum]
  refine (jump_one h.sm h.few q0 p0 q1 p1 (belowQ_cn ms ks _) (belowQ_cn ms ks _) (fun i hi => ?_) ms.length (Nat.le_refl _)).1
  show (belowQ ms ks _ i).1 ≤ (belowQ ms ks _ i).1
  rw [← hsum]
  exact belowQ_mono h hd0 (by omega) i hi
theorem ivt (f : Int → Int) (t lo : Int) (k : Nat) (hs : ∀ x, lo ≤ x → x < lo + k → f (x + 1) ≤ f x + 1) (h1 : f lo ≤ t) (h2 : t ≤ f (lo + k)) : ∃ x, lo ≤ x ∧ x ≤ lo + k ∧ f x = t := by
  induction k with
  | zero => exact ⟨lo, by omega, by omega, by have e : lo + ((0 : Nat) : Int) = lo := by omega
                                              rw [e] at h2
                                              omega⟩
  | succ k ih =>
    by_cases h3 : t ≤ f (lo + k)
    · obtain ⟨x, h4, h5, h6⟩ := ih (fun x h4 h5 => hs x h4 (by omega)) h3
      exact ⟨x, h4, by omega, h6⟩
    · have h4 := hs (lo + k) (by omega) (by omega)
      have e : lo + ((k + 1 : Nat) : Int) = lo + k + 1 := by omega
      rw [e] at h2
      exact ⟨lo + k + 1, by omega, by omega, by omega⟩
def sumI (x : Nat → Int) : Nat → Int
  | 0 => 0
  | i + 1 => sumI x i + x i
theorem interpU {A B b : Rat} (hA : A < 0) (S : Rat) (hB : B = -(A * S)) (h0 : A * b + B ≤ 0) : S ≤ b := interp1 (A := -A) (B := -B) (by grind) S (by grind) (by grind)
theorem interpV {A B b : Rat} (hA : 0 < A) (S : Rat) (hB : B = -(A * S)) (h0 : A * b + B ≤ 0) : b ≤ S := by
  have := interp1 (A := A) (B := -B) (b := -b) hA (-S) (by grind) (by grind)
  grind
theorem interpW {A B b : Rat} (hA : A < 0) (S : Rat) (hB : B = -(A * S)) (h0 : 0 ≤ A * b + B) : b ≤ S := interpV (A := -A) (B := -B) (by grind) S (by grind) (by grind)

/-- Points with the counts 1, 2, ..: their sum is not smaller. -/
theorem points_up {ms ks : List Int} (h : Fr ms ks) (b : Nat → Rat) (c : Nat → Nat → Int) (hc : ∀ i, i < ms.length → Cn ms ks (b i) (c i)) (hn : ∀ i, i < ms.length → c i ms.length = i + 1) (hb : ∀ i, i + 1 < ms.length → b i < b (i + 1)) :
    sumQ ms ks ms.length ≤ (List.range ms.length).foldl (fun s i => s + b i) 0 := by
  have hB := tQ_sum (ms := ms) (ks := ks) ms.length (Nat.le_refl _) (fun i hi => (h.m i hi).1)
  obtain ⟨hA0, hA1⟩ := tQ_pos (ms := ms) (ks := ks) ms.length (Nat.le_refl _) (fun i hi => (h.m i hi).1)
  have h1 := h.pos
  have h2 := h.few
  generalize sumQ ms ks ms.length = S at *
  have ev : ∀ i, i < ms.length → (i + 1 : Int) % 2 = 0 → 0 ≤ (dQ ms ks (b i) ms.length).2 := fun i hi he => (hc i hi).ev _ (by rw [hn i hi]; exact he)
  have od : ∀ i, i < ms.length → (i + 1 : Int) % 2 = 1 → (dQ ms ks (b i) ms.length).2 ≤ 0 := fun i hi he => (hc i hi).od _ (by rw [hn i hi]; exact he)
  clear hc hn
  generalize ms.length = n at *
  rcases (by omega : n = 1 ∨ n = 2 ∨ n = 3 ∨ n = 4) with rfl | rfl | rfl | rfl
  · have e0 := od 0 (by omega) (by decide)
    rw [dQ_pol1] at e0
    have := interpU (hA1 rfl) S hB e0
    show S ≤ 0 + b 0
    grind
  · have e0 := od 0 (by omega) (by decide)
    have e1 := ev 1 (by omega) (by decide)
    obtain ⟨E, hp⟩ := dQ_pol2 ms ks
    rw [hp] at e0 e1
    have := interp1 (hA0 rfl) S hB (interp2 (hb 0 (by omega)) e0 e1)
    show S ≤ 0 + b 0 + b 1
    grind
  · have e0 := od 0 (by omega) (by decide)
    have e1 := ev 1 (by omega) (by decide)
    have e2 := od 2 (by omega) (by decide)
    obtain ⟨D, E, hp⟩ := dQ_pol3 ms ks
    rw [hp] at e0 e1 e2
    have := interp3 (A := -(tQ ms ks 3).1) (B := -(tQ ms ks 3).2) (D := -D) (E := -E) (hb 0 (by omega)) (hb 1 (by omega)) (by grind) (by grind) (by grind)
    have := interpU (hA1 rfl) S hB (b := b 0 + b 1 + b 2) (by grind)
    show S ≤ 0 + b 0 + b 1 + b 2
    grind
  · have e0 := od 0 (by omega) (by decide)
    have e1 := ev 1 (by omega) (by decide)
    have e2 := od 2 (by omega) (by decide)
    have e3 := ev 3 (by omega) (by decide)
    obtain ⟨C, D, E, hp⟩ := dQ_pol4 ms ks
    rw [hp] at e0 e1 e2 e3
    have := interp1 (hA0 rfl) S hB (interp4 (hb 0 (by omega)) (hb 1 (by omega)) (hb 2 (by omega)) e0 e1 e2 e3)
    show S ≤ 0 + b 0 + b 1 + b 2 + b 3
    grind
/-- Points with the counts 0, 1, ..: their sum is not greater. -/
theorem points_down {ms ks : List Int} (h : Fr ms ks) (b : Nat → Rat) (c : Nat → Nat → Int) (hc : ∀ i, i < ms.length → Cn ms ks (b i) (c i)) (hn : ∀ i, i < ms.length → c i ms.length = i) (hb : ∀ i, i + 1 < ms.length → b i < b (i + 1)) :
    (List.range ms.length).foldl (fun s i => s + b i) 0 ≤ sumQ ms ks ms.length := by
  have hB := tQ_sum (ms := ms) (ks := ks) ms.length (Nat.le_refl _) (fun i hi => (h.m i hi).1)
  obtain ⟨hA0, hA1⟩ := tQ_pos (ms := ms) (ks := ks) ms.length (Nat.le_refl _) (fun i hi => (h.m i hi).1)
  have h1 := h.pos
  have h2 := h.few
  generalize sumQ ms ks ms.length = S at *
  have ev : ∀ i, i < ms.length → (i : Int) % 2 = 0 → 0 ≤ (dQ ms ks (b i) ms.length).2 := fun i hi he => (hc i hi).ev _ (by rw [hn i hi]; exact he)
  have od : ∀ i, i < ms.length → (i : Int) % 2 = 1 → (dQ ms ks (b i) ms.length).2 ≤ 0 := fun i hi he => (hc i hi).od _ (by rw [hn i hi]; exact he)
  clear hc hn
  generalize ms.length = n at *
  rcases (by omega : n = 1 ∨ n = 2 ∨ n = 3 ∨ n = 4) with rfl | rfl | rfl | rfl
  · have e0 := ev 0 (by omega) (by decide)
    rw [dQ_pol1] at e0
    have := interpW (hA1 rfl) S hB e0
    show 0 + b 0 ≤ S
    grind
  · have e0 := ev 0 (by omega) (by decide)
    have e1 := od 1 (by omega) (by decide)
    obtain ⟨E, hp⟩ := dQ_pol2 ms ks
    rw [hp] at e0 e1
    have := interp2 (A := -(tQ ms ks 2).1) (B := -(tQ ms ks 2).2) (E := -E) (hb 0 (by omega)) (by grind) (by grind)
    have := interpV (hA0 rfl) S hB (b := b 0 + b 1) (by grind)
    show 0 + b 0 + b 1 ≤ S
    grind
  · have e0 := ev 0 (by omega) (by decide)
    have e1 := od 1 (by omega) (by decide)
    have e2 := ev 2 (by omega) (by decide)
    obtain ⟨D, E, hp⟩ := dQ_pol3 ms ks
    rw [hp] at e0 e1 e2
    have := interp3 (hb 0 (by omega)) (hb 1 (by omega)) e0 e1 e2
    have := interpW (hA1 rfl) S hB (b := b 0 + b 1 + b 2) (by grind)
    show 0 + b 0 + b 1 + b 2 ≤ S
    grind
  · have e0 := ev 0 (by omega) (by decide)
    have e1 := od 1 (by omega) (by decide)
    have e2 := ev 2 (by omega) (by decide)
    have e3 := od 3 (by omega) (by decide)
    obtain ⟨C, D, E, hp⟩ := dQ_pol4 ms ks
    rw [hp] at e0 e1 e2 e3
    have := interp4 (A := -(tQ ms ks 4).1) (B := -(tQ ms ks 4).2) (C := -C) (D := -D) (E := -E) (hb 0 (by omega)) (hb 1 (by omega)) (hb 2 (by omega)) (by grind) (by grind) (by grind) (by grind)
    have := interpV (hA0 rfl) S hB (b := b 0 + b 1 + b 2 + b 3) (by grind)
    show 0 + b 0 + b 1 + b 2 + b 3 ≤ S
    grind
theorem foldl_sum (x : Nat → Int) (D : Int) (hD : 0 < D) (n : Nat) : (List.range n).foldl (fun s i => s + Rat.divInt (x i) D) 0 * (D : Rat) = ((sumI x n : Int) : Rat) := by
  induction n with
  | zero => show (0 : Rat) * _ = ((0 : Int) : Rat); grind
  | succ n ih =>
    rw [List.range_succ, List.foldl_append]
    show (_ + Rat.divInt (x n) D) * _ = ((sumI x n + x n : Int) : Rat)
    rw [Rat.add_mul, ih, div_cancel hD, Rat.intCast_add]
theorem below_lt {ms ks : List Int} (h : Fr ms ks) {D x y : Int} (hD : 0 < D) (hc : belowF ms ks x D < belowF ms ks y D) : x < y := by
  rcases Int.lt_or_le x y with h1 | h1
  · exact h1
  · have := below_mono h hD hD (Int.mul_le_mul_of_nonneg_right h1 (by omega : 0 ≤ D))
    omega
theorem div_lt {x y D : Int} (hD : 0 < D) (h : x < y) : Rat.divInt x D < Rat.divInt y D := by
  refine lt_of_mul (d := (D : Rat)) (Rat.intCast_lt_intCast.2 hD) ?_
  rw [div_cancel hD, div_cancel hD]
  exact Rat.intCast_lt_intCast.2 h
theorem rat_parts (S : Rat) : S * ((S.den : Int) : Rat) = ((S.num : Int) : Rat) := by
  have h := Rat.num_divInt_den S
  have hd : (0 : Int) < (S.den : Int) := by have := S.den_nz; omega
  have := div_cancel (num := S.num) hd
  rwa [h] at this
theorem trace_up {ms ks : List Int} (h : Fr ms ks) {D : Int} (hD : 0 < D) (x : Nat → Int) (hx : ∀ i, i < ms.length → belowF ms ks (x i) D = i + 1) :
    (sumQ ms ks ms.length).num * D ≤ sumI x ms.length * ((sumQ ms ks ms.length).den : Int) := by
  have hp := points_up h (fun i => Rat.divInt (x i) D) (fun i j => (belowQ ms ks (Rat.divInt (x i) D) j).1) (fun i hi => belowQ_cn ms ks _) (fun i hi => by
    show (belowQ _ _ _ _).1 = _
    rw [belowQ_F _ _ _ _ hD, hx i hi]) (fun i hi => div_lt hD (below_lt h hD (by rw [hx i (by omega), hx (i + 1) hi]; omega)))
  have hf := foldl_sum x D hD ms.length
  have hr := rat_parts (sumQ ms ks ms.length)
  have hd : (0 : Int) < ((sumQ ms ks ms.length).den : Int) := by have := (sumQ ms ks ms.length).den_nz; omega
  generalize sumQ ms ks ms.length = S at *
  generalize (List.range ms.length).foldl (fun s i => s + Rat.divInt (x i) D) 0 = X at *
  have hDr : (0 : Rat) ≤ (D : Rat) := Rat.intCast_le_intCast.2 (by omega : (0 : Int) ≤ D)
  have hdr : (0 : Rat) ≤ ((S.den : Int) : Rat) := Rat.intCast_le_intCast.2 (by omega : (0 : Int) ≤ _)
  have e1 := Rat.mul_nonneg (Rat.mul_nonneg (show 0 ≤ X - S by grind) hDr) hdr
  refine Rat.intCast_le_intCast.1 ?_
  rw [Rat.intCast_mul, Rat.intCast_mul, ← hf, ← hr]
  grind
theorem trace_down {ms ks : List Int} (h : Fr ms ks) {D : Int} (hD : 0 < D) (x : Nat → Int) (hx : ∀ i, i < ms.length → belowF ms ks (x i) D = i) :
    sumI x ms.length * ((sumQ ms ks ms.length).den : Int) ≤ (sumQ ms ks ms.length).num * D := by
  have hp := points_down h (fun i => Rat.divInt (x i) D) (fun i j => (belowQ ms ks (Rat.divInt (x i) D) j).1) (fun i hi => belowQ_cn ms ks _) (fun i hi => by
    show (belowQ _ _ _ _).1 = _
    rw [belowQ_F _ _ _ _ hD, hx i hi]) (fun i hi => div_lt hD (below_lt h hD (by rw [hx i (by omega), hx (i + 1) hi]; omega)))
  have hf := foldl_sum x D hD ms.length
  have hr := rat_parts (sumQ ms ks ms.length)
  have hd : (0 : Int) < ((sumQ ms ks ms.length).den : Int) := by have := (sumQ ms ks ms.length).den_nz; omega
  generalize sumQ ms ks ms.length = S at *
  generalize (List.range ms.length).foldl (fun s i => s + Rat.divInt (x i) D) 0 = X at *
  have hDr : (0 : Rat) ≤ (D : Rat) := Rat.intCast_le_intCast.2 (by omega : (0 : Int) ≤ D)
  have hdr : (0 : Rat) ≤ ((S.den : Int) : Rat) := Rat.intCast_le_intCast.2 (by omega : (0 : Int) ≤ _)
  have e1 := Rat.mul_nonneg (Rat.mul_nonneg (show 0 ≤ S - X by grind) hDr) hdr
  refine Rat.intCast_le_intCast.1 ?_
  rw [Rat.intCast_mul, Rat.intCast_mul, ← hf, ← hr]
  grind
theorem sumI_mul (x : Nat → Int) (K c : Int) (n : Nat) : sumI (fun i => x i * K + c) n = sumI x n * K + n * c := by
  induction n with
  | zero => simp [sumI]
  | succ n ih =>
    simp only [sumI]
    rw [ih]
    push_cast
    grind
theorem sumI_le (x y : Nat → Int) (n : Nat) (h : ∀ i, i < n → x i ≤ y i) : sumI x n ≤ sumI y n := by
  induction n with
  | zero => exact Int.le_refl _
  | succ n ih =>
    have := ih (fun i hi => h i (by omega))
    have := h n (by omega)
    simp only [sumI]
    omega
/-- THE LOWER ENDS. -/
theorem trace_lo {ms ks : List Int} (h : Fr ms ks) {den : Int} (hd : 0 < den) (L : Nat → Int) (hL : ∀ i, i < ms.length → 0 ≤ L i ∧ L i ≤ 81 * den ∧ belowF ms ks (L i) den ≤ i) :
    sumI L ms.length * ((sumQ ms ks ms.length).den : Int) ≤ (sumQ ms ks ms.length).num * den := by
  have hDD : 0 < den * 100000000000000000000000000 := by omega
  have scale : ∀ y : Int, belowF ms ks (y * 100000000000000000000000000) (den * 100000000000000000000000000) = belowF ms ks y den := fun y =>
    Int.le_antisymm (below_mono h hDD hd (Int.le_of_eq (by grind))) (below_mono h hd hDD (Int.le_of_eq (by grind)))
  have key : ∀ i, i < ms.length → ∃ x, L i * 100000000000000000000000000 ≤ x ∧ belowF ms ks x (den * 100000000000000000000000000) = i := fun i hi => by
    obtain ⟨h1, h2, h3⟩ := hL i hi
    obtain ⟨k, hk⟩ : ∃ k : Nat, (k : Int) = 81 * (den * 100000000000000000000000000) - L i * 100000000000000000000000000 := ⟨(81 * (den * 100000000000000000000000000) - L i * 100000000000000000000000000).toNat, by omega⟩
    have hall := below_all h (num := 81 * (den * 100000000000000000000000000)) (den := den * 100000000000000000000000000) (K := 20) (M := 1) hDD (by decide) (by decide) (fun i hi => (h.k i hi).2) (fun i hi => (h.m i hi).1) (by omega)
    obtain ⟨x, x1, x2, x3⟩ := ivt (fun y => belowF ms ks y (den * 100000000000000000000000000)) i (L i * 100000000000000000000000000) k (fun y y1 y2 => below_step h (by omega) (by omega) (by omega)) (by
      show belowF _ _ _ _ ≤ _
      rw [scale]
      exact h3) (by
      show _ ≤ belowF _ _ _ _
      rw [show L i * 100000000000000000000000000 + (k : Int) = 81 * (den * 100000000000000000000000000) by omega, hall]
      omega)
    exact ⟨x, x1, x3⟩
  have key' : ∀ i : Nat, ∃ x, i < ms.length → (L i * 100000000000000000000000000 ≤ x ∧ belowF ms ks x (den * 100000000000000000000000000) = i) := fun i => by
    by_cases hi : i < ms.length
    · obtain ⟨x, hx⟩ := key i hi
      exact ⟨x, fun _ => hx⟩
    · exact ⟨0, fun hi' => absurd hi' hi⟩
  let x : Nat → Int := fun i => Classical.choose (key' i)
  have hx : ∀ i, i < ms.length → (L i * 100000000000000000000000000 ≤ x i ∧ belowF ms ks (x i) (den * 100000000000000000000000000) = i) := fun i => Classical.choose_spec (key' i)
  have t := trace_down h hDD x (fun i hi => (hx i hi).2)
  have s := sumI_le (fun i => L i * 100000000000000000000000000 + 0) x ms.length (fun i hi => by have := (hx i hi).1; omega)
  rw [sumI_mul] at s
  have hq : (0 : Int) < ((sumQ ms ks ms.length).den : Int) := by have := (sumQ ms ks ms.length).den_nz; omega
  generalize ((sumQ ms ks ms.length).den : Int) = Q at *
  generalize (sumQ ms ks ms.length).num = P at *
  have e := Int.mul_le_mul_of_nonneg_right s (Int.le_of_lt hq)
  have e2 : (sumI L ms.length * 100000000000000000000000000 + (ms.length : Int) * 0) * Q = sumI L ms.length * Q * 100000000000000000000000000 := by grind
  have e3 : P * (den * 100000000000000000000000000) = P * den * 100000000000000000000000000 := by grind
  omega
/-- THE UPPER ENDS: above each there are more. -/
theorem trace_hi {ms ks : List Int} (h : Fr ms ks) {den : Int} (hd : 0 < den) (H : Nat → Int) (hH : ∀ i, i < ms.length → 0 ≤ H i ∧ H i ≤ 81 * den ∧ ∀ K, 0 < K → i < belowF ms ks (H i * K + 1) (den * K)) :
    (sumQ ms ks ms.length).num * den ≤ sumI H ms.length * ((sumQ ms ks ms.length).den : Int) := by
  have hq : (0 : Int) < ((sumQ ms ks ms.length).den : Int) := by have := (sumQ ms ks ms.length).den_nz; omega
  obtain ⟨K, hK⟩ : ∃ K : Int, K = 100000000000000000000000000 + (ms.length : Int) * ((sumQ ms ks ms.length).den : Int) := ⟨_, rfl⟩
  have hnq : 0 ≤ (ms.length : Int) * ((sumQ ms ks ms.length).den : Int) := Int.mul_nonneg (by omega) (by omega)
  have hK0 : 0 < K := by omega
  have hDD : 0 < den * K := Int.mul_pos hd hK0
  have hDK : K ≤ den * K := by
    have := Int.mul_le_mul_of_nonneg_right (show 1 ≤ den by omega) (Int.le_of_lt hK0)
    omega
  have key : ∀ i, i < ms.length → ∃ x, x ≤ H i * K + 1 ∧ belowF ms ks x (den * K) = i + 1 := fun i hi => by
    obtain ⟨h1, h2, h3⟩ := hH i hi
    have g1 : 0 ≤ H i * K := Int.mul_nonneg h1 (by omega)
    have g2 : H i * K ≤ 81 * den * K := Int.mul_le_mul_of_nonneg_right h2 (by omega)
    have g3 : 81 * den * K = 81 * (den * K) := Int.mul_assoc ..
    obtain ⟨k, hk⟩ : ∃ k : Nat, (k : Int) = H i * K + 1 := ⟨(H i * K + 1).toNat, by omega⟩
    have hz := (below_zero h (num := 0) hDD (Int.le_refl 0)).1
    obtain ⟨x, x1, x2, x3⟩ := ivt (fun y => belowF ms ks y (den * K)) (i + 1) 0 k (fun y y1 y2 => below_step h (by omega) (by omega) (by omega)) (by
      show belowF _ _ _ _ ≤ _
      rw [hz]
      omega) (by
      show _ ≤ belowF _ _ _ _
      rw [show (0 : Int) + (k : Int) = H i * K + 1 by omega]
      have := h3 K hK0
      omega)
    exact ⟨x, by omega, x3⟩
  have key' : ∀ i : Nat, ∃ x, i < ms.length → (x ≤ H i * K + 1 ∧ belowF ms ks x (den * K) = i + 1) := fun i => by
    by_cases hi : i < ms.length
    · obtain ⟨x, hx⟩ := key i hi
      exact ⟨x, fun _ => hx⟩
    · exact ⟨0, fun hi' => absurd hi' hi⟩
  let x : Nat → Int := fun i => Classical.choose (key' i)
  have hx : ∀ i, i < ms.length → (x i ≤ H i * K + 1 ∧ belowF ms ks (x i) (den * K) = i + 1) := fun i => Classical.choose_spec (key' i)
  have t := trace_up h hDD x (fun i hi => (hx i hi).2)
  have s := sumI_le x (fun i => H i * K + 1) ms.length (fun i hi => (hx i hi).1)
  rw [sumI_mul] at s
  generalize ((sumQ ms ks ms.length).den : Int) = Q at *
  generalize (sumQ ms ks ms.length).num = P at *
  have e := Int.mul_le_mul_of_nonneg_right s (Int.le_of_lt hq)
  have e1 : P * (den * K) ≤ (sumI H ms.length * K + (ms.length : Int) * 1) * Q := Int.le_trans t e
  have e2 : (P * den - sumI H ms.length * Q) * K ≤ (ms.length : Int) * Q := by
    have : (P * den - sumI H ms.length * Q) * K = P * (den * K) - sumI H ms.length * K * Q := by grind
    have : (sumI H ms.length * K + (ms.length : Int) * 1) * Q = sumI H ms.length * K * Q + (ms.length : Int) * Q := by grind
    omega
  rcases Int.lt_or_le (sumI H ms.length * Q) (P * den) with g | g
  · exfalso
    have := Int.mul_le_mul_of_nonneg_right (show 1 ≤ P * den - sumI H ms.length * Q by omega) (Int.le_of_lt hK0)
    omega
  · exact g
end Go.Proofs.Ytmaidjankakppaa
