/- The plain law of traces: how the count steps between squares that are near each other. -/
import Derived.Test.YtmaidjankakppaaQa
namespace Go.Proofs.Ytmaidjankakppaa
open Go.RowKit

theorem rmul_bd {a x A C : Rat} (h1 : -A ≤ a) (h2 : a ≤ A) (h3 : -C ≤ x) (h4 : x ≤ C) : -(A * C) ≤ a * x ∧ a * x ≤ A * C := by
  have e1 := Rat.mul_nonneg (show 0 ≤ A - a by grind) (show 0 ≤ C + x by grind)
  have e2 := Rat.mul_nonneg (show 0 ≤ A + a by grind) (show 0 ≤ C - x by grind)
  have e3 := Rat.mul_nonneg (show 0 ≤ A - a by grind) (show 0 ≤ C - x by grind)
  have e4 := Rat.mul_nonneg (show 0 ≤ A + a by grind) (show 0 ≤ C + x by grind)
  constructor <;> grind
/-- Between bounds. -/
def Rb (C x : Rat) : Prop := -C ≤ x ∧ x ≤ C
theorem Rb.mul {A C a x : Rat} (h : Rb A a) (h' : Rb C x) : Rb (A * C) (a * x) := rmul_bd h.1 h.2 h'.1 h'.2
theorem Rb.add {A C a x : Rat} (h : Rb A a) (h' : Rb C x) : Rb (A + C) (a + x) := by
  obtain ⟨h1, h2⟩ := h
  obtain ⟨h3, h4⟩ := h'
  constructor <;> grind
theorem Rb.neg {A a : Rat} (h : Rb A a) : Rb A (-a) := by
  obtain ⟨h1, h2⟩ := h
  constructor <;> grind
theorem Rb.sub {A C a x : Rat} (h : Rb A a) (h' : Rb C x) : Rb (A + C) (a - x) := by
  have := h.add h'.neg
  rwa [← Rat.sub_eq_add_neg] at this
theorem Rb.mono {A C a : Rat} (h : Rb A a) (hc : A ≤ C) : Rb C a := by
  obtain ⟨h1, h2⟩ := h
  constructor <;> grind
/-- Bounds of determinants, and of how they change. -/
def mQ : Nat → Rat × Rat
  | 0 => (0, 1)
  | i + 1 => ((mQ i).2, 850 * (mQ i).2 + 400 * (mQ i).1)
def lQ : Nat → Rat × Rat
  | 0 => (0, 0)
  | i + 1 => ((lQ i).2, 850 * (lQ i).2 + 10 * (mQ i).2 + 400 * (lQ i).1)
theorem lQ_bd (i : Nat) (hi : i ≤ 4) : 0 ≤ (lQ i).2 ∧ (lQ i).2 ≤ 100000000000 := by
  rcases (by omega : i = 0 ∨ i = 1 ∨ i = 2 ∨ i = 3 ∨ i = 4) with rfl | rfl | rfl | rfl | rfl <;> decide +kernel
/-- Frames whose numbers are small. -/
structure Sm (ms ks : List Int) : Prop where
  m : ∀ i, i < ms.length → (0 : Rat) ≤ ((ms[i]?.getD 0 : Int) : Rat) ∧ ((ms[i]?.getD 0 : Int) : Rat) ≤ 10
  a : ∀ i : Nat, (0 : Rat) ≤ ((ks[i]?.getD 0 + ks[i + 1]?.getD 0 : Int) : Rat) ∧ ((ks[i]?.getD 0 + ks[i + 1]?.getD 0 : Int) : Rat) ≤ 40
  k : ∀ i : Nat, (0 : Rat) ≤ ((ks[i]?.getD 0 * ks[i]?.getD 0 : Int) : Rat) ∧ ((ks[i]?.getD 0 * ks[i]?.getD 0 : Int) : Rat) ≤ 400
  k1 : ∀ i, i < ms.length → (1 : Rat) ≤ ((ks[i]?.getD 0 * ks[i]?.getD 0 : Int) : Rat)
theorem own_rb {a m q : Rat} (h1 : 0 ≤ a) (h2 : a ≤ 40) (h3 : 0 ≤ m) (h4 : m ≤ 10) (h5 : 0 ≤ q) (h6 : q ≤ 82) : Rb 850 (a - q * m) := by
  have e1 := Rat.mul_nonneg h5 h3
  have e2 := (rmul_bd (show -82 ≤ q by grind) h6 (show -10 ≤ m by grind) h4).2
  constructor <;> grind
theorem dQ_rb {ms ks : List Int} (h : Sm ms ks) {q : Rat} (h5 : 0 ≤ q) (h6 : q ≤ 82) (i : Nat) (hi : i ≤ ms.length) : Rb (mQ i).1 (dQ ms ks q i).1 ∧ Rb (mQ i).2 (dQ ms ks q i).2 := by
  induction i with
  | zero => exact ⟨⟨by show (-0 : Rat) ≤ 0; decide +kernel, by show (0 : Rat) ≤ 0; decide +kernel⟩, ⟨by show (-1 : Rat) ≤ 1; decide +kernel, by show (1 : Rat) ≤ 1; decide +kernel⟩⟩
  | succ i ih =>
    obtain ⟨h1, h2⟩ := ih (by omega)
    refine ⟨h2, ?_⟩
    have o := own_rb (h.a i).1 (h.a i).2 (h.m i (by omega)).1 (h.m i (by omega)).2 h5 h6
    have k : Rb 400 ((ks[i]?.getD 0 * ks[i]?.getD 0 : Int) : Rat) := ⟨by have := (h.k i).1; grind, (h.k i).2⟩
    exact (o.mul h2).sub (k.mul h1)
theorem dQ_lip {ms ks : List Int} (h : Sm ms ks) {q e : Rat} (h5 : 0 ≤ q) (he : 0 ≤ e) (h6 : q + e ≤ 82) (i : Nat) (hi : i ≤ ms.length) : Rb ((lQ i).1 * e) ((dQ ms ks (q + e) i).1 - (dQ ms ks q i).1) ∧ Rb ((lQ i).2 * e) ((dQ ms ks (q + e) i).2 - (dQ ms ks q i).2) := by
  induction i with
  | zero =>
    refine ⟨?_, ?_⟩
    · show Rb (0 * e) (0 - 0)
      constructor <;> grind
    · show Rb (0 * e) (1 - 1)
      constructor <;> grind
  | succ i ih =>
    obtain ⟨h1, h2⟩ := ih (by omega)
    refine ⟨h2, ?_⟩
    have o := own_rb (h.a i).1 (h.a i).2 (h.m i (by omega)).1 (h.m i (by omega)).2 (show 0 ≤ q + e by grind) h6
    have k : Rb 400 ((ks[i]?.getD 0 * ks[i]?.getD 0 : Int) : Rat) := ⟨by have := (h.k i).1; grind, (h.k i).2⟩
    have m : Rb 10 ((ms[i]?.getD 0 : Int) : Rat) := ⟨by have := (h.m i (by omega)).1; grind, (h.m i (by omega)).2⟩
    have d := (dQ_rb h h5 (by grind) i (by omega)).2
    have r := ((o.mul h2).sub ((m.mul (⟨by grind, by grind⟩ : Rb e e)).mul d)).sub (k.mul h1)
    show Rb ((850 * (lQ i).2 + 10 * (mQ i).2 + 400 * (lQ i).1) * e) ((_ * _ - _ * _) - (_ * _ - _ * _))
    generalize (dQ ms ks (q + e) i) = D' at *
    generalize (dQ ms ks q i) = D at *
    generalize ((ks[i]?.getD 0 + ks[i + 1]?.getD 0 : Int) : Rat) = a at *
    generalize ((ks[i]?.getD 0 * ks[i]?.getD 0 : Int) : Rat) = kk at *
    generalize ((ms[i]?.getD 0 : Int) : Rat) = mm at *
    obtain ⟨r1, r2⟩ := r
    constructor
    · grind
    · grind
/-- Two determinants beside each other are not both small. -/
theorem rb_div {C k y : Rat} (hC : 0 ≤ C) (hk : 1 ≤ k) (h : Rb C (k * y)) : Rb C y := by
  obtain ⟨h1, h2⟩ := h
  rcases Rat.le_total (a := y) (b := 0) with hy | hy
  · have := Rat.mul_nonneg (show 0 ≤ k - 1 by grind) (show 0 ≤ -y by grind)
    constructor <;> grind
  · have := Rat.mul_nonneg (show 0 ≤ k - 1 by grind) hy
    constructor <;> grind
def gQ : Nat → Rat
  | 0 => 1
  | i + 1 => 851 * gQ i
theorem gQ_pos (i : Nat) : 1 ≤ gQ i := by
  induction i with
  | zero => show (1 : Rat) ≤ 1; decide +kernel
  | succ i ih => show 1 ≤ 851 * gQ i; grind
theorem dQ_small {ms ks : List Int} (h : Sm ms ks) {q : Rat} (h5 : 0 ≤ q) (h6 : q ≤ 82) (i : Nat) (hi : i ≤ ms.length) (B : Rat) (hB : 0 ≤ B) (h1 : Rb B (dQ ms ks q i).1) (h2 : Rb B (dQ ms ks q i).2) : 1 ≤ B * gQ i := by
  induction i generalizing B with
  | zero =>
    have h3 : (1 : Rat) ≤ B := h2.2
    show 1 ≤ B * 1
    grind
  | succ i ih =>
    have o := own_rb (h.a i).1 (h.a i).2 (h.m i (by omega)).1 (h.m i (by omega)).2 h5 h6
    have e := (o.mul (show Rb B (dQ ms ks q i).2 from h1)).sub h2
    have e2 : Rb (850 * B + B) (((ks[i]?.getD 0 * ks[i]?.getD 0 : Int) : Rat) * (dQ ms ks q i).1) := by
      have : (((ks[i]?.getD 0 + ks[i + 1]?.getD 0 : Int) : Rat) - q * ((ms[i]?.getD 0 : Int) : Rat)) * (dQ ms ks q i).2 - (dQ ms ks q (i + 1)).2 = ((ks[i]?.getD 0 * ks[i]?.getD 0 : Int) : Rat) * (dQ ms ks q i).1 := by
        show _ - (_ * _ - _ * _) = _
        grind
      rwa [this] at e
    have e3 := rb_div (by grind) (h.k1 i (by omega)) e2
    have e4 := ih (by omega) (851 * B) (by grind) (e3.mono (by grind)) ((show Rb B (dQ ms ks q i).2 from h1).mono (by grind))
    show 1 ≤ B * (851 * gQ i)
    grind
/-- A count along the determinants. -/
structure Cn (ms ks : List Int) (q : Rat) (c : Nat → Int) : Prop where
  zero : c 0 = 0
  step : ∀ i, c (i + 1) = c i ∨ c (i + 1) = c i + 1
  ev : ∀ i, c i % 2 = 0 → 0 ≤ (dQ ms ks q i).2
  od : ∀ i, c i % 2 = 1 → (dQ ms ks q i).2 ≤ 0
theorem jump_rb {L x x' : Rat} (h : Rb L (x' - x)) (h2 : 0 ≤ x ∧ x' ≤ 0 ∨ x ≤ 0 ∧ 0 ≤ x') : Rb L x := by
  obtain ⟨h3, h4⟩ := h
  rcases h2 with ⟨h5, h6⟩ | ⟨h5, h6⟩ <;> constructor <;> grind
/-- Between two squares that are near each other there is one step of the count at most. -/
theorem jump_one {ms ks : List Int} (h : Sm ms ks) (hl : ms.length ≤ 4) {q e : Rat} {c c' : Nat → Int} (h5 : 0 ≤ q) (he : 0 ≤ e) (h6 : q + e ≤ 82) (hs : e * 100000000000000000000000000 ≤ 1) (hc : Cn ms ks q c) (hc' : Cn ms ks (q + e) c') (hm : ∀ i, i ≤ ms.length → c i ≤ c' i)
    (i : Nat) (hi : i ≤ ms.length) : c' i ≤ c i + 1 ∧ c' (i - 1) ≤ c (i - 1) + 1 := by
  have near : ∀ j, j ≤ ms.length → c' j = c j + 1 → Rb (100000000000 * e) (dQ ms ks q j).2 := fun j hj hcj => by
    have e1 := (dQ_lip h h5 he h6 j hj).2
    obtain ⟨g1, g2⟩ := lQ_bd j (by omega)
    have e2 : Rb (100000000000 * e) ((dQ ms ks (q + e) j).2 - (dQ ms ks q j).2) := e1.mono (by
      have := Rat.mul_nonneg (show 0 ≤ 100000000000 - (lQ j).2 by grind) he
      grind)
    refine jump_rb e2 ?_
    rcases (by omega : c j % 2 = 0 ∨ c j % 2 = 1) with h7 | h7
    · exact .inl ⟨hc.ev j h7, hc'.od j (by omega)⟩
    · exact .inr ⟨hc.od j h7, hc'.ev j (by omega)⟩
  induction i with
  | zero =>
    have := hc.zero
    have := hc'.zero
    constructor <;> (try simp only [Nat.zero_sub]) <;> omega
  | succ i ih =>
    obtain ⟨j1, j2⟩ := ih (by omega)
    rw [Nat.add_sub_cancel]
    refine ⟨?_, j1⟩
    rcases Int.lt_or_le (c i + 1) (c' i) with h7 | h7
    · omega
    refine Decidable.byContradiction fun h8' => ?_
    have h8 : c (i + 1) + 1 < c' (i + 1) := by omega
    have s1 := hc.step i
    have s2 := hc'.step i
    have m1 := hm i (by omega)
    have ji : c' i = c i + 1 := by omega
    have n1 := near i (by omega) ji
    obtain ⟨k, rfl⟩ : ∃ k, i = k + 1 := ⟨i - 1, by
      rcases Nat.eq_zero_or_pos i with h9 | h9
      · subst h9
        have := hc.zero
        have := hc'.zero
        omega
      · omega⟩
    rw [Nat.add_sub_cancel] at j2
    have t1 := hc.step k
    have t2 := hc'.step k
    have m2 := hm k (by omega)
    have o := own_rb (h.a (k + 1)).1 (h.a (k + 1)).2 (h.m (k + 1) (by omega)).1 (h.m (k + 1) (by omega)).2 h5 (show q ≤ 82 by grind)
    have n2 : Rb (850 * (100000000000 * e)) (dQ ms ks q (k + 1)).1 := by
      show Rb (850 * (100000000000 * e)) (dQ ms ks q k).2
      rcases (by omega : c' k = c k + 1 ∨ c' k = c k) with h9 | h9
      · exact (near k (by omega) h9).mono (by grind)
      · have x1 : c (k + 1) = c k := by omega
        have x2 : c (k + 1 + 1) = c k := by omega
        have r := o.mul n1
        have hrec : (dQ ms ks q (k + 1 + 1)).2 = (((ks[k + 1]?.getD 0 + ks[k + 1 + 1]?.getD 0 : Int) : Rat) - q * ((ms[k + 1]?.getD 0 : Int) : Rat)) * (dQ ms ks q (k + 1)).2 - ((ks[k + 1]?.getD 0 * ks[k + 1]?.getD 0 : Int) : Rat) * (dQ ms ks q k).2 := rfl
        obtain ⟨r1, r2⟩ := r
        have kk := h.k1 (k + 1) (by omega)
        refine rb_div (k := ((ks[k + 1]?.getD 0 * ks[k + 1]?.getD 0 : Int) : Rat)) (by grind) kk ?_
        rcases (by omega : c k % 2 = 0 ∨ c k % 2 = 1) with h7 | h7
        · have y1 := hc.ev k h7
          have y2 := hc.ev (k + 1 + 1) (by omega)
          have y3 := Rat.mul_nonneg (show (0 : Rat) ≤ ((ks[k + 1]?.getD 0 * ks[k + 1]?.getD 0 : Int) : Rat) by grind) y1
          constructor <;> grind
        · have y1 := hc.od k h7
          have y2 := hc.od (k + 1 + 1) (by omega)
          have y3 := Rat.mul_nonneg (show (0 : Rat) ≤ ((ks[k + 1]?.getD 0 * ks[k + 1]?.getD 0 : Int) : Rat) by grind) (show 0 ≤ -(dQ ms ks q k).2 by grind)
          constructor <;> grind
    have z := dQ_small h h5 (show q ≤ 82 by grind) (k + 1) (by omega) (850 * (100000000000 * e)) (by grind) n2 (n1.mono (by grind))
    have g : gQ (k + 1) ≤ 1000000000000 := by
      rcases (by omega : k = 0 ∨ k = 1 ∨ k = 2 ∨ k = 3) with rfl | rfl | rfl | rfl <;> decide +kernel
    have z2 := Rat.mul_nonneg (show 0 ≤ 850 * (100000000000 * e) by grind) (show 0 ≤ 1000000000000 - gQ (k + 1) by grind)
    grind
end Go.Proofs.Ytmaidjankakppaa
