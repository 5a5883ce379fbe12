/- Plain law of moves: work is not lost. Moves of a valid hold: contracts for the law of works. -/
import Derived.Test.YtaiikekgckjdeaaK22
namespace Go.Proofs.Ytaiikekgckjdeaa
theorem sqM_le {d y : Int} (h1 : -y ≤ d) (h2 : d ≤ y) : d * d ≤ y * y := by
  have h := Int.mul_nonneg (show 0 ≤ y - d by omega) (show 0 ≤ y + d by omega)
  have e : (y - d) * (y + d) = y * y - d * d := by grind
  omega
theorem sqM_ge {d y : Int} (hy : 0 ≤ y) (h : y ≤ d ∨ d ≤ -y) : y * y ≤ d * d := by
  rcases h with h | h
  · exact sqM_le (by omega) h
  · have := sqM_le (d := y) (y := -d) (by omega) (by omega)
    grind
/-- An element in a valid hold, before a move. -/
structure ElM (k y : Int) (b : Bool) (s : Int) (br : Bool) (at1 : Int) : Prop where
  k0 : 1 ≤ k
  y0 : 1 ≤ y
  br_ : br = true → b = true ∧ s = 0
  b_ : b = true → s = 0
  sz : br = false → -y ≤ at1 - s ∧ at1 - s ≤ y
/-- What a move does to an element that is not broken: three cases. -/
theorem mv_cases {k y s at1 at2 : Int} {b : Bool} (h : ElM k y b s false at1) :
    (-y ≤ at2 - s ∧ at2 - s ≤ y ∧ mvSlip y b s false at2 = s ∧ mvBr y b s false at2 = false ∧ mvWork k y b s false at1 at2 = k * ((at2 - s) * (at2 - s)) - k * (at1 - s) * (at1 - s) ∧ mvLoss k y b s false at2 = 0) ∨
    ((y < at2 - s ∨ at2 - s < -y) ∧ b = true ∧ mvSlip y b s false at2 = 0 ∧ mvBr y b s false at2 = true ∧ mvWork k y b s false at1 at2 = k * (y * y) - k * (at1 - s) * (at1 - s) ∧ mvLoss k y b s false at2 = k * y * y) ∨
    (y < at2 - s ∧ b = false ∧ mvSlip y b s false at2 = at2 - y ∧ mvBr y b s false at2 = false ∧ mvWork k y b s false at1 at2 = k * (y * y) - k * (at1 - s) * (at1 - s) + 2 * k * y * (at2 - s - y) ∧ mvLoss k y b s false at2 = 2 * k * y * (at2 - s - y)) ∨
    (at2 - s < -y ∧ b = false ∧ mvSlip y b s false at2 = at2 + y ∧ mvBr y b s false at2 = false ∧ mvWork k y b s false at1 at2 = k * (y * y) - k * (at1 - s) * (at1 - s) + 2 * k * y * (-(at2 - s) - y) ∧ mvLoss k y b s false at2 = 2 * k * y * (-(at2 - s) - y)) := by
  have hy := h.y0
  rcases ovr_cases y (at2 - s) (by omega) with ⟨h0, h1, h2⟩ | ⟨h1, h0⟩ | ⟨h1, h0⟩
  · left
    have h3 := sqM_le h1 h2
    refine ⟨h1, h2, by simp [mvSlip, h0], by simp [mvBr, h0], ?_, by simp [mvLoss, h0]⟩
    rw [mvWork, Int.min_eq_left h3, h0]
    simp
  · have h3 := sqM_ge (d := at2 - s) (y := y) (by omega) (.inl (by omega))
    have hn : ¬ (at2 - s - y = 0) := by omega
    have hn2 : ¬ (at2 - s < 0) := by omega
    right
    cases b
    · right; left
      refine ⟨h1, rfl, ?_, by simp [mvBr], ?_, ?_⟩
      · simp [mvSlip, h0, hn, hn2]; omega
      · rw [mvWork, Int.min_eq_right h3, h0]; simp
      · simp [mvLoss, h0, hn]
    · left
      refine ⟨.inl h1, rfl, by simp [mvSlip, h0, hn], by simp [mvBr, h0, hn], ?_, by simp [mvLoss, h0, hn]⟩
      rw [mvWork, Int.min_eq_right h3]; simp
  · have h3 := sqM_ge (d := at2 - s) (y := y) (by omega) (.inr (by omega))
    have hn : ¬ (-(at2 - s) - y = 0) := by omega
    have hn2 : at2 - s < 0 := by omega
    right
    cases b
    · right; right
      refine ⟨h1, rfl, ?_, by simp [mvBr], ?_, ?_⟩
      · simp only [mvSlip, h0, hn, hn2]; simp; omega
      · rw [mvWork, Int.min_eq_right h3, h0]; simp
      · simp only [mvLoss, h0, hn]; simp
    · left
      refine ⟨.inr h1, rfl, by simp only [mvSlip, h0, hn]; simp, by simp only [mvBr, h0, hn]; simp, ?_, by simp only [mvLoss, h0, hn]; simp⟩
      rw [mvWork, Int.min_eq_right h3]; simp
theorem mv_broken {k y s at1 at2 : Int} {b : Bool} : mvSlip y b s true at2 = s ∧ mvBr y b s true at2 = true ∧ mvWork k y b s true at1 at2 = 0 ∧ mvLoss k y b s true at2 = 0 := by
  simp [mvSlip, mvBr, mvWork, mvLoss]
/-- Work is the change of the energy plus the loss. -/
theorem mv_energy {k y s at1 at2 : Int} {b br : Bool} (h : ElM k y b s br at1) :
    mvWork k y b s br at1 at2 = enrE k (mvSlip y b s br at2) (mvBr y b s br at2) at2 - enrE k s br at1 + mvLoss k y b s br at2 := by
  cases br
  · rcases mv_cases (at2 := at2) h with ⟨-, -, h1, h2, h3, h4⟩ | ⟨-, -, h1, h2, h3, h4⟩ | ⟨-, -, h1, h2, h3, h4⟩ | ⟨-, -, h1, h2, h3, h4⟩ <;> rw [h1, h2, h3, h4] <;> simp only [enrE, wgt] <;> simp <;> grind
  · obtain ⟨h1, h2, h3, h4⟩ := mv_broken (k := k) (y := y) (s := s) (at1 := at1) (at2 := at2) (b := b)
    rw [h1, h2, h3, h4]
    simp [enrE, wgt]
theorem mv_loss {k y s at1 at2 : Int} {b br : Bool} (h : ElM k y b s br at1) : 0 ≤ mvLoss k y b s br at2 := by
  have hk := h.k0
  have hy := h.y0
  have h5 : 0 ≤ k * y := Int.mul_nonneg (by omega) (by omega)
  have h6 : 0 ≤ 2 * k * y := by rw [Int.mul_assoc]; omega
  cases br
  · rcases mv_cases (at2 := at2) h with ⟨-, -, h1, h2, h3, h4⟩ | ⟨-, -, h1, h2, h3, h4⟩ | ⟨h0, -, h1, h2, h3, h4⟩ | ⟨h0, -, h1, h2, h3, h4⟩ <;> rw [h4]
    · exact Int.le_refl _
    · exact Int.mul_nonneg h5 (by omega)
    · exact Int.mul_nonneg h6 (by omega)
    · exact Int.mul_nonneg h6 (by omega)
  · rw [(mv_broken (k := k) (y := y) (s := s) (at1 := at1) (at2 := at2) (b := b)).2.2.2]
    exact Int.le_refl _
/-- By way of a position in between. -/
theorem mv_between {k y s at1 half at2 : Int} {b br : Bool} (h : ElM k y b s br at1) (hb : (at1 ≤ half ∧ half ≤ at2) ∨ (at2 ≤ half ∧ half ≤ at1)) :
    mvSlip y b (mvSlip y b s br half) (mvBr y b s br half) at2 = mvSlip y b s br at2 ∧ mvBr y b (mvSlip y b s br half) (mvBr y b s br half) at2 = mvBr y b s br at2 ∧
    mvWork k y b s br at1 half + mvWork k y b (mvSlip y b s br half) (mvBr y b s br half) half at2 = mvWork k y b s br at1 at2 ∧
    mvLoss k y b s br half + mvLoss k y b (mvSlip y b s br half) (mvBr y b s br half) at2 = mvLoss k y b s br at2 := by
  have hk := h.k0
  have hy := h.y0
  cases br
  · have hsz := h.sz rfl
    rcases mv_cases (at2 := half) h with ⟨a1, a2, h1, h2, h3, h4⟩ | ⟨a1, a2, h1, h2, h3, h4⟩ | ⟨a1, a2, h1, h2, h3, h4⟩ | ⟨a1, a2, h1, h2, h3, h4⟩
    · rw [h1, h2, h3, h4]
      have hh : ElM k y b s false half := ⟨hk, hy, (fun e => by cases e), h.b_, fun _ => ⟨a1, a2⟩⟩
      rcases mv_cases (at2 := at2) hh with ⟨-, -, g1, g2, g3, g4⟩ | ⟨-, -, g1, g2, g3, g4⟩ | ⟨-, -, g1, g2, g3, g4⟩ | ⟨-, -, g1, g2, g3, g4⟩ <;>
        rcases mv_cases (at2 := at2) h with ⟨-, -, f1, f2, f3, f4⟩ | ⟨-, -, f1, f2, f3, f4⟩ | ⟨-, -, f1, f2, f3, f4⟩ | ⟨-, -, f1, f2, f3, f4⟩ <;> first | omega | (refine ⟨rfl, rfl, ?_, ?_⟩ <;> grind)
    · rw [h1, h2, h3, h4]
      obtain ⟨g1, g2, g3, g4⟩ := mv_broken (k := k) (y := y) (s := 0) (at1 := half) (at2 := at2) (b := b)
      rw [g1, g2, g3, g4]
      rcases mv_cases (at2 := at2) h with ⟨_, _, f1, f2, f3, f4⟩ | ⟨_, _, f1, f2, f3, f4⟩ | ⟨_, b2, f1, f2, f3, f4⟩ | ⟨_, b2, f1, f2, f3, f4⟩
      · omega
      · rw [f1, f2, f3, f4]
        simp
      · rw [a2] at b2; cases b2
      · rw [a2] at b2; cases b2
    · rw [h1, h2, h3, h4]
      have hh : ElM k y b (half - y) false half := ⟨hk, hy, (fun e => by cases e), (fun e => by rw [a2] at e; cases e), fun _ => by omega⟩
      rcases mv_cases (at2 := at2) h with ⟨_, _, f1, f2, f3, f4⟩ | ⟨_, b2, f1, f2, f3, f4⟩ | ⟨_, b2, f1, f2, f3, f4⟩ | ⟨_, b2, f1, f2, f3, f4⟩
      · omega
      · rw [a2] at b2; cases b2
      · rw [f1, f2, f3, f4]
        rcases mv_cases (at2 := at2) hh with ⟨c1, c2, g1, g2, g3, g4⟩ | ⟨_, b3, g1, g2, g3, g4⟩ | ⟨_, b3, g1, g2, g3, g4⟩ | ⟨_, b3, g1, g2, g3, g4⟩
        · obtain rfl : at2 = half := by omega
          rw [g1, g2, g3, g4]
          refine ⟨rfl, rfl, ?_, ?_⟩ <;> grind
        · rw [a2] at b3; cases b3
        · rw [g1, g2, g3, g4]
          refine ⟨rfl, rfl, ?_, ?_⟩ <;> grind
        · omega
      · omega
    · rw [h1, h2, h3, h4]
      have hh : ElM k y b (half + y) false half := ⟨hk, hy, (fun e => by cases e), (fun e => by rw [a2] at e; cases e), fun _ => by omega⟩
      rcases mv_cases (at2 := at2) h with ⟨_, _, f1, f2, f3, f4⟩ | ⟨_, b2, f1, f2, f3, f4⟩ | ⟨_, b2, f1, f2, f3, f4⟩ | ⟨_, b2, f1, f2, f3, f4⟩
      · omega
      · rw [a2] at b2; cases b2
      · omega
      · rw [f1, f2, f3, f4]
        rcases mv_cases (at2 := at2) hh with ⟨c1, c2, g1, g2, g3, g4⟩ | ⟨_, b3, g1, g2, g3, g4⟩ | ⟨_, b3, g1, g2, g3, g4⟩ | ⟨_, b3, g1, g2, g3, g4⟩
        · obtain rfl : at2 = half := by omega
          rw [g1, g2, g3, g4]
          refine ⟨rfl, rfl, ?_, ?_⟩ <;> grind
        · rw [a2] at b3; cases b3
        · omega
        · rw [g1, g2, g3, g4]
          refine ⟨rfl, rfl, ?_, ?_⟩ <;> grind
  · obtain ⟨h1, h2, h3, h4⟩ := mv_broken (k := k) (y := y) (s := s) (at1 := at1) (at2 := half) (b := b)
    obtain ⟨g1, g2, g3, g4⟩ := mv_broken (k := k) (y := y) (s := s) (at1 := at1) (at2 := at2) (b := b)
    obtain ⟨f1, f2, f3, f4⟩ := mv_broken (k := k) (y := y) (s := s) (at1 := half) (at2 := at2) (b := b)
    rw [h1, h2, f1, f2, f3, f4, h3, h4, g3]
    simp
/-- Without slip and cracks the way back has the opposite work. -/
theorem mv_back {k y s at1 at2 : Int} {b br : Bool} (h : ElM k y b s br at1) (h0 : mvLoss k y b s br at2 = 0) :
    mvWork k y b (mvSlip y b s br at2) (mvBr y b s br at2) at2 at1 = -mvWork k y b s br at1 at2 ∧ mvLoss k y b (mvSlip y b s br at2) (mvBr y b s br at2) at1 = 0 := by
  have hk := h.k0
  have hy := h.y0
  have h5 : 0 < k * y := Int.mul_pos (by omega) (by omega)
  cases br
  · rcases mv_cases (at2 := at2) h with ⟨c1, c2, h1, h2, h3, h4⟩ | ⟨_, _, h1, h2, h3, h4⟩ | ⟨c1, _, h1, h2, h3, h4⟩ | ⟨c1, _, h1, h2, h3, h4⟩
    · rw [h1, h2, h3]
      have hh : ElM k y b s false at2 := ⟨hk, hy, (fun e => by cases e), h.b_, fun _ => ⟨c1, c2⟩⟩
      have hsz := h.sz rfl
      rcases mv_cases (at2 := at1) hh with ⟨-, -, g1, g2, g3, g4⟩ | ⟨c3, -, g1, g2, g3, g4⟩ | ⟨c3, -, g1, g2, g3, g4⟩ | ⟨c3, -, g1, g2, g3, g4⟩
      · refine ⟨?_, g4⟩
        rw [g3]
        grind
      · omega
      · omega
      · omega
    · rw [h4] at h0
      have := Int.mul_pos h5 (show 0 < y by omega)
      omega
    · rw [h4] at h0
      have := Int.mul_pos h5 (show 0 < at2 - s - y by omega)
      rw [Int.mul_assoc, Int.mul_assoc] at h0
      rw [Int.mul_assoc] at this
      omega
    · rw [h4] at h0
      have := Int.mul_pos h5 (show 0 < -(at2 - s) - y by omega)
      rw [Int.mul_assoc, Int.mul_assoc] at h0
      rw [Int.mul_assoc] at this
      omega
  · obtain ⟨h1, h2, h3, h4⟩ := mv_broken (k := k) (y := y) (s := s) (at1 := at1) (at2 := at2) (b := b)
    obtain ⟨g1, g2, g3, g4⟩ := mv_broken (k := k) (y := y) (s := s) (at1 := at2) (at2 := at1) (b := b)
    rw [h1, h2, h3, g3, g4]
    simp
theorem sumR_congr {f g : Nat → Int} {n : Nat} (h : ∀ i, i < n → f i = g i) : sumR f n = sumR g n := by
  induction n with
  | zero => rfl
  | succ n ih => rw [sumR, sumR, ih (fun i hi => h i (by omega)), h n (by omega)]
theorem sumR_add (f g : Nat → Int) (n : Nat) : sumR (fun i => f i + g i) n = sumR f n + sumR g n := by
  induction n with
  | zero => rfl
  | succ n ih =>
    rw [sumR, sumR, sumR, ih]
    omega
theorem sumR_sub (f g : Nat → Int) (n : Nat) : sumR (fun i => f i - g i) n = sumR f n - sumR g n := by
  induction n with
  | zero => rfl
  | succ n ih =>
    rw [sumR, sumR, sumR, ih]
    omega
theorem sumR_neg (f : Nat → Int) (n : Nat) : sumR (fun i => -f i) n = -sumR f n := by
  induction n with
  | zero => rfl
  | succ n ih =>
    rw [sumR, sumR, ih]
    omega
theorem sumR_nn {f : Nat → Int} {n : Nat} (h : ∀ i, i < n → 0 ≤ f i) : 0 ≤ sumR f n := by
  induction n with
  | zero => exact Int.le_refl _
  | succ n ih =>
    have h1 := ih (fun i hi => h i (by omega))
    have h2 := h n (by omega)
    rw [sumR]
    omega
theorem sumR_nil {f : Nat → Int} {n : Nat} (h : ∀ i, i < n → 0 ≤ f i) (h0 : sumR f n = 0) : ∀ i, i < n → f i = 0 := by
  induction n with
  | zero => intro i hi; omega
  | succ n ih =>
    have h1 := sumR_nn (fun i (hi : i < n) => h i (by omega))
    have h2 := h n (by omega)
    rw [sumR] at h0
    intro i hi
    by_cases e : i = n
    · subst e
      omega
    · exact ih (fun i hi => h i (by omega)) (by omega) i (by omega)
theorem HoldOk.elM {l : List El} {at1 : Int} {sl : List Sp} (h : HoldOk l at1 sl) {i : Nat} (hi : i < l.length) : ElM (l[i]?.getD el0).1 (l[i]?.getD el0).2.1 (l[i]?.getD el0).2.2 (sl[i]?.getD sp0).1 (sl[i]?.getD sp0).2 at1 := by
  obtain ⟨-, h1, h2, h3⟩ := slE_ok (h.sl i hi)
  have he := elErr_ok (h.el i hi)
  refine ⟨by omega, by omega, h1, h2, fun hb => ?_⟩
  rcases h3 with h3 | h3
  · rw [hb] at h3
    cases h3
  · exact szd_iff.1 h3
theorem wrk_energy {l : List El} {at1 at2 : Int} {sl : List Sp} (h : HoldOk l at1 sl) : wrkS l sl at1 at2 = enrS l at2 (mvdS l sl at2) - enrS l at1 sl + losS l sl at2 := by
  unfold wrkS enrS losS
  rw [← sumR_sub, ← sumR_add]
  refine sumR_congr fun i hi => ?_
  rw [mvdS_get l sl at2 hi]
  exact mv_energy (h.elM hi)
theorem los_nn {l : List El} {at1 at2 : Int} {sl : List Sp} (h : HoldOk l at1 sl) : 0 ≤ losS l sl at2 := sumR_nn fun _ hi => mv_loss (h.elM hi)
theorem mvdS_get2 (l : List El) (sl : List Sp) (at2 : Int) {i : Nat} (hi : i < l.length) : (mvdS l sl at2)[i]? = some (mvRow l sl at2 i) := by simp [mvdS, hi]
theorem mvd_between {l : List El} {at1 half at2 : Int} {sl : List Sp} (h : HoldOk l at1 sl) (hb : (at1 ≤ half ∧ half ≤ at2) ∨ (at2 ≤ half ∧ half ≤ at1)) :
    mvdS l (mvdS l sl half) at2 = mvdS l sl at2 ∧ wrkS l sl at1 half + wrkS l (mvdS l sl half) half at2 = wrkS l sl at1 at2 ∧ losS l sl half + losS l (mvdS l sl half) at2 = losS l sl at2 := by
  refine ⟨?_, ?_, ?_⟩
  · unfold mvdS
    refine List.map_congr_left fun i hi => ?_
    have hi' : i < l.length := by simpa using hi
    obtain ⟨h1, h2, -, -⟩ := mv_between (h.elM hi') hb
    have e : ((List.range l.length).map (mvRow l sl half))[i]?.getD sp0 = mvRow l sl half i := mvdS_get l sl half hi'
    unfold mvRow at e ⊢
    rw [e]
    exact Prod.ext h1 h2
  · unfold wrkS
    rw [← sumR_add]
    refine sumR_congr fun i hi => ?_
    unfold mvW
    rw [mvdS_get l sl half hi]
    exact (mv_between (h.elM hi) hb).2.2.1
  · unfold losS
    rw [← sumR_add]
    refine sumR_congr fun i hi => ?_
    unfold mvL
    rw [mvdS_get l sl half hi]
    exact (mv_between (h.elM hi) hb).2.2.2
theorem mvd_back {l : List El} {at1 at2 : Int} {sl : List Sp} (h : HoldOk l at1 sl) (h0 : losS l sl at2 = 0) : wrkS l (mvdS l sl at2) at2 at1 = -wrkS l sl at1 at2 ∧ losS l (mvdS l sl at2) at1 = 0 := by
  have hz := sumR_nil (fun i hi => mv_loss (at2 := at2) (h.elM hi)) h0
  constructor
  · unfold wrkS
    rw [← sumR_neg]
    refine sumR_congr fun i hi => ?_
    unfold mvW
    rw [mvdS_get l sl at2 hi]
    exact (mv_back (h.elM hi) (hz i hi)).1
  · unfold losS
    rw [show (0 : Int) = sumR (fun _ => 0) l.length from by
      generalize l.length = n
      induction n with
      | zero => rfl
      | succ n ih => rw [sumR, ← ih]; rfl]
    refine sumR_congr fun i hi => ?_
    unfold mvL
    rw [mvdS_get l sl at2 hi]
    exact (mv_back (h.elM hi) (hz i hi)).2
theorem mvd_broken {l : List El} {at2 : Int} {sl : List Sp} {i : Nat} (hi : i < l.length) (h : (sl[i]?.getD sp0).2 = true) : ((mvdS l sl at2)[i]?.getD sp0).2 = true := by
  rw [mvdS_get l sl at2 hi]
  simp [mvRow, mvBr, h]
theorem half_in {a b t : Int} (h0 : 0 ≤ t) (h1 : t ≤ 100) : (a ≤ a + ((b - a) * t).tdiv 100 ∧ a + ((b - a) * t).tdiv 100 ≤ b) ∨ (b ≤ a + ((b - a) * t).tdiv 100 ∧ a + ((b - a) * t).tdiv 100 ≤ a) := by
  rcases Int.le_total a b with h | h
  · left
    have h2 : 0 ≤ (b - a) * t := Int.mul_nonneg (by omega) h0
    have h3 : (b - a) * t ≤ (b - a) * 100 := Int.mul_le_mul_of_nonneg_left h1 (by omega)
    rw [Int.tdiv_eq_ediv_of_nonneg h2]
    omega
  · right
    have h2 : 0 ≤ (a - b) * t := Int.mul_nonneg (by omega) h0
    have h3 : (a - b) * t ≤ (a - b) * 100 := Int.mul_le_mul_of_nonneg_left h1 (by omega)
    have h4 : (b - a) * t = -((a - b) * t) := by grind
    rw [h4, Int.neg_tdiv, Int.tdiv_eq_ediv_of_nonneg h2]
    omega
end Go.Proofs.Ytaiikekgckjdeaa

namespace Go.Proofs.Ytaiikekgckjdeaa
open Go.RowKit
open Calmly (Kept)
theorem eaF_nil {err : Nat → Int} : ∀ {k m : Nat}, (∀ j, k ≤ j → j < k + m → err j = 0) → eaF err k m = (0, 0)
  | _, 0, _ => rfl
  | k, m + 1, h => by
    rw [eaF, if_pos (h k (by omega) (by omega))]
    exact eaF_nil (fun j h1 h2 => h j (by omega) (by omega))
theorem HoldOk.spr {l : List El} {at1 : Int} {sl : List Sp} (h : HoldOk l at1 sl) : (sprE l).2 = 0 := by
  have h1 := h.len
  have h2 : sprH l.length = 0 := by
    have e1 : decide (0 < l.length) = true := by simpa using h1.1
    have e2 : decide ((l.length : Int) ≤ 4) = true := by simp; omega
    rw [sprH, e1, e2]
    rfl
  rw [sprE, if_pos h2, eaF_nil (fun j _ hj => h.el j (by omega))]
theorem HoldOk.hld {l : List El} {at1 : Int} {sl : List Sp} (h : HoldOk l at1 sl) : (hldE l at1 sl).2 = 0 := by
  have h2 : hldH at1 sl.length l.length = 0 := by
    have e2 : decide (sl.length = l.length) = true := by simpa using h.same
    rw [hldH, h.at_]
    simp [h.same, firstE, unlessE]
  rw [hldE, if_pos h2, eaF_nil (fun j _ hj => h.sl j (by have := h.same; omega))]
theorem HoldOk.chk {l : List El} {at1 : Int} {sl : List Sp} (h : HoldOk l at1 sl) : (chkE l at1 sl).2 = 0 := by
  rw [chkE, if_pos h.spr]
  exact h.hld
theorem HoldOk.opn {l : List El} {at1 at2 : Int} {sl : List Sp} (h : HoldOk l at1 sl) (h2 : plc at2 = true) : opnE l at1 sl at2 = 0 := by
  rw [opnE, first_ok h.chk, h2]
  rfl
theorem Energy_ok (a a2 : Option Addr) (n c n2 c2 : Nat) (l : List El) (at1 : Int) (sl : List Sp) (w : World) (h1 : SEl w a n c l) (h2 : SSp w a2 n2 c2 sl) (h : HoldOk l at1 sl) :
    Calls Try.prog 27 #[.slice a n c, .agg #[.int .i64 at1, .slice a2 n2 c2]] w fun e w' => e = .returned (.tuple #[.int .i64 (enrS l at1 sl), .int .i64 0]) ∧ Below w.heap.size w w' := by
  have h5 := EnergyOf_any a a2 n c n2 c2 l at1 sl w h1 h2
  rw [if_pos h.chk, h.chk] at h5
  exact h5
theorem MovedTo_ok (a a2 : Option Addr) (n c c2 : Nat) (l : List El) (at1 at2 : Int) (sl : List Sp) (w : World) (h1 : SEl w a n c l) (h2 : SSp w a2 n c2 sl) (h : HoldOk l at1 sl) (hp : plc at2 = true) :
    Calls Try.prog 30 #[.slice a n c, .agg #[.int .i64 at1, .slice a2 n c2], .int .i64 at2] w fun e w' => ∃ av cv, e = .returned (.tuple #[.agg #[.int .i64 at2, .slice av n cv], .int .i64 0]) ∧ OwS w' w.heap.size av n cv (mvdS l sl at2) ∧ Below w.heap.size w w' := by
  have h5 := MovedTo_any a a2 n c n c2 l at1 at2 sl w h1 h2
  rw [if_pos (h.opn hp), if_pos (h.opn hp), h.opn hp] at h5
  refine h5.mono ?_
  rintro e w' ⟨av, nv, cv, rfl, ho, hb⟩
  have e5 : nv = n := by rw [ho.ss.len, mvdS_len, h1.len]
  subst e5
  exact ⟨av, cv, rfl, ho, hb⟩
theorem WorkTo_ok (a a2 : Option Addr) (n c n2 c2 : Nat) (l : List El) (at1 at2 : Int) (sl : List Sp) (w : World) (h1 : SEl w a n c l) (h2 : SSp w a2 n2 c2 sl) (h : HoldOk l at1 sl) (hp : plc at2 = true) :
    Calls Try.prog 31 #[.slice a n c, .agg #[.int .i64 at1, .slice a2 n2 c2], .int .i64 at2] w fun e w' => e = .returned (.tuple #[.agg #[.int .i64 (wrkS l sl at1 at2), .int .i64 (losS l sl at2)], .int .i64 0]) ∧ Below w.heap.size w w' := by
  have h5 := WorkTo_any a a2 n c n2 c2 l at1 at2 sl w h1 h2
  rw [if_pos (h.opn hp), if_pos (h.opn hp), h.opn hp] at h5
  exact h5
set_option maxRecDepth 100000 in
set_option maxHeartbeats 1000000 in
theorem rHoldErr_any (a a2 : Option Addr) (n c n2 c2 : Nat) (l : List El) (at' : Int) (sl : List Sp) (w : World) (h1 : SEl w a n c l) (h2 : SSp w a2 n2 c2 sl) (hl : ∀ j, j < n → elErr (l[j]?.getD el0) = 0) :
    Calls Try.prog 32 #[.slice a n c, .agg #[.int .i64 at', .slice a2 n2 c2]] w fun e w' => e = .returned (.int .i64 (hldE l at' sl).2) ∧ Below w.heap.size w w' := by
  have y1 := alloc_new w (.cells #[.int .i64 at', .slice a2 n2 c2] 49)
  have BW : Below w.heap.size w (w.alloc (.cells #[.int .i64 at', .slice a2 n2 c2] 49)) := (Below.refl _ _).alloc (Nat.le_refl _) _
  have f0 := cell_block y1 0
  have f1 := cell_block y1 1
  go_enter Try.func32, Try.ntmps32
  go_wp2_with fail
  refine (rCheckHold_any a a2 n c n2 c2 l at' sl _ (h1.keep BW) (h2.keep BW) hl).mono ?_
  rintro e w1 ⟨rfl, hb⟩
  go_wp2_with fail
  go_ret
  exact ⟨rfl, BW.trans (hb.mono BW.size)⟩
theorem rHoldErr_ok (a a2 : Option Addr) (n c n2 c2 : Nat) (l : List El) (at' : Int) (sl : List Sp) (w : World) (h1 : SEl w a n c l) (h2 : SSp w a2 n2 c2 sl) (h : HoldOk l at' sl) :
    Calls Try.prog 32 #[.slice a n c, .agg #[.int .i64 at', .slice a2 n2 c2]] w fun e w' => e = .returned (.int .i64 0) ∧ Below w.heap.size w w' := by
  have h5 := rHoldErr_any a a2 n c n2 c2 l at' sl w h1 h2 (fun j hj => h.el j (by rw [← h1.len]; exact hj))
  rw [h.hld] at h5
  exact h5
/-- A box with a hold, a box with works. -/
structure HbW (W : World) (n q : Nat) (x : Int) (sl : List Sp) : Prop where
  ex : ∃ av cv, W.heap[q]? = some (.cells #[.int .i64 x, .slice av n cv] 49) ∧ SSp W av n cv sl ∧ In W 64 av
theorem HbW.keep {W W' : World} {n q : Nat} {x : Int} {sl : List Sp} (h : HbW W n q x sl) (hb : Below W.heap.size W W') : HbW W' n q x sl := by
  obtain ⟨av, cv, h1, h2, h3⟩ := h
  exact ⟨av, cv, blk_keep h1 hb, h2.keep hb, h3.keep hb⟩
structure WbW (W : World) (q : Nat) (x y : Int) : Prop where
  blk : W.heap[q]? = some (.cells #[.int .i64 x, .int .i64 y] 59)
theorem WbW.keep {W W' : World} {q : Nat} {x y : Int} (h : WbW W q x y) (hb : Below W.heap.size W W') : WbW W' q x y := ⟨blk_keep h.blk hb⟩
theorem enrS_bd {l : List El} {at1 : Int} {sl : List Sp} (h : HoldOk l at1 sl) : -10000000000000 ≤ enrS l at1 sl ∧ enrS l at1 sl ≤ 10000000000000 := by
  have h1 := sumR_abs (f := fun i => enrE (l[i]?.getD el0).1 (sl[i]?.getD sp0).1 (sl[i]?.getD sp0).2 at1) (M := 2500000000000) (n := l.length) (fun i hi => enr_bd (h.elB h.at_ hi))
  have h2 := h.len
  unfold enrS
  omega
theorem wrkS_bd {l : List El} {at1 at2 : Int} {sl : List Sp} (h : HoldOk l at1 sl) (h2 : plc at2 = true) : -12000000000000 ≤ wrkS l sl at1 at2 ∧ wrkS l sl at1 at2 ≤ 12000000000000 := by
  have h1 := sumR_abs (f := mvW l sl at1 at2) (M := 3000000000000) (n := l.length) (fun i hi => by have := mvWork_bd (b := (l[i]?.getD el0).2.2) (br := (sl[i]?.getD sp0).2) (h.elB h.at_ hi) (h.elB h2 hi); exact ⟨this.1, this.2.1⟩)
  have h3 := h.len
  unfold wrkS
  omega
theorem losS_bd {l : List El} {at1 at2 : Int} {sl : List Sp} (h : HoldOk l at1 sl) (h2 : plc at2 = true) : -400000000000 ≤ losS l sl at2 ∧ losS l sl at2 ≤ 400000000000 := by
  have h1 := sumR_abs (f := mvL l sl at2) (M := 100000000000) (n := l.length) (fun i hi => by have := mvWork_bd (b := (l[i]?.getD el0).2.2) (br := (sl[i]?.getD sp0).2) (h.elB h.at_ hi) (h.elB h2 hi); exact ⟨Int.le_trans (by decide) this.2.2.1, this.2.2.2⟩)
  have h3 := h.len
  unfold losS
  omega
theorem tdiv_bd {P M : Int} (h1 : -M ≤ P) (h2 : P ≤ M) : -M ≤ P.tdiv 100 ∧ P.tdiv 100 ≤ M := by
  rcases Int.le_total 0 P with h | h
  · rw [Int.tdiv_eq_ediv_of_nonneg h]
    omega
  · obtain ⟨Q, rfl⟩ : ∃ Q, P = -Q := ⟨-P, by omega⟩
    rw [Int.neg_tdiv, Int.tdiv_eq_ediv_of_nonneg (by omega)]
    omega
/-- All that is to be known of a move by way of a position in between. -/
structure WkF (x z T H EN1 EN2 WK LS W3 L3 W4 L4 WB LB : Int) : Prop where
  bd : ((-10000000000000 ≤ EN1 ∧ EN1 ≤ 10000000000000) ∧ (-10000000000000 ≤ EN2 ∧ EN2 ≤ 10000000000000)) ∧ ((-12000000000000 ≤ WK ∧ WK ≤ 12000000000000) ∧ (0 ≤ LS ∧ LS ≤ 400000000000)) ∧ ((-12000000000000 ≤ W3 ∧ W3 ≤ 12000000000000) ∧ (-400000000000 ≤ L3 ∧ L3 ≤ 400000000000)) ∧ ((-12000000000000 ≤ W4 ∧ W4 ≤ 12000000000000) ∧ (-400000000000 ≤ L4 ∧ L4 ≤ 400000000000))
  en : WK = EN2 - EN1 + LS
  half : H = x + ((z - x) * T).tdiv 100
  add : W3 + W4 = WK ∧ L3 + L4 = LS
  back : LS = 0 → WB = -WK ∧ LB = 0
theorem wkF_of {l : List El} {x z T : Int} {sl : List Sp} (h : HoldOk l x sl) (hz : plc z = true) (h0 : 0 ≤ T) (h1 : T ≤ 100) :
    ∃ H sl2 sl3 EN1 EN2 WK LS W3 L3 W4 L4 WB LB, WkF x z T H EN1 EN2 WK LS W3 L3 W4 L4 WB LB ∧ plc H = true ∧ HoldOk l z sl2 ∧ HoldOk l H sl3 ∧ mvdS l sl z = sl2 ∧ mvdS l sl H = sl3 ∧ mvdS l sl3 z = sl2 ∧ enrS l x sl = EN1 ∧ enrS l z sl2 = EN2 ∧ wrkS l sl x z = WK ∧ losS l sl z = LS ∧ wrkS l sl x H = W3 ∧ losS l sl H = L3 ∧ wrkS l sl3 H z = W4 ∧ losS l sl3 z = L4 ∧ wrkS l sl2 z x = WB ∧ losS l sl2 x = LB ∧ ∀ i, i < l.length → (sl[i]?.getD sp0).2 = true → (sl2[i]?.getD sp0).2 = true := by
  have hin := half_in (a := x) (b := z) h0 h1
  have bx := plc_ok h.at_
  have bz := plc_ok hz
  have hH : plc (x + ((z - x) * T).tdiv 100) = true := plc_iff.2 (by omega)
  have k2 := mvd_ok h hz
  have k3 := mvd_ok h hH
  obtain ⟨b1, b2, b3⟩ := mvd_between h hin
  have hwe := wrk_energy (at2 := z) h
  have hl0 := los_nn (at2 := z) h
  have c1 := losS_bd h hz
  refine ⟨x + ((z - x) * T).tdiv 100, mvdS l sl z, mvdS l sl (x + ((z - x) * T).tdiv 100), _, _, _, _, _, _, _, _, _, _, ⟨⟨⟨enrS_bd h, enrS_bd k2⟩, ⟨wrkS_bd h hz, ⟨hl0, c1.2⟩⟩, ⟨wrkS_bd h hH, losS_bd h hH⟩, ⟨wrkS_bd k3 hz, losS_bd k3 hz⟩⟩, hwe, rfl, ⟨b2, b3⟩, fun e => mvd_back h e⟩, hH, k2, k3, rfl, rfl, b1, rfl, rfl, rfl, rfl, rfl, rfl, rfl, rfl, rfl, rfl, fun i hi hb => mvd_broken hi hb⟩
end Go.Proofs.Ytaiikekgckjdeaa
