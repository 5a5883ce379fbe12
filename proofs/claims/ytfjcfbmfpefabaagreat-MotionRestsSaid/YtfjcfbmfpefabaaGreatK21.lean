/- Plain law of chapter 2: the rest with its prices is accepted, it is the only one, and no whole samples that end at rest are nearer. A walk by a plan, compared with an older world: stores into blocks of the call's own may come before other operations, if what reads is no early operation. The reference's prices of a rest. -/
import Derived.Test.YtfjcfbmfpefabaaGreatK20
namespace Go.Proofs.YtfjcfbmfpefabaaGreat

/-- The sum of the first numbers of a row that is given by a rule. -/
def sF (f : Nat → Int) : Nat → Int
  | 0 => 0
  | k + 1 => sF f k + f k
theorem sF_congr {f g : Nat → Int} (k : Nat) (h : ∀ t, t < k → f t = g t) : sF f k = sF g k := by
  induction k with
  | zero => rfl
  | succ k ih => rw [sF, sF, ih (fun t ht => h t (by omega)), h k (by omega)]
theorem sF_add (f g : Nat → Int) (k : Nat) : sF (fun t => f t + g t) k = sF f k + sF g k := by
  induction k with
  | zero => rfl
  | succ k ih => rw [sF, sF, sF, ih]; omega
theorem sF_mul (c : Int) (f : Nat → Int) (k : Nat) : sF (fun t => c * f t) k = c * sF f k := by
  induction k with
  | zero => simp [sF]
  | succ k ih => rw [sF, sF, ih, Int.mul_add]
theorem sF_nonneg {f : Nat → Int} (h : ∀ t, 0 ≤ f t) (k : Nat) : 0 ≤ sF f k := by
  induction k with
  | zero => simp [sF]
  | succ k ih => rw [sF]; have := h k; omega
theorem sumT_sF (xs : List Int) (k : Nat) : sumT xs k = sF (fun t => xs[t]?.getD 0) k := by
  induction k with
  | zero => rfl
  | succ k ih => rw [sumT, sF, ih]
theorem endT_sF (xs : List Int) (n : Int) (k : Nat) : endT xs n k = sF (fun t => (n - (t : Int)) * xs[t]?.getD 0) k := by
  induction k with
  | zero => rfl
  | succ k ih => rw [endT, sF, ih]
theorem mom_sF (n : Nat) (h : n ≤ 24) : sF (fun _ => 1) n = (n : Int) ∧ sF (fun t => (n : Int) - (t : Int)) n = momT n ∧ sF (fun t => ((n : Int) - (t : Int)) * ((n : Int) - (t : Int))) n = sqrT n := by
  have key : ∀ k : Fin 25, sF (fun _ => 1) k = ((k : Nat) : Int) ∧ sF (fun t => ((k : Nat) : Int) - (t : Int)) k = momT k ∧ sF (fun t => (((k : Nat) : Int) - (t : Int)) * (((k : Nat) : Int) - (t : Int))) k = sqrT k := by decide
  exact key ⟨n, by omega⟩

/-- Divided by their greatest common divisor numbers have none. -/
theorem gcds_low {l m : List Int} {g : Nat} (hg : gcds l = g) (h0 : 0 < g) (_hm : ∀ p ∈ m, p * (g : Int) ∈ l) (hl : ∀ q ∈ l, ∃ p ∈ m, q = p * (g : Int)) : gcds m = 1 := by
  have h1 : gcds m * g ∣ gcds l * 1 := by
    rw [gcds_dvd]
    intro q hq
    obtain ⟨p, hp, rfl⟩ := hl q hq
    have h2 := gcds_dvd_mem hp
    have h3 : gcds m ∣ p.natAbs := by simpa using Int.natAbs_dvd_natAbs.2 h2
    rw [Nat.mul_one, Int.natAbs_mul, Int.natAbs_natCast]
    exact Nat.mul_dvd_mul_right h3 g
  rw [hg, Nat.mul_one] at h1
  have h2 : gcds m * g ≤ 1 * g := by have := Nat.le_of_dvd h0 h1; omega
  have h3 : gcds m ≤ 1 := Nat.le_of_mul_le_mul_right h2 h0
  have h4 : gcds m ≠ 0 := by
    intro h
    rw [h, Nat.zero_mul] at h1
    have := Nat.eq_zero_of_zero_dvd h1
    omega
  omega
theorem tdiv_mul {p : Int} {g : Nat} (h : (g : Int) ∣ p) : p.tdiv g * (g : Int) = p := Int.tdiv_mul_cancel h

/-- Prices in lowest terms. -/
theorem prices_low {xs : List Int} (h1 : 2 ≤ xs.length) (h2 : xs.length ≤ 24) :
    ∃ g : Int, 0 < g ∧ prDen xs * g = denR xs.length ∧ prVel xs * g = prV xs ∧ prDis xs * g = prD xs ∧ gcds [prDen xs, prVel xs, prDis xs] = 1 ∧ 0 < prDen xs := by
  have hd := denR_bd xs.length h1 h2
  obtain ⟨g, hg⟩ : ∃ g : Nat, gcds [denR xs.length, prV xs, prD xs] = g := ⟨_, rfl⟩
  have hpos : 0 < g := by rw [← hg]; exact gcds_pos (p := denR xs.length) (by simp) (by omega)
  have e : prG xs = (g : Int) := by unfold prG; rw [hg]
  have d1 : (g : Int) ∣ denR xs.length := by rw [← hg]; exact gcds_dvd_mem (by simp)
  have d2 : (g : Int) ∣ prV xs := by rw [← hg]; exact gcds_dvd_mem (by simp)
  have d3 : (g : Int) ∣ prD xs := by rw [← hg]; exact gcds_dvd_mem (by simp)
  have e1 : prDen xs * (g : Int) = denR xs.length := by unfold prDen; rw [e]; exact tdiv_mul d1
  have e2 : prVel xs * (g : Int) = prV xs := by unfold prVel; rw [e]; exact tdiv_mul d2
  have e3 : prDis xs * (g : Int) = prD xs := by unfold prDis; rw [e]; exact tdiv_mul d3
  refine ⟨g, by omega, e1, e2, e3, ?_, ?_⟩
  · refine gcds_low hg hpos ?_ ?_
    · intro p hp
      simp only [List.mem_cons, List.not_mem_nil, or_false] at hp ⊢
      rcases hp with rfl | rfl | rfl
      · exact .inl e1
      · exact .inr (.inl e2)
      · exact .inr (.inr e3)
    · intro q hq
      simp only [List.mem_cons, List.not_mem_nil, or_false] at hq
      rcases hq with rfl | rfl | rfl
      · exact ⟨_, by simp, e1.symm⟩
      · exact ⟨_, by simp, e2.symm⟩
      · exact ⟨_, by simp, e3.symm⟩
  · rcases Int.lt_or_le 0 (prDen xs) with h | h
    · exact h
    · have := Int.mul_le_mul_of_nonneg_right h (show 0 ≤ (g : Int) by omega)
      omega
/-- The equations, for prices in lowest terms. -/
theorem prices_eq {xs : List Int} (h1 : 2 ≤ xs.length) (h2 : xs.length ≤ 24) :
    prVel xs * (xs.length : Int) + prDis xs * momT xs.length = -(sumT xs xs.length * prDen xs) ∧ prVel xs * momT xs.length + prDis xs * sqrT xs.length = -(sumT (sumsF xs) xs.length * prDen xs) := by
  obtain ⟨g, hg, e1, e2, e3, _⟩ := prices_low h1 h2
  obtain ⟨s1, s2⟩ := pr_solve xs
  have hg' : g ≠ 0 := by omega
  constructor
  · refine Int.eq_of_mul_eq_mul_right hg' ?_
    rw [← e1, ← e2, ← e3] at s1
    grind
  · refine Int.eq_of_mul_eq_mul_right hg' ?_
    rw [← e1, ← e2, ← e3] at s2
    grind
theorem rsTo_get (xs : List Int) (k t : Nat) (h : t < k) : (rsTo xs k)[t]?.getD 0 = rsT xs t := by
  unfold rsTo
  rw [List.getElem?_map, List.getElem?_range h]
  rfl
theorem rsTo_len (xs : List Int) (k : Nat) : (rsTo xs k).length = k := by simp [rsTo]
/-- The rest in lowest terms. -/
theorem rest_low {xs : List Int} (h1 : 2 ≤ xs.length) (h2 : xs.length ≤ 24) :
    ∃ g : Int, 0 < g ∧ restD xs * g = prDen xs ∧ (restP xs).length = xs.length ∧ (∀ t, t < xs.length → (restP xs)[t]?.getD 0 * g = rsT xs t) ∧ gcds ([restD xs] ++ restP xs) = 1 ∧ 0 < restD xs := by
  obtain ⟨_, _, _, _, _, _, hd⟩ := prices_low h1 h2
  obtain ⟨g, hg⟩ : ∃ g : Nat, gcds (prDen xs :: rsTo xs xs.length) = g := ⟨_, rfl⟩
  have hpos : 0 < g := by rw [← hg]; exact gcds_pos (p := prDen xs) (by simp) (by omega)
  have e : rdG (prDen xs) (rsTo xs xs.length) = (g : Int) := by unfold rdG; rw [hg]
  have dm : ∀ q ∈ prDen xs :: rsTo xs xs.length, (g : Int) ∣ q := fun q hq => by rw [← hg]; exact gcds_dvd_mem hq
  have e1 : restD xs * (g : Int) = prDen xs := by unfold restD; rw [e]; exact tdiv_mul (dm _ (by simp))
  have e2 : restP xs = (rsTo xs xs.length).map (fun p => p.tdiv (g : Int)) := by unfold restP; rw [e]
  have e3 : (restP xs).length = xs.length := by rw [e2, List.length_map, rsTo_len]
  refine ⟨g, by omega, e1, e3, ?_, ?_, ?_⟩
  · intro t ht
    have hlt : t < (rsTo xs xs.length).length := by rw [rsTo_len]; exact ht
    rw [e2, List.getElem?_map, List.getElem?_eq_getElem hlt]
    have h3 := rsTo_get xs xs.length t ht
    rw [List.getElem?_eq_getElem hlt] at h3
    simp only [Option.getD_some] at h3
    simp only [Option.map_some, Option.getD_some, h3]
    exact tdiv_mul (dm _ (by rw [← h3]; simp))
  · refine gcds_low hg hpos ?_ ?_
    · intro p hp
      simp only [List.cons_append, List.nil_append, List.mem_cons] at hp ⊢
      rcases hp with rfl | hp
      · exact .inl e1
      · rw [e2, List.mem_map] at hp
        obtain ⟨q, hq, rfl⟩ := hp
        refine .inr ?_
        rw [tdiv_mul (dm q (by simp [hq]))]
        exact hq
    · intro q hq
      simp only [List.mem_cons] at hq
      rcases hq with rfl | hq
      · exact ⟨_, by simp, e1.symm⟩
      · refine ⟨q.tdiv (g : Int), ?_, (tdiv_mul (dm q (by simp [hq]))).symm⟩
        rw [e2]
        simp only [List.cons_append, List.nil_append, List.mem_cons, List.mem_map]
        exact .inr ⟨q, hq, rfl⟩
  · rcases Int.lt_or_le 0 (restD xs) with h | h
    · exact h
    · have := Int.mul_le_mul_of_nonneg_right h (show 0 ≤ (g : Int) by omega)
      omega
/-- The rest ends at rest. -/
theorem rest_sums {xs : List Int} (h1 : 2 ≤ xs.length) (h2 : xs.length ≤ 24) : sumT (restP xs) xs.length = 0 ∧ sumT (sumsF (restP xs)) xs.length = 0 := by
  obtain ⟨g, hg, _, e2, e3, _⟩ := rest_low h1 h2
  obtain ⟨p1, p2⟩ := prices_eq h1 h2
  obtain ⟨m0, m1, m2⟩ := mom_sF xs.length h2
  have hg' : g ≠ 0 := by omega
  have q1 : sumT xs xs.length = sF (fun t => xs[t]?.getD 0) xs.length := sumT_sF _ _
  have q2 : sumT (sumsF xs) xs.length = sF (fun t => ((xs.length : Int) - (t : Int)) * xs[t]?.getD 0) xs.length := by rw [sumT_sums _ _ (Nat.le_refl _), endT_sF]
  have r1 : sumT (restP xs) xs.length = sF (fun t => (restP xs)[t]?.getD 0) xs.length := sumT_sF _ _
  have r2 : sumT (sumsF (restP xs)) xs.length = sF (fun t => ((xs.length : Int) - (t : Int)) * (restP xs)[t]?.getD 0) xs.length := by rw [sumT_sums _ _ (by omega), endT_sF]
  rw [q1] at p1
  rw [q2] at p2
  rw [r1, r2]
  generalize hN : xs.length = N at *
  constructor
  · refine Int.eq_of_mul_eq_mul_right hg' ?_
    have a1 : sF (fun t => (restP xs)[t]?.getD 0) N * g = sF (fun t => g * (restP xs)[t]?.getD 0) N := by rw [sF_mul, Int.mul_comm]
    have a2 : sF (fun t => g * (restP xs)[t]?.getD 0) N = sF (fun t => prDen xs * xs[t]?.getD 0 + (prVel xs * 1 + prDis xs * ((N : Int) - (t : Int)))) N := sF_congr N fun t ht => by
      have := e3 t ht
      rw [Int.mul_comm, this, rsT, hN]
      grind
    rw [a1, a2, sF_add, sF_mul, sF_add, sF_mul, sF_mul, m0, m1]
    grind
  · refine Int.eq_of_mul_eq_mul_right hg' ?_
    have a1 : sF (fun t => ((N : Int) - (t : Int)) * (restP xs)[t]?.getD 0) N * g = sF (fun t => g * (((N : Int) - (t : Int)) * (restP xs)[t]?.getD 0)) N := by rw [sF_mul, Int.mul_comm]
    have a2 : sF (fun t => g * (((N : Int) - (t : Int)) * (restP xs)[t]?.getD 0)) N = sF (fun t => prDen xs * (((N : Int) - (t : Int)) * xs[t]?.getD 0) + (prVel xs * ((N : Int) - (t : Int)) + prDis xs * (((N : Int) - (t : Int)) * ((N : Int) - (t : Int))))) N := sF_congr N fun t ht => by
      have h3 := e3 t ht
      have h4 : g * (((N : Int) - (t : Int)) * (restP xs)[t]?.getD 0) = ((N : Int) - (t : Int)) * ((restP xs)[t]?.getD 0 * g) := by grind
      rw [h4, h3, rsT, hN]
      grind
    rw [a1, a2, sF_add, sF_mul, sF_add, sF_mul, sF_mul, m1, m2]
    grind

theorem fracF_mul {a b g : Int} (hg : 0 < g) : fracF (a * g) (b * g) = fracF a b := by
  unfold fracF
  have h1 : ((Int.gcd (a * g) (b * g) : Nat) : Int) = (Int.gcd a b : Int) * g := by
    rw [Int.gcd_mul_right]
    have : (g.natAbs : Int) = g := by omega
    rw [Int.natCast_mul, this]
  rw [h1, Int.mul_tdiv_mul_of_pos_left _ _ hg, Int.mul_tdiv_mul_of_pos_left _ _ hg]
/-- No part of the rest is bad. -/
theorem rest_good {xs : List Int} (h1 : 2 ≤ xs.length) (h2 : xs.length ≤ 24) (t : Nat) (ht : t < xs.length) : ckBad xs (restP xs) (restD xs) (prDen xs) (prVel xs) (prDis xs) xs.length t = false := by
  obtain ⟨g, hg, e1, e2, e3, _⟩ := rest_low h1 h2
  have h3 := e3 t ht
  have h4 : ((restP xs)[t]?.getD 0 - xs[t]?.getD 0 * restD xs) * g = prVel xs + prDis xs * ((xs.length : Int) - (t : Int)) := by
    rw [rsT] at h3
    have h5 : xs[t]?.getD 0 * restD xs * g = xs[t]?.getD 0 * prDen xs := by rw [Int.mul_assoc, e1]
    rw [Int.sub_mul, h5, h3]
    omega
  unfold ckBad
  rw [← h4, ← e1, fracF_mul hg]
  simp
theorem rest_none {xs : List Int} (h1 : 2 ≤ xs.length) (h2 : xs.length ≤ 24) : fBad (ckBad xs (restP xs) (restD xs) (prDen xs) (prVel xs) (prDis xs) xs.length) 0 xs.length = none :=
  fBad_none fun t _ ht => rest_good h1 h2 t (by omega)
/-- A part that differs changes the velocity at the end. -/
theorem sumT_set (ps : List Int) (k n : Nat) (x : Int) (hk : k < n) (hn : n ≤ ps.length) : sumT (ps.set k x) n = sumT ps n + (x - ps[k]?.getD 0) := by
  have key : ∀ m, m ≤ n → sumT (ps.set k x) m = sumT ps m + (if k < m then x - ps[k]?.getD 0 else 0) := by
    intro m hm
    induction m with
    | zero => simp [sumT]
    | succ m ih =>
      rw [sumT, sumT, ih (by omega)]
      by_cases hkm : k = m
      · subst hkm
        rw [if_neg (by omega), if_pos (by omega), List.getElem?_set_self (by omega)]
        simp only [Option.getD_some]
        omega
      · rw [List.getElem?_set_ne hkm]
        by_cases h : k < m
        · rw [if_pos h, if_pos (by omega)]; omega
        · rw [if_neg h, if_neg (by omega)]; omega
  rw [key n (Nat.le_refl _), if_pos hk]
/-- The rest is the nearest of all that end at rest. -/
theorem rest_near {xs o : List Int} (h1 : 2 ≤ xs.length) (h2 : xs.length ≤ 24) (ho : o.length = xs.length) (hv : sumT o xs.length = 0) (hd : sumT (sumsF o) xs.length = 0) :
    sF (fun t => ((restP xs)[t]?.getD 0 - xs[t]?.getD 0 * restD xs) * ((restP xs)[t]?.getD 0 - xs[t]?.getD 0 * restD xs)) xs.length ≤ restD xs * restD xs * sF (fun t => (o[t]?.getD 0 - xs[t]?.getD 0) * (o[t]?.getD 0 - xs[t]?.getD 0)) xs.length := by
  obtain ⟨g, hg, e1, e2, e3, _⟩ := rest_low h1 h2
  obtain ⟨z1, z2⟩ := rest_sums h1 h2
  rw [sumT_sF] at z1 hv
  rw [sumT_sums _ _ (by omega), endT_sF] at z2
  rw [sumT_sums _ _ (by omega), endT_sF] at hd
  have ha : ∀ t, t < xs.length → ((restP xs)[t]?.getD 0 - xs[t]?.getD 0 * restD xs) * g = prVel xs + prDis xs * ((xs.length : Int) - (t : Int)) := by
    intro t ht
    have h3 := e3 t ht
    rw [rsT] at h3
    have h5 : xs[t]?.getD 0 * restD xs * g = xs[t]?.getD 0 * prDen xs := by rw [Int.mul_assoc, e1]
    rw [Int.sub_mul, h5, h3]
    omega
  generalize hN : xs.length = N at *
  generalize restD xs = D at *
  generalize prVel xs = v at *
  generalize prDis xs = u at *
  -- the differences c, orthogonal to a
  have hc1 : sF (fun t => D * o[t]?.getD 0 + (-1) * (restP xs)[t]?.getD 0) N = 0 := by
    rw [sF_add, sF_mul, sF_mul, hv, z1]
    omega
  have hc2 : sF (fun t => D * (((N : Int) - (t : Int)) * o[t]?.getD 0) + (-1) * (((N : Int) - (t : Int)) * (restP xs)[t]?.getD 0)) N = 0 := by
    rw [sF_add, sF_mul, sF_mul, hd, z2]
    omega
  have hac : sF (fun t => ((restP xs)[t]?.getD 0 - xs[t]?.getD 0 * D) * (D * o[t]?.getD 0 + (-1) * (restP xs)[t]?.getD 0)) N = 0 := by
    have hg' : g ≠ 0 := by omega
    refine Int.eq_of_mul_eq_mul_left hg' ?_
    rw [← sF_mul, Int.mul_zero]
    have : sF (fun t => g * (((restP xs)[t]?.getD 0 - xs[t]?.getD 0 * D) * (D * o[t]?.getD 0 + (-1) * (restP xs)[t]?.getD 0))) N = sF (fun t => v * (D * o[t]?.getD 0 + (-1) * (restP xs)[t]?.getD 0) + u * (D * (((N : Int) - (t : Int)) * o[t]?.getD 0) + (-1) * (((N : Int) - (t : Int)) * (restP xs)[t]?.getD 0))) N := sF_congr N fun t ht => by
      have h3 := ha t ht
      have h4 : g * (((restP xs)[t]?.getD 0 - xs[t]?.getD 0 * D) * (D * o[t]?.getD 0 + (-1) * (restP xs)[t]?.getD 0)) = (((restP xs)[t]?.getD 0 - xs[t]?.getD 0 * D) * g) * (D * o[t]?.getD 0 + (-1) * (restP xs)[t]?.getD 0) := by grind
      rw [h4, h3]
      grind
    rw [this, sF_add, sF_mul, sF_mul, hc1, hc2]
    omega
  have hcc : 0 ≤ sF (fun t => (D * o[t]?.getD 0 + (-1) * (restP xs)[t]?.getD 0) * (D * o[t]?.getD 0 + (-1) * (restP xs)[t]?.getD 0)) N := sF_nonneg (fun t => by
    generalize D * o[t]?.getD 0 + (-1) * (restP xs)[t]?.getD 0 = y
    rcases Int.le_total 0 y with h | h
    · exact Int.mul_nonneg h h
    · exact Int.mul_nonneg_of_nonpos_of_nonpos h h) N
  have hb : D * D * sF (fun t => (o[t]?.getD 0 - xs[t]?.getD 0) * (o[t]?.getD 0 - xs[t]?.getD 0)) N = sF (fun t => ((restP xs)[t]?.getD 0 - xs[t]?.getD 0 * D) * ((restP xs)[t]?.getD 0 - xs[t]?.getD 0 * D)) N + (2 * sF (fun t => ((restP xs)[t]?.getD 0 - xs[t]?.getD 0 * D) * (D * o[t]?.getD 0 + (-1) * (restP xs)[t]?.getD 0)) N + sF (fun t => (D * o[t]?.getD 0 + (-1) * (restP xs)[t]?.getD 0) * (D * o[t]?.getD 0 + (-1) * (restP xs)[t]?.getD 0)) N) := by
    rw [← sF_mul, ← sF_mul, ← sF_add, ← sF_add]
    exact sF_congr N fun t _ => by grind
  rw [hb, hac]
  omega
/-- Samples that end at rest are their own rest. -/
theorem rest_own {xs : List Int} (h1 : 2 ≤ xs.length) (h2 : xs.length ≤ 24) (hv : sumT xs xs.length = 0) (hd : sumT (sumsF xs) xs.length = 0) : prDen xs = 1 ∧ prVel xs = 0 ∧ prDis xs = 0 ∧ restD xs = 1 ∧ restP xs = xs := by
  obtain ⟨g, hg, e1, e2, e3, e4, e5⟩ := prices_low h1 h2
  have pv : prV xs = 0 := by unfold prV; rw [hv, hd]; omega
  have pd : prD xs = 0 := by unfold prD; rw [hv, hd]; omega
  have v0 : prVel xs = 0 := by
    rw [pv] at e2
    rcases Int.mul_eq_zero.1 e2 with h | h
    · exact h
    · omega
  have u0 : prDis xs = 0 := by
    rw [pd] at e3
    rcases Int.mul_eq_zero.1 e3 with h | h
    · exact h
    · omega
  have d1 : prDen xs = 1 := by
    rw [v0, u0] at e4
    have : gcds [prDen xs, 0, 0] = (prDen xs).natAbs := by simp [gcds]
    omega
  obtain ⟨f, hf, r1, r2, r3, r4, r5⟩ := rest_low h1 h2
  rw [d1] at r1
  have hf1 : f = 1 := by
    have h3 : f ∣ 1 := ⟨restD xs, by rw [Int.mul_comm]; exact r1.symm⟩
    have := Int.le_of_dvd (by omega) h3
    omega
  subst hf1
  refine ⟨d1, v0, u0, by omega, ?_⟩
  refine List.ext_getElem r2 fun i hi hi' => ?_
  have := r3 i hi'
  rw [rsT, d1, v0, u0, List.getElem?_eq_getElem hi, List.getElem?_eq_getElem hi'] at this
  simp at this
  exact this
end Go.Proofs.YtfjcfbmfpefabaaGreat

namespace Go.Calmly
theorem wp_region_mix_at {P : Program} {Q : Exit → Act → World → Prop} {id : Nat} {a : Act} {w : World} {l : List Oper} (w0 : World) (hk : Kept w0 w) (n : Nat) (p : Plan) (hm : P.follows .mixedOrders = true)
    (hB : (Region.noSelect l.toArray && tailOk l.toArray .any n && planOk l.toArray .any n p l.toArray.size (Array.replicate l.toArray.size false) []) = true)
    (h : WpMix P l.toArray Q w0 p a w.drew) : (Code.region id l.toArray true).wp P Q a w := by
  simp only [Bool.and_eq_true] at hB
  obtain ⟨⟨h1, h2⟩, h3⟩ := hB
  have hk' : Kept w0 w.drew := ⟨hk.size, hk.block⟩
  exact wp_region_any hm (any_of_anyT _ _ _ _ ((mix_sound h1 h2 p _ _ [] a _ (closed_start _) h3 hk' h.out).1 rfl))
end Go.Calmly

namespace Go.Proofs.YtfjcfbmfpefabaaGreat
open Go.RowKit Go.Wides
open Calmly (Kept)

theorem sF_bd {f : Nat → Int} {M : Int} {k : Nat} (h : ∀ t, t < k → 0 ≤ f t ∧ f t ≤ M) : 0 ≤ sF f k ∧ sF f k ≤ M * (k : Int) := by
  induction k with
  | zero => simp [sF]
  | succ k ih =>
    have h1 := ih (fun t ht => h t (by omega))
    have h2 := h k (by omega)
    have e : M * ((k + 1 : Nat) : Int) = M * (k : Int) + M := by rw [Int.natCast_add, Int.mul_add]; simp
    rw [sF, e]
    omega
/-- The equations of the prices. -/
def pmQ (n S1 S2 V D : Int) (i k : Nat) : Rat := if i = 0 then (if k = 0 then (n : Rat) else if k = 1 then (S1 : Rat) else ((-V : Int) : Rat)) else (if k = 0 then (S1 : Rat) else if k = 1 then (S2 : Rat) else ((-D : Int) : Rat))
theorem pm_els (n S1 S2 V D : Int) : elS (pmQ n S1 S2 V D) 2 0 0 0 = (n : Rat) ∧ elS (pmQ n S1 S2 V D) 2 1 1 1 = (S2 : Rat) - (S1 : Rat) / (n : Rat) * (S1 : Rat) ∧ elS (pmQ n S1 S2 V D) 2 2 0 0 = (n : Rat) ∧ elS (pmQ n S1 S2 V D) 2 2 1 1 = (S2 : Rat) - (S1 : Rat) / (n : Rat) * (S1 : Rat) ∧
    elS (pmQ n S1 S2 V D) 2 2 1 2 = ((-D : Int) : Rat) - (S1 : Rat) / (n : Rat) * ((-V : Int) : Rat) ∧ elS (pmQ n S1 S2 V D) 2 2 0 2 = ((-V : Int) : Rat) - (S1 : Rat) / ((S2 : Rat) - (S1 : Rat) / (n : Rat) * (S1 : Rat)) * (((-D : Int) : Rat) - (S1 : Rat) / (n : Rat) * ((-V : Int) : Rat)) := by
  refine ⟨?_, ?_, ?_, ?_, ?_, ?_⟩ <;> simp [elS, stF, dnS, pmQ]
theorem pm_sol {n S1 S2 V D p q d : Int} (hn : n ≠ 0) (hd : d ≠ 0) (e : d = n * S2 - S1 * S1) (e1 : q = V * S1 - D * n) (e2 : p * n + q * S1 = -(V * d)) :
    (S2 : Rat) - (S1 : Rat) / (n : Rat) * (S1 : Rat) ≠ 0 ∧
    (((-D : Int) : Rat) - (S1 : Rat) / (n : Rat) * ((-V : Int) : Rat)) / ((S2 : Rat) - (S1 : Rat) / (n : Rat) * (S1 : Rat)) = Rat.divInt q d ∧
    (((-V : Int) : Rat) - (S1 : Rat) / ((S2 : Rat) - (S1 : Rat) / (n : Rat) * (S1 : Rat)) * (((-D : Int) : Rat) - (S1 : Rat) / (n : Rat) * ((-V : Int) : Rat))) / (n : Rat) = Rat.divInt p d := by
  have hn' : (n : Rat) ≠ 0 := by simpa using hn
  have hd' : (d : Rat) ≠ 0 := by simpa using hd
  have e' : (d : Rat) = n * S2 - S1 * S1 := by rw [e]; push_cast; rfl
  have e1' : (q : Rat) = V * S1 - D * n := by rw [e1]; push_cast; rfl
  have e2' : (p : Rat) * n + q * S1 = -(V * d) := by
    have h : ((p * n + q * S1 : Int) : Rat) = ((-(V * d) : Int) : Rat) := by rw [e2]
    push_cast at h
    exact h
  have k1 : ((S2 : Rat) - (S1 : Rat) / (n : Rat) * (S1 : Rat)) * n = d := by rw [e']; grind
  have k2 : (S2 : Rat) - (S1 : Rat) / (n : Rat) * (S1 : Rat) ≠ 0 := by
    intro h
    rw [h] at k1
    grind
  have k3 : (((-D : Int) : Rat) - (S1 : Rat) / (n : Rat) * ((-V : Int) : Rat)) * n = q := by rw [e1']; push_cast; grind
  have k4 : (((-D : Int) : Rat) - (S1 : Rat) / (n : Rat) * ((-V : Int) : Rat)) / ((S2 : Rat) - (S1 : Rat) / (n : Rat) * (S1 : Rat)) = Rat.divInt q d := by
    rw [Rat.divInt_eq_div]
    generalize (S2 : Rat) - (S1 : Rat) / (n : Rat) * (S1 : Rat) = A at *
    generalize ((-D : Int) : Rat) - (S1 : Rat) / (n : Rat) * ((-V : Int) : Rat) = B at *
    grind
  refine ⟨k2, k4, ?_⟩
  have k5 : (S1 : Rat) / ((S2 : Rat) - (S1 : Rat) / (n : Rat) * (S1 : Rat)) * (((-D : Int) : Rat) - (S1 : Rat) / (n : Rat) * ((-V : Int) : Rat)) = S1 * (q / d) := by
    rw [Rat.divInt_eq_div] at k4
    rw [← k4]
    grind
  rw [k5, Rat.divInt_eq_div]
  push_cast
  grind

/-- A store of four cells into a block that is not an old one. -/
theorem kept_st4 {W w : World} {r : Nat} {x y z u u0 u1 u2 u3 : Value} {t : TypeId} {G : Prop} (h : Below W.heap.size W w) (hr : W.heap.size ≤ r) (p : w.heap[r]? = some (.cells #[u0, u1, u2, u3] t))
    (k : Below W.heap.size W ((((w.setCell ⟨r, 0, none⟩ x).setCell ⟨r, 1, none⟩ y).setCell ⟨r, 2, none⟩ z).setCell ⟨r, 3, none⟩ u) → (∀ b, b ≠ r → ((((w.setCell ⟨r, 0, none⟩ x).setCell ⟨r, 1, none⟩ y).setCell ⟨r, 2, none⟩ z).setCell ⟨r, 3, none⟩ u).heap[b]? = w.heap[b]?) →
      ((((w.setCell ⟨r, 0, none⟩ x).setCell ⟨r, 1, none⟩ y).setCell ⟨r, 2, none⟩ z).setCell ⟨r, 3, none⟩ u).heap[r]? = some (.cells #[x, y, z, u] t) → G) : Kept W ((((w.setCell ⟨r, 0, none⟩ x).setCell ⟨r, 1, none⟩ y).setCell ⟨r, 2, none⟩ z).setCell ⟨r, 3, none⟩ u) ∧ G := by
  have h1 := below4 (x := x) (y := y) (z := z) (u := u) h hr
  refine ⟨kept_of h1, k h1 (fun b hb => set4_other w r 0 x y z u hb) ?_⟩
  have := blkSet (blkSet (blkSet (blkSet p 0 x) 1 y) 2 z) 3 u
  simpa using this
theorem RowQ.place {w : World} {B b off n c L : Nat} {qs : List Rat} (h : RowQ w B (some ⟨b, off, none⟩) n c L qs) : B ≤ b ∧ b < w.heap.size := by
  obtain ⟨l, h1, _⟩ := h
  exact World.ownsRow.lt h1 b rfl
theorem frame_of {w w' : World} {r : Nat} (hT : BlkT w r 80) (ho : ∀ b, b ≠ r → w'.heap[b]? = w.heap[b]?) : ∀ b, BlkT w b 3 → w'.heap[b]? = w.heap[b]? := by
  intro b hb
  refine ho b ?_
  rintro rfl
  obtain ⟨cs, hcs⟩ := hb
  obtain ⟨cs', hcs'⟩ := hT
  rw [hcs] at hcs'
  cases hcs'

set_option maxRecDepth 100000 in
set_option maxHeartbeats 8000000 in
theorem Prices_any (a : Option Addr) (n c : Nat) (xs : List Int) (w : World) (h1 : SI w a n c xs) (hn2 : 2 ≤ n) (hn : n ≤ 24) (hb : ∀ j : Nat, -1000 ≤ xs[j]?.getD 0 ∧ xs[j]?.getD 0 ≤ 1000) (p q : Rat) (hp : Rat.divInt (prV xs) (denR xs.length) = p) (hq : Rat.divInt (prD xs) (denR xs.length) = q) :
    Calls Tryz.prog 37 #[.slice a n c] w fun e w' => ∃ s a1 n1 c1 s' a2 n2 c2 t b1 m1 d1 t' b2 m2 d2, e = .returned (.tuple #[.agg #[.int .i64 s, .slice a1 n1 c1, .int .i64 s', .slice a2 n2 c2], .agg #[.int .i64 t, .slice b1 m1 d1, .int .i64 t', .slice b2 m2 d2]]) ∧ n1 ≤ 40000 ∧ n2 ≤ 40000 ∧ m1 ≤ 40000 ∧ m2 ≤ 40000 ∧ RatV w' s a1 n1 c1 s' a2 n2 c2 p ∧ RatV w' t b1 m1 d1 t' b2 m2 d2 q ∧ Below w.heap.size w w' := by
  have hb2 : Below w.heap.size w ((w.alloc (.cells #[.int .i64 0, .slice none 0 0, .int .i64 0, .slice none 0 0] 80)).alloc (.cells #[.int .i64 0, .slice none 0 0, .int .i64 0, .slice none 0 0] 80)) := ((Below.refl _ _).alloc (Nat.le_refl _) _).alloc (by simp) _
  have y1 := alloc_new (w.alloc (.cells #[.int .i64 0, .slice none 0 0, .int .i64 0, .slice none 0 0] 80)) (.cells #[.int .i64 0, .slice none 0 0, .int .i64 0, .slice none 0 0] 80)
  have y0 := blk_keep (alloc_new w (.cells #[.int .i64 0, .slice none 0 0, .int .i64 0, .slice none 0 0] 80)) ((Below.refl _ _).alloc (Nat.le_refl _) (.cells #[.int .i64 0, .slice none 0 0, .int .i64 0, .slice none 0 0] 80))
  simp only [World.size_alloc] at y1
  obtain ⟨l1, l2⟩ : n ≤ xs.length ∧ xs.length ≤ n := by have := h1.len; omega
  have HP := Lib.hid hp
  have HQ := Lib.hid hq
  have HB := Lib.hid hb
  clear hp hq hb
  go_enter Tryz.func37, Tryz.ntmps37
  go_wp2_with fail
  generalize hW : ((w.alloc (.cells #[.int .i64 0, .slice none 0 0, .int .i64 0, .slice none 0 0] 80)).alloc (.cells #[.int .i64 0, .slice none 0 0, .int .i64 0, .slice none 0 0] 80)) = W0 at hb2 y0 y1 ⊢
  clear hW
  go_loopw [7, 5, 6] (fun z p q wr => ∃ k : Nat, z = .int .i64 (k : Int) ∧ p = .int .i64 (sF (fun t => (n : Int) - (t : Int)) k) ∧ q = .int .i64 (sF (fun t => ((n : Int) - (t : Int)) * ((n : Int) - (t : Int))) k) ∧ k ≤ n ∧ wr = W0) (fun z _ _ _ => n - (intOf z).toNat)
  case atStart => exact ⟨0, rfl, rfl, rfl, by omega, rfl⟩
  case round =>
    obtain ⟨k, rfl, rfl, rfl, hk0, rfl⟩ := hrel
    have b1 := sF_bd (f := fun t => (n : Int) - (t : Int)) (M := 24) (k := k) (fun t ht => by omega)
    have b2 := sF_bd (f := fun t => ((n : Int) - (t : Int)) * ((n : Int) - (t : Int))) (M := 576) (k := k) (fun t ht => by
      have := pr_bd (c := (n : Int) - (t : Int)) (a := (n : Int) - (t : Int)) (C := 24) (A := 24) (by omega) (by omega) (by omega) (by omega)
      have h0 : 0 ≤ ((n : Int) - (t : Int)) * ((n : Int) - (t : Int)) := Int.mul_nonneg (by omega) (by omega)
      omega)
    by_cases hlt : k < n
    · have hk1 : (k : Int) < (n : Int) := by omega
      have hk2 : (0 : Int) ≤ (k : Int) := by omega
      have hm := pr_bd (c := (n : Int) - (k : Int)) (a := (n : Int) - (k : Int)) (C := 24) (A := 24) (by omega) (by omega) (by omega) (by omega)
      have e1 : sF (fun t => (n : Int) - (t : Int)) (k + 1) = sF (fun t => (n : Int) - (t : Int)) k + ((n : Int) - (k : Int)) := rfl
      have e2 : sF (fun t => ((n : Int) - (t : Int)) * ((n : Int) - (t : Int))) (k + 1) = sF (fun t => ((n : Int) - (t : Int)) * ((n : Int) - (t : Int))) k + ((n : Int) - (k : Int)) * ((n : Int) - (k : Int)) := rfl
      obtain ⟨s, hs⟩ : ∃ v, sF (fun t => (n : Int) - (t : Int)) k = v := ⟨_, rfl⟩
      obtain ⟨t, ht⟩ : ∃ v, sF (fun t => ((n : Int) - (t : Int)) * ((n : Int) - (t : Int))) k = v := ⟨_, rfl⟩
      rw [hs] at b1 e1 ⊢
      rw [ht] at b2 e2 ⊢
      have E1 := Lib.hid e1
      have E2 := Lib.hid e2
      clear e1 e2 hs ht
      go_wp2_with fail
      go_roundw
      case rel => exact ⟨k + 1, by go_num, by rw [E1.out]; congr 1; omega, by rw [E2.out], by omega, by simp⟩
      case measure => simp [intOf]; omega
    · obtain rfl : k = n := by omega
      obtain ⟨q0, q1, q2⟩ := mom_sF k hn
      rw [q1] at b1 ⊢
      rw [q2] at b2 ⊢
      have hmb := mom_bd k hn
      have hdb := denR_bd k hn2 hn
      clear q0 q1 q2 hlt
      obtain ⟨V, hV⟩ : ∃ v, sumT xs k = v := ⟨_, rfl⟩
      obtain ⟨D, hD⟩ : ∃ v, sumT (sumsF xs) k = v := ⟨_, rfl⟩
      have bV : -100000000 ≤ V ∧ V ≤ 100000000 ∧ -100000000 ≤ D ∧ D ≤ 100000000 := by
        have h1 := sumT_bd HB.out k
        rw [hV] at h1
        have h2 := endT_bd (M := 1000) (by omega) HB.out k k (Nat.le_refl _)
        rw [← sumT_sums xs k l1, hD] at h2
        have p := pr_bd (c := (k : Int)) (a := (k : Int)) (C := 24) (A := 24) (by omega) (by omega) (by omega) (by omega)
        have e : (k : Int) * 1000 * (k : Int) = (k : Int) * (k : Int) * 1000 := by grind
        omega
      have HV := Lib.hid hV
      have HD := Lib.hid hD
      go_wp2_with fail
      refine (rEnd_any a k c xs _ (h1.keep hb2) (by omega) (fun j => by have := HB.out j; omega) V D hV hD).mono ?_
      rintro e w1 ⟨rfl, hs⟩
      clear hV hD
      replace y0 := blk_keep y0 hs
      replace y1 := blk_keep y1 hs
      replace hb2 := hb2.trans (hs.mono hb2.size)
      clear hs
      go_wp2_with fail
      have y2 := alloc_new w1 (.cells #[.int .i64 V, .int .i64 D] 71)
      replace y0 := blk_keep y0 ((Below.refl _ _).alloc (Nat.le_refl _) (.cells #[.int .i64 V, .int .i64 D] 71))
      replace y1 := blk_keep y1 ((Below.refl _ _).alloc (Nat.le_refl _) (.cells #[.int .i64 V, .int .i64 D] 71))
      replace hb2 := hb2.alloc hb2.size (.cells #[.int .i64 V, .int .i64 D] 71)
      generalize hb3 : w1.heap.size = bE at y2 ⊢
      generalize w1.alloc (.cells #[.int .i64 V, .int .i64 D] 71) = w2 at *
      clear hb3
      obtain ⟨S1, hS1⟩ : ∃ v, momT k = v := ⟨_, rfl⟩
      obtain ⟨S2, hS2⟩ : ∃ v, sqrT k = v := ⟨_, rfl⟩
      have hmb2 := hmb
      rw [hS1, hS2] at hmb2
      rw [hS1, hS2]
      have HS1 := Lib.hid hS1
      have HS2 := Lib.hid hS2
      have HMB := Lib.hid hmb
      clear hS1 hS2 b1 b2 hmb
      have HL := Lib.hid (show xs.length = k by omega)
      have hsol := pm_sol (n := (k : Int)) (S1 := S1) (S2 := S2) (V := V) (D := D) (p := prV xs) (q := prD xs) (d := denR k) (by omega) (by omega) (by unfold denR; rw [HS1.out, HS2.out]) (by unfold prD; rw [HL.out, HS1.out, HV.out, HD.out]) (by have h9 := (pr_solve xs).1; rw [HL.out, HS1.out, HV.out] at h9; exact h9)
      have hels := pm_els (k : Int) S1 S2 V D
      have HE0 := Lib.hid (show ∀ c, c < 2 → elS (pmQ (k : Int) S1 S2 V D) 2 c c c ≠ 0 by
        intro c hc
        rcases (by omega : c = 0 ∨ c = 1) with rfl | rfl
        · rw [hels.1]
          simp
          omega
        · rw [hels.2.1]
          exact hsol.1)
      have HE1 := Lib.hid (show ∀ c, c < 2 → elS (pmQ (k : Int) S1 S2 V D) 2 2 c c ≠ 0 by
        intro c hc
        rcases (by omega : c = 0 ∨ c = 1) with rfl | rfl
        · rw [hels.2.2.1]
          simp
          omega
        · rw [hels.2.2.2.1]
          exact hsol.1)
      have HE2 := Lib.hid (show (List.range 2).map (fun c => elS (pmQ (k : Int) S1 S2 V D) 2 2 c 2 / elS (pmQ (k : Int) S1 S2 V D) 2 2 c c) = [p, q] by
        show [_, _] = _
        dsimp only
        rw [hels.2.2.1, hels.2.2.2.1, hels.2.2.2.2.1, hels.2.2.2.2.2, hsol.2.1, hsol.2.2, ← HP.out, ← HQ.out, HL.out])
      clear hsol hels
      have v0 := cell_block y2 0
      have v1 := cell_block y2 1
      refine Calmly.wp_region_mix 24 (.fl 0 <| .fl 2 <| .fl 4 <| .fl 5 <| .fl 6 <| .fl 9 <| .fl 11 <| .fl 13 <| .fl 14 <| .fl 15 <| .eff 1 <| .eff 3 <| .eff 7 <| .alt 8 (.eff 10 <| .eff 12 <| .eff 16 <| .eff 17 <| .eff 18 <| .eff 19 <| .fl 20 <| .fl 21 <| .fl 22 <| .fl 23 <| .tail [24]) (.eff 10 (.alt 8 (.eff 12 <| .eff 16 <| .eff 17 <| .eff 18 <| .eff 19 <| .fl 20 <| .fl 21 <| .fl 22 <| .fl 23 <| .tail [24]) (.eff 12 (.alt 8 (.eff 16 <| .eff 17 <| .eff 18 <| .eff 19 <| .fl 20 <| .fl 21 <| .fl 22 <| .fl 23 <| .tail [24]) (.eff 16 (.alt 8 (.eff 17 <| .eff 18 <| .eff 19 <| .fl 20 <| .fl 21 <| .fl 22 <| .fl 23 <| .tail [24]) (.eff 17 (.eff 8 <| .eff 18 <| .eff 19 <| .fl 20 <| .fl 21 <| .fl 22 <| .fl 23 <| .tail [24]))))))))) (by kernel_rfl) (by kernel_rfl) ?_
      replace y0 := blk_keep y0 (Below.refl _ _).drew
      replace y1 := blk_keep y1 (Below.refl _ _).drew
      replace v0 := cell_keep v0 (Below.refl _ _).drew
      replace v1 := cell_keep v1 (Below.refl _ _).drew
      replace hb2 := hb2.drew
      clear y2
      generalize w2.drew = U at *
      have hk := Below.refl U.heap.size U
      go_wp2_with (first | ((with_reducible refine Calmly.is_fl ?_); refine Calmly.mix_fl rfl ?_ (fun _ _ => ?_); (first | exact .move _ | exact .load _ _ | exact .fieldAddr _ _ _ (by kernel_rfl) | exact .assign _ | exact .binOp _ _ _ _ _ rfl | exact .indexAddr _ _ _ | exact .len _ _ (by kernel_rfl) | exact .field _ _ _ | exact .extract _ _ | exact .pick _ _ _ | exact .build _ _ | exact .slice _ _ _ _ _ | exact .unOp _ _ _ rfl | exact .index _ _ _ | exact .max _ _ _ rfl rfl | exact .min _ _ _ rfl rfl)) | ((with_reducible refine Calmly.is_gl ?_); refine Calmly.mix_gl rfl rfl rfl ?_; first | ((first | with_reducible refine Calmly.gl_tt ?_ (fun _ _ => ?_) | with_reducible refine Calmly.gl_ff ?_ (fun _ _ => ?_)); (first | exact .move _ | exact .load _ _ | exact .fieldAddr _ _ _ (by kernel_rfl) | exact .assign _ | exact .binOp _ _ _ _ _ rfl | exact .indexAddr _ _ _ | exact .len _ _ (by kernel_rfl) | exact .field _ _ _ | exact .extract _ _ | exact .pick _ _ _ | exact .build _ _ | exact .slice _ _ _ _ _ | exact .unOp _ _ _ rfl | exact .index _ _ _ | exact .max _ _ _ rfl rfl | exact .min _ _ _ rfl rfl)) | with_reducible refine Calmly.gl_tf (fun _ _ => ?_) | with_reducible refine Calmly.gl_ft (fun _ _ => ?_)) | ((with_reducible refine Calmly.is_eff ?_); refine Calmly.mix_eff rfl (fun _ _ => ?_)) | ((with_reducible refine Calmly.is_gf ?_); refine Calmly.mix_gf rfl rfl rfl ?_; first | with_reducible refine Calmly.gf_tt (fun _ _ => ?_) | with_reducible refine Calmly.gf_ff (fun _ _ => ?_) | with_reducible refine Calmly.gf_tf (kept_of hk) (fun _ _ => ?_) | with_reducible refine Calmly.gf_ft (kept_of hk) (fun _ _ => ?_)) | ((with_reducible refine Calmly.is_kept ?_); refine ⟨kept_of hk, ?_⟩) | (with_reducible refine Calmly.mix_alt ?_ ?_))
      refine (RatioInt_any (k : Int) _ (by omega) (by omega)).mono ?_
      rintro e u1 ⟨⟨s1, a1, n1, c1, t1, b1, m1, d1, rfl, h1, g1, r1⟩, hs⟩
      replace hk := step_of hk hs
      clear hs
      go_wp2_with (first | ((with_reducible refine Calmly.is_fl ?_); refine Calmly.mix_fl rfl ?_ (fun _ _ => ?_); (first | exact .move _ | exact .load _ _ | exact .fieldAddr _ _ _ (by kernel_rfl) | exact .assign _ | exact .binOp _ _ _ _ _ rfl | exact .indexAddr _ _ _ | exact .len _ _ (by kernel_rfl) | exact .field _ _ _ | exact .extract _ _ | exact .pick _ _ _ | exact .build _ _ | exact .slice _ _ _ _ _ | exact .unOp _ _ _ rfl | exact .index _ _ _ | exact .max _ _ _ rfl rfl | exact .min _ _ _ rfl rfl)) | ((with_reducible refine Calmly.is_gl ?_); refine Calmly.mix_gl rfl rfl rfl ?_; first | ((first | with_reducible refine Calmly.gl_tt ?_ (fun _ _ => ?_) | with_reducible refine Calmly.gl_ff ?_ (fun _ _ => ?_)); (first | exact .move _ | exact .load _ _ | exact .fieldAddr _ _ _ (by kernel_rfl) | exact .assign _ | exact .binOp _ _ _ _ _ rfl | exact .indexAddr _ _ _ | exact .len _ _ (by kernel_rfl) | exact .field _ _ _ | exact .extract _ _ | exact .pick _ _ _ | exact .build _ _ | exact .slice _ _ _ _ _ | exact .unOp _ _ _ rfl | exact .index _ _ _ | exact .max _ _ _ rfl rfl | exact .min _ _ _ rfl rfl)) | with_reducible refine Calmly.gl_tf (fun _ _ => ?_) | with_reducible refine Calmly.gl_ft (fun _ _ => ?_)) | ((with_reducible refine Calmly.is_eff ?_); refine Calmly.mix_eff rfl (fun _ _ => ?_)) | ((with_reducible refine Calmly.is_gf ?_); refine Calmly.mix_gf rfl rfl rfl ?_; first | with_reducible refine Calmly.gf_tt (fun _ _ => ?_) | with_reducible refine Calmly.gf_ff (fun _ _ => ?_) | with_reducible refine Calmly.gf_tf (kept_of hk) (fun _ _ => ?_) | with_reducible refine Calmly.gf_ft (kept_of hk) (fun _ _ => ?_)) | ((with_reducible refine Calmly.is_kept ?_); refine ⟨kept_of hk, ?_⟩) | (with_reducible refine Calmly.mix_alt ?_ ?_))
      refine (RatioInt_any S1 _ (by omega) (by omega)).mono ?_
      rintro e u2 ⟨⟨s2, a2, n2, c2, t2, b2, m2, d2, rfl, h2, g2, r2⟩, hs⟩
      replace r1 := r1.keep hs
      replace hk := step_of hk hs
      clear hs
      go_wp2_with (first | ((with_reducible refine Calmly.is_fl ?_); refine Calmly.mix_fl rfl ?_ (fun _ _ => ?_); (first | exact .move _ | exact .load _ _ | exact .fieldAddr _ _ _ (by kernel_rfl) | exact .assign _ | exact .binOp _ _ _ _ _ rfl | exact .indexAddr _ _ _ | exact .len _ _ (by kernel_rfl) | exact .field _ _ _ | exact .extract _ _ | exact .pick _ _ _ | exact .build _ _ | exact .slice _ _ _ _ _ | exact .unOp _ _ _ rfl | exact .index _ _ _ | exact .max _ _ _ rfl rfl | exact .min _ _ _ rfl rfl)) | ((with_reducible refine Calmly.is_gl ?_); refine Calmly.mix_gl rfl rfl rfl ?_; first | ((first | with_reducible refine Calmly.gl_tt ?_ (fun _ _ => ?_) | with_reducible refine Calmly.gl_ff ?_ (fun _ _ => ?_)); (first | exact .move _ | exact .load _ _ | exact .fieldAddr _ _ _ (by kernel_rfl) | exact .assign _ | exact .binOp _ _ _ _ _ rfl | exact .indexAddr _ _ _ | exact .len _ _ (by kernel_rfl) | exact .field _ _ _ | exact .extract _ _ | exact .pick _ _ _ | exact .build _ _ | exact .slice _ _ _ _ _ | exact .unOp _ _ _ rfl | exact .index _ _ _ | exact .max _ _ _ rfl rfl | exact .min _ _ _ rfl rfl)) | with_reducible refine Calmly.gl_tf (fun _ _ => ?_) | with_reducible refine Calmly.gl_ft (fun _ _ => ?_)) | ((with_reducible refine Calmly.is_eff ?_); refine Calmly.mix_eff rfl (fun _ _ => ?_)) | ((with_reducible refine Calmly.is_gf ?_); refine Calmly.mix_gf rfl rfl rfl ?_; first | with_reducible refine Calmly.gf_tt (fun _ _ => ?_) | with_reducible refine Calmly.gf_ff (fun _ _ => ?_) | with_reducible refine Calmly.gf_tf (kept_of hk) (fun _ _ => ?_) | with_reducible refine Calmly.gf_ft (kept_of hk) (fun _ _ => ?_)) | ((with_reducible refine Calmly.is_kept ?_); refine ⟨kept_of hk, ?_⟩) | (with_reducible refine Calmly.mix_alt ?_ ?_))
      refine (RatioInt_any (-V) _ (by omega) (by omega)).mono ?_
      rintro e u3 ⟨⟨s3, a3, n3, c3, t3, b3, m3, d3, rfl, h3, g3, r3⟩, hs⟩
      replace r1 := r1.keep hs
      replace r2 := r2.keep hs
      replace hk := step_of hk hs
      clear hs
      go_wp2_with (first | ((with_reducible refine Calmly.is_fl ?_); refine Calmly.mix_fl rfl ?_ (fun _ _ => ?_); (first | exact .move _ | exact .load _ _ | exact .fieldAddr _ _ _ (by kernel_rfl) | exact .assign _ | exact .binOp _ _ _ _ _ rfl | exact .indexAddr _ _ _ | exact .len _ _ (by kernel_rfl) | exact .field _ _ _ | exact .extract _ _ | exact .pick _ _ _ | exact .build _ _ | exact .slice _ _ _ _ _ | exact .unOp _ _ _ rfl | exact .index _ _ _ | exact .max _ _ _ rfl rfl | exact .min _ _ _ rfl rfl)) | ((with_reducible refine Calmly.is_gl ?_); refine Calmly.mix_gl rfl rfl rfl ?_; first | ((first | with_reducible refine Calmly.gl_tt ?_ (fun _ _ => ?_) | with_reducible refine Calmly.gl_ff ?_ (fun _ _ => ?_)); (first | exact .move _ | exact .load _ _ | exact .fieldAddr _ _ _ (by kernel_rfl) | exact .assign _ | exact .binOp _ _ _ _ _ rfl | exact .indexAddr _ _ _ | exact .len _ _ (by kernel_rfl) | exact .field _ _ _ | exact .extract _ _ | exact .pick _ _ _ | exact .build _ _ | exact .slice _ _ _ _ _ | exact .unOp _ _ _ rfl | exact .index _ _ _ | exact .max _ _ _ rfl rfl | exact .min _ _ _ rfl rfl)) | with_reducible refine Calmly.gl_tf (fun _ _ => ?_) | with_reducible refine Calmly.gl_ft (fun _ _ => ?_)) | ((with_reducible refine Calmly.is_eff ?_); refine Calmly.mix_eff rfl (fun _ _ => ?_)) | ((with_reducible refine Calmly.is_gf ?_); refine Calmly.mix_gf rfl rfl rfl ?_; first | with_reducible refine Calmly.gf_tt (fun _ _ => ?_) | with_reducible refine Calmly.gf_ff (fun _ _ => ?_) | with_reducible refine Calmly.gf_tf (kept_of hk) (fun _ _ => ?_) | with_reducible refine Calmly.gf_ft (kept_of hk) (fun _ _ => ?_)) | ((with_reducible refine Calmly.is_kept ?_); refine ⟨kept_of hk, ?_⟩) | (with_reducible refine Calmly.mix_alt ?_ ?_) | (go_at_call 39; have hmk := r5; clear hmk; have hm2 := r3; refine (RatioInt_any (-D) _ (by omega) (by omega)).mono ?_; rintro e uu ⟨⟨s6, a6, n6, c6, t6, b6, m6, d6, rfl, h6, g6, r6⟩, hs⟩; replace hk := step_of hk hs; (try replace r1 := r1.keep hs); (try replace r2 := r2.keep hs); (try replace r3 := r3.keep hs); (try replace r4 := r4.keep hs); (try replace r5 := r5.keep hs); (try replace R0 := R0.keep hs); clear hs hm2) | (go_at_call 39; have hmk := r4; clear hmk; have hm2 := r3; refine (RatioInt_any S2 _ (by omega) (by omega)).mono ?_; rintro e uu ⟨⟨s5, a5, n5, c5, t5, b5, m5, d5, rfl, h5, g5, r5⟩, hs⟩; replace hk := step_of hk hs; (try replace r1 := r1.keep hs); (try replace r2 := r2.keep hs); (try replace r3 := r3.keep hs); (try replace r4 := r4.keep hs); (try replace R0 := R0.keep hs); clear hs hm2) | (go_at_call 39; have hmk := r3; clear hmk; have hm2 := r3; refine (RatioInt_any S1 _ (by omega) (by omega)).mono ?_; rintro e uu ⟨⟨s4, a4, n4, c4, t4, b4, m4, d4, rfl, h4, g4, r4⟩, hs⟩; replace hk := step_of hk hs; (try replace r1 := r1.keep hs); (try replace r2 := r2.keep hs); (try replace r3 := r3.keep hs); (try replace R0 := R0.keep hs); clear hs hm2) | (have R1 := RowF.three (B := U.heap.size) hk.size (L := 46) (f := pmQ (k : Int) S1 S2 V D 1) r4 r5 r6 (by omega) (by omega) (by omega) (by omega) (by omega) (by omega); refine kept_allocS (o := .cells #[.int .i64 s4, .slice a4 n4 c4, .int .i64 t4, .slice b4 m4 d4, .int .i64 s5, .slice a5 n5 c5, .int .i64 t5, .slice b5 m5 d5, .int .i64 s6, .slice a6 n6 c6, .int .i64 t6, .slice b6 m6 d6] 80) hk (fun hs hk' hblk hge1 => ?_); (try have hlo0 := R0.blk.lt); (try replace R0 := R0.keep hs); (try replace r1 := r1.keep hs); (try replace r2 := r2.keep hs); (try replace r3 := r3.keep hs); (try replace r4 := r4.keep hs); (try replace r5 := r5.keep hs); (try replace r6 := r6.keep hs); generalize World.alloc _ (.cells #[.int .i64 s4, .slice a4 n4 c4, .int .i64 t4, .slice b4 m4 d4, .int .i64 s5, .slice a5 n5 c5, .int .i64 t5, .slice b5 m5 d5, .int .i64 s6, .slice a6 n6 c6, .int .i64 t6, .slice b6 m6 d6] 80) = W' at *; replace hk := hk'; clear hk' hs hblk) | (have R0 := RowF.three (B := U.heap.size) hk.size (L := 46) (f := pmQ (k : Int) S1 S2 V D 0) r1 r2 r3 (by omega) (by omega) (by omega) (by omega) (by omega) (by omega); refine kept_allocS (o := .cells #[.int .i64 s1, .slice a1 n1 c1, .int .i64 t1, .slice b1 m1 d1, .int .i64 s2, .slice a2 n2 c2, .int .i64 t2, .slice b2 m2 d2, .int .i64 s3, .slice a3 n3 c3, .int .i64 t3, .slice b3 m3 d3] 80) hk (fun hs hk' hblk hge0 => ?_); (try have hlo1 := R1.blk.lt); (try replace R1 := R1.keep hs); (try replace r1 := r1.keep hs); (try replace r2 := r2.keep hs); (try replace r3 := r3.keep hs); (try replace r4 := r4.keep hs); (try replace r5 := r5.keep hs); (try replace r6 := r6.keep hs); generalize World.alloc _ (.cells #[.int .i64 s1, .slice a1 n1 c1, .int .i64 t1, .slice b1 m1 d1, .int .i64 s2, .slice a2 n2 c2, .int .i64 t2, .slice b2 m2 d2, .int .i64 s3, .slice a3 n3 c3, .int .i64 t3, .slice b3 m3 d3] 80) = W' at *; replace hk := hk'; clear hk' hs hblk))
      all_goals
        have M2 := MQ.two (L := fun _ _ => 46) (f := pmQ (k : Int) S1 S2 V D) R0 R1 (by omega)
        refine kept_allocS hk (fun hs hk' hblk hge2 => ?_)
        generalize World.alloc _ _ = W2 at M2 hs hk' hblk ⊢
        replace hk := hk'
        clear hk' hs hblk r1 r2 r3 r4 r5 r6 R0 R1 hge0 hge1
      go_wp2_with (first | ((with_reducible refine Calmly.is_fl ?_); refine Calmly.mix_fl rfl ?_ (fun _ _ => ?_); (first | exact .move _ | exact .load _ _ | exact .fieldAddr _ _ _ (by kernel_rfl) | exact .assign _ | exact .binOp _ _ _ _ _ rfl | exact .indexAddr _ _ _ | exact .len _ _ (by kernel_rfl) | exact .field _ _ _ | exact .extract _ _ | exact .pick _ _ _ | exact .build _ _ | exact .slice _ _ _ _ _ | exact .unOp _ _ _ rfl | exact .index _ _ _ | exact .max _ _ _ rfl rfl | exact .min _ _ _ rfl rfl)) | ((with_reducible refine Calmly.is_gl ?_); refine Calmly.mix_gl rfl rfl rfl ?_; first | ((first | with_reducible refine Calmly.gl_tt ?_ (fun _ _ => ?_) | with_reducible refine Calmly.gl_ff ?_ (fun _ _ => ?_)); (first | exact .move _ | exact .load _ _ | exact .fieldAddr _ _ _ (by kernel_rfl) | exact .assign _ | exact .binOp _ _ _ _ _ rfl | exact .indexAddr _ _ _ | exact .len _ _ (by kernel_rfl) | exact .field _ _ _ | exact .extract _ _ | exact .pick _ _ _ | exact .build _ _ | exact .slice _ _ _ _ _ | exact .unOp _ _ _ rfl | exact .index _ _ _ | exact .max _ _ _ rfl rfl | exact .min _ _ _ rfl rfl)) | with_reducible refine Calmly.gl_tf (fun _ _ => ?_) | with_reducible refine Calmly.gl_ft (fun _ _ => ?_)) | ((with_reducible refine Calmly.is_eff ?_); refine Calmly.mix_eff rfl (fun _ _ => ?_)) | ((with_reducible refine Calmly.is_gf ?_); refine Calmly.mix_gf rfl rfl rfl ?_; first | with_reducible refine Calmly.gf_tt (fun _ _ => ?_) | with_reducible refine Calmly.gf_ff (fun _ _ => ?_) | with_reducible refine Calmly.gf_tf (kept_of hk) (fun _ _ => ?_) | with_reducible refine Calmly.gf_ft (kept_of hk) (fun _ _ => ?_)) | ((with_reducible refine Calmly.is_kept ?_); refine ⟨kept_of hk, ?_⟩) | (with_reducible refine Calmly.mix_alt ?_ ?_))
      all_goals
        refine (Solve_any _ 2 2 _ _ _ _ _ M2 (by omega) (by omega) HE0.out HE1.out).mono ?_
        rintro e w9 ⟨a9, c9, B9, rfl, R9, hB9, hs⟩
        rw [HE2.out] at R9
        have hU9 := hk.size
        replace hk := step_of hk hs
        clear hs M2
      go_wp2_with (first | ((with_reducible refine Calmly.is_fl ?_); refine Calmly.mix_fl rfl ?_ (fun _ _ => ?_); (first | exact .move _ | exact .load _ _ | exact .fieldAddr _ _ _ (by kernel_rfl) | exact .assign _ | exact .binOp _ _ _ _ _ rfl | exact .indexAddr _ _ _ | exact .len _ _ (by kernel_rfl) | exact .field _ _ _ | exact .extract _ _ | exact .pick _ _ _ | exact .build _ _ | exact .slice _ _ _ _ _ | exact .unOp _ _ _ rfl | exact .index _ _ _ | exact .max _ _ _ rfl rfl | exact .min _ _ _ rfl rfl)) | ((with_reducible refine Calmly.is_gl ?_); refine Calmly.mix_gl rfl rfl rfl ?_; first | ((first | with_reducible refine Calmly.gl_tt ?_ (fun _ _ => ?_) | with_reducible refine Calmly.gl_ff ?_ (fun _ _ => ?_)); (first | exact .move _ | exact .load _ _ | exact .fieldAddr _ _ _ (by kernel_rfl) | exact .assign _ | exact .binOp _ _ _ _ _ rfl | exact .indexAddr _ _ _ | exact .len _ _ (by kernel_rfl) | exact .field _ _ _ | exact .extract _ _ | exact .pick _ _ _ | exact .build _ _ | exact .slice _ _ _ _ _ | exact .unOp _ _ _ rfl | exact .index _ _ _ | exact .max _ _ _ rfl rfl | exact .min _ _ _ rfl rfl)) | with_reducible refine Calmly.gl_tf (fun _ _ => ?_) | with_reducible refine Calmly.gl_ft (fun _ _ => ?_)) | ((with_reducible refine Calmly.is_eff ?_); refine Calmly.mix_eff rfl (fun _ _ => ?_)) | ((with_reducible refine Calmly.is_gf ?_); refine Calmly.mix_gf rfl rfl rfl ?_; first | with_reducible refine Calmly.gf_tt (fun _ _ => ?_) | with_reducible refine Calmly.gf_ff (fun _ _ => ?_) | with_reducible refine Calmly.gf_tf (kept_of hk) (fun _ _ => ?_) | with_reducible refine Calmly.gf_ft (kept_of hk) (fun _ _ => ?_)) | ((with_reducible refine Calmly.is_tail ?_); first | refine Calmly.mix_tail_nil ?_ | refine Calmly.mix_tail rfl (fun _ _ => ?_)) | ((with_reducible refine Calmly.is_kept ?_); refine ⟨kept_of hk, ?_⟩) | (with_reducible refine Calmly.mix_alt ?_ ?_))
      all_goals
        have hl1 := blk_lt y1
        replace y0 := blk_keep y0 hk
        replace y1 := blk_keep y1 hk
        replace hb2 := hb2.trans (hk.mono hb2.size)
        have hB : w.heap.size + 1 < B9 := by omega
        clear hU9 hB9 hge2 v0 v1
        clear hk
        generalize w9 = w8 at *
        obtain ⟨b, off, s1, a1, n1, c1, t1, b1, m1, d1, rfl, g0, g1, g2, g3, gl1, gl2, gR⟩ := R9.at_ 0 (by omega)
        obtain ⟨b', off', s2, a2, n2, c2, t2, b2, m2, d2, he, k0, k1, k2, k3, kl1, kl2, kR⟩ := R9.at_ 1 (by omega)
        cases he
        have hpl := R9.place
        simp only [Nat.zero_mul, Nat.one_mul, Nat.add_zero] at g0 g1 g2 g3 k0 k1 k2 k3
        clear R9
        refine Calmly.wp_region_mix_at w (kept_of hb2) 7 (.fl 0 <| .fl 1 <| .fl 3 <| .fl 4 <| .alt 2 (.alt 5 (.eff 6 <| .tail [7]) (.eff 6 (.eff 5 <| .tail [7]))) (.eff 5 (.eff 2 <| .eff 6 <| .tail [7]))) (by kernel_rfl) (by kernel_rfl) ?_
        replace y0 := blk_keep y0 (Below.refl _ _).drew
        replace y1 := blk_keep y1 (Below.refl _ _).drew
        replace g0 := cell_keep g0 (Below.refl _ _).drew
        replace g1 := cell_keep g1 (Below.refl _ _).drew
        replace g2 := cell_keep g2 (Below.refl _ _).drew
        replace g3 := cell_keep g3 (Below.refl _ _).drew
        replace k0 := cell_keep k0 (Below.refl _ _).drew
        replace k1 := cell_keep k1 (Below.refl _ _).drew
        replace k2 := cell_keep k2 (Below.refl _ _).drew
        replace k3 := cell_keep k3 (Below.refl _ _).drew
        replace gR := gR.keep (Below.refl _ _).drew
        replace kR := kR.keep (Below.refl _ _).drew
        have hk := hb2.drew
        clear hb2
        have hbw : b < w8.drew.heap.size := hpl.2
        generalize w8.drew = X at *
        have z0 := cell_block y0 0
        have z1 := cell_block y0 1
        have z2 := cell_block y0 2
        have z3 := cell_block y0 3
        have z4 := frozen_block y0 0
        have z5 := frozen_block y0 1
        have z6 := frozen_block y0 2
        have z7 := frozen_block y0 3
        have hbr : b ≠ w.heap.size := by omega
        have hTT : BlkT X w.heap.size 80 := ⟨_, y0⟩
        go_wp2_with (first | ((with_reducible refine Calmly.is_fl ?_); refine Calmly.mix_fl rfl ?_ (fun _ _ => ?_); (first | exact .move _ | exact .load _ _ | exact .fieldAddr _ _ _ (by kernel_rfl) | exact .assign _ | exact .binOp _ _ _ _ _ rfl | exact .indexAddr _ _ _ | exact .len _ _ (by kernel_rfl) | exact .field _ _ _ | exact .extract _ _ | exact .pick _ _ _ | exact .build _ _ | exact .slice _ _ _ _ _ | exact .unOp _ _ _ rfl | exact .index _ _ _ | exact .max _ _ _ rfl rfl | exact .min _ _ _ rfl rfl)) | ((with_reducible refine Calmly.is_gl ?_); refine Calmly.mix_gl rfl rfl rfl ?_; first | ((first | with_reducible refine Calmly.gl_tt ?_ (fun _ _ => ?_) | with_reducible refine Calmly.gl_ff ?_ (fun _ _ => ?_)); (first | exact .move _ | exact .load _ _ | exact .fieldAddr _ _ _ (by kernel_rfl) | exact .assign _ | exact .binOp _ _ _ _ _ rfl | exact .indexAddr _ _ _ | exact .len _ _ (by kernel_rfl) | exact .field _ _ _ | exact .extract _ _ | exact .pick _ _ _ | exact .build _ _ | exact .slice _ _ _ _ _ | exact .unOp _ _ _ rfl | exact .index _ _ _ | exact .max _ _ _ rfl rfl | exact .min _ _ _ rfl rfl)) | with_reducible refine Calmly.gl_tf (fun _ _ => ?_) | with_reducible refine Calmly.gl_ft (fun _ _ => ?_)) | ((with_reducible refine Calmly.is_eff ?_); refine Calmly.mix_eff rfl (fun _ _ => ?_)) | ((with_reducible refine Calmly.is_gf ?_); refine Calmly.mix_gf rfl rfl rfl ?_; first | with_reducible refine Calmly.gf_tt (fun _ _ => ?_) | with_reducible refine Calmly.gf_ff (fun _ _ => ?_) | with_reducible refine Calmly.gf_tf (kept_of hk) (fun _ _ => ?_) | with_reducible refine Calmly.gf_ft (kept_of hk) (fun _ _ => ?_)) | ((with_reducible refine Calmly.is_tail ?_); first | refine Calmly.mix_tail_nil ?_ | refine Calmly.mix_tail rfl (fun _ _ => ?_)) | ((with_reducible refine Calmly.is_kept ?_); refine ⟨kept_of hk, ?_⟩) | (with_reducible refine Calmly.mix_alt ?_ ?_) | (refine kept_st4 hk (Nat.le_refl _) y0 (fun hk' ho hn0 => ?_); generalize World.setCell (World.setCell (World.setCell (World.setCell X _ _) _ _) _ _) _ _ = X2 at *; replace hk := hk'; clear hk'; replace k0 := (cell_same (ho b hbr) _).trans k0; replace k1 := (cell_same (ho b hbr) _).trans k1; replace k2 := (cell_same (ho b hbr) _).trans k2; replace k3 := (cell_same (ho b hbr) _).trans k3; replace y1 := (ho (w.heap.size + 1) (by omega)).trans y1; replace gR := ratFrame gR (frame_of hTT ho); replace kR := ratFrame kR (frame_of hTT ho); clear z0 z1 z2 z3 z4 z5 z6 z7 ho; have z0 := cell_block y1 0; have z1 := cell_block y1 1; have z2 := cell_block y1 2; have z3 := cell_block y1 3; have z4 := frozen_block y1 0; have z5 := frozen_block y1 1; have z6 := frozen_block y1 2; have z7 := frozen_block y1 3))
      all_goals
        have hT2 : BlkT X2 (w.heap.size + 1) 80 := ⟨_, y1⟩
        obtain ⟨_, h3⟩ := kept_st4 (G := _ ∧ _ ∧ _) (x := .int .i64 s2) (y := .slice a2 n2 c2) (z := .int .i64 t2) (u := .slice b2 m2 d2) hk (show w.heap.size ≤ w.heap.size + 1 by omega) y1 (fun h1 h2 h3 => ⟨h1, h2, h3⟩)
        generalize World.setCell (World.setCell (World.setCell (World.setCell X2 _ _) _ _) _ _) _ _ = X3 at *
        obtain ⟨hk3, ho3, hn1⟩ := h3
        have q0 := (ho3 w.heap.size (by omega)).trans hn0
        replace gR := ratFrame gR (frame_of hT2 ho3)
        replace kR := ratFrame kR (frame_of hT2 ho3)
        have e0 := cell_block q0 0
        have e1 := cell_block q0 1
        have e2 := cell_block q0 2
        have e3 := cell_block q0 3
        have e4 := cell_block hn1 0
        have e5 := cell_block hn1 1
        have e6 := cell_block hn1 2
        have e7 := cell_block hn1 3
        refine bodyPost_ret (v := .tuple #[.agg #[.int .i64 s1, .slice a1 n1 c1, .int .i64 t1, .slice b1 m1 d1], .agg #[.int .i64 s2, .slice a2 n2 c2, .int .i64 t2, .slice b2 m2 d2]]) (by simp [results, Tryz.results37, go_sem, e0, e1, e2, e3, e4, e5, e6, e7]) rfl ⟨s1, a1, n1, c1, t1, b1, m1, d1, s2, a2, n2, c2, t2, b2, m2, d2, rfl, gl1, gl2, kl1, kl2, gR, kR, hk3⟩
end Go.Proofs.YtfjcfbmfpefabaaGreat
