/- Plain law of shapes: numbers over a common denominator, divided by all that divides them, are those over the smallest common denominator; sways and shapes are the reference's. -/
import Derived.Test.YtfjcfbmfpefabaaGreatK08
namespace Go.Proofs.YtfjcfbmfpefabaaGreat

/-- The smallest common denominator. -/
def lcmQ (qs : List Rat) : Nat := qs.foldl (fun m q => Nat.lcm m q.den) 1
theorem lcm_fold (qs : List Rat) (m x : Nat) : qs.foldl (fun m q => Nat.lcm m q.den) m ∣ x ↔ m ∣ x ∧ ∀ q ∈ qs, q.den ∣ x := by
  induction qs generalizing m with
  | nil => simp
  | cons q l ih =>
    rw [List.foldl_cons, ih, Nat.lcm_dvd_iff]
    simp [and_assoc]
theorem lcmQ_dvd (qs : List Rat) (x : Nat) : lcmQ qs ∣ x ↔ ∀ q ∈ qs, q.den ∣ x := by
  unfold lcmQ
  rw [lcm_fold]
  simp
theorem lcmQ_take (qs : List Rat) (k : Nat) (h : k < qs.length) : lcmQ (qs.take (k + 1)) = Nat.lcm (lcmQ (qs.take k)) (qs[k]?.getD 0).den := by
  unfold lcmQ
  rw [List.take_succ_eq_append_getElem h, List.foldl_append, List.getElem?_eq_getElem h]
  rfl
theorem den_dvd (p : Int) (d x : Nat) (hd : 0 < d) : (Rat.divInt p d).den ∣ x ↔ d ∣ p.natAbs * x := by
  have e : (Rat.divInt p d).den = d / Nat.gcd p.natAbs d := by
    rw [Rat.den_divInt, if_neg (by omega), Int.gcd_comm]
    simp [Int.gcd]
  rw [e, Nat.div_dvd_iff_dvd_mul (Nat.gcd_dvd_right _ _) (Nat.gcd_pos_of_pos_right _ hd), gcd_mul_dvd]
  exact ⟨fun h => h.1, fun h => ⟨h, Nat.dvd_mul_right d x⟩⟩
/-- The parts over a common denominator, and the numbers. -/
theorem common_den (parts : List Int) (d : Nat) (hd : 0 < d) : lcmQ (parts.map (fun p => Rat.divInt p d)) = d / gcds (parts ++ [(d : Int)]) := by
  have hg := gcds_pos (l := parts ++ [(d : Int)]) (p := (d : Int)) (by simp) (by omega)
  have hgd : gcds (parts ++ [(d : Int)]) ∣ d := by
    have := gcds_dvd_mem (l := parts ++ [(d : Int)]) (p := (d : Int)) (by simp)
    exact Int.natCast_dvd_natCast.1 this
  have key : ∀ x, lcmQ (parts.map (fun p => Rat.divInt p d)) ∣ x ↔ d / gcds (parts ++ [(d : Int)]) ∣ x := by
    intro x
    rw [lcmQ_dvd, Nat.div_dvd_iff_dvd_mul hgd hg, gcds_dvd]
    constructor
    · intro h p hp
      rcases List.mem_append.1 hp with hp | hp
      · exact (den_dvd p d x hd).1 (h _ (List.mem_map_of_mem hp))
      · simp at hp
        subst hp
        simp only [Int.natAbs_natCast]
        exact Nat.dvd_mul_right d x
    · intro h q hq
      obtain ⟨p, hp, rfl⟩ := List.mem_map.1 hq
      exact (den_dvd p d x hd).2 (h p (List.mem_append_left _ hp))
  exact Nat.dvd_antisymm ((key _).2 (Nat.dvd_refl _)) ((key _).1 (Nat.dvd_refl _))
theorem rat_floor {r : Rat} {z : Int} (h : r = (z : Rat)) : r.num / (r.den : Int) = z := by subst h; simp
theorem common_part (p : Int) (d g : Nat) (hd : 0 < d) (hg : g ∣ d) (hp : (g : Int) ∣ p) : Rat.divInt p d * ((d / g : Nat) : Rat) = ((p.tdiv g : Int) : Rat) := by
  obtain ⟨N, rfl⟩ := hg
  obtain ⟨t, rfl⟩ := hp
  have hg0 : 0 < g := Nat.pos_of_mul_pos_right hd
  have hN0 : 0 < N := Nat.pos_of_mul_pos_left hd
  rw [Int.mul_tdiv_cancel_left _ (by omega), Nat.mul_div_cancel_left _ hg0, Rat.divInt_eq_div]
  have h1 : (g : Rat) ≠ 0 := by
    intro h
    simp at h
    omega
  have h2 : (N : Rat) ≠ 0 := by
    intro h
    simp at h
    omega
  push_cast
  grind

/-- What the spring below a storey carries: so many loads from the storey on. -/
def carT (ls : List Int) (i : Nat) : Nat → Int
  | 0 => 0
  | t + 1 => carT ls i t + ls[i + t]?.getD 0
theorem carT_bd {ls : List Int} (h : ∀ j : Nat, -1000 ≤ ls[j]?.getD 0 ∧ ls[j]?.getD 0 ≤ 1000) (i t : Nat) : -(1000 * (t : Int)) ≤ carT ls i t ∧ carT ls i t ≤ 1000 * (t : Int) := by
  induction t with
  | zero => simp [carT]
  | succ t ih =>
    have := h (i + t)
    show _ ≤ carT ls i t + _ ∧ carT ls i t + _ ≤ _
    omega
/-- The product of the first springs. -/
def prodK (ks : List Int) : Nat → Int
  | 0 => 1
  | i + 1 => prodK ks i * ks[i]?.getD 0
theorem prodK_bd {ks : List Int} {n : Nat} (h : ∀ j, j < n → 1 ≤ ks[j]?.getD 0 ∧ ks[j]?.getD 0 ≤ 20) (i : Nat) (hi : i ≤ n) : 1 ≤ prodK ks i ∧ prodK ks i ≤ 20 ^ i := by
  induction i with
  | zero => simp [prodK]
  | succ i ih =>
    obtain ⟨h1, h2⟩ := ih (by omega)
    obtain ⟨h3, h4⟩ := h i (by omega)
    show 1 ≤ prodK ks i * _ ∧ prodK ks i * _ ≤ _
    refine ⟨?_, ?_⟩
    · have := Int.mul_le_mul h1 h3 (by omega) (by omega)
      omega
    · rw [Int.pow_succ]
      exact Int.mul_le_mul h2 h4 (by omega) (by have : (0 : Int) ≤ 20 ^ i := Int.pow_nonneg (by omega); omega)
theorem prodK_dvd (ks : List Int) (i n : Nat) (h : i < n) : ks[i]?.getD 0 ∣ prodK ks n := by
  induction n with
  | zero => omega
  | succ n ih =>
    rcases Nat.lt_or_ge i n with h2 | h2
    · exact Int.dvd_trans (ih h2) (Int.dvd_mul_right _ _)
    · obtain rfl : i = n := by omega
      exact Int.dvd_mul_left _ _
/-- The sway of the first storeys, times the product of the springs; and itself. -/
def swP (ks ls : List Int) (n : Nat) (D : Int) : Nat → Int
  | 0 => 0
  | i + 1 => swP ks ls n D i + carT ls i (n - i) * D.tdiv (ks[i]?.getD 0)
def swQ (ks ls : List Int) (n : Nat) : Nat → Rat
  | 0 => 0
  | i + 1 => swQ ks ls n i + Rat.divInt (carT ls i (n - i)) (ks[i]?.getD 0)
theorem swP_swQ (ks ls : List Int) (n : Nat) (hk : ∀ j, j < n → 1 ≤ ks[j]?.getD 0 ∧ ks[j]?.getD 0 ≤ 20) (i : Nat) (hi : i ≤ n) : (swP ks ls n (prodK ks n) i : Rat) = swQ ks ls n i * (prodK ks n : Rat) := by
  induction i with
  | zero => simp [swP, swQ]
  | succ i ih =>
    rw [swP, swQ]
    obtain ⟨t, ht⟩ := prodK_dvd ks i n (by omega)
    obtain ⟨h1, h2⟩ := hk i (by omega)
    generalize ks[i]?.getD 0 = k at *
    have e : (prodK ks n).tdiv k = t := by rw [ht, Int.mul_tdiv_cancel_left _ (by omega)]
    rw [e, Rat.intCast_add, Rat.intCast_mul, ih (by omega), Rat.divInt_eq_div]
    have h3 : (k : Rat) ≠ 0 := by
      intro h
      have : k = 0 := by simpa using h
      omega
    have h4 : (prodK ks n : Rat) = (k : Rat) * (t : Rat) := by rw [ht, Rat.intCast_mul]
    rw [h4]
    grind
theorem swP_bd {ks ls : List Int} {n : Nat} (hn : n ≤ 4) (hk : ∀ j, j < n → 1 ≤ ks[j]?.getD 0 ∧ ks[j]?.getD 0 ≤ 20) (hl : ∀ j : Nat, -1000 ≤ ls[j]?.getD 0 ∧ ls[j]?.getD 0 ≤ 1000) (i : Nat) (hi : i ≤ n) :
    -(640000000 * (i : Int)) ≤ swP ks ls n (prodK ks n) i ∧ swP ks ls n (prodK ks n) i ≤ 640000000 * (i : Int) := by
  induction i with
  | zero => simp [swP]
  | succ i ih =>
    obtain ⟨h1, h2⟩ := ih (by omega)
    rw [swP]
    obtain ⟨k1, k2⟩ := hk i (by omega)
    obtain ⟨p1, p2⟩ := prodK_bd hk n (Nat.le_refl _)
    have p3 : prodK ks n ≤ 160000 := by
      refine Int.le_trans p2 ?_
      rcases (by omega : n = 0 ∨ n = 1 ∨ n = 2 ∨ n = 3 ∨ n = 4) with rfl | rfl | rfl | rfl | rfl <;> decide
    obtain ⟨c1, c2⟩ := carT_bd hl i (n - i)
    have d1 : 0 ≤ (prodK ks n).tdiv (ks[i]?.getD 0) := Int.tdiv_nonneg (by omega) (by omega)
    have d2 : (prodK ks n).tdiv (ks[i]?.getD 0) ≤ 160000 := by
      have := Int.natAbs_tdiv_le_natAbs (prodK ks n) (ks[i]?.getD 0)
      omega
    generalize (prodK ks n).tdiv (ks[i]?.getD 0) = D at *
    generalize carT ls i (n - i) = C at *
    have c3 : -4000 ≤ C ∧ C ≤ 4000 := by omega
    have e1 : C * D ≤ 4000 * 160000 := by
      rcases Int.lt_or_le C 0 with h | h
      · have : C * D ≤ 0 := Int.mul_nonpos_of_nonpos_of_nonneg (by omega) d1
        omega
      · exact Int.mul_le_mul c3.2 d2 d1 (by omega)
    have e2 : -(4000 * 160000) ≤ C * D := by
      rcases Int.lt_or_le C 0 with h | h
      · have : -C * D ≤ 4000 * 160000 := Int.mul_le_mul (by omega) d2 d1 (by omega)
        rw [Int.neg_mul] at this
        omega
      · have : 0 ≤ C * D := Int.mul_nonneg h d1
        omega
    omega
/-- Numbers over their smallest common denominator; parts over a denominator, in lowest terms. -/
def comQ (qs : List Rat) : List Int := qs.map (fun q => (q * (lcmQ qs : Rat)).num / ((q * (lcmQ qs : Rat)).den : Int))
def lowG (ps : List Int) (d : Int) : Nat := gcds (ps ++ [d])
theorem common_low (ps : List Int) (d : Int) (hd : 1 ≤ d) (qs : List Rat) (hq : qs = ps.map (fun p => Rat.divInt p d)) :
    (lcmQ qs : Int) = d.tdiv (lowG ps d) ∧ comQ qs = ps.map (fun p => p.tdiv (lowG ps d)) ∧ 0 < lowG ps d ∧ lcmQ qs ≤ d.toNat := by
  obtain ⟨n, rfl⟩ := Int.eq_ofNat_of_zero_le (show 0 ≤ d by omega)
  have hn : 0 < n := by omega
  have hl := common_den ps n hn
  rw [← hq] at hl
  have hg := gcds_pos (l := ps ++ [(n : Int)]) (p := (n : Int)) (by simp) (by omega)
  have hgd : gcds (ps ++ [(n : Int)]) ∣ n := by
    have := gcds_dvd_mem (l := ps ++ [(n : Int)]) (p := (n : Int)) (by simp)
    exact Int.natCast_dvd_natCast.1 this
  refine ⟨?_, ?_, hg, ?_⟩
  · rw [hl, Int.tdiv_eq_ediv_of_nonneg (by omega)]
    rfl
  · unfold comQ
    rw [hl]
    unfold lowG
    rw [hq, List.map_map]
    refine List.map_congr_left fun p hp => ?_
    have hpd := gcds_dvd_mem (l := ps ++ [(n : Int)]) (p := p) (by simp [hp])
    exact rat_floor (common_part p n _ hn hgd hpd)
  · rw [hl]
    exact Nat.le_trans (Nat.div_le_self _ _) (by simp)
theorem lcm_step (a b : Nat) (ha : 0 < a) : (a : Int) * (Rat.divInt (b : Int) (a : Int)).num = (Nat.lcm a b : Int) := by
  rw [(make_two (z1 := (b : Int)) (z2 := (a : Int)) (by omega)).1]
  have : Int.gcd (b : Int) (a : Int) = Nat.gcd a b := by
    rw [Int.gcd_natCast_natCast, Nat.gcd_comm]
  rw [this, ← Int.natCast_ediv, ← Int.natCast_mul]
  congr 1
  rw [Nat.lcm, Nat.mul_div_assoc _ (Nat.gcd_dvd_right a b)]
theorem lcmQ_pos (qs : List Rat) : 0 < lcmQ qs := by
  unfold lcmQ
  suffices h : ∀ m, 0 < m → 0 < qs.foldl (fun m q => Nat.lcm m q.den) m from h 1 (by decide)
  induction qs with
  | nil => intro m hm; exact hm
  | cons q l ih => intro m hm; exact ih _ (Nat.lcm_pos hm q.den_pos)
theorem lcmQ_take_le (qs : List Rat) (k : Nat) : lcmQ (qs.take k) ≤ lcmQ qs := by
  refine Nat.le_of_dvd (lcmQ_pos qs) ?_
  rw [lcmQ_dvd]
  intro q hq
  exact (lcmQ_dvd qs _).1 (Nat.dvd_refl _) q (List.mem_of_mem_take hq)

end Go.Proofs.YtfjcfbmfpefabaaGreat
