/- Plain law of shapes: numbers over a common denominator, divided by all that divides them, are those over the smallest common denominator; sways and shapes are the reference's. Plain law of shapes at a square: the program's parts over their denominator are the numbers of the reference, and what is missing has the same sign. Contracts of chapter 6: nodes of numbers, by the program and by the reference. Plain law of nodes: the parts of a shape are the determinants, each times a number above 0; what is missing is the last determinant; sways are sums, and Betti's law. The plain law of TopModalTwoWays: nodes with what is missing are the modes below; enclosures for twice a denominator. The law ModalStiffer, walked. A shape is stored beside its numbers. -/
import Derived.Test.YteigmjlfpmdmoaaGreatDoorK19
namespace Go.Proofs.YteigmjlfpmdmoaaGreatDoor

/-- The smallest common denominator. -/
def lcmQ (qs : List Rat) : Nat := qs.foldl (fun m q => Nat.lcm m q.den) 1
theorem lcm_fold (qs : List Rat) (m x : Nat) : qs.foldl (fun m q => Nat.lcm m q.den) m ∣ x ↔ m ∣ x ∧ ∀ q ∈ qs, q.den ∣ x := by
  induction qs generalizing m with
  | nil => simp
  | cons q l ih =>
    rw [List.foldl_cons, ih, Nat.lcm_dvd_iff]
    simp [and_assoc]
theorem lcmQ_dvd (qs : List Rat) (x : Nat) : lcmQ qs ∣ x ↔ ∀ q ∈ qs, q.den ∣ x := by
  unfold lcmQ
  rw [lcm_fold]
  simp
theorem lcmQ_take (qs : List Rat) (k : Nat) (h : k < qs.length) : lcmQ (qs.take (k + 1)) = Nat.lcm (lcmQ (qs.take k)) (qs[k]?.getD 0).den := by
  unfold lcmQ
  rw [List.take_succ_eq_append_getElem h, List.foldl_append, List.getElem?_eq_getElem h]
  rfl
theorem den_dvd (p : Int) (d x : Nat) (hd : 0 < d) : (Rat.divInt p d).den ∣ x ↔ d ∣ p.natAbs * x := by
  have e : (Rat.divInt p d).den = d / Nat.gcd p.natAbs d := by
    rw [Rat.den_divInt, if_neg (by omega), Int.gcd_comm]
    simp [Int.gcd]
  rw [e, Nat.div_dvd_iff_dvd_mul (Nat.gcd_dvd_right _ _) (Nat.gcd_pos_of_pos_right _ hd), gcd_mul_dvd]
  exact ⟨fun h => h.1, fun h => ⟨h, Nat.dvd_mul_right d x⟩⟩
/-- The parts over a common denominator, and the numbers. -/
theorem common_den (parts : List Int) (d : Nat) (hd : 0 < d) : lcmQ (parts.map (fun p => Rat.divInt p d)) = d / gcds (parts ++ [(d : Int)]) := by
  have hg := gcds_pos (l := parts ++ [(d : Int)]) (p := (d : Int)) (by simp) (by omega)
  have hgd : gcds (parts ++ [(d : Int)]) ∣ d := by
    have := gcds_dvd_mem (l := parts ++ [(d : Int)]) (p := (d : Int)) (by simp)
    exact Int.natCast_dvd_natCast.1 this
  have key : ∀ x, lcmQ (parts.map (fun p => Rat.divInt p d)) ∣ x ↔ d / gcds (parts ++ [(d : Int)]) ∣ x := by
    intro x
    rw [lcmQ_dvd, Nat.div_dvd_iff_dvd_mul hgd hg, gcds_dvd]
    constructor
    · intro h p hp
      rcases List.mem_append.1 hp with hp | hp
      · exact (den_dvd p d x hd).1 (h _ (List.mem_map_of_mem hp))
      · simp at hp
        subst hp
        simp only [Int.natAbs_natCast]
        exact Nat.dvd_mul_right d x
    · intro h q hq
      obtain ⟨p, hp, rfl⟩ := List.mem_map.1 hq
      exact (den_dvd p d x hd).2 (h p (List.mem_append_left _ hp))
  exact Nat.dvd_antisymm ((key _).2 (Nat.dvd_refl _)) ((key _).1 (Nat.dvd_refl _))
theorem rat_floor {r : Rat} {z : Int} (h : r = (z : Rat)) : r.num / (r.den : Int) = z := by subst h; simp
theorem common_part (p : Int) (d g : Nat) (hd : 0 < d) (hg : g ∣ d) (hp : (g : Int) ∣ p) : Rat.divInt p d * ((d / g : Nat) : Rat) = ((p.tdiv g : Int) : Rat) := by
  obtain ⟨N, rfl⟩ := hg
  obtain ⟨t, rfl⟩ := hp
  have hg0 : 0 < g := Nat.pos_of_mul_pos_right hd
  have hN0 : 0 < N := Nat.pos_of_mul_pos_left hd
  rw [Int.mul_tdiv_cancel_left _ (by omega), Nat.mul_div_cancel_left _ hg0, Rat.divInt_eq_div]
  have h1 : (g : Rat) ≠ 0 := by
    intro h
    simp at h
    omega
  have h2 : (N : Rat) ≠ 0 := by
    intro h
    simp at h
    omega
  push_cast
  grind

/-- What the spring below a storey carries: so many loads from the storey on. -/
def carT (ls : List Int) (i : Nat) : Nat → Int
  | 0 => 0
  | t + 1 => carT ls i t + ls[i + t]?.getD 0
theorem carT_bd {ls : List Int} (h : ∀ j : Nat, -1000 ≤ ls[j]?.getD 0 ∧ ls[j]?.getD 0 ≤ 1000) (i t : Nat) : -(1000 * (t : Int)) ≤ carT ls i t ∧ carT ls i t ≤ 1000 * (t : Int) := by
  induction t with
  | zero => simp [carT]
  | succ t ih =>
    have := h (i + t)
    show _ ≤ carT ls i t + _ ∧ carT ls i t + _ ≤ _
    omega
/-- The product of the first springs. -/
def prodK (ks : List Int) : Nat → Int
  | 0 => 1
  | i + 1 => prodK ks i * ks[i]?.getD 0
theorem prodK_bd {ks : List Int} {n : Nat} (h : ∀ j, j < n → 1 ≤ ks[j]?.getD 0 ∧ ks[j]?.getD 0 ≤ 20) (i : Nat) (hi : i ≤ n) : 1 ≤ prodK ks i ∧ prodK ks i ≤ 20 ^ i := by
  induction i with
  | zero => simp [prodK]
  | succ i ih =>
    obtain ⟨h1, h2⟩ := ih (by omega)
    obtain ⟨h3, h4⟩ := h i (by omega)
    show 1 ≤ prodK ks i * _ ∧ prodK ks i * _ ≤ _
    refine ⟨?_, ?_⟩
    · have := Int.mul_le_mul h1 h3 (by omega) (by omega)
      omega
    · rw [Int.pow_succ]
      exact Int.mul_le_mul h2 h4 (by omega) (by have : (0 : Int) ≤ 20 ^ i := Int.pow_nonneg (by omega); omega)
theorem prodK_dvd (ks : List Int) (i n : Nat) (h : i < n) : ks[i]?.getD 0 ∣ prodK ks n := by
  induction n with
  | zero => omega
  | succ n ih =>
    rcases Nat.lt_or_ge i n with h2 | h2
    · exact Int.dvd_trans (ih h2) (Int.dvd_mul_right _ _)
    · obtain rfl : i = n := by omega
      exact Int.dvd_mul_left _ _
/-- The sway of the first storeys, times the product of the springs; and itself. -/
def swP (ks ls : List Int) (n : Nat) (D : Int) : Nat → Int
  | 0 => 0
  | i + 1 => swP ks ls n D i + carT ls i (n - i) * D.tdiv (ks[i]?.getD 0)
def swQ (ks ls : List Int) (n : Nat) : Nat → Rat
  | 0 => 0
  | i + 1 => swQ ks ls n i + Rat.divInt (carT ls i (n - i)) (ks[i]?.getD 0)
theorem swP_swQ (ks ls : List Int) (n : Nat) (hk : ∀ j, j < n → 1 ≤ ks[j]?.getD 0 ∧ ks[j]?.getD 0 ≤ 20) (i : Nat) (hi : i ≤ n) : (swP ks ls n (prodK ks n) i : Rat) = swQ ks ls n i * (prodK ks n : Rat) := by
  induction i with
  | zero => simp [swP, swQ]
  | succ i ih =>
    rw [swP, swQ]
    obtain ⟨t, ht⟩ := prodK_dvd ks i n (by omega)
    obtain ⟨h1, h2⟩ := hk i (by omega)
    generalize ks[i]?.getD 0 = k at *
    have e : (prodK ks n).tdiv k = t := by rw [ht, Int.mul_tdiv_cancel_left _ (by omega)]
    rw [e, Rat.intCast_add, Rat.intCast_mul, ih (by omega), Rat.divInt_eq_div]
    have h3 : (k : Rat) ≠ 0 := by
      intro h
      have : k = 0 := by simpa using h
      omega
    have h4 : (prodK ks n : Rat) = (k : Rat) * (t : Rat) := by rw [ht, Rat.intCast_mul]
    rw [h4]
    grind
theorem swP_bd {ks ls : List Int} {n : Nat} (hn : n ≤ 4) (hk : ∀ j, j < n → 1 ≤ ks[j]?.getD 0 ∧ ks[j]?.getD 0 ≤ 20) (hl : ∀ j : Nat, -1000 ≤ ls[j]?.getD 0 ∧ ls[j]?.getD 0 ≤ 1000) (i : Nat) (hi : i ≤ n) :
    -(640000000 * (i : Int)) ≤ swP ks ls n (prodK ks n) i ∧ swP ks ls n (prodK ks n) i ≤ 640000000 * (i : Int) := by
  induction i with
  | zero => simp [swP]
  | succ i ih =>
    obtain ⟨h1, h2⟩ := ih (by omega)
    rw [swP]
    obtain ⟨k1, k2⟩ := hk i (by omega)
    obtain ⟨p1, p2⟩ := prodK_bd hk n (Nat.le_refl _)
    have p3 : prodK ks n ≤ 160000 := by
      refine Int.le_trans p2 ?_
      rcases (by omega : n = 0 ∨ n = 1 ∨ n = 2 ∨ n = 3 ∨ n = 4) with rfl | rfl | rfl | rfl | rfl <;> decide
    obtain ⟨c1, c2⟩ := carT_bd hl i (n - i)
    have d1 : 0 ≤ (prodK ks n).tdiv (ks[i]?.getD 0) := Int.tdiv_nonneg (by omega) (by omega)
    have d2 : (prodK ks n).tdiv (ks[i]?.getD 0) ≤ 160000 := by
      have := Int.natAbs_tdiv_le_natAbs (prodK ks n) (ks[i]?.getD 0)
      omega
    generalize (prodK ks n).tdiv (ks[i]?.getD 0) = D at *
    generalize carT ls i (n - i) = C at *
    have c3 : -4000 ≤ C ∧ C ≤ 4000 := by omega
    have e1 : C * D ≤ 4000 * 160000 := by
      rcases Int.lt_or_le C 0 with h | h
      · have : C * D ≤ 0 := Int.mul_nonpos_of_nonpos_of_nonneg (by omega) d1
        omega
      · exact Int.mul_le_mul c3.2 d2 d1 (by omega)
    have e2 : -(4000 * 160000) ≤ C * D := by
      rcases Int.lt_or_le C 0 with h | h
      · have : -C * D ≤ 4000 * 160000 := Int.mul_le_mul (by omega) d2 d1 (by omega)
        rw [Int.neg_mul] at this
        omega
      · have : 0 ≤ C * D := Int.mul_nonneg h d1
        omega
    omega
/-- Numbers over their smallest common denominator; parts over a denominator, in lowest terms. -/
def comQ (qs : List Rat) : List Int := qs.map (fun q => (q * (lcmQ qs : Rat)).num / ((q * (lcmQ qs : Rat)).den : Int))
def lowG (ps : List Int) (d : Int) : Nat := gcds (ps ++ [d])
theorem common_low (ps : List Int) (d : Int) (hd : 1 ≤ d) (qs : List Rat) (hq : qs = ps.map (fun p => Rat.divInt p d)) :
    (lcmQ qs : Int) = d.tdiv (lowG ps d) ∧ comQ qs = ps.map (fun p => p.tdiv (lowG ps d)) ∧ 0 < lowG ps d ∧ lcmQ qs ≤ d.toNat := by
  obtain ⟨n, rfl⟩ := Int.eq_ofNat_of_zero_le (show 0 ≤ d by omega)
  have hn : 0 < n := by omega
  have hl := common_den ps n hn
  rw [← hq] at hl
  have hg := gcds_pos (l := ps ++ [(n : Int)]) (p := (n : Int)) (by simp) (by omega)
  have hgd : gcds (ps ++ [(n : Int)]) ∣ n := by
    have := gcds_dvd_mem (l := ps ++ [(n : Int)]) (p := (n : Int)) (by simp)
    exact Int.natCast_dvd_natCast.1 this
  refine ⟨?_, ?_, hg, ?_⟩
  · rw [hl, Int.tdiv_eq_ediv_of_nonneg (by omega)]
    rfl
  · unfold comQ
    rw [hl]
    unfold lowG
    rw [hq, List.map_map]
    refine List.map_congr_left fun p hp => ?_
    have hpd := gcds_dvd_mem (l := ps ++ [(n : Int)]) (p := p) (by simp [hp])
    exact rat_floor (common_part p n _ hn hgd hpd)
  · rw [hl]
    exact Nat.le_trans (Nat.div_le_self _ _) (by simp)
theorem lcm_step (a b : Nat) (ha : 0 < a) : (a : Int) * (Rat.divInt (b : Int) (a : Int)).num = (Nat.lcm a b : Int) := by
  rw [(make_two (z1 := (b : Int)) (z2 := (a : Int)) (by omega)).1]
  have : Int.gcd (b : Int) (a : Int) = Nat.gcd a b := by
    rw [Int.gcd_natCast_natCast, Nat.gcd_comm]
  rw [this, ← Int.natCast_ediv, ← Int.natCast_mul]
  congr 1
  rw [Nat.lcm, Nat.mul_div_assoc _ (Nat.gcd_dvd_right a b)]
theorem lcmQ_pos (qs : List Rat) : 0 < lcmQ qs := by
  unfold lcmQ
  suffices h : ∀ m, 0 < m → 0 < qs.foldl (fun m q => Nat.lcm m q.den) m from h 1 (by decide)
  induction qs with
  | nil => intro m hm; exact hm
  | cons q l ih => intro m hm; exact ih _ (Nat.lcm_pos hm q.den_pos)
theorem lcmQ_take_le (qs : List Rat) (k : Nat) : lcmQ (qs.take k) ≤ lcmQ qs := by
  refine Nat.le_of_dvd (lcmQ_pos qs) ?_
  rw [lcmQ_dvd]
  intro q hq
  exact (lcmQ_dvd qs _).1 (Nat.dvd_refl _) q (List.mem_of_mem_take hq)

end Go.Proofs.YteigmjlfpmdmoaaGreatDoor

namespace Go.Proofs.YteigmjlfpmdmoaaGreatDoor

/-- The numbers of a shape at a square, the last two; and what the storey needs from above. -/
def shQ (ms ks : List Int) (q : Rat) : Nat → Rat × Rat
  | 0 => (0, 1)
  | i + 1 => ((shQ ms ks q i).2, (shQ ms ks q i).2 + (((ks[i]?.getD 0 : Int) : Rat) * ((shQ ms ks q i).2 - (shQ ms ks q i).1) - q * ((ms[i]?.getD 0 : Int) : Rat) * (shQ ms ks q i).2) / ((ks[i + 1]?.getD 0 : Int) : Rat))
def pullQ (ms ks : List Int) (q : Rat) (i : Nat) : Rat := ((ks[i]?.getD 0 : Int) : Rat) * ((shQ ms ks q i).2 - (shQ ms ks q i).1) - q * ((ms[i]?.getD 0 : Int) : Rat) * (shQ ms ks q i).2
theorem shQ_succ (ms ks : List Int) (q : Rat) (i : Nat) : (shQ ms ks q (i + 1)).2 = (shQ ms ks q i).2 + pullQ ms ks q i / ((ks[i + 1]?.getD 0 : Int) : Rat) := rfl
def shQs (ms ks : List Int) (q : Rat) (n : Nat) : List Rat := (List.range n).map (fun i => (shQ ms ks q i).2)
/-- The program's. -/
def shDen (ks : List Int) (den : Int) : Nat → Int
  | 0 => 1
  | i + 1 => shDen ks den i * (den * ks[i + 1]?.getD 0)
def pullI (ms ks : List Int) (num den : Int) (ps : List Int) (i : Nat) : Int := den * ks[i]?.getD 0 * (ps[i]?.getD 0 - (if i = 0 then 0 else ps[i - 1]?.getD 0)) - num * ms[i]?.getD 0 * ps[i]?.getD 0
def shP (ms ks : List Int) (num den : Int) : Nat → List Int
  | 0 => [1]
  | i + 1 => (shP ms ks num den i).map (fun p => p * (den * ks[i + 1]?.getD 0)) ++ [(shP ms ks num den i)[i]?.getD 0 * (den * ks[i + 1]?.getD 0) + pullI ms ks num den (shP ms ks num den i) i]
theorem shP_len (ms ks : List Int) (num den : Int) (i : Nat) : (shP ms ks num den i).length = i + 1 := by
  induction i with
  | zero => rfl
  | succ i ih => rw [shP, List.length_append, List.length_map, ih]; rfl
theorem shP_get (ms ks : List Int) (num den : Int) (i j : Nat) (hj : j ≤ i) : (shP ms ks num den (i + 1))[j]?.getD 0 = (shP ms ks num den i)[j]?.getD 0 * (den * ks[i + 1]?.getD 0) := by
  rw [shP, List.getElem?_append_left (by rw [List.length_map, shP_len]; omega), List.getElem?_map]
  have : j < (shP ms ks num den i).length := by rw [shP_len]; omega
  rw [List.getElem?_eq_getElem this]
  rfl
theorem shP_last (ms ks : List Int) (num den : Int) (i : Nat) : (shP ms ks num den (i + 1))[i + 1]?.getD 0 = (shP ms ks num den i)[i]?.getD 0 * (den * ks[i + 1]?.getD 0) + pullI ms ks num den (shP ms ks num den i) i := by
  rw [shP, List.getElem?_append_right (by rw [List.length_map, shP_len]; omega), List.length_map, shP_len]
  simp

theorem pullI_bd {ms ks : List Int} {num den : Int} {ps : List Int} {i : Nat} {M : Int} (hq : Sq num den) (hk : 1 ≤ ks[i]?.getD 0 ∧ ks[i]?.getD 0 ≤ 20) (hm : 1 ≤ ms[i]?.getD 0 ∧ ms[i]?.getD 0 ≤ 10) (hM : 0 ≤ M)
    (h1 : -M ≤ ps[i]?.getD 0 ∧ ps[i]?.getD 0 ≤ M) (h2 : -M ≤ ps[i - 1]?.getD 0 ∧ ps[i - 1]?.getD 0 ≤ M) :
    (0 ≤ den * ks[i]?.getD 0 ∧ den * ks[i]?.getD 0 ≤ 2000) ∧ (-40000 ≤ num * ms[i]?.getD 0 ∧ num * ms[i]?.getD 0 ≤ 40000) ∧ (-(4000 * M) ≤ den * ks[i]?.getD 0 * (ps[i]?.getD 0 - (if i = 0 then 0 else ps[i - 1]?.getD 0)) ∧ den * ks[i]?.getD 0 * (ps[i]?.getD 0 - (if i = 0 then 0 else ps[i - 1]?.getD 0)) ≤ 4000 * M) ∧
    (-(40000 * M) ≤ num * ms[i]?.getD 0 * ps[i]?.getD 0 ∧ num * ms[i]?.getD 0 * ps[i]?.getD 0 ≤ 40000 * M) ∧ (-(44000 * M) ≤ pullI ms ks num den ps i ∧ pullI ms ks num den ps i ≤ 44000 * M) := by
  obtain ⟨q1, q2, q3, q4⟩ := hq
  have e1 := mul_bd2 (a := den) (x := ks[i]?.getD 0) (A := 100) (C := 20) (by omega) (by omega) (by omega) (by omega)
  have e1' : 0 ≤ den * ks[i]?.getD 0 := Int.mul_nonneg (by omega) (by omega)
  have e2 := mul_bd2 (a := num) (x := ms[i]?.getD 0) (A := 4000) (C := 10) (by omega) (by omega) (by omega) (by omega)
  unfold pullI
  generalize hx : ps[i]?.getD 0 - (if i = 0 then 0 else ps[i - 1]?.getD 0) = x
  have hxb : -(2 * M) ≤ x ∧ x ≤ 2 * M := by
    rw [← hx]
    split <;> omega
  generalize den * ks[i]?.getD 0 = a at *
  generalize num * ms[i]?.getD 0 = b at *
  generalize ps[i]?.getD 0 = p at *
  have e3 := mul_bd2 (a := a) (x := x) (A := 2000) (C := 2 * M) (by omega) (by omega) hxb.1 hxb.2
  have e4 := mul_bd2 (a := b) (x := p) (A := 40000) (C := M) (by omega) (by omega) h1.1 h1.2
  have e5 : 2000 * (2 * M) = 4000 * M := by omega
  rw [e5] at e3
  generalize a * x = y at *
  generalize b * p = z at *
  omega

theorem shDen_bd {ks : List Int} {den : Int} {n : Nat} (h1 : 1 ≤ den) (h2 : den ≤ 100) (hk : ∀ j, j < n → 1 ≤ ks[j]?.getD 0 ∧ ks[j]?.getD 0 ≤ 20) (i : Nat) (hi : i < n) : 1 ≤ shDen ks den i ∧ shDen ks den i ≤ 2000 ^ i := by
  induction i with
  | zero => simp [shDen]
  | succ i ih =>
    obtain ⟨a1, a2⟩ := ih (by omega)
    obtain ⟨k1, k2⟩ := hk (i + 1) hi
    have e1 := mul_bd2 (a := den) (x := ks[i + 1]?.getD 0) (A := 100) (C := 20) (by omega) (by omega) (by omega) (by omega)
    have e2 : 1 ≤ den * ks[i + 1]?.getD 0 := by have := Int.mul_le_mul h1 k1 (by omega) (by omega); omega
    show 1 ≤ shDen ks den i * _ ∧ shDen ks den i * _ ≤ _
    refine ⟨?_, ?_⟩
    · have := Int.mul_le_mul a1 e2 (by omega) (by omega)
      omega
    · rw [Int.pow_succ]
      exact Int.mul_le_mul a2 (by omega) (by omega) (by have : (0 : Int) ≤ 2000 ^ i := Int.pow_nonneg (by omega); omega)
theorem shP_bd {ms ks : List Int} {num den : Int} {n : Nat} (hq : Sq num den) (hk : ∀ j, j < n → 1 ≤ ks[j]?.getD 0 ∧ ks[j]?.getD 0 ≤ 20) (hm : ∀ j, j < n → 1 ≤ ms[j]?.getD 0 ∧ ms[j]?.getD 0 ≤ 10) (i : Nat) (hi : i < n) (j : Nat) :
    -(46000 ^ i) ≤ (shP ms ks num den i)[j]?.getD 0 ∧ (shP ms ks num den i)[j]?.getD 0 ≤ 46000 ^ i := by
  induction i generalizing j with
  | zero =>
    rcases j with _ | j
    · simp [shP]
    · simp [shP]
  | succ i ih =>
    obtain ⟨q1, q2, q3, q4⟩ := hq
    obtain ⟨k1, k2⟩ := hk (i + 1) hi
    have e1 := mul_bd2 (a := den) (x := ks[i + 1]?.getD 0) (A := 100) (C := 20) (by omega) (by omega) (by omega) (by omega)
    have hM : (0 : Int) ≤ 46000 ^ i := Int.pow_nonneg (by omega)
    have hP : (46000 : Int) ^ (i + 1) = 46000 ^ i * 46000 := Int.pow_succ ..
    have ei := fun j => ih (by omega) j
    generalize (46000 : Int) ^ i = M at *
    rw [hP]
    rcases Nat.lt_trichotomy j (i + 1) with h | h | h
    · rw [shP_get _ _ _ _ _ _ (by omega)]
      have := mul_bd2 (a := (shP ms ks num den i)[j]?.getD 0) (x := den * ks[i + 1]?.getD 0) (A := M) (C := 2000) (ei j).1 (ei j).2 (by omega) (by omega)
      omega
    · subst h
      rw [shP_last]
      have h1 := mul_bd2 (a := (shP ms ks num den i)[i]?.getD 0) (x := den * ks[i + 1]?.getD 0) (A := M) (C := 2000) (ei i).1 (ei i).2 (by omega) (by omega)
      have h2 := (pullI_bd (ms := ms) (ks := ks) (num := num) (den := den) (ps := shP ms ks num den i) (i := i) (M := M) ⟨q1, q2, q3, q4⟩ (hk i (by omega)) (hm i (by omega)) hM (ei i) (ei (i - 1))).2.2.2.2
      omega
    · rw [List.getElem?_eq_none (by rw [shP_len]; omega)]
      simp
      omega

theorem shQ_fst (ms ks : List Int) (q : Rat) (i : Nat) : (shQ ms ks q (i + 1)).1 = (shQ ms ks q i).2 := rfl
theorem rat_ne {k : Int} (h : k ≠ 0) : (k : Rat) ≠ 0 := by
  intro h2
  exact h (by simpa using h2)
theorem pull_rel {ms ks : List Int} {num den : Int} (hd : 0 < den) (i : Nat) (D : Int) (ps : List Int) (h : ∀ j, j ≤ i → (ps[j]?.getD 0 : Rat) = (shQ ms ks (Rat.divInt num den) j).2 * (D : Rat)) :
    (pullI ms ks num den ps i : Rat) = (den : Rat) * (D : Rat) * pullQ ms ks (Rat.divInt num den) i := by
  have hq : Rat.divInt num den * (den : Rat) = (num : Rat) := by
    rw [Rat.divInt_eq_div]
    have := rat_ne (k := den) (by omega)
    grind
  unfold pullI pullQ
  have h1 := h i (by omega)
  have h2 : ((if i = 0 then 0 else ps[i - 1]?.getD 0 : Int) : Rat) = (shQ ms ks (Rat.divInt num den) i).1 * (D : Rat) := by
    rcases i with _ | i
    · simp [shQ]
    · rw [if_neg (by omega), Nat.add_sub_cancel, shQ_fst]
      exact h i (by omega)
  generalize (shQ ms ks (Rat.divInt num den) i).1 = b at *
  generalize (shQ ms ks (Rat.divInt num den) i).2 = u at *
  generalize (if i = 0 then 0 else ps[i - 1]?.getD 0 : Int) = x at *
  generalize ps[i]?.getD 0 = p at *
  generalize ks[i]?.getD 0 = k at *
  generalize ms[i]?.getD 0 = m at *
  generalize Rat.divInt num den = q at *
  push_cast
  rw [h1, h2, ← hq]
  grind
theorem shP_rel {ms ks : List Int} {num den : Int} {n : Nat} (hd : 0 < den) (hk : ∀ j, j < n → 1 ≤ ks[j]?.getD 0 ∧ ks[j]?.getD 0 ≤ 20) (i : Nat) (hi : i < n) (j : Nat) (hj : j ≤ i) :
    ((shP ms ks num den i)[j]?.getD 0 : Rat) = (shQ ms ks (Rat.divInt num den) j).2 * (shDen ks den i : Rat) := by
  induction i generalizing j with
  | zero =>
    obtain rfl : j = 0 := by omega
    simp [shP, shQ, shDen]
  | succ i ih =>
    have ih' := fun j hj => ih (by omega) j hj
    rcases (by omega : j ≤ i ∨ j = i + 1) with h | rfl
    · rw [shP_get _ _ _ _ _ _ h, shDen, Rat.intCast_mul, Rat.intCast_mul _ (den * _), ih' j h]
      grind
    · rw [shP_last, shDen, Rat.intCast_add, Rat.intCast_mul, Rat.intCast_mul _ (den * _), ih' i (by omega), pull_rel hd i (shDen ks den i) _ ih', shQ_succ, Rat.intCast_mul]
      have hk' := hk (i + 1) hi
      have := rat_ne (k := ks[i + 1]?.getD 0) (by omega)
      generalize ((ks[i + 1]?.getD 0 : Int) : Rat) = k at *
      generalize pullQ ms ks (Rat.divInt num den) i = P at *
      grind
theorem pull_sign {ms ks : List Int} {num den : Int} {n : Nat} (hd1 : 1 ≤ den) (hd2 : den ≤ 100) (hk : ∀ j, j < n → 1 ≤ ks[j]?.getD 0 ∧ ks[j]?.getD 0 ≤ 20) (i : Nat) (hi : i < n) :
    (pullQ ms ks (Rat.divInt num den) i).num.sign = (pullI ms ks num den (shP ms ks num den i) i).sign := by
  have h := pull_rel (ms := ms) (ks := ks) (num := num) (den := den) (by omega) i (shDen ks den i) (shP ms ks num den i) (fun j hj => shP_rel (by omega) hk i hi j hj)
  have hD := (shDen_bd hd1 hd2 hk i hi).1
  refine sign_of_mul (P := (den : Rat) * (shDen ks den i : Rat)) ?_ h
  rw [← Rat.intCast_mul]
  have : 0 < den * shDen ks den i := Int.mul_pos (by omega) (by omega)
  exact_mod_cast this

theorem parts_eq {ps : List Int} {d : Int} {qs : List Rat} (hd : 1 ≤ d) (hl : ps.length = qs.length) (h : ∀ j : Nat, j < qs.length → (ps[j]?.getD 0 : Rat) = (qs[j]?.getD 0) * (d : Rat)) : qs = ps.map (fun p => Rat.divInt p d) := by
  refine List.ext_getElem (by simpa using hl.symm) fun j h1 h2 => ?_
  rw [List.getElem_map]
  have := h j h1
  rw [List.getElem?_eq_getElem h1, List.getElem?_eq_getElem (by omega)] at this
  simp only [Option.getD_some] at this
  rw [Rat.divInt_eq_div, this]
  have := rat_ne (k := d) (by omega)
  grind
theorem shQs_low {ms ks : List Int} {num den : Int} {n : Nat} (hd1 : 1 ≤ den) (hd2 : den ≤ 100) (hk : ∀ j, j < n + 1 → 1 ≤ ks[j]?.getD 0 ∧ ks[j]?.getD 0 ≤ 20) :
    shQs ms ks (Rat.divInt num den) (n + 1) = (shP ms ks num den n).map (fun p => Rat.divInt p (shDen ks den n)) := by
  refine parts_eq (shDen_bd hd1 hd2 hk n (by omega)).1 (by rw [shP_len]; simp [shQs]) fun j hj => ?_
  have hj' : j < n + 1 := by simpa [shQs] using hj
  rw [shP_rel (by omega) hk n (by omega) j (by omega)]
  unfold shQs
  rw [List.getElem?_map, List.getElem?_range hj']
  rfl
def swQs (ks ls : List Int) (n : Nat) : List Rat := (List.range n).map (fun i => swQ ks ls n (i + 1))
def swPs (ks ls : List Int) (n : Nat) : List Int := (List.range n).map (fun i => swP ks ls n (prodK ks n) (i + 1))
theorem swQs_low {ks ls : List Int} {n : Nat} (hk : ∀ j, j < n → 1 ≤ ks[j]?.getD 0 ∧ ks[j]?.getD 0 ≤ 20) : swQs ks ls n = (swPs ks ls n).map (fun p => Rat.divInt p (prodK ks n)) := by
  refine parts_eq (prodK_bd hk n (Nat.le_refl _)).1 (by simp [swQs, swPs]) fun j hj => ?_
  have hj' : j < n := by simpa [swQs] using hj
  unfold swQs swPs
  rw [List.getElem?_map, List.getElem?_map, List.getElem?_range hj']
  exact swP_swQ ks ls n hk (j + 1) (by omega)
end Go.Proofs.YteigmjlfpmdmoaaGreatDoor

namespace Go.Proofs.YteigmjlfpmdmoaaGreatDoor
open Go.RowKit

/-- The count of changes of sign, and the last sign. -/
def ndStep (s : Int × Int) (n : Int) : Int × Int := (if n.sign ≠ 0 ∧ n.sign = -s.2 then s.1 + 1 else s.1, if n.sign ≠ 0 then n.sign else s.2)
def ndTo (xs : List Int) : Nat → Int × Int
  | 0 => (0, 0)
  | k + 1 => ndStep (ndTo xs k) (xs[k]?.getD 0)
theorem ndTo_bd (xs : List Int) (k : Nat) : 0 ≤ (ndTo xs k).1 ∧ (ndTo xs k).1 ≤ k ∧ -1 ≤ (ndTo xs k).2 ∧ (ndTo xs k).2 ≤ 1 := by
  induction k with
  | zero => simp [ndTo]
  | succ k ih =>
    obtain ⟨h1, h2, h3, h4⟩ := ih
    have h5 : -1 ≤ (xs[k]?.getD 0).sign ∧ (xs[k]?.getD 0).sign ≤ 1 := by
      rcases Int.lt_trichotomy (xs[k]?.getD 0) 0 with h | h | h
      · rw [Int.sign_eq_neg_one_of_neg h]; decide
      · rw [h]; decide
      · rw [Int.sign_eq_one_of_pos h]; decide
    show 0 ≤ (ndStep _ _).1 ∧ (ndStep _ _).1 ≤ _ ∧ -1 ≤ (ndStep _ _).2 ∧ (ndStep _ _).2 ≤ 1
    unfold ndStep
    dsimp only
    generalize (xs[k]?.getD 0).sign = t at *
    refine ⟨?_, ?_, ?_, ?_⟩ <;> split <;> omega

set_option maxRecDepth 100000 in
set_option maxHeartbeats 2000000 in
theorem NodesOf_any (a : Option Addr) (n c : Nat) (xs : List Int) (w : World) (h1 : SI w a n c xs) (E R : Int) (hE : (if n ≤ 60 then (0 : Int) else 8) = E) (hR : (if n ≤ 60 then (ndTo xs n).1 else 0) = R) :
    Calls Tryz.prog 30 #[.slice a n c] w fun e w' => e = .returned (.tuple #[.int .i64 R, .int .i64 E]) ∧ Below w.heap.size w w' := by
  have m1 := h1.max
  have c1 := h1.cap
  by_cases hn : n ≤ 60
  case neg =>
    rw [if_neg hn] at hE hR
    subst hE hR
    have hgt : (60 : Int) < (n : Int) := by omega
    clear hn
    go_enter Tryz.func30, Tryz.ntmps30
    go_wp2_with fail
    all_goals first | (exfalso; omega) | skip
    exact bodyPost_ret (v := .tuple #[.int .i64 0, .int .i64 8]) (by simp [results, Tryz.results30, go_sem]) rfl ⟨rfl, Below.refl _ _⟩
  rw [if_pos hn] at hE hR
  subst hE
  have HR := Lib.hid hR
  clear hR
  have hle : (n : Int) ≤ 60 := by omega
  go_enter Tryz.func30, Tryz.ntmps30
  go_wp2_with fail
  go_loopw [4, 5, 14] (fun x y z wr => ∃ (k : Nat) (p q : Int), k ≤ n ∧ x = .int .i64 p ∧ y = .int .i64 q ∧ z = .int .i64 (k : Int) ∧ Hid (ndTo xs k = (p, q)) ∧ Below w.heap.size w wr) (fun _ _ z _ => n - (intOf z).toNat)
  case atStart => exact ⟨0, 0, 0, by omega, rfl, rfl, rfl, Lib.hid rfl, Below.refl _ _⟩
  case round =>
    obtain ⟨k, p, q, hk0, rfl, rfl, rfl, HK, hbr⟩ := hrel
    have hbd := ndTo_bd xs k
    rw [HK.out] at hbd
    dsimp only at hbd
    obtain ⟨b1, b2, b3, b4⟩ := hbd
    by_cases hlt : k < n
    · obtain ⟨ba, oa, rfl, hca⟩ := (h1.keep hbr).at_ (by omega)
      have ea := hca k hlt
      have hstep : ndTo xs (k + 1) = ndStep (p, q) (xs[k]?.getD 0) := by rw [← HK.out]; rfl
      obtain ⟨x, hx⟩ : ∃ v, xs[k]?.getD 0 = v := ⟨_, rfl⟩
      rw [hx] at ea hstep
      obtain ⟨s, hs⟩ : ∃ v, x.sign = v := ⟨_, rfl⟩
      have hs3 : s = -1 ∨ s = 0 ∨ s = 1 := by
        rw [← hs]
        rcases Int.lt_trichotomy x 0 with h | h | h
        · exact .inl (Int.sign_eq_neg_one_of_neg h)
        · exact .inr (.inl (by rw [h]; rfl))
        · exact .inr (.inr (Int.sign_eq_one_of_pos h))
      unfold ndStep at hstep
      dsimp only at hstep
      rw [hs] at hstep
      have HST := Lib.hid hstep
      have HS := Lib.hid hs
      clear hca hx hs hstep
      have hi : (k : Int) < (n : Int) := by omega
      have hi0 : (0 : Int) ≤ (k : Int) := by omega
      go_wp2_with fail
      refine (sign_any x _).mono ?_
      rintro e w1 ⟨rfl, rfl⟩
      rw [HS.out]
      clear HS HK
      have hq3 : q = -1 ∨ q = 0 ∨ q = 1 := by omega
      rcases hs3 with rfl | rfl | rfl <;> rcases hq3 with rfl | rfl | rfl
      all_goals
        go_wp2_with fail
        go_roundw
        case rel => exact ⟨k + 1, _, _, by omega, rfl, rfl, by go_num, Lib.hid (by simpa using HST.out), hbr⟩
        case measure => simp [intOf]; omega
    · have hle2 : (n : Int) ≤ (k : Int) := by omega
      obtain rfl : k = n := by omega
      obtain rfl : p = R := by have := HR.out; rw [HK.out] at this; exact this
      go_wp2_with fail
      exact bodyPost_ret (v := .tuple #[.int .i64 p, .int .i64 0]) (by simp [results, Tryz.results30, go_sem]) rfl ⟨rfl, hbr⟩

theorem sg3 (l : Int) : (l < 0 ∧ l.sign = -1 ∧ (l != 0) = true ∧ decide (l < 0) = true) ∨ l = 0 ∨ (0 < l ∧ l.sign = 1 ∧ (l != 0) = true ∧ decide (l < 0) = false) := by
  rcases Int.lt_trichotomy l 0 with h | h | h
  · exact .inl ⟨h, Int.sign_eq_neg_one_of_neg h, by rw [bne_iff_ne]; omega, decide_eq_true h⟩
  · exact .inr (.inl h)
  · exact .inr (.inr ⟨h, Int.sign_eq_one_of_pos h, by rw [bne_iff_ne]; omega, decide_eq_false (by omega)⟩)

end Go.Proofs.YteigmjlfpmdmoaaGreatDoor

namespace Go.Proofs.YteigmjlfpmdmoaaGreatDoor

/-- The last two parts are determinants. -/
theorem shP_det (ms ks : List Int) (num den : Int) (i : Nat) : (shP ms ks num den i)[i]?.getD 0 = (detRow ms ks num den i).2 ∧ (0 < i → (shP ms ks num den i)[i - 1]?.getD 0 = (detRow ms ks num den i).1 * (den * ks[i]?.getD 0)) := by
  induction i with
  | zero => exact ⟨rfl, fun h => absurd h (by omega)⟩
  | succ i ih =>
    obtain ⟨h1, h2⟩ := ih
    refine ⟨?_, fun _ => ?_⟩
    · rw [shP_last, h1, pullI, h1]
      show _ = detNext _ _ _ num den i _ _
      unfold detNext
      rcases Nat.eq_zero_or_pos i with rfl | hi
      · rw [if_pos rfl, if_pos rfl]
        grind
      · rw [if_neg (by omega), if_neg (by omega), h2 hi]
        grind
    · rw [Nat.add_sub_cancel, shP_get _ _ _ _ _ _ (Nat.le_refl _), h1]
      rfl
theorem pull_det (ms ks : List Int) (num den : Int) (i : Nat) (hk : ks[i + 1]?.getD 0 = 0) : pullI ms ks num den (shP ms ks num den i) i = (detRow ms ks num den (i + 1)).2 := by
  have h := (shP_det ms ks num den (i + 1)).1
  rw [shP_last, hk] at h
  rw [← h]
  grind
theorem sign_mul_pos {a c : Int} (h : 0 < c) : (a * c).sign = a.sign := by
  rw [Int.sign_mul, Int.sign_eq_one_of_pos h, Int.mul_one]
theorem shP_sign {ms ks : List Int} {num den : Int} {n : Nat} (hd : 0 < den) (hk : ∀ j, j < n → 1 ≤ ks[j]?.getD 0 ∧ ks[j]?.getD 0 ≤ 20) (i : Nat) (hi : i < n) (j : Nat) (hj : j ≤ i) :
    ((shP ms ks num den i)[j]?.getD 0).sign = (detRow ms ks num den j).2.sign := by
  induction i with
  | zero =>
    obtain rfl : j = 0 := by omega
    rfl
  | succ i ih =>
    rcases Nat.lt_or_ge i j with h | h
    · obtain rfl : j = i + 1 := by omega
      rw [(shP_det ms ks num den (i + 1)).1]
    · rw [shP_get _ _ _ _ _ _ h, sign_mul_pos (Int.mul_pos hd (by have := hk (i + 1) hi; omega)), ih (by omega) h]
theorem shP_zero (ms ks : List Int) (num den : Int) (i : Nat) : (shP ms ks num den i)[0]?.getD 0 = shDen ks den i := by
  induction i with
  | zero => rfl
  | succ i ih => rw [shP_get _ _ _ _ _ _ (Nat.zero_le _), ih]; rfl
theorem tdiv_sign {p : Int} {g : Nat} (h : (g : Int) ∣ p) (hg : 0 < g) : (p.tdiv g).sign = p.sign := by
  obtain ⟨t, rfl⟩ := h
  rw [Int.mul_tdiv_cancel_left _ (by omega), Int.mul_comm, sign_mul_pos (by omega)]
theorem ndTo_bAll (ms ks : List Int) (num den : Int) (xs : List Int) (n : Nat) (h : ∀ j, j < n + 1 → (xs[j]?.getD 0).sign = (detRow ms ks num den j).2.sign) (j : Nat) (hj : j ≤ n) :
    (ndTo xs (j + 1)).1 = (bAll (dets ms ks num den j)).1 ∧ (ndTo xs (j + 1)).2 = (bAll (dets ms ks num den j)).2.1 ∧ ((bAll (dets ms ks num den j)).2.1 = 1 ∨ (bAll (dets ms ks num den j)).2.1 = -1) := by
  induction j with
  | zero =>
    have h0 := h 0 (by omega)
    have h1 : (xs[0]?.getD 0).sign = 1 := h0
    refine ⟨?_, ?_, .inl rfl⟩
    · show (ndStep (0, 0) (xs[0]?.getD 0)).1 = 0
      unfold ndStep
      rw [h1]
      rfl
    · show (ndStep (0, 0) (xs[0]?.getD 0)).2 = 1
      unfold ndStep
      rw [h1]
      rfl
  | succ j ih =>
    obtain ⟨h1, h2, h3⟩ := ih (by omega)
    have hs := h (j + 1) (by omega)
    rw [dets_succ, bAll_snoc]
    show (ndStep (ndTo xs (j + 1)) (xs[j + 1]?.getD 0)).1 = _ ∧ (ndStep (ndTo xs (j + 1)) (xs[j + 1]?.getD 0)).2 = _ ∧ _
    unfold ndStep bStep
    rw [hs, h1, h2]
    generalize (detRow ms ks num den (j + 1)).2 = d at *
    generalize bAll (dets ms ks num den j) = st at *
    have hd : d.sign = 0 ∨ d.sign = 1 ∨ d.sign = -1 := by
      rcases Int.lt_trichotomy d 0 with h | h | h
      · exact .inr (.inr (Int.sign_eq_neg_one_of_neg h))
      · subst h; exact .inl rfl
      · exact .inr (.inl (Int.sign_eq_one_of_pos h))
    rcases hd with hd | hd | hd <;> rcases h3 with h3 | h3 <;> rw [hd, h3] <;> simp
theorem bAll_last (ms ks : List Int) (num den : Int) (n : Nat) : (bAll (dets ms ks num den (n + 1))).2.2 = (detRow ms ks num den (n + 1)).2 := by
  rw [dets_succ, bAll_snoc]
  unfold bStep
  split <;> rfl
theorem bAll_zero (ms ks : List Int) (num den : Int) (n : Nat) (h : (detRow ms ks num den (n + 1)).2 = 0) : (bAll (dets ms ks num den (n + 1))).1 = (bAll (dets ms ks num den n)).1 := by
  rw [dets_succ, bAll_snoc, h]
  unfold bStep
  rw [if_neg (by simp)]
/-- The law of nodes. -/
theorem nodes_law {ms ks : List Int} {x y R S : Int} {xs : List Int} {n : Nat} (hf : Fr ms ks) (hn : ms.length = n) (hy : 0 < y)
    (hR : (shDen ks y (n - 1)).tdiv (lowG (shP ms ks x y (n - 1)) (shDen ks y (n - 1))) = R) (hX : (shP ms ks x y (n - 1)).map (fun p => p.tdiv (lowG (shP ms ks x y (n - 1)) (shDen ks y (n - 1)))) = xs)
    (hS : (pullI ms ks x y (shP ms ks x y (n - 1)) (n - 1)).sign = S) :
    modeF ms ks x y = (S == 0) ∧ (modeF ms ks x y = true → (ndTo xs n).1 = belowF ms ks x y) ∧ xs[0]?.getD 0 = R := by
  obtain ⟨i, rfl⟩ : ∃ i, n = i + 1 := ⟨n - 1, by have := hf.pos; omega⟩
  rw [Nat.add_sub_cancel] at hR hX hS
  have hk : ∀ j, j < i + 1 → 1 ≤ ks[j]?.getD 0 ∧ ks[j]?.getD 0 ≤ 20 := fun j hj => hf.k j (by omega)
  have hk0 : ks[i + 1]?.getD 0 = 0 := by
    rw [List.getElem?_eq_none (by have := hf.len; omega)]
    rfl
  have hD : shDen ks y i ≠ 0 := by
    have : ∀ j, j ≤ i → 0 < shDen ks y j := by
      intro j hj
      induction j with
      | zero => exact Int.one_pos
      | succ j ih => exact Int.mul_pos (ih (by omega)) (Int.mul_pos hy (by have := hk (j + 1) (by omega); omega))
    have := this i (Nat.le_refl _)
    omega
  have hmem : shDen ks y i ∈ shP ms ks x y i ++ [shDen ks y i] := by simp
  have hg : 0 < lowG (shP ms ks x y i) (shDen ks y i) := gcds_pos hmem hD
  have hdv : ∀ p ∈ shP ms ks x y i, ((lowG (shP ms ks x y i) (shDen ks y i) : Nat) : Int) ∣ p := fun p hp => gcds_dvd_mem (List.mem_append_left _ hp)
  have hlen := shP_len ms ks x y i
  have hget : ∀ j, j < i + 1 → xs[j]?.getD 0 = ((shP ms ks x y i)[j]?.getD 0).tdiv (lowG (shP ms ks x y i) (shDen ks y i)) ∧ (shP ms ks x y i)[j]?.getD 0 ∈ shP ms ks x y i := by
    intro j hj
    rw [← hX, List.getElem?_map, List.getElem?_eq_getElem (by omega)]
    exact ⟨rfl, List.getElem_mem _⟩
  rw [pull_det _ _ _ _ _ hk0] at hS
  have hsg : ∀ j, j < i + 1 → (xs[j]?.getD 0).sign = (detRow ms ks x y j).2.sign := by
    intro j hj
    obtain ⟨h1, h2⟩ := hget j hj
    rw [h1, tdiv_sign (hdv _ h2) hg, shP_sign hy hk i (by omega) j (by omega)]
  have hm : modeF ms ks x y = (S == 0) := by
    unfold modeF
    rw [hn, bAll_last, ← hS]
    rcases Int.lt_trichotomy (detRow ms ks x y (i + 1)).2 0 with h | h | h
    · rw [Int.sign_eq_neg_one_of_neg h]
      rw [beq_eq_false_iff_ne.2 (by omega)]
      rfl
    · rw [h]
      rfl
    · rw [Int.sign_eq_one_of_pos h]
      rw [beq_eq_false_iff_ne.2 (by omega)]
      rfl
  refine ⟨hm, fun hh => ?_, ?_⟩
  · obtain ⟨h1, _, _⟩ := ndTo_bAll ms ks x y xs i hsg i (Nat.le_refl _)
    rw [h1]
    unfold belowF
    rw [hn, bAll_zero]
    unfold modeF at hh
    rw [hn, bAll_last] at hh
    simpa using hh
  · rw [(hget 0 (by omega)).1, shP_zero, hR]
end Go.Proofs.YteigmjlfpmdmoaaGreatDoor

namespace Go.Proofs.YteigmjlfpmdmoaaGreatDoor

/-- The nodes of a shape, what is missing counted as one more number. -/
theorem nodes_all {ms ks : List Int} {x y S : Int} {xs : List Int} {n : Nat} (hf : Fr ms ks) (hn : ms.length = n) (hy : 0 < y)
    (hX : (shP ms ks x y (n - 1)).map (fun p => p.tdiv (lowG (shP ms ks x y (n - 1)) (shDen ks y (n - 1)))) = xs)
    (hS : (pullI ms ks x y (shP ms ks x y (n - 1)) (n - 1)).sign = S) :
    (ndTo (xs ++ [S]) (n + 1)).1 = belowF ms ks x y := by
  obtain ⟨i, rfl⟩ : ∃ i, n = i + 1 := ⟨n - 1, by have := hf.pos; omega⟩
  rw [Nat.add_sub_cancel] at hX hS
  have hk : ∀ j, j < i + 1 → 1 ≤ ks[j]?.getD 0 ∧ ks[j]?.getD 0 ≤ 20 := fun j hj => hf.k j (by omega)
  have hk0 : ks[i + 1]?.getD 0 = 0 := by
    rw [List.getElem?_eq_none (by have := hf.len; omega)]
    rfl
  have hD : shDen ks y i ≠ 0 := by
    have : ∀ j, j ≤ i → 0 < shDen ks y j := by
      intro j hj
      induction j with
      | zero => exact Int.one_pos
      | succ j ih => exact Int.mul_pos (ih (by omega)) (Int.mul_pos hy (by have := hk (j + 1) (by omega); omega))
    have := this i (Nat.le_refl _)
    omega
  have hmem : shDen ks y i ∈ shP ms ks x y i ++ [shDen ks y i] := by simp
  have hg : 0 < lowG (shP ms ks x y i) (shDen ks y i) := gcds_pos hmem hD
  have hdv : ∀ p ∈ shP ms ks x y i, ((lowG (shP ms ks x y i) (shDen ks y i) : Nat) : Int) ∣ p := fun p hp => gcds_dvd_mem (List.mem_append_left _ hp)
  have hlen := shP_len ms ks x y i
  have hxl : xs.length = i + 1 := by rw [← hX, List.length_map, hlen]
  rw [pull_det _ _ _ _ _ hk0] at hS
  have hsg : ∀ j, j < (i + 1) + 1 → ((xs ++ [S])[j]?.getD 0).sign = (detRow ms ks x y j).2.sign := by
    intro j hj
    by_cases hj2 : j < i + 1
    · rw [List.getElem?_append_left (by omega), ← hX, List.getElem?_map, List.getElem?_eq_getElem (by omega)]
      simp only [Option.map_some, Option.getD_some]
      have h1 := shP_sign (ms := ms) (ks := ks) (num := x) hy hk i (by omega) j (by omega)
      rw [List.getElem?_eq_getElem (by omega)] at h1
      simp only [Option.getD_some] at h1
      rw [tdiv_sign (hdv _ (List.getElem_mem _)) hg, h1]
    · obtain rfl : j = i + 1 := by omega
      rw [List.getElem?_append_right (by omega), hxl, Nat.sub_self]
      simp only [List.getElem?_cons_zero, Option.getD_some]
      rw [← hS, Int.sign_sign]
  obtain ⟨h1, _, _⟩ := ndTo_bAll ms ks x y (xs ++ [S]) (i + 1) hsg (i + 1) (Nat.le_refl _)
  rw [h1]
  unfold belowF
  rw [hn]
theorem shape_plain (ms ks : List Int) (x y : Int) {n : Nat} (h0 : 0 < n) :
    ∃ (R : Int) (xs : List Int) (S : Int), (shDen ks y (n - 1)).tdiv (lowG (shP ms ks x y (n - 1)) (shDen ks y (n - 1))) = R ∧ (shP ms ks x y (n - 1)).map (fun p => p.tdiv (lowG (shP ms ks x y (n - 1)) (shDen ks y (n - 1)))) = xs ∧ (pullI ms ks x y (shP ms ks x y (n - 1)) (n - 1)).sign = S ∧ xs.length = n :=
  ⟨_, _, _, rfl, rfl, rfl, by rw [List.length_map, shP_len]; omega⟩

theorem below_twice {ms ks : List Int} (h : Fr ms ks) {num den : Int} (hd : 0 < den) : belowF ms ks (2 * num) (2 * den) = belowF ms ks num den := by
  have e1 : 2 * num * den = num * (2 * den) := by grind
  have a := below_mono h (num := 2 * num) (den := 2 * den) (num' := num) (den' := den) (by omega) hd (by omega)
  have b := below_mono h (num := num) (den := den) (num' := 2 * num) (den' := 2 * den) hd (by omega) (by omega)
  omega
theorem mode_twice {ms ks : List Int} (h : Fr ms ks) {num den : Int} (hd : 0 < den) (hm : modeF ms ks num den = true) : modeF ms ks (2 * num) (2 * den) = true := by
  have hd2 : 0 < 2 * den := by omega
  have hb := below_twice h (num := num) hd
  rw [below_phs _ _ hd h.kp, below_phs _ _ hd2 h.kp] at hb
  rw [mode_phs _ _ hd h.kp] at hm
  rw [mode_phs _ _ hd2 h.kp]
  refine (phs_mono hd hd2 ms.length h.kp (fun i _ => ?_)).mode hd (h.good hd) hb.symm hm (h.good hd2)
  have e1 : num * ms[i]?.getD 0 * (2 * den) = 2 * num * ms[i]?.getD 0 * den := by grind
  omega
theorem encF_lo (ms ks : List Int) (mode den : Int) : (encF ms ks mode den).1 = encLo ms ks mode den := by
  unfold encF; split <;> rfl
/-- Enclosures for a denominator contain those for twice this denominator. -/
theorem enc_twice {ms ks : List Int} (h : Fr ms ks) {mode : Nat} (hm : mode < ms.length) {den : Int} (hd : 1 ≤ den) (hd2 : den ≤ 25) {lo hi lo' hi' : Int} (e1 : encF ms ks mode den = (lo, hi)) (e2 : encF ms ks mode (2 * den) = (lo', hi')) :
    0 ≤ lo ∧ lo ≤ 2000 ∧ 0 ≤ hi ∧ hi ≤ 2001 ∧ 2 * lo ≤ lo' ∧ hi' ≤ 2 * hi ∧ lo' ≤ hi' ∧ 0 ≤ lo' ∧ lo' ≤ 4000 := by
  have hd0 : 0 < den := by omega
  have hd3 : 0 < 2 * den := by omega
  obtain ⟨a1, a2, a3, a4⟩ := encLo_ok h (mode := mode) hd0 (by omega) (by omega) (by omega)
  obtain ⟨b1, b2, b3, b4⟩ := encLo_ok h (mode := mode) hd3 (by omega) (by omega) (by omega)
  have l1 := encF_lo ms ks mode den
  have l2 := encF_lo ms ks mode (2 * den)
  rw [e1] at l1
  rw [e2] at l2
  dsimp only at l1 l2
  rw [← l1] at a1 a2 a3 a4
  rw [← l2] at b1 b2 b3 b4
  have hlo : 2 * lo ≤ lo' := by
    rcases Int.lt_or_le lo' (2 * lo) with h1 | h1
    · have := b4 _ h1
      rw [below_twice h hd0] at this
      omega
    · exact h1
  have hle : ∀ k, belowF ms ks k den > mode → lo' < 2 * k := fun k hk => by
    rcases Int.lt_or_le lo' (2 * k) with h1 | h1
    · exact h1
    · have := below_mono h (num := 2 * k) (den := 2 * den) (num' := lo') (den' := 2 * den) hd3 hd3 (Int.mul_le_mul_of_nonneg_right h1 (by omega))
      rw [below_twice h hd0] at this
      omega
  have g1 := e1
  have g2 := e2
  unfold encF at g1 g2
  rw [← l1] at g1
  rw [← l2] at g2
  split at g1
  · rename_i hc
    obtain ⟨_, rfl⟩ := Prod.mk.inj g1
    have hmo := mode_twice h hd0 hc.1
    have hbe := below_twice h (num := lo) hd0
    have hup : lo' ≤ 2 * lo := by
      rcases Int.lt_or_le (2 * lo) lo' with h1 | h1
      · have := below_mode h (num := 2 * lo) (den := 2 * den) (num' := lo') (den' := 2 * den) hd3 hd3 (Int.mul_lt_mul_of_pos_right h1 hd3) hmo
        have := hc.2
        omega
      · exact h1
    obtain rfl : lo' = 2 * lo := by omega
    rw [if_pos ⟨hmo, by rw [hbe]; exact hc.2⟩] at g2
    obtain ⟨_, rfl⟩ := Prod.mk.inj g2
    omega
  · obtain ⟨_, rfl⟩ := Prod.mk.inj g1
    have h1 := hle (lo + 1) (a4 _ (by omega))
    split at g2
    · obtain ⟨_, rfl⟩ := Prod.mk.inj g2
      omega
    · obtain ⟨_, rfl⟩ := Prod.mk.inj g2
      omega
end Go.Proofs.YteigmjlfpmdmoaaGreatDoor

namespace Go.Proofs.YteigmjlfpmdmoaaGreatDoor
open Go.RowKit
open Calmly (Kept)

theorem box3 {w W w1 : World} {o o' o'' : Obj} (h : Below W.heap.size W w1) (hW : W.heap = (((w.alloc o).alloc o').alloc o'').heap := by rfl) : w1.heap[w.heap.size]? = some o ∧ w1.heap[w.heap.size + 1]? = some o' ∧ w1.heap[w.heap.size + 1 + 1]? = some o'' := by
  have h0 : Below ((w.alloc o).alloc o').heap.size ((w.alloc o).alloc o') (((w.alloc o).alloc o').alloc o'') := (Below.refl _ _).alloc (Nat.le_refl _) _
  obtain ⟨e1, e2⟩ := box2 (w := w) (o := o) (o' := o') h0
  have e3 := alloc_new ((w.alloc o).alloc o') o''
  simp only [World.size_alloc] at e3
  refine ⟨?_, ?_, ?_⟩
  · rw [h.block _ (by rw [hW]; simp <;> omega), hW]; exact e1
  · rw [h.block _ (by rw [hW]; simp), hW]; exact e2
  · rw [h.block _ (by rw [hW]; simp), hW]; exact e3

theorem kept_allocB {W w : World} {o : Obj} {G : Prop} (h : Below W.heap.size W w) (k : Below w.heap.size w (w.alloc o) → Below W.heap.size W (w.alloc o) → (w.alloc o).heap[w.heap.size]? = some o → G) : Kept W (w.alloc o) ∧ G :=
  ⟨kept_of (h.alloc h.size o), k ((Below.refl _ _).alloc (Nat.le_refl _) _) (h.alloc h.size o) (alloc_new w o)⟩

theorem OwI.other {w : World} {B g n c : Nat} {xs : List Int} (h : OwI w B (some ⟨g, 0, none⟩) n c xs) {r o : Nat} (hr : r ≠ g) (v : Value) : OwI (w.setCell ⟨r, o, none⟩ v) B (some ⟨g, 0, none⟩) n c xs := by
  obtain ⟨h1, h2⟩ := h
  refine ⟨h1, ?_⟩
  rcases h2 with ⟨h2, _⟩ | ⟨g', cap, cur, hv, hg, hh, r'⟩
  · cases h2
  · cases hv
    refine .inr ⟨_, _, _, rfl, hg, ?_, r'⟩
    rw [Below.heap_setCell _ _ _ _ (by show g ≠ r; omega)]
    exact hh
theorem checkF_setm {ms ks : List Int} (he : (checkF ms ks).2 = 0) (i : Nat) (x : Int) (h1 : 1 ≤ x) (h2 : x ≤ 10) : (checkF (ms.set i x) ks).2 = 0 := by
  obtain ⟨q1, q2, q3, q4, q5⟩ := checkF_ok he
  have hl : (ms.set i x).length = ms.length := by simp
  rw [checkF_rest (by omega) (by omega)]
  have := badF_ok (ms.set i x) ks 0 (by omega) (fun j hj => by
    rw [List.getElem?_set]
    split
    · split
      · exact ⟨h1, h2⟩
      · omega
    · exact q4 j (by omega)) (fun j hj => q5 j (by omega)) (by omega)
  simp only [List.drop_zero] at this
  rw [this]
theorem stiff_facts {ms ks : List Int} (he : (checkF ms ks).2 = 0) (i mode : Nat) (hi : i < ms.length) (hm : mode < ms.length) {K1 M1 : Int} (hK : ks[i]?.getD 0 ≤ K1) (hK2 : K1 ≤ 20) (hM : ms[i]?.getD 0 ≤ M1) (hM2 : M1 ≤ 10) {x y : Int} (hs : squareE x y = 0) :
    (checkF ms (ks.set i K1)).2 = 0 ∧ (checkF (ms.set i M1) ks).2 = 0 ∧ belowF ms (ks.set i K1) x y ≤ belowF ms ks x y ∧ belowF ms ks x y ≤ belowF (ms.set i M1) ks x y ∧
    (encF (ms.set i M1) ks mode 10).1 ≤ (encF ms ks mode 10).1 ∧ (encF (ms.set i M1) ks mode 10).2 ≤ (encF ms ks mode 10).2 ∧ (encF ms ks mode 10).1 ≤ (encF ms (ks.set i K1) mode 10).1 ∧ (encF ms ks mode 10).2 ≤ (encF ms (ks.set i K1) mode 10).2 := by
  have fr := fr_of he
  have h1 := fr.m i hi
  have h2 := fr.k i hi
  have c1 := checkF_set he i K1 (by omega) hK2
  have c2 := checkF_setm he i M1 (by omega) hM2
  have f1 := fr_of c1
  have f2 := fr_of c2
  have hl : (ms.set i M1).length = ms.length := by simp
  obtain ⟨_, hy, _⟩ := squareE_ok hs
  have e1 : ks.set i K1 = ks.set i (ks[i]?.getD 0 + (K1 - ks[i]?.getD 0)) := by congr 1; omega
  have sp : ∀ {num den : Int}, 0 < den → Le den den (phs ms (ks.set i K1) num den ms.length) (phs ms ks num den ms.length) := fun hd => by
    rw [e1]
    exact spring_le fr i hi (by omega) hd
  have hmm : ∀ j, j < ms.length → ms[j]?.getD 0 ≤ (ms.set i M1)[j]?.getD 0 := fun j hj => by
    rw [List.getElem?_set]
    split
    · rename_i h
      subst h
      exact hM
    · exact Int.le_refl _
  refine ⟨c1, c2, ?_, ?_, ?_⟩
  · rw [below_phs x y hy fr.kp, below_phs x y hy f1.kp]
    exact (sp hy).count
  · rcases Int.lt_or_le x 0 with h | h
    · rw [(below_zero fr hy (by omega)).1, (below_zero f2 hy (by omega)).1]
      exact Int.le_refl _
    · rw [below_phs x y hy fr.kp, below_phs x y hy f2.kp, hl]
      exact (mass_le fr hmm h hy).count
  · obtain ⟨a1, a2⟩ := enc_le fr f1 rfl (mode := mode) (den := 10) (by decide) (by decide) (by omega) (by omega) (fun num _ => sp (by decide))
    obtain ⟨b1, b2⟩ := enc_le f2 fr hl.symm (mode := mode) (den := 10) (by decide) (by decide) (by omega) (by omega) (fun num hn => by rw [hl]; exact mass_le fr hmm hn (by decide))
    exact ⟨b1, b2, a1, a2⟩

/-- Two copies of a frame, each in its variable. -/
def Four (w5 : World) (b9 b10 ga1 gb1 ga2 gb2 c1' d1' c2' d2' n m : Nat) (ms ks : List Int) (v : World) : Prop :=
  Below w5.heap.size w5 v ∧ v.heap[b9]? = some (.cells #[.slice (some ⟨ga1, 0, none⟩) n c1', .slice (some ⟨gb1, 0, none⟩) m d1'] 52) ∧ v.heap[b10]? = some (.cells #[.slice (some ⟨ga2, 0, none⟩) n c2', .slice (some ⟨gb2, 0, none⟩) m d2'] 52) ∧
  OwI v w5.heap.size (some ⟨ga1, 0, none⟩) n c1' ms ∧ OwI v w5.heap.size (some ⟨gb1, 0, none⟩) m d1' ks ∧ OwI v w5.heap.size (some ⟨ga2, 0, none⟩) n c2' ms ∧ OwI v w5.heap.size (some ⟨gb2, 0, none⟩) m d2' ks ∧
  gb1 ≠ ga1 ∧ gb1 ≠ ga2 ∧ gb1 ≠ gb2 ∧ gb1 ≠ b9 ∧ gb1 ≠ b10 ∧ ga2 ≠ ga1 ∧ ga2 ≠ gb2 ∧ ga2 ≠ b9 ∧ ga2 ≠ b10 ∧ w5.heap.size ≤ b9 ∧ w5.heap.size ≤ b10
theorem four {w5 w' : World} {b9 b10 ga1 gb1 ga2 gb2 c1' d1' c2' d2' n m B1 B2 B3 B4 : Nat} {ms ks : List Int} {x0 x1 y0 y1 : Value} (hk : Below w5.heap.size w5 w')
    (p9 : w'.heap[b9]? = some (.cells #[x0, x1] 52)) (p10 : w'.heap[b10]? = some (.cells #[y0, y1] 52))
    (oA1 : OwI w' B1 (some ⟨ga1, 0, none⟩) n c1' ms) (oB1 : OwI w' B2 (some ⟨gb1, 0, none⟩) m d1' ks) (oA2 : OwI w' B3 (some ⟨ga2, 0, none⟩) n c2' ms) (oB2 : OwI w' B4 (some ⟨gb2, 0, none⟩) m d2' ks)
    (h1 : w5.heap.size ≤ B1 ∧ w5.heap.size ≤ B2 ∧ w5.heap.size ≤ B3 ∧ w5.heap.size ≤ B4) (h2 : gb1 ≠ ga1 ∧ gb1 ≠ ga2) (h3 : gb1 ≠ gb2) (h4 : gb1 ≠ b9 ∧ gb1 ≠ b10) (h5 : ga2 ≠ ga1) (h6 : ga2 ≠ gb2) (h7 : ga2 ≠ b9) (h8 : ga2 ≠ b10) (h9 : w5.heap.size ≤ b9 ∧ w5.heap.size ≤ b10) (h10 : b9 ≠ b10) (h11 : ga1 ≠ b9 ∧ ga1 ≠ b10) (h12 : gb2 ≠ b9 ∧ gb2 ≠ b10) :
    Four w5 b9 b10 ga1 gb1 ga2 gb2 c1' d1' c2' d2' n m ms ks ((((w'.setCell ⟨b9, 0, none⟩ (.slice (some ⟨ga1, 0, none⟩) n c1')).setCell ⟨b9, 1, none⟩ (.slice (some ⟨gb1, 0, none⟩) m d1')).setCell ⟨b10, 0, none⟩ (.slice (some ⟨ga2, 0, none⟩) n c2')).setCell ⟨b10, 1, none⟩ (.slice (some ⟨gb2, 0, none⟩) m d2')) := by
  have four : ∀ {B g k c : Nat} {xs : List Int}, OwI w' B (some ⟨g, 0, none⟩) k c xs → w5.heap.size ≤ B → b9 ≠ g → b10 ≠ g → OwI ((((w'.setCell ⟨b9, 0, none⟩ (.slice (some ⟨ga1, 0, none⟩) n c1')).setCell ⟨b9, 1, none⟩ (.slice (some ⟨gb1, 0, none⟩) m d1')).setCell ⟨b10, 0, none⟩ (.slice (some ⟨ga2, 0, none⟩) n c2')).setCell ⟨b10, 1, none⟩ (.slice (some ⟨gb2, 0, none⟩) m d2')) w5.heap.size (some ⟨g, 0, none⟩) k c xs :=
    fun h hB e1 e2 => ((((h.other e1 _).other e1 _).other e2 _).other e2 _).weak hB
  refine ⟨(((hk.setCell h9.1 _).setCell h9.1 _).setCell h9.2 _).setCell h9.2 _, blk_other' (blk_other' (blk_setAt (blk_setAt p9 0 _) 1 _) h10 _ _) h10 _ _, blk_setAt (blk_setAt (blk_other' (blk_other' p10 (Ne.symm h10) _ _) (Ne.symm h10) _ _) 0 _) 1 _, four oA1 h1.1 ?_ ?_, four oB1 h1.2.1 ?_ ?_, four oA2 h1.2.2.1 ?_ ?_, four oB2 h1.2.2.2 ?_ ?_, h2.1, h2.2, h3, h4.1, h4.2, h5, h6, h7, h8, h9.1, h9.2⟩ <;> omega

end Go.Proofs.YteigmjlfpmdmoaaGreatDoor

namespace Go.Proofs.YteigmjlfpmdmoaaGreatDoor
open Go.RowKit
open Calmly (Kept)

theorem OwI.off {w : World} {B : Nat} {a : Option Addr} {n c : Nat} {xs : List Int} {r : Nat} (h : OwI w B a n c xs) (hr : w.heap.size ≤ r) : ∀ b off, a = some ⟨b, off, none⟩ → b ≠ r := by
  rintro b off rfl
  have := (World.ownsRow.lt h b rfl).2
  omega
theorem OwI.offB {w : World} {B : Nat} {a : Option Addr} {n c : Nat} {xs : List Int} {r : Nat} (h : OwI w B a n c xs) (hr : r < B) : ∀ b off, a = some ⟨b, off, none⟩ → b ≠ r := by
  rintro b off rfl
  have := (World.ownsRow.lt h b rfl).1
  omega
theorem SI.setOff {w : World} {a : Option Addr} {n c : Nat} {xs : List Int} {r : Nat} (h : SI w a n c xs) (ho : ∀ b off, a = some ⟨b, off, none⟩ → b ≠ r) (o : Nat) (v : Value) : SI (w.setCell ⟨r, o, none⟩ v) a n c xs := by
  obtain ⟨h1, h2, h3, h4⟩ := h
  refine ⟨h1, h2, h3, ?_⟩
  rcases h4 with h4 | ⟨b, off, ha, hc⟩
  · exact .inl h4
  · refine .inr ⟨b, off, ha, fun i hi => ?_⟩
    rw [cell_set_ne (ho b off ha)]
    exact hc i hi
theorem kept_setS {W w : World} {b : Nat} {x y u0 u1 : Value} {t : TypeId} {a : Option Addr} {n c : Nat} {xs : List Int} {G : Prop} (h : Below W.heap.size W w) (hb : W.heap.size ≤ b) (p : w.heap[b]? = some (.cells #[u0, u1] t))
    (s : SI w a n c xs) (ho : ∀ b' off, a = some ⟨b', off, none⟩ → b' ≠ b)
    (k : Below W.heap.size W ((w.setCell ⟨b, 0, none⟩ x).setCell ⟨b, 1, none⟩ y) → ((w.setCell ⟨b, 0, none⟩ x).setCell ⟨b, 1, none⟩ y).heap[b]? = some (.cells #[x, y] t) → SI ((w.setCell ⟨b, 0, none⟩ x).setCell ⟨b, 1, none⟩ y) a n c xs → G) :
    Kept W ((w.setCell ⟨b, 0, none⟩ x).setCell ⟨b, 1, none⟩ y) ∧ G := by
  have h2 := (h.setCell (p := ⟨b, 0, none⟩) hb x).setCell (p := ⟨b, 1, none⟩) hb y
  exact ⟨kept_of h2, k h2 (blk_setAt (blk_setAt p 0 _) 1 _) ((s.setOff ho _ _).setOff ho _ _)⟩
end Go.Proofs.YteigmjlfpmdmoaaGreatDoor
