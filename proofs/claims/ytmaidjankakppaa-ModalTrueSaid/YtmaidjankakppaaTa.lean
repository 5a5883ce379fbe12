/- The plain law of true decays: crossings and swings of a decay contain those of a decay that differs by little. -/
import Derived.Test.YtmaidjankakppaaJj
import Derived.Test.YtmaidjankakppaaYa
namespace Go.Proofs.Ytmaidjankakppaa
open Go.RowKit

/-- The sample at the begin of a crossing is surely below. -/
theorem crossF_begin (off : Int) (ys l : List Int) (i b : Int) (hi : i = ys.length) (hb : 0 ≤ b → b < i ∧ ys[b.toNat]?.getD 0 < -off) : ∀ p ∈ crossF off i b l, (ys ++ l)[p.1.toNat]?.getD 0 < -off := by
  induction l generalizing i b ys with
  | nil => simp [crossF]
  | cons x l ih =>
    intro p hp
    have hih := fun b' hb' => ih (ys ++ [x]) (i + 1) b' (by simp; omega) hb' p
    simp only [List.append_assoc, List.singleton_append] at hih
    have hkeep : ∀ b' : Int, 0 ≤ b' → b' < i → (ys ++ [x])[b'.toNat]?.getD 0 = ys[b'.toNat]?.getD 0 := fun b' h0 h1 => by
      rw [List.getElem?_append_left (by omega)]
    unfold crossF at hp
    split at hp
    · rename_i hx
      refine hih i (fun h0 => ⟨by omega, ?_⟩) hp
      subst hi
      simpa using hx
    · split at hp
      · rename_i h5
        rcases List.mem_cons.1 hp with rfl | hp
        · obtain ⟨h6, h7⟩ := hb h5.2
          show (ys ++ x :: l)[b.toNat]?.getD 0 < -off
          rw [List.getElem?_append_left (by omega)]
          exact h7
        · exact hih (-1) (fun h => absurd h (by omega)) hp
      · exact hih b (fun h0 => ⟨by have := (hb h0).1; omega, by rw [hkeep b h0 (hb h0).1]; exact (hb h0).2⟩) hp
/-- The crossings from a place on are among all. -/
theorem crossF_suffix (off : Int) (xs : List Int) (k : Nat) (hk : k ≤ xs.length) : ∃ (b : Int) (pre : List (Int × Int)), crossF off 0 (-1) xs = pre ++ crossF off k b (xs.drop k) := by
  induction k with
  | zero => exact ⟨-1, [], rfl⟩
  | succ k ih =>
    obtain ⟨b, pre, h⟩ := ih (by omega)
    rw [h, crossF_drop off xs k b (by omega)]
    split
    · exact ⟨k, pre, rfl⟩
    · split
      · exact ⟨-1, pre ++ [(b, (k : Int))], by simp⟩
      · exact ⟨b, pre, rfl⟩
theorem crossF_found (off lo : Int) (l : List Int) (i b : Int) (j : Nat) (h0 : 0 ≤ lo) (hb : lo ≤ b) (hbi : lo ≤ i) (hoff : 0 ≤ off) (hj : j < l.length) (hx : off < l[j]?.getD 0) :
    ∃ p ∈ crossF off i b l, lo ≤ p.1 ∧ p.2 ≤ i + j := by
  induction l generalizing i b j with
  | nil => simp at hj
  | cons x l ih =>
    unfold crossF
    by_cases h1 : x < -off
    · rw [if_pos h1]
      match j, hj, hx with
      | 0, _, hx => simp at hx; omega
      | j + 1, hj, hx =>
        obtain ⟨p, hp, h2, h3⟩ := ih (i + 1) i j hbi (by omega) (by simpa using hj) (by simpa using hx)
        exact ⟨p, hp, h2, by omega⟩
    · rw [if_neg h1]
      by_cases h2 : off < x
      · rw [if_pos ⟨h2, by omega⟩]
        exact ⟨(b, i), List.mem_cons_self, hb, by show i ≤ i + j; omega⟩
      · rw [if_neg (fun h => h2 h.1)]
        match j, hj, hx with
        | 0, _, hx => simp at hx; omega
        | j + 1, hj, hx =>
          obtain ⟨p, hp, h4, h5⟩ := ih (i + 1) b j hb (by omega) (by simpa using hj) (by simpa using hx)
          exact ⟨p, hp, h4, by omega⟩

/-- Two rows of samples that differ by at most a number. -/
def Near (off : Int) (xs ys : List Int) : Prop := ys.length = xs.length ∧ ∀ j, j < xs.length → xs[j]?.getD 0 - off ≤ ys[j]?.getD 0 ∧ ys[j]?.getD 0 ≤ xs[j]?.getD 0 + off

/-- EACH CROSSING CONTAINS A TRUE ONE. -/
theorem true_crossing {off : Int} {xs ys : List Int} (h : Near off xs ys) (i : Nat) (hi : i < (crossF off 0 (-1) xs).length) :
    ∃ k, k < (crossF 0 0 (-1) ys).length ∧ ((crossF off 0 (-1) xs)[i]?.getD (0, 0)).1 ≤ ((crossF 0 0 (-1) ys)[k]?.getD (0, 0)).1 ∧ ((crossF 0 0 (-1) ys)[k]?.getD (0, 0)).2 ≤ ((crossF off 0 (-1) xs)[i]?.getD (0, 0)).2 := by
  obtain ⟨hl, hn⟩ := h
  obtain ⟨k1, k2, k3, k4, _⟩ := crossF_ok off xs i hi
  have k5 := crossF_begin off [] xs 0 (-1) rfl (fun h => absurd h (by omega)) ((crossF off 0 (-1) xs)[i]) (List.getElem_mem hi)
  rw [List.getElem?_eq_getElem hi] at k1 k2 k3 k4 ⊢
  simp only [Option.getD_some, List.nil_append] at k1 k2 k3 k4 k5 ⊢
  generalize (crossF off 0 (-1) xs)[i] = p at *
  obtain ⟨lo, hlo⟩ : ∃ lo : Nat, p.1 = lo := ⟨p.1.toNat, by omega⟩
  obtain ⟨hi', hhi⟩ : ∃ hi : Nat, p.2 = hi := ⟨p.2.toNat, by omega⟩
  rw [hlo, hhi] at k2
  rw [hhi] at k3 k4
  rw [hlo] at k5
  rw [hlo, hhi]
  simp only [Int.toNat_natCast] at k4 k5
  have n1 := (hn lo (by omega)).2
  have n2 := (hn hi' (by omega)).1
  obtain ⟨b, pre, hs⟩ := crossF_suffix 0 ys lo (by omega)
  rw [crossF_drop 0 ys lo b (by omega), if_pos (by omega)] at hs
  obtain ⟨q, hq, h1, h2⟩ := crossF_found 0 lo (ys.drop (lo + 1)) (lo + 1 : Nat) lo (hi' - (lo + 1)) (by omega) (by omega) (by omega) (by omega) (by simp; omega) (by
    rw [List.getElem?_drop, show lo + 1 + (hi' - (lo + 1)) = hi' by omega]
    omega)
  have hm : q ∈ crossF 0 0 (-1) ys := by rw [hs]; exact List.mem_append_right _ hq
  obtain ⟨k, hk, hkq⟩ := List.getElem_of_mem hm
  refine ⟨k, hk, ?_⟩
  rw [List.getElem?_eq_getElem hk, hkq]
  simp only [Option.getD_some]
  exact ⟨h1, by omega⟩

theorem maxL_near {off : Int} {xs ys : List Int} (h : Near off xs ys) (lo m : Nat) (hm : 0 < m) (h2 : lo + m ≤ xs.length) :
    maxL ((xs.drop lo).take m) - off ≤ maxL ((ys.drop lo).take m) ∧ maxL ((ys.drop lo).take m) ≤ maxL ((xs.drop lo).take m) + off := by
  obtain ⟨hl, hn⟩ := h
  have key : ∀ {us vs : List Int}, us.length = xs.length → vs.length = xs.length → (∀ j, j < xs.length → us[j]?.getD 0 ≤ vs[j]?.getD 0 + off) → maxL ((us.drop lo).take m) ≤ maxL ((vs.drop lo).take m) + off := by
    intro us vs ha hb hab
    obtain ⟨h3, _⟩ := maxL_mem (l := (us.drop lo).take m) (by simp; omega)
    obtain ⟨_, h4⟩ := maxL_mem (l := (vs.drop lo).take m) (by simp; omega)
    obtain ⟨j, hj, hje⟩ := List.getElem_of_mem h3
    simp only [List.length_take, List.length_drop] at hj
    have h5 := hab (lo + j) (by omega)
    have h6 : (us[lo + j]?.getD 0) = maxL ((us.drop lo).take m) := by
      rw [← hje]
      have : lo + j < us.length := by omega
      simp [this]
    have h7 : vs[lo + j]?.getD 0 ∈ (vs.drop lo).take m := by
      refine List.mem_of_getElem? (i := j) ?_
      rw [List.getElem?_take_of_lt (by omega), List.getElem?_drop]
      have : lo + j < vs.length := by omega
      simp [this]
    have := h4 _ h7
    omega
  have a := key rfl hl (fun j hj => by have := (hn j hj).1; omega)
  have b := key hl rfl (fun j hj => (hn j hj).2)
  omega

/-- The fraction in lowest terms. -/
theorem fracF_low (x y : Int) (hy : 0 < y) : isLow (fracF x y).1 (fracF x y).2 = true := by
  have hg : 0 < Int.gcd x y := Int.gcd_pos_of_ne_zero_right x (by omega)
  have hgI : (0 : Int) < (Int.gcd x y : Int) := by omega
  obtain ⟨a, ha⟩ := Int.gcd_dvd_left x y
  obtain ⟨b, hb⟩ := Int.gcd_dvd_right x y
  have e1 : x.tdiv (Int.gcd x y) = a := by
    conv => lhs; arg 1; rw [ha]
    exact Int.mul_tdiv_cancel_left a (by omega)
  have e2 : y.tdiv (Int.gcd x y) = b := by
    conv => lhs; arg 1; rw [hb]
    exact Int.mul_tdiv_cancel_left b (by omega)
  unfold fracF isLow
  rw [e1, e2]
  have h3 : Int.gcd ((Int.gcd x y : Int) * a) ((Int.gcd x y : Int) * b) = Int.gcd x y * Int.gcd a b := by
    rw [Int.gcd_mul_left]
    simp
  rw [← ha, ← hb] at h3
  have h4 : Int.gcd a b = 1 := by
    have : Int.gcd x y * Int.gcd a b = Int.gcd x y * 1 := by rw [← h3, Nat.mul_one]
    exact Nat.eq_of_mul_eq_mul_left hg this
  have h5 : 0 < b := by
    rcases Int.lt_or_le 0 b with h | h
    · exact h
    · have := Int.mul_le_mul_of_nonneg_left h (by omega : 0 ≤ (Int.gcd x y : Int))
      omega
  rw [h4, decide_eq_true h5]
  rfl
theorem fracF_parts (x y : Int) (hy : 0 < y) : ∃ g : Int, 0 < g ∧ x = g * (fracF x y).1 ∧ y = g * (fracF x y).2 := by
  have hg : 0 < Int.gcd x y := Int.gcd_pos_of_ne_zero_right x (by omega)
  obtain ⟨a, ha⟩ := Int.gcd_dvd_left x y
  obtain ⟨b, hb⟩ := Int.gcd_dvd_right x y
  have e1 : x.tdiv (Int.gcd x y) = a := by
    conv => lhs; arg 1; rw [ha]
    exact Int.mul_tdiv_cancel_left a (by omega)
  have e2 : y.tdiv (Int.gcd x y) = b := by
    conv => lhs; arg 1; rw [hb]
    exact Int.mul_tdiv_cancel_left b (by omega)
  refine ⟨Int.gcd x y, by omega, ?_, ?_⟩
  · show x = (Int.gcd x y : Int) * x.tdiv (Int.gcd x y); rw [e1]; exact ha
  · show y = (Int.gcd x y : Int) * y.tdiv (Int.gcd x y); rw [e2]; exact hb
theorem fracF_bd (x y : Int) (hy : 0 < y) (B : Int) (hx1 : -B ≤ x) (hx2 : x ≤ B) (hyB : y ≤ B) : -B ≤ (fracF x y).1 ∧ (fracF x y).1 ≤ B ∧ 0 < (fracF x y).2 ∧ (fracF x y).2 ≤ B := by
  obtain ⟨g, hg, h1, h2⟩ := fracF_parts x y hy
  generalize (fracF x y).1 = a at *
  generalize (fracF x y).2 = b at *
  have h3 := Int.natAbs_mul g a
  have h4 := Int.natAbs_mul g b
  rw [← h1] at h3
  rw [← h2] at h4
  have h5 : a.natAbs ≤ g.natAbs * a.natAbs := Nat.le_mul_of_pos_left _ (by omega)
  have h6 : b.natAbs ≤ g.natAbs * b.natAbs := Nat.le_mul_of_pos_left _ (by omega)
  have h7 : 0 < b := by
    rcases Int.lt_or_le 0 b with h | h
    · exact h
    · have := Int.mul_le_mul_of_nonneg_left h (by omega : 0 ≤ g)
      omega
  omega
/-- A fraction is compared with one in lowest terms. -/
theorem cmp_frac {z x y : Int} (hy : 0 < y) (h : x ≤ z) : 0 ≤ cmpQ (z * (fracF x y).2) ((fracF x y).1 * y) := by
  obtain ⟨g, hg, h1, h2⟩ := fracF_parts x y hy
  generalize (fracF x y).1 = a at *
  generalize (fracF x y).2 = b at *
  have h7 : 0 < b := by
    rcases Int.lt_or_le 0 b with h | h
    · exact h
    · have := Int.mul_le_mul_of_nonneg_left h (by omega : 0 ≤ g)
      omega
  have h3 : a * y ≤ z * b := by
    rw [h2, show a * (g * b) = (g * a) * b by rw [← Int.mul_assoc, Int.mul_comm a g], ← h1]
    exact Int.mul_le_mul_of_nonneg_right h (by omega)
  unfold cmpQ
  rw [if_neg (by omega)]
  split <;> decide
theorem cmp_frac' {z x y : Int} (hy : 0 < y) (h : z ≤ x) : cmpQ (z * (fracF x y).2) ((fracF x y).1 * y) ≤ 0 := by
  obtain ⟨g, hg, h1, h2⟩ := fracF_parts x y hy
  generalize (fracF x y).1 = a at *
  generalize (fracF x y).2 = b at *
  have h7 : 0 < b := by
    rcases Int.lt_or_le 0 b with h | h
    · exact h
    · have := Int.mul_le_mul_of_nonneg_left h (by omega : 0 ≤ g)
      omega
  have h3 : z * b ≤ a * y := by
    rw [h2, show a * (g * b) = (g * a) * b by rw [← Int.mul_assoc, Int.mul_comm a g], ← h1]
    exact Int.mul_le_mul_of_nonneg_right h (by omega)
  unfold cmpQ
  split
  · decide
  · rw [if_neg (by omega)]
    decide
end Go.Proofs.Ytmaidjankakppaa
