/- Plain law of chapter 2: fractions in lowest terms, and the greatest scale. Contracts of chapter 2: the reference's error of a record. A region that draws its order, walked by a plan within a round of a range over a function. -/
import Derived.Test.YtfjcfbmfpefabaaGreatK16
namespace Go.Proofs.YtfjcfbmfpefabaaGreat

/-- A fraction in lowest terms. -/
def fracF (x y : Int) : Int × Int := (x.tdiv (Int.gcd x y), y.tdiv (Int.gcd x y))
/-- The fraction in lowest terms. -/
theorem fracF_low (x y : Int) (hy : 0 < y) : isLow (fracF x y).1 (fracF x y).2 = true := by
  have hg : 0 < Int.gcd x y := Int.gcd_pos_of_ne_zero_right x (by omega)
  have hgI : (0 : Int) < (Int.gcd x y : Int) := by omega
  obtain ⟨a, ha⟩ := Int.gcd_dvd_left x y
  obtain ⟨b, hb⟩ := Int.gcd_dvd_right x y
  have e1 : x.tdiv (Int.gcd x y) = a := by
    conv => lhs; arg 1; rw [ha]
    exact Int.mul_tdiv_cancel_left a (by omega)
  have e2 : y.tdiv (Int.gcd x y) = b := by
    conv => lhs; arg 1; rw [hb]
    exact Int.mul_tdiv_cancel_left b (by omega)
  unfold fracF isLow
  rw [e1, e2]
  have h3 : Int.gcd ((Int.gcd x y : Int) * a) ((Int.gcd x y : Int) * b) = Int.gcd x y * Int.gcd a b := by
    rw [Int.gcd_mul_left]
    simp
  rw [← ha, ← hb] at h3
  have h4 : Int.gcd a b = 1 := by
    have : Int.gcd x y * Int.gcd a b = Int.gcd x y * 1 := by rw [← h3, Nat.mul_one]
    exact Nat.eq_of_mul_eq_mul_left hg this
  have h5 : 0 < b := by
    rcases Int.lt_or_le 0 b with h | h
    · exact h
    · have := Int.mul_le_mul_of_nonneg_left h (by omega : 0 ≤ (Int.gcd x y : Int))
      omega
  rw [h4, decide_eq_true h5]
  rfl
theorem fracF_parts (x y : Int) (hy : 0 < y) : ∃ g : Int, 0 < g ∧ x = g * (fracF x y).1 ∧ y = g * (fracF x y).2 := by
  have hg : 0 < Int.gcd x y := Int.gcd_pos_of_ne_zero_right x (by omega)
  obtain ⟨a, ha⟩ := Int.gcd_dvd_left x y
  obtain ⟨b, hb⟩ := Int.gcd_dvd_right x y
  have e1 : x.tdiv (Int.gcd x y) = a := by
    conv => lhs; arg 1; rw [ha]
    exact Int.mul_tdiv_cancel_left a (by omega)
  have e2 : y.tdiv (Int.gcd x y) = b := by
    conv => lhs; arg 1; rw [hb]
    exact Int.mul_tdiv_cancel_left b (by omega)
  refine ⟨Int.gcd x y, by omega, ?_, ?_⟩
  · show x = (Int.gcd x y : Int) * x.tdiv (Int.gcd x y); rw [e1]; exact ha
  · show y = (Int.gcd x y : Int) * y.tdiv (Int.gcd x y); rw [e2]; exact hb
theorem fracF_bd (x y : Int) (hy : 0 < y) (B : Int) (hx1 : -B ≤ x) (hx2 : x ≤ B) (hyB : y ≤ B) : -B ≤ (fracF x y).1 ∧ (fracF x y).1 ≤ B ∧ 0 < (fracF x y).2 ∧ (fracF x y).2 ≤ B := by
  obtain ⟨g, hg, h1, h2⟩ := fracF_parts x y hy
  generalize (fracF x y).1 = a at *
  generalize (fracF x y).2 = b at *
  have h3 := Int.natAbs_mul g a
  have h4 := Int.natAbs_mul g b
  rw [← h1] at h3
  rw [← h2] at h4
  have h5 : a.natAbs ≤ g.natAbs * a.natAbs := Nat.le_mul_of_pos_left _ (by omega)
  have h6 : b.natAbs ≤ g.natAbs * b.natAbs := Nat.le_mul_of_pos_left _ (by omega)
  have h7 : 0 < b := by
    rcases Int.lt_or_le 0 b with h | h
    · exact h
    · have := Int.mul_le_mul_of_nonneg_left h (by omega : 0 ≤ g)
      omega
  omega

/-- The lesser of two fractions, the first if they are equal. -/
def minQ (b f : Int × Int) : Int × Int := if f.1 * b.2 < b.1 * f.2 then f else b
/-- The least of fractions, the first of equal ones. -/
def minL : List (Int × Int) → Int × Int
  | [] => (0, 0)
  | b :: l => l.foldl minQ b
theorem minQ_lt {b1 b2 f1 f2 x p : Int} (hb : 0 < b2) (hf : 0 < f2) (hp : 0 ≤ p) (h1 : b1 * p ≤ x * b2) (h2 : f1 * b2 < b1 * f2) : f1 * p ≤ x * f2 := by
  have a1 := Int.mul_le_mul_of_nonneg_right (Int.le_of_lt h2) hp
  have a2 := Int.mul_le_mul_of_nonneg_right h1 (Int.le_of_lt hf)
  refine Int.le_of_mul_le_mul_right (a := b2) ?_ hb
  grind
theorem minQ_ge {b1 b2 f1 f2 g x p : Int} (hg : 0 < g) (hx : x = g * f1) (hp : p = g * f2) (h : ¬ f1 * b2 < b1 * f2) : b1 * p ≤ x * b2 := by
  have a1 := Int.mul_le_mul_of_nonneg_left (Int.not_lt.1 h) (Int.le_of_lt hg)
  subst hx hp
  grind
theorem frac_eq {x p : Int} (hp : 0 < p) : (fracF x p).1 * p = x * (fracF x p).2 := by
  obtain ⟨g, hg, h1, h2⟩ := fracF_parts x p hp
  generalize (fracF x p).1 = a at *
  generalize (fracF x p).2 = b at *
  subst h1 h2
  grind
/-- A further limit: if the peak is above 0, the lesser of both. -/
def scS (b : Int × Int) (x p : Int) : Int × Int := if 0 < p then minQ b (fracF x p) else b
/-- The greatest scale for three limits, of which the first peak is above 0. -/
def scF (xa xv xd a v d : Int) : Int × Int := scS (scS (fracF xa a) xv v) xd d
theorem scS_ok {b : Int × Int} {x p : Int} (hb : 0 < b.2) (h0 : 0 ≤ p) (hx : 0 ≤ x) :
    0 < (scS b x p).2 ∧ (scS b x p).1 * p ≤ x * (scS b x p).2 ∧ (∀ y q : Int, 0 ≤ q → b.1 * q ≤ y * b.2 → (scS b x p).1 * q ≤ y * (scS b x p).2) ∧ (scS b x p = b ∨ 0 < p ∧ (scS b x p).1 * p = x * (scS b x p).2) := by
  unfold scS
  by_cases hp : 0 < p
  · rw [if_pos hp]
    obtain ⟨g, hg, h1, h2⟩ := fracF_parts x p hp
    have h3 := frac_eq (x := x) hp
    have hf : 0 < (fracF x p).2 := by
      rcases Int.lt_or_le 0 (fracF x p).2 with h | h
      · exact h
      · have := Int.mul_le_mul_of_nonneg_left h (Int.le_of_lt hg)
        omega
    unfold minQ
    by_cases hm : (fracF x p).1 * b.2 < b.1 * (fracF x p).2
    · rw [if_pos hm]
      exact ⟨hf, Int.le_of_eq h3, fun y q hq h => minQ_lt hb hf hq h hm, .inr ⟨hp, h3⟩⟩
    · rw [if_neg hm]
      exact ⟨hb, minQ_ge hg h1 h2 hm, fun y q hq h => h, .inl rfl⟩
  · rw [if_neg hp]
    obtain rfl : p = 0 := by omega
    refine ⟨hb, ?_, fun y q hq h => h, .inl rfl⟩
    have := Int.mul_nonneg hx (Int.le_of_lt hb)
    omega
theorem scS_bd {b : Int × Int} {x p B : Int} (h1 : -B ≤ x) (h2 : x ≤ B) (h3 : p ≤ B) (hb : -B ≤ b.1 ∧ b.1 ≤ B ∧ 0 < b.2 ∧ b.2 ≤ B) : -B ≤ (scS b x p).1 ∧ (scS b x p).1 ≤ B ∧ 0 < (scS b x p).2 ∧ (scS b x p).2 ≤ B := by
  unfold scS
  split
  · have := fracF_bd x p (by assumption) B h1 h2 h3
    unfold minQ
    split
    · exact this
    · exact hb
  · exact hb
theorem scF_ok {xa xv xd a v d : Int} (ha : 0 < a) (hv : 0 ≤ v) (hd : 0 ≤ d) (h1 : 0 ≤ xa) (h2 : 0 ≤ xv) (h3 : 0 ≤ xd) {p q : Int} (e1 : (scF xa xv xd a v d).1 = p) (e2 : (scF xa xv xd a v d).2 = q) :
    p * a ≤ xa * q ∧ p * v ≤ xv * q ∧ p * d ≤ xd * q ∧ (p * a = xa * q ∨ (0 < v ∧ p * v = xv * q) ∨ (0 < d ∧ p * d = xd * q)) := by
  subst e1 e2
  obtain ⟨g, hg, i1, i2⟩ := fracF_parts xa a ha
  have hf : 0 < (fracF xa a).2 := by
    rcases Int.lt_or_le 0 (fracF xa a).2 with h | h
    · exact h
    · have := Int.mul_le_mul_of_nonneg_left h (Int.le_of_lt hg)
      omega
  have hq := frac_eq (x := xa) ha
  obtain ⟨a1, a2, a3, a4⟩ := scS_ok (x := xv) (p := v) hf hv h2
  obtain ⟨b1, b2, b3, b4⟩ := scS_ok (x := xd) (p := d) a1 hd h3
  unfold scF
  refine ⟨b3 _ _ (Int.le_of_lt ha) (a3 _ _ (Int.le_of_lt ha) (Int.le_of_eq hq)), b3 _ _ hv a2, b2, ?_⟩
  rcases b4 with b4 | b4
  · rw [b4]
    rcases a4 with a4 | a4
    · rw [a4]
      exact .inl hq
    · exact .inr (.inl a4)
  · exact .inr (.inr b4)
theorem scF_bd {xa xv xd a v d B : Int} (ha : 0 < a) (h1 : 0 ≤ xa) (h2 : 0 ≤ xv) (h3 : 0 ≤ xd) (k1 : xa ≤ B) (k2 : xv ≤ B) (k3 : xd ≤ B) (k4 : a ≤ B) (k5 : v ≤ B) (k6 : d ≤ B) {p q : Int} (e1 : (scF xa xv xd a v d).1 = p) (e2 : (scF xa xv xd a v d).2 = q) :
    -B ≤ p ∧ p ≤ B ∧ 0 < q ∧ q ≤ B := by
  subst e1 e2
  exact scS_bd (by omega) k3 k6 (scS_bd (by omega) k2 k5 (fracF_bd _ _ ha B (by omega) k1 k4))
/-- The fractions of peaks above 0. -/
def scL (xa xv xd a v d : Int) : List (Int × Int) := (if 0 < a then [fracF xa a] else []) ++ (if 0 < v then [fracF xv v] else []) ++ (if 0 < d then [fracF xd d] else [])
theorem minL_scL {xa xv xd a v d : Int} (ha : 0 < a) : minL (scL xa xv xd a v d) = scF xa xv xd a v d := by
  unfold scL scF scS
  rw [if_pos ha]
  by_cases hv : 0 < v <;> by_cases hd : 0 < d <;> simp [hv, hd, minL]
theorem gsT_zero {xs : List Int} {n : Nat} (h : gsT xs n = 0) : ∀ j, j < n → xs[j]?.getD 0 = 0 := by
  induction n with
  | zero => intro j hj; omega
  | succ n ih =>
    unfold gsT at h
    have hn : 0 ≤ gsT xs n := by
      clear ih h
      induction n with
      | zero => simp [gsT]
      | succ k ih => unfold gsT; omega
    unfold sizeOf' at h
    intro j hj
    rcases Nat.lt_or_ge j n with hj' | hj'
    · exact ih (by omega) j hj'
    · obtain rfl : j = n := by omega
      omega
theorem zero_gsT {xs : List Int} {n : Nat} (h : ∀ j, j < n → xs[j]?.getD 0 = 0) : gsT xs n = 0 := by
  induction n with
  | zero => rfl
  | succ n ih =>
    unfold gsT
    rw [ih (fun j hj => h j (by omega)), h n (by omega)]
    rfl
theorem zero_sums {xs : List Int} {n : Nat} (hn : n ≤ xs.length) (h : ∀ j, j < n → xs[j]?.getD 0 = 0) : ∀ j, j < n → (sumsF xs)[j]?.getD 0 = 0 := by
  intro j hj
  rw [sumsF_get xs j (by omega)]
  have : ∀ k, k ≤ n → sumT xs k = 0 := by
    intro k hk
    induction k with
    | zero => rfl
    | succ k ih => rw [sumT, ih (by omega), h k (by omega)]; rfl
  exact this (j + 1) (by omega)
/-- Without accelerations there are no velocities nor displacements. -/
theorem peaks_zero {xs : List Int} {n : Nat} (hn : xs.length = n) (h : gsT xs n = 0) : gsT (sumsF xs) n = 0 ∧ gsT (sumsF (sumsF xs)) n = 0 := by
  have h1 := gsT_zero h
  have h2 := zero_sums (by omega) h1
  have h3 := zero_sums (by rw [sumsF_len]; omega) h2
  exact ⟨zero_gsT h2, zero_gsT h3⟩
end Go.Proofs.YtfjcfbmfpefabaaGreat

namespace Go.Proofs.YtfjcfbmfpefabaaGreat
open Go.RowKit
open Calmly (Kept)

set_option maxHeartbeats 400000 in
theorem rIsSample_any (x : Int) (w : World) : Calls Tryz.prog 65 #[.int .i64 x] w fun e w' => e = .returned (.bool (smp x)) ∧ w = w' := by
  go_enter Tryz.func65, Tryz.ntmps65
  go_wp2_with fail
  refine (within_any _ _ _ _).mono ?_
  rintro e w1 ⟨rfl, rfl⟩
  go_wp2_with fail
  go_ret
  exact ⟨rfl, rfl⟩

set_option maxRecDepth 100000 in
set_option maxHeartbeats 1000000 in
theorem rCheckRecord_any (step : Int) (a : Option Addr) (n c : Nat) (xs : List Int) (w : World) (h1 : SI w a n c xs) (I E : Int) (hR : recF step xs = (I, E)) :
    Calls Tryz.prog 36 #[.agg #[.int .i64 step, .slice a n c]] w fun e w' => e = .returned (.tuple #[.int .i64 I, .int .i64 E]) ∧ Below w.heap.size w w' := by
  obtain ⟨l1, l2⟩ : n ≤ xs.length ∧ xs.length ≤ n := by have := h1.len; omega
  have m1 := h1.max
  have c1 := h1.cap
  have BW : Below w.heap.size w (w.alloc (.cells #[.int .i64 step, .slice a n c] 24)) := (Below.refl _ _).alloc (Nat.le_refl _) _
  have x1 := alloc_new w (.cells #[.int .i64 step, .slice a n c] 24)
  unfold recF at hR
  have HR := Lib.hid hR
  clear hR
  go_enter Tryz.func36, Tryz.ntmps36
  go_wp2_with fail
  refine (within_any _ _ _ _).mono ?_
  rintro e w1 ⟨rfl, rfl⟩
  cases hw : wIn step 1 1000000
  · have hR := HR.out
    rw [hw, if_neg (by simp)] at hR
    obtain ⟨rfl, rfl⟩ := Prod.mk.inj hR
    clear hR HR
    go_wp2_with fail
    go_ret2
    exact ⟨rfl, BW⟩
  have hR := HR.out
  rw [hw, if_pos rfl] at hR
  replace HR := Lib.hid hR
  clear hR
  by_cases hn1 : n ≤ 1
  · have hn2 : (n : Int) < 2 := by omega
    have hR := HR.out
    rw [if_neg (by omega)] at hR
    obtain ⟨rfl, rfl⟩ := Prod.mk.inj hR
    clear hR HR
    go_wp2_with fail
    go_ret2
    exact ⟨rfl, BW⟩
  have hn2 : (2 : Int) ≤ (n : Int) := by omega
  by_cases hn3 : 24 < n
  · have hn4 : (24 : Int) < (n : Int) := by omega
    have hR := HR.out
    rw [if_pos (by omega), if_neg (by omega)] at hR
    obtain ⟨rfl, rfl⟩ := Prod.mk.inj hR
    clear hR HR
    go_wp2_with fail
    go_ret2
    exact ⟨rfl, BW⟩
  have hn4 : (n : Int) ≤ 24 := by omega
  have hR := HR.out
  rw [if_pos (by omega), if_pos (by omega)] at hR
  replace HR := Lib.hid hR
  clear hR
  obtain ⟨V, hV⟩ : ∃ V, w.alloc (.cells #[.int .i64 step, .slice a n c] 24) = V := ⟨_, rfl⟩
  rw [hV] at x1 BW ⊢
  clear hV
  have f0 := cell_block x1 0
  have f1 := cell_block x1 1
  go_wp2_with fail
  go_loop [4] (fun i => ∃ k : Nat, k ≤ n ∧ i = .int .i64 k ∧ badS xs 0 = badS (xs.drop k) k) (fun i => n - (intOf i).toNat)
  case atStart => exact ⟨0, by omega, rfl, rfl⟩
  case round =>
    obtain ⟨k, hk, rfl, ht⟩ := hrel
    have HT := Lib.hid ht
    clear ht
    by_cases hlt : k < n
    · obtain ⟨b1, o1, rfl, hc1⟩ := (h1.keep BW).at_ (by omega)
      have e1 := hc1 k hlt
      clear hc1
      have hi : (k : Int) < (n : Int) := by omega
      have hi0 : (0 : Int) ≤ (k : Int) := by omega
      have hd := badS_drop xs k (by omega)
      obtain ⟨x, hxx⟩ : ∃ x, xs[k]?.getD 0 = x := ⟨_, rfl⟩
      rw [hxx] at e1 hd
      have HD := Lib.hid hd
      clear hxx hd
      go_wp2_with fail
      refine (rIsSample_any _ _).mono ?_
      rintro e w1 ⟨rfl, rfl⟩
      cases ho : smp x
      · have hR := HR.out
        rw [HT.out, HD.out, ho] at hR
        obtain ⟨rfl, rfl⟩ := Prod.mk.inj hR
        clear hR HR
        go_wp2_with fail
        go_ret2
        exact ⟨rfl, BW⟩
      · go_wp2_with fail
        go_round
        case rel => exact ⟨k + 1, by omega, by go_num, by rw [HT.out, HD.out, ho]; rfl⟩
        case measure => simp [intOf]; omega
    · have hle : (n : Int) ≤ (k : Int) := by omega
      have hR := HR.out
      rw [HT.out, List.drop_eq_nil_of_le (by omega)] at hR
      obtain ⟨rfl, rfl⟩ := Prod.mk.inj hR
      clear hR HR
      go_wp2_with fail
      go_ret2
      exact ⟨rfl, BW⟩
end Go.Proofs.YtfjcfbmfpefabaaGreat

namespace Go.Calmly
open Go
section
variable {P : Program} {ops : Array Oper} {Q : Exit → Act → World → Prop} {r m : Nat}

theorem rowsIn_wide {row : String} {args : Array Value} {w : World} {R : Value → World → Prop} (h : Rows P row args w R) : RowsIn (Fence.wide.inRound r) m P row args w R := fun c cs _ => by
  obtain ⟨v, w', h1, h2⟩ := h c cs
  exact ⟨v, w', h1, stepsIn_wide.2 h2⟩
theorem opIn {o : Oper} {a : Act} {w : World} {K : Act → World → Prop} (hd : ∀ c, o.op ≠ .defer c) (h : o.wp P a w K Q) : o.wpIn (Fence.wide.inRound r) m P a w K Q := by
  refine ⟨fun _ _ => trivial, ?_⟩
  rw [show (Fence.wide.inRound r).round = some r from rfl, Oper.semAt_some r _ _ hd]
  unfold Oper.wp at h
  generalize (execOp a.eval o).run P w = res at *
  cases res with
  | ok x w' =>
    cases x with
    | enter f args =>
      refine ⟨fun hh => absurd hh (by simp [Fence.wide]), CallsIn.inRound r (callsIn_wide.2 (Calls.mono h fun e w'' he => ?_))⟩
      cases e <;> exact he
    | row s args => exact ⟨fun hh => absurd hh (by simp [Fence.wide]), rowsIn_wide h⟩
    | _ => first | exact h | exact h.elim
  | halt x w' => cases x <;> exact h
theorem wpOpIn_of {i : Nat} {a : Act} {w : World} {K : Act → World → Prop} (hd : ∀ (i : Nat) (o : Oper), ops[i]? = some o → ∀ c, o.op ≠ .defer c) (hQ : ∀ a w, ¬ Q .outgrown a w) (h : wpOp P ops Q i K a w) : wpOpIn (Fence.wide.inRound r) m P ops Q i K a w := by
  unfold wpOp at h
  unfold wpOpIn
  cases ho : ops[i]? with
  | none => simp only [ho] at h ⊢; exact h
  | some o =>
    simp only [ho] at h ⊢
    split
    · rename_i hw
      simp only [hw, if_true] at h
      rcases h with h | ⟨_, a', w', h⟩
      · exact opIn (hd i o ho) h
      · exact absurd h (hQ a' w')
    · rename_i hw
      simp only [hw] at h
      exact ⟨fun _ _ => trivial, h⟩
theorem anyIn {md : Region.Mode} (hd : ∀ (i : Nat) (o : Oper), ops[i]? = some o → ∀ c, o.op ≠ .defer c) (hQ : ∀ a w, ¬ Q .outgrown a w) : ∀ (fuel : Nat) (L : Array Bool) (a : Act) (w : World), wpAny P md ops Q fuel L a w → wpAnyIn (Fence.wide.inRound r) m P md ops Q fuel L a w
  | 0, _, _, _, h => h
  | fuel + 1, _, _, _, h => ⟨h.1, fun i hi => wpOpIn_of hd hQ (wpOp_mono (fun a w hk => anyIn hd hQ fuel _ a w hk) (h.2 i hi))⟩
def noDefer (l : List Oper) : Bool := l.all fun o => match o.op with | .defer _ => false | _ => true
theorem noDefer_ops {l : List Oper} (h : noDefer l = true) : ∀ (i : Nat) (o : Oper), l.toArray[i]? = some o → ∀ c, o.op ≠ .defer c := by
  intro i o ho c hc
  have hm : o ∈ l := List.mem_of_getElem? (by simpa using ho)
  have h1 := (List.all_eq_true.1 h) o hm
  rw [hc] at h1
  cases h1
theorem wpIn_region_mix {id : Nat} {a : Act} {w : World} {l : List Oper} (n : Nat) (p : Plan) (hm : P.follows .mixedOrders = true)
    (hB : (noDefer l && (Region.noSelect l.toArray && tailOk l.toArray .any n && planOk l.toArray .any n p l.toArray.size (Array.replicate l.toArray.size false) [])) = true) (hQ : ∀ a w, ¬ Q .outgrown a w)
    (h : WpMix P l.toArray Q w.drew p a w.drew) : (Code.region id l.toArray true).wpIn (Fence.wide.inRound r) m P Q a w := by
  simp only [Bool.and_eq_true] at hB
  obtain ⟨h0, ⟨h1, h2⟩, h3⟩ := hB
  exact wpIn_region_any hm (anyIn (noDefer_ops h0) hQ _ _ _ _ (any_of_anyT _ _ _ _ ((mix_sound h1 h2 p _ _ [] a _ (closed_start _) h3 (Kept.refl _) h.out).1 rfl)))
end
end Go.Calmly
