/- Products of primes to powers: their value as a fraction in lowest terms; maps that hold them. bits.Mul64; a number's primes are gathered into a map. A number's primes are gathered into a map. The fraction of a map of primes. Printed by gen_m32.py. -/
import Derived.Test.YtaiikekgckjdeaaGreatK12
import Derived.Maps.RangeWalk
import Derived.WalkKit
import Derived.Shelf.Bits.Mul64
import Derived.Maps.OwnOps
namespace Go.Proofs.YtaiikekgckjdeaaGreat
open Go.Maps

def Prm (p : Nat) : Prop := 2 ≤ p ∧ ∀ d, d ∣ p → d = 1 ∨ d = p
theorem Prm.cop {p q : Nat} (hp : Prm p) (hq : Prm q) (h : p ≠ q) : Nat.Coprime p q := by
  show Nat.gcd p q = 1
  rcases hp.2 _ (Nat.gcd_dvd_left p q) with h1 | h1
  · exact h1
  · rcases hq.2 _ (Nat.gcd_dvd_right p q) with h2 | h2
    · exact h2
    · exact absurd (h1.symm.trans h2) h
/-- A number without a divisor below p, less than p squared, is 1 or a prime. -/
theorem prm_of_sq {n p : Nat} (hn : 2 ≤ n) (hd : ∀ d, 2 ≤ d → d < p → ¬ d ∣ n) (hs : n < p * p) : Prm n := by
  refine ⟨hn, fun d hdn => ?_⟩
  obtain ⟨e, he⟩ := hdn
  by_cases h1 : d = 1
  · exact .inl h1
  · by_cases h2 : e = 1
    · right; rw [he, h2, Nat.mul_one]
    · exfalso
      have hd0 : d ≠ 0 := by rintro rfl; simp at he; omega
      have he0 : e ≠ 0 := by rintro rfl; simp at he; omega
      rcases Nat.lt_or_ge d p with h3 | h3
      · exact hd d (by omega) h3 ⟨e, he⟩
      · rcases Nat.lt_or_ge e p with h4 | h4
        · exact hd e (by omega) h4 ⟨d, by rw [he, Nat.mul_comm]⟩
        · have := Nat.mul_le_mul h3 h4
          omega
theorem prm_of_least {n p : Nat} (hp : 2 ≤ p) (hd : ∀ d, 2 ≤ d → d < p → ¬ d ∣ n) (hn : p ∣ n) : Prm p := by
  refine ⟨hp, fun d hdp => ?_⟩
  have hle := Nat.le_of_dvd (by omega) hdp
  have h0 : d ≠ 0 := by rintro rfl; simp at hdp; omega
  by_cases h1 : d = 1
  · exact .inl h1
  · by_cases h2 : d = p
    · exact .inr h2
    · exact absurd (Nat.dvd_trans hdp hn) (hd d (by omega) (by omega))

/-! ### Products over a list of numbers and powers -/
def upN : List (Nat × Int) → Nat
  | [] => 1
  | x :: l => x.1 ^ x.2.toNat * upN l
def dnN : List (Nat × Int) → Nat
  | [] => 1
  | x :: l => x.1 ^ (-x.2).toNat * dnN l
def valQ : List (Nat × Int) → Rat
  | [] => 1
  | x :: l => (x.1 : Rat) ^ x.2 * valQ l
theorem upN_cop {p : Nat} : ∀ {l : List (Nat × Int)}, (∀ x ∈ l, Nat.Coprime p x.1) → Nat.Coprime p (upN l)
  | [], _ => Nat.coprime_one_right p
  | x :: _, h => Nat.Coprime.mul_right (Nat.Coprime.pow_right _ (h x (List.mem_cons_self ..))) (upN_cop fun y hy => h y (List.mem_cons_of_mem _ hy))
theorem dnN_cop {p : Nat} : ∀ {l : List (Nat × Int)}, (∀ x ∈ l, Nat.Coprime p x.1) → Nat.Coprime p (dnN l)
  | [], _ => Nat.coprime_one_right p
  | x :: _, h => Nat.Coprime.mul_right (Nat.Coprime.pow_right _ (h x (List.mem_cons_self ..))) (dnN_cop fun y hy => h y (List.mem_cons_of_mem _ hy))
/-- Keys are primes, none twice. -/
def Prms (l : List (Nat × Int)) : Prop := l.Pairwise (fun x y => x.1 ≠ y.1) ∧ ∀ x ∈ l, Prm x.1
theorem Prms.tail {x : Nat × Int} {l : List (Nat × Int)} (h : Prms (x :: l)) : Prms l := ⟨(List.pairwise_cons.1 h.1).2, fun y hy => h.2 y (List.mem_cons_of_mem _ hy)⟩
theorem Prms.head {x : Nat × Int} {l : List (Nat × Int)} (h : Prms (x :: l)) : ∀ y ∈ l, Nat.Coprime x.1 y.1 := fun y hy =>
  (h.2 x (List.mem_cons_self ..)).cop (h.2 y (List.mem_cons_of_mem _ hy)) ((List.pairwise_cons.1 h.1).1 y hy)
theorem up_dn_cop : ∀ {l : List (Nat × Int)}, Prms l → Nat.Coprime (upN l) (dnN l)
  | [], _ => Nat.coprime_one_right _
  | x :: l, h => by
    have ih := up_dn_cop h.tail
    have h1 := upN_cop h.head
    have h2 := dnN_cop h.head
    show Nat.Coprime (x.1 ^ x.2.toNat * upN l) (x.1 ^ (-x.2).toNat * dnN l)
    rcases Int.le_total 0 x.2 with h0 | h0
    · rw [show (-x.2).toNat = 0 by omega, Nat.pow_zero, Nat.one_mul]
      exact Nat.Coprime.mul_left (Nat.Coprime.pow_left _ h2) ih
    · rw [show x.2.toNat = 0 by omega, Nat.pow_zero, Nat.one_mul]
      exact Nat.Coprime.mul_right (Nat.Coprime.pow_right _ h1.symm) ih
theorem upN_pos : ∀ {l : List (Nat × Int)}, Prms l → 0 < upN l
  | [], _ => Nat.one_pos
  | x :: l, h => Nat.mul_pos (Nat.pow_pos (by have := (h.2 x (List.mem_cons_self ..)).1; omega)) (upN_pos h.tail)
theorem dnN_pos : ∀ {l : List (Nat × Int)}, Prms l → 0 < dnN l
  | [], _ => Nat.one_pos
  | x :: l, h => Nat.mul_pos (Nat.pow_pos (by have := (h.2 x (List.mem_cons_self ..)).1; omega)) (dnN_pos h.tail)
theorem valQ_eq : ∀ {l : List (Nat × Int)}, Prms l → valQ l = (upN l : Rat) / (dnN l : Rat)
  | [], _ => by simp [valQ, upN, dnN]; grind
  | x :: l, h => by
    have ih := valQ_eq h.tail
    have hp : (x.1 : Rat) ≠ 0 := by
      have := (h.2 x (List.mem_cons_self ..)).1
      intro e
      have : x.1 = 0 := by exact_mod_cast e
      omega
    show (x.1 : Rat) ^ x.2 * valQ l = ((x.1 ^ x.2.toNat * upN l : Nat) : Rat) / ((x.1 ^ (-x.2).toNat * dnN l : Nat) : Rat)
    rw [ih]
    rcases Int.le_total 0 x.2 with h0 | h0
    · rw [show (-x.2).toNat = 0 by omega, Nat.pow_zero, Nat.one_mul]
      obtain ⟨n, hn⟩ : ∃ n : Nat, x.2 = (n : Int) := ⟨x.2.toNat, by omega⟩
      rw [hn, Rat.zpow_natCast, Int.toNat_natCast, Rat.natCast_mul, Rat.natCast_pow]
      grind
    · rw [show x.2.toNat = 0 by omega, Nat.pow_zero, Nat.one_mul]
      obtain ⟨n, hn⟩ : ∃ n : Nat, x.2 = -(n : Int) := ⟨(-x.2).toNat, by omega⟩
      rw [hn, Rat.zpow_neg, Rat.zpow_natCast, Int.neg_neg, Int.toNat_natCast, Rat.natCast_mul, Rat.natCast_pow]
      grind
/-- A fraction in lowest terms is what it is. -/
theorem rat_lowest {n : Int} {d : Nat} (hd : d ≠ 0) (hc : Nat.Coprime n.natAbs d) {v : Rat} (hv : v = (n : Rat) / (d : Rat)) : v.num = n ∧ v.den = d := by
  have h : (⟨n, d, hd, hc⟩ : Rat) = v := by
    rw [hv, Rat.mk_eq_mkRat, Rat.mkRat_eq_div]
  rw [← h]
  exact ⟨rfl, rfl⟩
theorem valQ_num {l : List (Nat × Int)} (h : Prms l) : (valQ l).num = (upN l : Int) ∧ (valQ l).den = dnN l :=
  rat_lowest (by have := dnN_pos h; omega) (by simpa using up_dn_cop h) (by rw [valQ_eq h]; rfl)
theorem valQ_perm {l l' : List (Nat × Int)} (h : l.Perm l') : valQ l = valQ l' := by
  induction h with
  | nil => rfl
  | cons x _ ih => simp only [valQ, ih]
  | swap x y l => simp only [valQ]; grind
  | trans _ _ h1 h2 => exact h1.trans h2
theorem upN_perm {l l' : List (Nat × Int)} (h : l.Perm l') : upN l = upN l' := by
  induction h with
  | nil => rfl
  | cons x _ ih => simp only [upN, ih]
  | swap x y l => simp only [upN]; rw [← Nat.mul_assoc, ← Nat.mul_assoc, Nat.mul_comm (y.1 ^ _)]
  | trans _ _ h1 h2 => exact h1.trans h2
theorem dnN_perm {l l' : List (Nat × Int)} (h : l.Perm l') : dnN l = dnN l' := by
  induction h with
  | nil => rfl
  | cons x _ ih => simp only [dnN, ih]
  | swap x y l => simp only [dnN]; rw [← Nat.mul_assoc, ← Nat.mul_assoc, Nat.mul_comm (y.1 ^ _)]
  | trans _ _ h1 h2 => exact h1.trans h2

theorem rat_mul_pow (a b : Rat) (n : Nat) : (a * b) ^ n = a ^ n * b ^ n := by
  induction n with
  | zero => simp
  | succ n ih => rw [Rat.pow_succ, Rat.pow_succ, Rat.pow_succ, ih]; grind
theorem rat_mul_zpow (a b : Rat) (n : Int) : (a * b) ^ n = a ^ n * b ^ n := by
  rcases Int.le_total 0 n with h | h
  · obtain ⟨k, rfl⟩ : ∃ k : Nat, n = (k : Int) := ⟨n.toNat, by omega⟩
    rw [Rat.zpow_natCast, Rat.zpow_natCast, Rat.zpow_natCast, rat_mul_pow]
  · obtain ⟨k, rfl⟩ : ∃ k : Nat, n = -(k : Int) := ⟨(-n).toNat, by omega⟩
    rw [Rat.zpow_neg, Rat.zpow_neg, Rat.zpow_neg, Rat.zpow_natCast, Rat.zpow_natCast, Rat.zpow_natCast, rat_mul_pow, Rat.inv_mul_rev, Rat.mul_comm]
theorem one_zpow' (n : Int) : (1 : Rat) ^ n = 1 := by
  have h : ∀ k : Nat, (1 : Rat) ^ k = 1 := fun k => by
    induction k with
    | zero => simp
    | succ k ih => rw [Rat.pow_succ, ih]; simp
  rcases Int.le_total 0 n with h1 | h1
  · obtain ⟨k, rfl⟩ : ∃ k : Nat, n = (k : Int) := ⟨n.toNat, by omega⟩
    rw [Rat.zpow_natCast, h]
  · obtain ⟨k, rfl⟩ : ∃ k : Nat, n = -(k : Int) := ⟨(-n).toNat, by omega⟩
    rw [Rat.zpow_neg, Rat.zpow_natCast, h]
    grind
/-! ### Maps that hold such a product -/
section
variable {H : Type}
def ent (x : Nat × Int) : Lit × DataW H := (.int .i64 (x.1 : Int), .lit (.int .i64 x.2))
/-- The map holds the primes of the list, with their powers, up to M in size. -/
def QV (D : DataW H) (M : Int) (l : List (Nat × Int)) : Prop := D = .map (l.map ent) ∧ Prms l ∧ ∀ x ∈ l, x.1 ≤ 1000000000 ∧ -M ≤ x.2 ∧ x.2 ≤ M
theorem QV.mono {D : DataW H} {M M' : Int} {l : List (Nat × Int)} (h : QV D M l) (hM : M ≤ M') : QV D M' l := ⟨h.1, h.2.1, fun x hx => by have := h.2.2 x hx; omega⟩
theorem QV.nil (M : Int) : QV (.map [] : DataW H) M [] := ⟨rfl, ⟨List.Pairwise.nil, fun _ h => by cases h⟩, fun _ h => by cases h⟩
theorem ent_key (x : Nat × Int) (p : Nat) : ((ent x : Lit × DataW H).1.sameKey (.int .i64 (p : Int))) = decide (x.1 = p) := by
  simp [ent, Lit.sameKey, Int.natCast_inj]
/-- The power of a prime in a list. -/
def exQ (l : List (Nat × Int)) (p : Nat) : Int := match l.find? (fun x => decide (x.1 = p)) with | some x => x.2 | none => 0
theorem atKey_ent (l : List (Nat × Int)) (p : Nat) : (DataW.map (l.map ent) : DataW H).atKey (.int .i64 (p : Int)) (.lit (.int .i64 0)) = .lit (.int .i64 (exQ l p)) := by
  simp only [DataW.atKey, exQ]
  induction l with
  | nil => rfl
  | cons x l ih =>
    rw [List.map_cons, List.find?_cons, List.find?_cons, ent_key]
    cases decide (x.1 = p)
    · exact ih
    · rfl
theorem valQ_split {l : List (Nat × Int)} (h : Prms l) (p : Nat) : valQ l = (p : Rat) ^ (exQ l p) * valQ (l.filter fun x => !decide (x.1 = p)) := by
  induction l with
  | nil => simp [valQ, exQ]
  | cons x l ih =>
    have ih := ih h.tail
    by_cases hx : x.1 = p
    · have hf : l.filter (fun y => !decide (y.1 = p)) = l := by
        rw [List.filter_eq_self]
        intro y hy
        have := (List.pairwise_cons.1 h.1).1 y hy
        simp only [Bool.not_eq_true', decide_eq_false_iff_not]
        omega
      rw [List.filter_cons_of_neg (by simp [hx]), hf]
      simp [exQ, hx, valQ]
    · rw [List.filter_cons_of_pos (by simp [hx])]
      have e : exQ (x :: l) p = exQ l p := by simp [exQ, hx]
      rw [e, valQ, valQ, ih]
      grind
theorem insert_ent (x : Nat × Int) (l : List (Nat × Int)) : ∃ l' : List (Nat × Int), l'.Perm (x :: l) ∧ DataW.insert (ent x : Lit × DataW H) (l.map ent) = l'.map ent := by
  induction l with
  | nil => exact ⟨[x], List.Perm.refl _, rfl⟩
  | cons y l ih =>
    rw [List.map_cons, DataW.insert]
    split
    · exact ⟨x :: y :: l, List.Perm.refl _, rfl⟩
    · obtain ⟨l', h1, h2⟩ := ih
      exact ⟨y :: l', (h1.cons y).trans (List.Perm.swap x y l), by rw [h2]; rfl⟩
theorem filter_ent (l : List (Nat × Int)) (p : Nat) : (l.map ent : List (Lit × DataW H)).filter (fun q => !q.1.sameKey (.int .i64 (p : Int))) = (l.filter fun x => !decide (x.1 = p)).map ent := by
  rw [List.filter_map]
  congr 1
  refine List.filter_congr fun x _ => ?_
  show (!(ent x : Lit × DataW H).1.sameKey _) = _
  rw [ent_key]
/-- A prime is taken so often more. -/
theorem QV.put {D : DataW H} {M M' : Int} {l : List (Nat × Int)} (h : QV D M l) {p : Nat} (hp : Prm p) (hp9 : p ≤ 1000000000) {c : Int} (hM : M ≤ M') (hc : -M' ≤ exQ l p + c ∧ exQ l p + c ≤ M') :
    ∃ l', QV (D.put (.int .i64 (p : Int)) (.lit (.int .i64 (exQ l p + c)))) M' l' ∧ valQ l' = valQ l * (p : Rat) ^ c := by
  obtain ⟨rfl, h2, h3⟩ := h
  obtain ⟨l', h4, h5⟩ := insert_ent (H := H) (p, exQ l p + c) (l.filter fun x => !decide (x.1 = p))
  have hp0 : (p : Rat) ≠ 0 := by
    have := hp.1
    intro e
    have : p = 0 := by exact_mod_cast e
    omega
  have hnot : ∀ y ∈ l.filter (fun x => !decide (x.1 = p)), y ∈ l ∧ y.1 ≠ p := fun y hy => by simpa using List.mem_filter.1 hy
  refine ⟨l', ⟨?_, ⟨?_, ?_⟩, ?_⟩, ?_⟩
  · rw [DataW.put, filter_ent]
    exact congrArg DataW.map h5
  · refine (h4.pairwise_iff (fun {_ _} hne => Ne.symm hne)).2 (List.pairwise_cons.2 ⟨fun y hy => (hnot y hy).2.symm, h2.1.filter _⟩)
  · intro x hx
    rcases List.mem_cons.1 (h4.mem_iff.1 hx) with rfl | hx
    · exact hp
    · exact h2.2 x (hnot x hx).1
  · intro x hx
    rcases List.mem_cons.1 (h4.mem_iff.1 hx) with rfl | hx
    · exact ⟨hp9, hc⟩
    · have := h3 x (hnot x hx).1
      omega
  · rw [valQ_perm h4, valQ, valQ_split h2 p]
    show (p : Rat) ^ (exQ l p + c) * _ = _
    rw [Rat.zpow_add hp0]
    grind
theorem exQ_bd {D : DataW H} {M : Int} {l : List (Nat × Int)} (h : QV D M l) (hM : 0 ≤ M) (p : Nat) : -M ≤ exQ l p ∧ exQ l p ≤ M := by
  unfold exQ
  split
  · rename_i x hx
    exact (h.2.2 x (List.mem_of_find?_eq_some hx)).2
  · omega

/-! ### A range over such a map, in any order -/
/-- What has come already. -/
def doneQ (l : List (Nat × Int)) (left : Lit → Bool) : List (Nat × Int) := l.filter fun x => !left (.int .i64 (x.1 : Int))
theorem doneQ_start {D : DataW H} {M : Int} {l : List (Nat × Int)} (h : QV D M l) : doneQ l (Maps.has D) = [] := by
  unfold doneQ
  rw [List.filter_eq_nil_iff]
  intro x hx
  have : Maps.has D (.int .i64 (x.1 : Int)) = true := by
    rw [h.1, Maps.has_eq, List.any_map]
    refine List.any_eq_true.2 ⟨x, hx, ?_⟩
    show (ent x : Lit × DataW H).1.sameKey (.int .i64 (x.1 : Int)) = true
    rw [ent_key]
    simp
  rw [this]
  simp
theorem doneQ_end {l : List (Nat × Int)} {left : Lit → Bool} (h : ∀ k, left k = false) : doneQ l left = l := by
  unfold doneQ
  rw [List.filter_eq_self]
  intro x _
  rw [h]
  rfl
theorem doneQ_step {l : List (Nat × Int)} (hl : l.Pairwise (fun x y => x.1 ≠ y.1)) {left : Lit → Bool} {x : Nat × Int} (hx : x ∈ l) (hleft : left (.int .i64 (x.1 : Int)) = true) :
    (doneQ l (fun z => left z && !z.sameKey (.int .i64 (x.1 : Int)))).Perm (x :: doneQ l left) := by
  have hk : ∀ y : Nat × Int, (Lit.int .i64 (y.1 : Int)).sameKey (.int .i64 (x.1 : Int)) = decide (y.1 = x.1) := fun y => by simp [Lit.sameKey, Int.natCast_inj]
  unfold doneQ
  induction l with
  | nil => cases hx
  | cons a l ih =>
    obtain ⟨h1, h2⟩ := List.pairwise_cons.1 hl
    by_cases ha : a.1 = x.1
    · have hax : a = x := by
        rcases List.mem_cons.1 hx with h | h
        · exact h.symm
        · exact absurd ha (h1 x h)
      subst hax
      rw [List.filter_cons_of_pos (by simp [hk]), List.filter_cons_of_neg (by simp [hleft])]
      refine List.Perm.cons a ?_
      rw [List.filter_congr (q := fun x => !left (.int .i64 (x.1 : Int)))]
      intro y hy
      have := h1 y hy
      simp [hk, Ne.symm this]
    · have hxl : x ∈ l := by
        rcases List.mem_cons.1 hx with h | h
        · exact absurd (by rw [h]) ha
        · exact h
      have hd := ih h2 hxl
      simp only [hk] at hd
      rw [List.filter_cons, List.filter_cons]
      simp only [hk, ha, decide_false, Bool.not_false, Bool.and_true]
      split
      · exact (hd.cons a).trans (List.Perm.swap x a _)
      · exact hd
theorem upN_filter_le {l : List (Nat × Int)} (h : Prms l) (f : Nat × Int → Bool) : upN (l.filter f) ≤ upN l := by
  induction l with
  | nil => exact Nat.le_refl _
  | cons x l ih =>
    have ih := ih h.tail
    have hx := (h.2 x (List.mem_cons_self ..)).1
    rw [List.filter_cons]
    split
    · exact Nat.mul_le_mul (Nat.le_refl _) ih
    · exact Nat.le_trans ih (Nat.le_mul_of_pos_left _ (Nat.pow_pos (by omega)))
theorem dnN_filter_le {l : List (Nat × Int)} (h : Prms l) (f : Nat × Int → Bool) : dnN (l.filter f) ≤ dnN l := by
  induction l with
  | nil => exact Nat.le_refl _
  | cons x l ih =>
    have ih := ih h.tail
    have hx := (h.2 x (List.mem_cons_self ..)).1
    rw [List.filter_cons]
    split
    · exact Nat.mul_le_mul (Nat.le_refl _) ih
    · exact Nat.le_trans ih (Nat.le_mul_of_pos_left _ (Nat.pow_pos (by omega)))
theorem key_one : ∀ {l : List (Nat × Int)}, l.Pairwise (fun x y => x.1 ≠ y.1) → ∀ {x y : Nat × Int}, x ∈ l → y ∈ l → x.1 = y.1 → x = y
  | [], _, _, _, hx, _, _ => by cases hx
  | a :: l, hl, x, y, hx, hy, h => by
    obtain ⟨h1, h2⟩ := List.pairwise_cons.1 hl
    rcases List.mem_cons.1 hx with e | hx'
    · rcases List.mem_cons.1 hy with e' | hy'
      · rw [e, e']
      · exact absurd (e ▸ h) (h1 y hy')
    · rcases List.mem_cons.1 hy with e' | hy'
      · exact absurd (e' ▸ h).symm (h1 x hx')
      · exact key_one h2 hx' hy' h
/-- An entry that has come out of the map. -/
theorem QV.came {D : DataW H} {M : Int} {l : List (Nat × Int)} (h : QV D M l) {k c : Int} (hat : ∀ zd, D.atKey (.int .i64 k) zd = .lit (.int .i64 c)) :
    ∃ p : Nat, k = (p : Int) ∧ (p, c) ∈ l := by
  have hh := Maps.has_true_of_atKey hat
  rw [h.1, Maps.has_eq, List.any_map] at hh
  obtain ⟨x, hx, hkx⟩ := List.any_eq_true.1 hh
  obtain rfl : k = (x.1 : Int) := by
    have : (ent x : Lit × DataW H).1.sameKey (.int .i64 k) = true := hkx
    simpa [ent, Lit.sameKey, eq_comm] using this
  refine ⟨x.1, rfl, ?_⟩
  have h1 := hat (.lit (.int .i64 0))
  rw [h.1, atKey_ent] at h1
  have h2 : exQ l x.1 = c := by simpa using h1
  have h3 : exQ l x.1 = x.2 := by
    unfold exQ
    cases hf : l.find? (fun y => decide (y.1 = x.1)) with
    | none =>
      have := List.find?_eq_none.1 hf x hx
      simp at this
    | some y =>
      have hy := List.mem_of_find?_eq_some hf
      have hyx := List.find?_some hf
      have hpw := h.2.1.1
      have : y = x := key_one hpw hy hx (by simpa using hyx)
      rw [this]
  rw [← h2, h3]
  exact hx
end
end Go.Proofs.YtaiikekgckjdeaaGreat

namespace Go.Proofs.YtaiikekgckjdeaaGreat
open Go.RowKit Go.Maps
open Calmly (Kept)
set_option maxHeartbeats 1000000 in
theorem mul64_any (x y : Nat) (hx : x < 18446744073709551616) (hy : y < 18446744073709551616) (w : World) :
    Calls Tryz.prog 73 #[.int .u64 x, .int .u64 y] w fun e w' => e = .returned (.tuple #[.int .u64 ((x * y / 18446744073709551616 : Nat) : Int), .int .u64 ((x * y % 18446744073709551616 : Nat) : Int)]) ∧ w' = w := by
  obtain ⟨bd, bt, bw, hhi⟩ := Go.Lib.mul64_hi x y hx hy
  have ba := Go.Lib.half_mul_le (a := x / 4294967296) (b := y / 4294967296) (by omega) (by omega)
  have bb := Go.Lib.half_mul_le (a := x / 4294967296) (b := y % 4294967296) (by omega) (by omega)
  have bc := Go.Lib.half_mul_le (a := x % 4294967296) (b := y / 4294967296) (by omega) (by omega)
  have ba' : x / 4294967296 * (y / 4294967296) < 18446744073709551616 := by omega
  have bb' : x / 4294967296 * (y % 4294967296) < 18446744073709551616 := by omega
  have bc' : x % 4294967296 * (y / 4294967296) < 18446744073709551616 := by omega
  have bh1 : x / 4294967296 * (y / 4294967296) + (x / 4294967296 * (y % 4294967296) + x % 4294967296 * (y % 4294967296) / 4294967296) / 4294967296 < 18446744073709551616 := by omega
  have bh : x / 4294967296 * (y / 4294967296) + (x / 4294967296 * (y % 4294967296) + x % 4294967296 * (y % 4294967296) / 4294967296) / 4294967296 + ((x / 4294967296 * (y % 4294967296) + x % 4294967296 * (y % 4294967296) / 4294967296) % 4294967296 + x % 4294967296 * (y / 4294967296)) / 4294967296 < 18446744073709551616 := by omega
  go_enter Tryz.func73, Tryz.ntmps73
  go_wp2
  simp only [Mul64.maskN x hx, Mul64.maskN y hy, Mul64.divN, Mul64.mulN, Mul64.addN, Mul64.wrapN _ bd, Mul64.wrapN _ bb', Mul64.wrapN _ bt, Mul64.maskN _ bt, Mul64.wrapN _ bc', Mul64.wrapN _ bw, Mul64.wrapN _ ba', Mul64.wrapN _ bh1, Mul64.wrapN _ bh, Mul64.wrapM (x * y)]
  rw [hhi]
  go_ret2
  exact ⟨rfl, rfl⟩
end Go.Proofs.YtaiikekgckjdeaaGreat

namespace Go.Proofs.YtaiikekgckjdeaaGreat
open Go.RowKit Go.Maps
open Calmly (Kept)
theorem lawI : Keyed Tryz.prog 3 := int_keyed Tryz.underlying3
theorem zeroI (w : World) : (zeroValue 3).run Tryz.prog w = .ok (.int .i64 0) w := by kernel_rfl
theorem wf64 {a : Int} (h : -9223372036854775808 ≤ a ∧ a ≤ 9223372036854775807) : (Lit.int .i64 a).wf = true := by
  rw [show a = wrap64 a by unfold wrap64; omega]
  exact wrap64_wf _
/-- Block b is a map that holds a product of primes, of at most n entries, with powers up to M. -/
def OwQ (w : World) (b n : Nat) (M : Int) (v : Rat) : Prop := ∃ (D : DataW Unit) (l : List (Nat × Int)), w.ownsMap Tryz.prog 3 (plainElem Tryz.prog 3) b n D ∧ QV D M l ∧ valQ l = v
theorem OwQ.kept {w w' : World} {b n : Nat} {M : Int} {v : Rat} (h : OwQ w b n M v) {row : Option Nat} (hg : w.grownBy w' row) (hr : some b ≠ row) : OwQ w' b n M v := by
  obtain ⟨D, l, h1, h2, h3⟩ := h
  exact ⟨D, l, h1.kept hg hr, h2, h3⟩
theorem OwQ.lt {w : World} {b n : Nat} {M : Int} {v : Rat} (h : OwQ w b n M v) : b < w.heap.size := by
  obtain ⟨D, l, h1, h2, h3⟩ := h
  exact h1.lt
/-- What lies between two rounds: so much of the number is left, and so many primes have been taken. -/
structure TmI (w : World) (b cap : Nat) (M : Int) (v0 : Rat) (n0 : Nat) (pw : Int) (N c : Nat) (wr : World) : Prop where
  own : ∃ v, OwQ wr b (cap + c) (M + 4 * (c : Int)) v ∧ v * (N : Rat) ^ pw = v0 * (n0 : Rat) ^ pw
  le : N * 2 ^ c ≤ n0
  pos : 1 ≤ N
  grown : w.grownBy wr (some b)
theorem TmI.cle {w : World} {b cap : Nat} {M : Int} {v0 : Rat} {n0 : Nat} {pw : Int} {N c : Nat} {wr : World} (h : TmI w b cap M v0 n0 pw N c wr) (hn : n0 ≤ 1000000000) : c ≤ 29 := by
  rcases Nat.lt_or_ge c 30 with h1 | h1
  · omega
  · exfalso
    have h2 : 2 ^ 30 ≤ 2 ^ c := Nat.pow_le_pow_right (by omega) h1
    have h3 := h.le
    have h4 := h.pos
    have h5 : 1 * 2 ^ 30 ≤ N * 2 ^ c := Nat.mul_le_mul h4 h2
    omega
theorem TmI.nle {w : World} {b cap : Nat} {M : Int} {v0 : Rat} {n0 : Nat} {pw : Int} {N c : Nat} {wr : World} (h : TmI w b cap M v0 n0 pw N c wr) : N ≤ n0 :=
  Nat.le_trans (Nat.le_mul_of_pos_right _ (Nat.pow_pos (by omega))) h.le
/-- The numbers below p do not divide. -/
def NoD (N p : Nat) : Prop := ∀ d, 2 ≤ d → d < p → ¬ d ∣ N
theorem NoD.div {N p q : Nat} (h : NoD N p) (hq : q ∣ N) : NoD (N / q) p := fun d h1 h2 h3 => h d h1 h2 (by
  obtain ⟨k, hk⟩ := hq
  obtain ⟨m, hm⟩ := h3
  rcases Nat.eq_zero_or_pos q with h0 | h0
  · subst h0
    simp at hk
    rw [hk]
    exact ⟨0, rfl⟩
  · rw [hk, Nat.mul_div_cancel_left _ h0] at hm
    exact ⟨m * q, by rw [hk, hm, Nat.mul_comm, Nat.mul_assoc]⟩)
theorem tmI_step {w : World} {b cap : Nat} {M : Int} {v0 : Rat} {n0 : Nat} {pw : Int} {N c p : Nat} {wr w1 : World} (h : TmI w b cap M v0 n0 pw N c wr) (hp : p ∣ N) (hp2 : 2 ≤ p)
    {v v1 : Rat} (hv : v * (N : Rat) ^ pw = v0 * (n0 : Rat) ^ pw) (h1 : OwQ w1 b (cap + (c + 1)) (M + 4 * ((c + 1 : Nat) : Int)) v1) (hv1 : v1 = v * (p : Rat) ^ pw) (hg : wr.grownBy w1 (some b)) : TmI w b cap M v0 n0 pw (N / p) (c + 1) w1 := by
  obtain ⟨k, hk⟩ := hp
  have hk2 : N / p = k := by rw [hk, Nat.mul_div_cancel_left _ (by omega)]
  have hpos := h.pos
  have hk0 : k ≠ 0 := by rintro rfl; simp at hk; omega
  rw [hk2]
  refine ⟨⟨v1, h1, ?_⟩, ?_, by omega, h.grown.andThen hg (fun j hj => .inr hj)⟩
  · rw [← hv, hv1, hk, Rat.natCast_mul, rat_mul_zpow]
    grind
  · have := h.le
    rw [hk] at this
    refine Nat.le_trans ?_ this
    rw [Nat.pow_succ]
    have : k * (2 ^ c * 2) ≤ k * (2 ^ c * p) := Nat.mul_le_mul_left _ (Nat.mul_le_mul_left _ hp2)
    refine Nat.le_trans this (Nat.le_of_eq ?_)
    rw [Nat.mul_comm p k, Nat.mul_assoc, Nat.mul_comm p]
set_option maxRecDepth 100000 in
set_option maxHeartbeats 2000000 in
theorem times_any (b cap n : Nat) (pw M : Int) (v : Rat) (w : World) (h : OwQ w b cap M v) (hn : 1 ≤ n ∧ n ≤ 1000000000) (hp : -4 ≤ pw ∧ pw ≤ 4) (hM : 0 ≤ M ∧ M ≤ 100000) (hc : cap ≤ 1000000) :
    Calls Tryz.prog 72 #[.map (some b), .int .i64 (n : Int), .int .i64 pw] w fun e w' => e = .returned (.tuple #[]) ∧ OwQ w' b (cap + 30) (M + 120) (v * (n : Rat) ^ pw) ∧ w.grownBy w' (some b) := by
  have hI : TmI w b cap M v n pw n 0 w := ⟨⟨v, by simpa using h, rfl⟩, by simp, hn.1, World.grownBy.refl w _⟩
  go_enter Tryz.func72, Tryz.ntmps72
  go_wp2_with fail
  go_loopw [1, 6] (fun x i wr => ∃ N p c : Nat, x = .int .i64 (N : Int) ∧ i = .int .i64 (p : Int) ∧ 2 ≤ p ∧ p ≤ 40000 ∧ NoD N p ∧ TmI w b cap M v n pw N c wr) (fun _ i _ => 40000 - (intOf i).toNat)
  case atStart => exact ⟨n, 2, 0, rfl, rfl, by omega, by omega, fun d h1 h2 => by omega, hI⟩
  case round =>
    obtain ⟨N, p, c, rfl, rfl, hp2, hp4, hnd, hT⟩ := hrel
    have hNn := hT.nle
    have hb : 0 ≤ (p : Int) * (p : Int) ∧ (p : Int) * (p : Int) ≤ 1600000000 := by
      have : p * p ≤ 40000 * 40000 := Nat.mul_le_mul hp4 hp4
      rw [← Int.natCast_mul]
      omega
    by_cases hq : p * p ≤ N
    · have hi1 : (p : Int) * (p : Int) ≤ (N : Int) := by
        rw [← Int.natCast_mul]
        omega
      have hp3 : p ≤ 32000 := by
        rcases Nat.lt_or_ge 32000 p with h1 | h1
        · have : 32001 * 32001 ≤ p * p := Nat.mul_le_mul h1 h1
          omega
        · exact h1
      have HND := Lib.hid hnd
      have HT := Lib.hid hT
      clear hnd hT
      go_wp2_with fail
      go_loopw [1] (fun x wr => ∃ N' c' : Nat, x = .int .i64 (N' : Int) ∧ NoD N' p ∧ TmI w b cap M v n pw N' c' wr) (fun x _ => (intOf x).toNat)
      case atStart => exact ⟨N, c, rfl, HND.out, HT.out⟩
      case round =>
        obtain ⟨N', c', rfl, hnd, hT⟩ := hrel
        have hNn' := hT.nle
        have hN1 := hT.pos
        have hc9 := hT.cle hn.2
        by_cases hd : p ∣ N'
        · have t1 : (N' : Int).tmod (p : Int) = 0 := by
            have h0 : (N' : Int).tmod (p : Int) = ((N' % p : Nat) : Int) := rfl
            rw [h0, Nat.mod_eq_zero_of_dvd hd]
            rfl
          obtain ⟨v1, ⟨D, l, hown, hQ, rfl⟩, hv⟩ := hT.own
          have hdl : (N' : Int).tdiv (p : Int) = ((N' / p : Nat) : Int) := rfl
          have hdb : N' / p < N' := Nat.div_lt_self (by omega) (by omega)
          have HDL := Lib.hid hdl
          have HND' := Lib.hid hnd
          have HT' := Lib.hid hT
          have HV := Lib.hid hv
          have HQ := Lib.hid hQ
          have hwf : (Lit.int .i64 (p : Int)).wf = true := wf64 (by omega)
          have hex := exQ_bd hQ (by omega) p
          have hprm := Lib.hid (prm_of_least hp2 hnd hd)
          have hp0 : (p : Int) ≠ 0 := by omega
          obtain ⟨q, hq2⟩ : ∃ q, (N' : Int).tdiv (p : Int) = q := ⟨_, rfl⟩
          have hq3 : 0 ≤ q ∧ q < N' := by rw [← hq2, hdl]; exact ⟨Int.natCast_nonneg _, Int.ofNat_lt.2 hdb⟩
          clear hnd hT hv hQ hdl
          go_wp2_with (first | (at_lookup; refine wpList_lookup_own_int _ rfl _ _ 102 rfl 3 3 .i64 lawI Tryz.underlying102 Tryz.underlying3 (zeroI _) b _ D rfl hown _ _ rfl (keyOf_int_mk Tryz.underlying3 hwf) ?_; intro x0 hat hwx; obtain rfl : exQ l p = x0 := (by have h1 := hat; rw [HQ.out.1, atKey_ent] at h1; simpa using h1)) | (at_mapUpdate; refine wpList_mapUpdate_own _ rfl _ _ _ 102 rfl 3 3 lawI Tryz.underlying102 _ b _ D rfl hown (by unfold maxLen; omega) _ _ _ rfl rfl (keyOf_int_mk Tryz.underlying3 hwf) _ [] (plainElem_int Tryz.underlying3 (wf64 (by omega))) ?_; intro w1 hown1 hgrow1))
          obtain ⟨l', hQ', hv'⟩ := HQ.out.put (M' := M + 4 * ((c' + 1 : Nat) : Int)) hprm.out (by omega) (c := pw) (by omega) (by omega)
          refine ⟨⟨N' / p, c' + 1, by rw [← hq2, HDL.out], HND'.out.div hd, tmI_step HT'.out hd hp2 HV.out ⟨_, l', hown1, hQ', rfl⟩ hv' hgrow1⟩, ?_⟩
          simp only [intOf]
          omega
        · have t1 : (N' : Int).tmod (p : Int) ≠ 0 := by
            have h0 : (N' : Int).tmod (p : Int) = ((N' % p : Nat) : Int) := rfl
            rw [h0]
            intro h1
            exact hd (Nat.dvd_of_mod_eq_zero (by omega))
          have hp0 : (p : Int) ≠ 0 := by omega
          have HND' := Lib.hid hnd
          have HT' := Lib.hid hT
          clear hnd hT
          go_wp2_with fail
          go_roundw
          case rel =>
            refine ⟨N', p + 1, c', rfl, by go_num, by omega, by omega, fun d h1 h2 => ?_, HT'.out⟩
            rcases Nat.lt_or_ge d p with h3 | h3
            · exact HND'.out d h1 h3
            · obtain rfl : d = p := by omega
              exact hd
          case measure => simp [intOf]; omega
    · have hi1 : (N : Int) < (p : Int) * (p : Int) := by
        rw [← Int.natCast_mul]
        omega
      have hc9 := hT.cle hn.2
      by_cases h1 : N = 1
      · subst h1
        have HT := Lib.hid hT
        clear hT
        go_wp2_with fail
        go_end0
        obtain ⟨v1, hO, hv⟩ := HT.out.own
        have e1 : ((1 : Nat) : Rat) ^ pw = 1 := one_zpow' pw
        rw [e1, Rat.mul_one] at hv
        obtain ⟨D, l, hown, hQ, hv2⟩ := hO
        exact ⟨rfl, ⟨D, l, hown.mono (by omega), hQ.mono (by omega), by rw [hv2, hv]⟩, HT.out.grown⟩
      · have h2 := hT.pos
        have hprm := Lib.hid (prm_of_sq (n := N) (by omega) hnd (by omega))
        have hi2 : (1 : Int) < (N : Int) := by omega
        obtain ⟨v1, ⟨D, l, hown, hQ, rfl⟩, hv⟩ := hT.own
        have hwf : (Lit.int .i64 (N : Int)).wf = true := wf64 (by omega)
        have hex := exQ_bd hQ (by omega) N
        have HT := Lib.hid hT
        have HV := Lib.hid hv
        have HQ := Lib.hid hQ
        clear hnd hT hv hQ
        go_wp2_with (first | (at_lookup; refine wpList_lookup_own_int _ rfl _ _ 102 rfl 3 3 .i64 lawI Tryz.underlying102 Tryz.underlying3 (zeroI _) b _ D rfl hown _ _ rfl (keyOf_int_mk Tryz.underlying3 hwf) ?_; intro x0 hat hwx; obtain rfl : exQ l N = x0 := (by have h1 := hat; rw [HQ.out.1, atKey_ent] at h1; simpa using h1)) | (at_mapUpdate; refine wpList_mapUpdate_own _ rfl _ _ _ 102 rfl 3 3 lawI Tryz.underlying102 _ b _ D rfl hown (by unfold maxLen; omega) _ _ _ rfl rfl (keyOf_int_mk Tryz.underlying3 hwf) _ [] (plainElem_int Tryz.underlying3 (wf64 (by omega))) ?_; intro w1 hown1 hgrow1))
        go_end0
        obtain ⟨l', hQ', hv'⟩ := HQ.out.put (M' := M + 120) hprm.out (by omega) (c := pw) (by omega) (by omega)
        exact ⟨rfl, ⟨_, l', hown1.mono (by omega), hQ', by rw [hv', HV.out]⟩, HT.out.grown.andThen hgrow1 (fun j hj => .inr hj)⟩
end Go.Proofs.YtaiikekgckjdeaaGreat

namespace Go.Proofs.YtaiikekgckjdeaaGreat
open Go.RowKit Go.Maps
open Calmly (Kept)
/-- A number of small parts as a fraction. -/
def fcOk (v : Rat) : Bool := decide (v.num ≤ 1000000000) && decide (v.den ≤ 1000000000)
def fcN (v : Rat) : Int := if fcOk v then v.num else 0
def fcD (v : Rat) : Int := if fcOk v then (v.den : Int) else 0
theorem ranges_setCell {w : World} {b r n : Nat} {D : DataW Unit} {left : Lit → Bool} {cnt b4 i : Nat} {x : Value} {R : Value → Option (DataW Unit × List MemPlace)} {k : TypeId} (h : w.ranges Tryz.prog k R b r n D left cnt) {cs : Array Value} {t : TypeId} (h4 : w.heap[b4]? = some (.cells cs t)) :
    (w.setCell ⟨b4, i, none⟩ x).ranges Tryz.prog k R b r n D left cnt := by
  have hne : b ≠ b4 := by
    rintro rfl
    obtain ⟨es, clock, hb, _⟩ := h.owns
    rw [hb] at h4
    cases h4
  have hnr : r ≠ b4 := by
    rintro rfl
    obtain ⟨es, clock, since, seen, c0, hb, _, _, _, hr, _⟩ := h
    rw [hr] at h4
    cases h4
  refine h.kept (row := some b4) ⟨rfl, rfl, rfl, by simp, fun i hi hne => Below.heap_setCell _ _ _ _ (fun e => hne (by rw [e]))⟩ ?_ ?_
  · exact fun e => hne (by simpa using e)
  · exact fun e => hnr (by simpa using e)
/-- What lies between two rounds. -/
structure FrI (w : World) (b r cap : Nat) (D : DataW Unit) (left : Lit → Bool) (cnt : Nat) (U V : Nat) (wr : World) : Prop where
  rg : wr.ranges Tryz.prog 3 (plainElem Tryz.prog 3) b r cap D left cnt
  t2 : wr.heap[w.heap.size]? = some (.cells #[.int .i64 0, .int .i64 0] 27)
  t4 : wr.heap[w.heap.size + 1]? = some (.cells #[.int .i64 (U : Int), .int .i64 (V : Int)] 27)
  bel : Below w.heap.size w wr
  ule : U ≤ 1000000000
  vle : V ≤ 1000000000
theorem FrI.set0 {w : World} {b r cap : Nat} {D : DataW Unit} {left : Lit → Bool} {cnt U V : Nat} {wr : World} (h : FrI w b r cap D left cnt U V wr) {x : Nat} (hx : x ≤ 1000000000) : FrI w b r cap D left cnt x V (wr.setCell ⟨w.heap.size + 1, 0, none⟩ (.int .i64 (x : Int))) :=
  ⟨ranges_setCell h.rg h.t4, (Below.heap_setCell _ _ _ _ (by show w.heap.size ≠ w.heap.size + 1; omega)).trans h.t2, by simpa using setBlk h.t4 0 (.int .i64 (x : Int)), h.bel.setCell (by show w.heap.size ≤ w.heap.size + 1; omega) _, hx, h.vle⟩
theorem FrI.set1 {w : World} {b r cap : Nat} {D : DataW Unit} {left : Lit → Bool} {cnt U V : Nat} {wr : World} (h : FrI w b r cap D left cnt U V wr) {x : Nat} (hx : x ≤ 1000000000) : FrI w b r cap D left cnt U x (wr.setCell ⟨w.heap.size + 1, 1, none⟩ (.int .i64 (x : Int))) :=
  ⟨ranges_setCell h.rg h.t4, (Below.heap_setCell _ _ _ _ (by show w.heap.size ≠ w.heap.size + 1; omega)).trans h.t2, by simpa using setBlk h.t4 1 (.int .i64 (x : Int)), h.bel.setCell (by show w.heap.size ≤ w.heap.size + 1; omega) _, h.ule, hx⟩
set_option maxRecDepth 100000 in
set_option maxHeartbeats 4000000 in
theorem frac_any (b cap : Nat) (M : Int) (v : Rat) (w : World) (h : OwQ w b cap M v) (hM : 0 ≤ M ∧ M ≤ 1000000) :
    Calls Tryz.prog 59 #[.map (some b)] w fun e w' => e = .returned (.tuple #[.agg #[.int .i64 (fcN v), .int .i64 (fcD v)], .bool (fcOk v)]) ∧ Below w.heap.size w w' := by
  obtain ⟨D, l, hown, hQ, rfl⟩ := h
  have hlt := hown.lt
  obtain ⟨hvn, hvd⟩ := valQ_num hQ.2.1
  have HVN := Lib.hid hvn
  have HVD := Lib.hid hvd
  have HQ := Lib.hid hQ
  clear hvn hvd hQ
  have BW : Below w.heap.size w ((w.alloc (.cells #[.int .i64 0, .int .i64 0] 27)).alloc (.cells #[.int .i64 1, .int .i64 1] 27)) := ((Below.refl _ _).alloc (Nat.le_refl _) _).alloc (by simp) _
  have y0 := blk_keep (alloc_new w (.cells #[.int .i64 0, .int .i64 0] 27)) ((Below.refl _ _).alloc (Nat.le_refl _) (.cells #[.int .i64 1, .int .i64 1] 27))
  have y1 := alloc_new (w.alloc (.cells #[.int .i64 0, .int .i64 0] 27)) (.cells #[.int .i64 1, .int .i64 1] 27)
  simp only [World.size_alloc] at y1
  have hownW := (hown.alloc (.cells #[.int .i64 0, .int .i64 0] 27)).alloc (.cells #[.int .i64 1, .int .i64 1] 27)
  have hszW : ((w.alloc (.cells #[.int .i64 0, .int .i64 0] 27)).alloc (.cells #[.int .i64 1, .int .i64 1] 27)).heap.size = w.heap.size + 2 := by simp
  go_enter Tryz.func59, Tryz.ntmps59
  go_wp2_with (first | (at_range; refine wpList_range_own _ rfl _ 102 rfl 3 3 lawI Tryz.underlying102 _ b cap D rfl hownW ?_; intro w0 hrg0 hg0 hs0))
  go_frame
  rw [hszW]
  have BW0 := BW.trans (grown_below hg0 BW.size (fun k e => by cases e))
  have hI : FrI w b (w.heap.size + 2) cap D (Maps.has D) (Maps.size D) (upN (doneQ l (Maps.has D))) (dnN (doneQ l (Maps.has D))) w0 := by
    rw [doneQ_start HQ.out]
    rw [hszW] at hrg0
    refine ⟨hrg0, ?_, ?_, BW0, by simp [upN], by simp [dnN]⟩
    · exact (hg0.block _ (blk_lt y0) (by simp)).trans y0
    · exact (hg0.block _ (blk_lt y1) (by simp)).trans y1
  go_loopw [5] (fun _ wr => ∃ left cnt, FrI w b (w.heap.size + 2) cap D left cnt (upN (doneQ l left)) (dnN (doneQ l left)) wr) (fun _ wr => wr.rangeLeft b (w.heap.size + 2))
  case atStart => exact ⟨_, _, hI⟩
  case round =>
    clear hI hrg0 hg0 hs0 BW0 y0 y1 BW hownW hszW
    obtain ⟨left, cnt, hI⟩ := hrel
    have hrg := hI.rg
    have HI := Lib.hid hI
    clear hI
    go_wp2_with (first | (at_next; refine wpList_next_ranges_ii _ rfl _ rfl 3 3 .i64 .i64 lawI Tryz.underlying3 Tryz.underlying3 b (w.heap.size + 2) cap _ _ _ rfl hrg ?_ ?_))
    · intro _ hl0
      have hI := HI.out
      have e1 : doneQ l left = l := doneQ_end hl0
      rw [e1] at hI
      have hok : fcOk (valQ l) = true := by
        have h1 := hI.ule
        have h2 := hI.vle
        unfold fcOk
        rw [HVN.out, HVD.out]
        simp only [Bool.and_eq_true, decide_eq_true_eq]
        omega
      have e2 : fcN (valQ l) = (upN l : Int) := by rw [fcN, hok]; exact HVN.out
      have e3 : fcD (valQ l) = (dnN l : Int) := by rw [fcD, hok, HVD.out]; rfl
      have f4 := cell_block hI.t4 0
      have f5 := cell_block hI.t4 1
      have f6 := cell_block hI.t2 0
      have f7 := cell_block hI.t2 1
      have f8 := frozen_block hI.t2 0
      have f9 := frozen_block hI.t2 1
      have HOK := Lib.hid hok
      have E2 := Lib.hid e2
      have E3 := Lib.hid e3
      clear e1 hok e2 e3
      go_wp2_with fail
      have q0 := setBlk (setBlk hI.t2 0 (.int .i64 (upN l : Int))) 1 (.int .i64 (dnN l : Int))
      simp at q0
      have c0 := cell_block q0 0
      have c1 := cell_block q0 1
      refine bodyPost_ret (v := .tuple #[.agg #[.int .i64 (upN l : Int), .int .i64 (dnN l : Int)], .bool true]) (by simp [results, Tryz.results59, go_sem, c0, c1]) rfl ⟨?_, (hI.bel.setCell (by show w.heap.size ≤ w.heap.size; omega) _).setCell (by show w.heap.size ≤ w.heap.size; omega) _⟩
      rw [HOK.out, E2.out, E3.out]
    · intro x c w1 cnt1 hwx hwc hlx hat hrg1 hlt1 hg1 hs1 hen
      obtain ⟨p, rfl, hmem⟩ := HQ.out.came hat
      have hprm := HQ.out.2.1.2 _ hmem
      have hb9 := HQ.out.2.2 _ hmem
      dsimp only at hprm hb9
      have hI1 : FrI w b (w.heap.size + 2) cap D (fun z => left z && !z.sameKey (.int .i64 (p : Int))) cnt1 (upN (doneQ l left)) (dnN (doneQ l left)) w1 := by
        have hI := HI.out
        refine ⟨hrg1, ?_, ?_, hI.bel.trans (grown_below hg1 hI.bel.size (fun k e => by cases e; omega)), hI.ule, hI.vle⟩
        · exact (hg1.block _ (blk_lt hI.t2) (by simp)).trans hI.t2
        · exact (hg1.block _ (blk_lt hI.t4) (by simp)).trans hI.t4
      have hcnt : w1.rangeLeft b (w.heap.size + 2) < wr.rangeLeft b (w.heap.size + 2) := by rw [hrg1.left_eq, hrg.left_eq]; exact hlt1
      have hperm := doneQ_step HQ.out.2.1.1 hmem hlx
      have hup := upN_perm hperm
      have hdn := dnN_perm hperm
      have hule := upN_filter_le HQ.out.2.1 (fun x => !(fun z => left z && !z.sameKey (.int .i64 (p : Int))) (.int .i64 (x.1 : Int)))
      have hdle := dnN_filter_le HQ.out.2.1 (fun x => !(fun z => left z && !z.sameKey (.int .i64 (p : Int))) (.int .i64 (x.1 : Int)))
      replace hule : upN (doneQ l fun z => left z && !z.sameKey (.int .i64 (p : Int))) ≤ upN l := hule
      replace hdle : dnN (doneQ l fun z => left z && !z.sameKey (.int .i64 (p : Int))) ≤ dnN l := hdle
      rw [hup] at hule
      rw [hdn] at hdle
      have HUP := Lib.hid hup
      have HDN := Lib.hid hdn
      have HULE := Lib.hid hule
      have HDLE := Lib.hid hdle
      have HRG1 := Lib.hid hrg1
      have HCNT := Lib.hid hcnt
      have HPRM := Lib.hid hprm
      have hp2 := hprm.1
      clear hperm hup hdn hule hdle hcnt hlt1 hrg hrg1 hlx hat hg1 hs1 hprm
      obtain ⟨U, hU⟩ : ∃ U, upN (doneQ l left) = U := ⟨_, rfl⟩
      obtain ⟨V, hV⟩ : ∃ V, dnN (doneQ l left) = V := ⟨_, rfl⟩
      rw [hU, hV] at hI1
      have HU := Lib.hid hU
      have HV := Lib.hid hV
      clear hU hV
      by_cases hc : c < 0
      · have hE : ∃ e : Nat, c = -(e : Int) ∧ e ≤ 1000000 := ⟨(-c).toNat, by omega, by omega⟩
        obtain ⟨e, he, he6⟩ := hE
        have HE := Lib.hid he
        have hc0 := hc
        obtain rfl : c = -(e : Int) := he
        go_wp2_with fail
        go_loopw [25] (fun i wi => ∃ j : Nat, i = .int .i64 (j : Int) ∧ j ≤ e ∧ FrI w b (w.heap.size + 2) cap D (fun z => left z && !z.sameKey (.int .i64 (p : Int))) cnt1 U (V * p ^ j) wi) (fun i _ => e - (intOf i).toNat)
        case atStart => exact ⟨0, rfl, by omega, by simpa using hI1⟩
        case round =>
          clear hI1
          obtain ⟨j, rfl, hj, hI⟩ := hrel
          obtain ⟨X, hX⟩ : ∃ X, V * p ^ j = X := ⟨_, rfl⟩
          rw [hX] at hI
          have hXX : V * p ^ (j + 1) = X * p := by rw [← hX, Nat.pow_succ, Nat.mul_assoc]
          have HXX := Lib.hid hXX
          have HX := Lib.hid hX
          clear hXX hX
          have f4 := cell_block hI.t4 0
          have f5 := cell_block hI.t4 1
          have f6 := cell_block hI.t2 0
          have f7 := cell_block hI.t2 1
          have f8 := frozen_block hI.t2 0
          have f9 := frozen_block hI.t2 1
          have f10 := frozen_block hI.t4 0
          have f11 := frozen_block hI.t4 1
          have hule := hI.ule
          have hvle := hI.vle
          by_cases hlt : j < e
          · have hi1 : (j : Int) < (e : Int) := by omega
            have hi0 : (0 : Int) ≤ (j : Int) := by omega
            have hpr : X * p ≤ 1000000000 * 1000000000 := Nat.mul_le_mul hI.vle hb9.1
            go_wp2_with fail
            refine (mul64_any X p (by omega) (by omega) _).mono ?_
            rintro e' w' ⟨rfl, rfl⟩
            rw [show X * p / 18446744073709551616 = 0 by omega, show X * p % 18446744073709551616 = X * p by omega]
            obtain ⟨Y, hY⟩ : ∃ Y, X * p = Y := ⟨_, rfl⟩
            rw [hY] at hpr ⊢
            have HY := Lib.hid (HXX.out.trans hY)
            clear hY
            by_cases hbig : Y ≤ 1000000000
            · have hb1 : ¬ (1000000000 : Int) < (Y : Int) := by omega
              go_wp2_with fail
              go_roundw
              case rel => exact ⟨j + 1, by go_num, by omega, by rw [HY.out]; exact hI.set1 hbig⟩
              case measure => simp [intOf]; omega
            · have hb1 : (1000000000 : Int) < (Y : Int) := by omega
              have hgt : Y ≤ dnN l := by
                have h1 := HDLE.out
                have h2 : p ^ (j + 1) ≤ p ^ e := Nat.pow_le_pow_right (by omega) (by omega)
                have h3 : dnN ((p, -(e : Int)) :: doneQ l left) = p ^ e * V := by
                  show p ^ (-(-(e : Int))).toNat * dnN (doneQ l left) = _
                  rw [show (-(-(e : Int))).toNat = e by omega, HV.out]
                rw [h3] at h1
                have h4 := Nat.mul_le_mul_left V h2
                rw [HY.out] at h4
                rw [Nat.mul_comm] at h1
                omega
              have hok : fcOk (valQ l) = false := by
                unfold fcOk
                rw [HVN.out, HVD.out]
                simp only [Bool.and_eq_false_iff, decide_eq_false_iff_not]
                omega
              have HOK := Lib.hid hok
              clear hok hgt
              go_wp2_with fail
              have q0 := setBlk (setBlk hI.t2 0 (.int .i64 0)) 1 (.int .i64 0)
              simp at q0
              have c0 := cell_block q0 0
              have c1 := cell_block q0 1
              refine bodyPost_ret (v := .tuple #[.agg #[.int .i64 0, .int .i64 0], .bool false]) (by simp [results, Tryz.results59, go_sem, c0, c1]) rfl ⟨?_, (hI.bel.setCell (by show w.heap.size ≤ w.heap.size; omega) _).setCell (by show w.heap.size ≤ w.heap.size; omega) _⟩
              rw [fcN, fcD, HOK.out]
              rfl
          · have hle : (e : Int) ≤ (j : Int) := by omega
            obtain rfl : e = j := by omega
            go_wp2_with fail
            refine ⟨⟨(fun z => left z && !z.sameKey (.int .i64 (p : Int))), cnt1, ?_⟩, ?_⟩
            · have h1 : upN (doneQ l fun z => left z && !z.sameKey (.int .i64 (p : Int))) = U := by
                rw [HUP.out]
                show p ^ (-(e : Int)).toNat * upN (doneQ l left) = _
                rw [HU.out, show (-(e : Int)).toNat = 0 by omega]
                rw [Nat.pow_zero, Nat.one_mul]
              have h2 : dnN (doneQ l fun z => left z && !z.sameKey (.int .i64 (p : Int))) = X := by
                rw [HDN.out]
                show p ^ (-(-(e : Int))).toNat * dnN (doneQ l left) = _
                rw [HV.out, show (-(-(e : Int))).toNat = e by omega]
                rw [← HX.out, Nat.mul_comm]
              rw [h1, h2]
              exact hI
            · rw [hI.rg.left_eq, ← HRG1.out.left_eq]
              exact HCNT.out
      · have hE : ∃ e : Nat, c = (e : Int) ∧ e ≤ 1000000 := ⟨c.toNat, by omega, by omega⟩
        obtain ⟨e, he, he6⟩ := hE
        have HE := Lib.hid he
        have hc0 := hc
        obtain rfl : c = (e : Int) := he
        go_wp2_with fail
        go_loopw [25] (fun i wi => ∃ j : Nat, i = .int .i64 (j : Int) ∧ j ≤ e ∧ FrI w b (w.heap.size + 2) cap D (fun z => left z && !z.sameKey (.int .i64 (p : Int))) cnt1 (U * p ^ j) V wi) (fun i _ => e - (intOf i).toNat)
        case atStart => exact ⟨0, rfl, by omega, by simpa using hI1⟩
        case round =>
          clear hI1
          obtain ⟨j, rfl, hj, hI⟩ := hrel
          obtain ⟨X, hX⟩ : ∃ X, U * p ^ j = X := ⟨_, rfl⟩
          rw [hX] at hI
          have hXX : U * p ^ (j + 1) = X * p := by rw [← hX, Nat.pow_succ, Nat.mul_assoc]
          have HXX := Lib.hid hXX
          have HX := Lib.hid hX
          clear hXX hX
          have f4 := cell_block hI.t4 0
          have f5 := cell_block hI.t4 1
          have f6 := cell_block hI.t2 0
          have f7 := cell_block hI.t2 1
          have f8 := frozen_block hI.t2 0
          have f9 := frozen_block hI.t2 1
          have f10 := frozen_block hI.t4 0
          have f11 := frozen_block hI.t4 1
          have hule := hI.ule
          have hvle := hI.vle
          by_cases hlt : j < e
          · have hi1 : (j : Int) < (e : Int) := by omega
            have hi0 : (0 : Int) ≤ (j : Int) := by omega
            have hpr : X * p ≤ 1000000000 * 1000000000 := Nat.mul_le_mul hI.ule hb9.1
            go_wp2_with fail
            refine (mul64_any X p (by omega) (by omega) _).mono ?_
            rintro e' w' ⟨rfl, rfl⟩
            rw [show X * p / 18446744073709551616 = 0 by omega, show X * p % 18446744073709551616 = X * p by omega]
            obtain ⟨Y, hY⟩ : ∃ Y, X * p = Y := ⟨_, rfl⟩
            rw [hY] at hpr ⊢
            have HY := Lib.hid (HXX.out.trans hY)
            clear hY
            by_cases hbig : Y ≤ 1000000000
            · have hb1 : ¬ (1000000000 : Int) < (Y : Int) := by omega
              go_wp2_with fail
              go_roundw
              case rel => exact ⟨j + 1, by go_num, by omega, by rw [HY.out]; exact hI.set0 hbig⟩
              case measure => simp [intOf]; omega
            · have hb1 : (1000000000 : Int) < (Y : Int) := by omega
              have hgt : Y ≤ upN l := by
                have h1 := HULE.out
                have h2 : p ^ (j + 1) ≤ p ^ e := Nat.pow_le_pow_right (by omega) (by omega)
                have h3 : upN ((p, (e : Int)) :: doneQ l left) = p ^ e * U := by
                  show p ^ ((e : Int)).toNat * upN (doneQ l left) = _
                  rw [show ((e : Int)).toNat = e by omega, HU.out]
                rw [h3] at h1
                have h4 := Nat.mul_le_mul_left U h2
                rw [HY.out] at h4
                rw [Nat.mul_comm] at h1
                omega
              have hok : fcOk (valQ l) = false := by
                unfold fcOk
                rw [HVN.out, HVD.out]
                simp only [Bool.and_eq_false_iff, decide_eq_false_iff_not]
                omega
              have HOK := Lib.hid hok
              clear hok hgt
              go_wp2_with fail
              have q0 := setBlk (setBlk hI.t2 0 (.int .i64 0)) 1 (.int .i64 0)
              simp at q0
              have c0 := cell_block q0 0
              have c1 := cell_block q0 1
              refine bodyPost_ret (v := .tuple #[.agg #[.int .i64 0, .int .i64 0], .bool false]) (by simp [results, Tryz.results59, go_sem, c0, c1]) rfl ⟨?_, (hI.bel.setCell (by show w.heap.size ≤ w.heap.size; omega) _).setCell (by show w.heap.size ≤ w.heap.size; omega) _⟩
              rw [fcN, fcD, HOK.out]
              rfl
          · have hle : (e : Int) ≤ (j : Int) := by omega
            obtain rfl : e = j := by omega
            go_wp2_with fail
            refine ⟨⟨(fun z => left z && !z.sameKey (.int .i64 (p : Int))), cnt1, ?_⟩, ?_⟩
            · have h1 : upN (doneQ l fun z => left z && !z.sameKey (.int .i64 (p : Int))) = X := by
                rw [HUP.out]
                show p ^ ((e : Int)).toNat * upN (doneQ l left) = _
                rw [HU.out, show ((e : Int)).toNat = e by omega]
                rw [← HX.out, Nat.mul_comm]
              have h2 : dnN (doneQ l fun z => left z && !z.sameKey (.int .i64 (p : Int))) = V := by
                rw [HDN.out]
                show p ^ (-((e : Int))).toNat * dnN (doneQ l left) = _
                rw [HV.out, show (-((e : Int))).toNat = 0 by omega]
                rw [Nat.pow_zero, Nat.one_mul]
              rw [h1, h2]
              exact hI
            · rw [hI.rg.left_eq, ← HRG1.out.left_eq]
              exact HCNT.out
end Go.Proofs.YtaiikekgckjdeaaGreat
