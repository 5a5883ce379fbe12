/- Plain mathematics of digits to the base 10^9. -/
namespace Go.Wides

/-- The number of digits, the lowest one first. -/
def dv : List Int → Int
  | [] => 0
  | d :: r => d + 1000000000 * dv r
def Dg (xs : List Int) : Prop := ∀ d ∈ xs, 0 ≤ d ∧ d < 1000000000
def Nz (xs : List Int) : Prop := xs.getLast? ≠ some 0

theorem pow_mono {i j : Nat} (h : i ≤ j) : (1000000000 : Int) ^ i ≤ 1000000000 ^ j := by
  have h2 := Int.ofNat_le.2 (Nat.pow_le_pow_right (n := 1000000000) (by decide) h)
  rw [Int.natCast_pow, Int.natCast_pow] at h2
  exact h2
theorem dv_nonneg {xs : List Int} (h : Dg xs) : 0 ≤ dv xs := by
  induction xs with
  | nil => simp [dv]
  | cons d r ih =>
    have h1 := h d (by simp)
    have h2 := ih (fun x hx => h x (by simp [hx]))
    simp only [dv]; omega
theorem dv_append (xs ys : List Int) : dv (xs ++ ys) = dv xs + 1000000000 ^ xs.length * dv ys := by
  induction xs with
  | nil => simp [dv]
  | cons d r ih =>
    simp only [List.cons_append, dv, ih, List.length_cons, Int.pow_succ]
    grind
theorem dv_lt {xs : List Int} (h : Dg xs) : dv xs < 1000000000 ^ xs.length := by
  induction xs with
  | nil => simp [dv]
  | cons d r ih =>
    have h1 := h d (by simp)
    have h2 := ih (fun x hx => h x (by simp [hx]))
    simp only [dv, List.length_cons, Int.pow_succ]
    omega
theorem Dg.append {xs ys : List Int} (h1 : Dg xs) (h2 : Dg ys) : Dg (xs ++ ys) := fun d hd => by
  rcases List.mem_append.1 hd with h | h
  · exact h1 d h
  · exact h2 d h
theorem Dg.take {xs : List Int} (h : Dg xs) (k : Nat) : Dg (xs.take k) := fun d hd => h d (List.mem_of_mem_take hd)
theorem Dg.drop {xs : List Int} (h : Dg xs) (k : Nat) : Dg (xs.drop k) := fun d hd => h d (List.mem_of_mem_drop hd)
theorem Dg.nil : Dg [] := fun d hd => by cases hd
theorem Dg.get {xs : List Int} (h : Dg xs) (k : Nat) : 0 ≤ xs[k]?.getD 0 ∧ xs[k]?.getD 0 < 1000000000 := by
  cases hk : xs[k]? with
  | none => simp
  | some d => exact h d (List.mem_of_getElem? hk)
theorem Dg.one {d : Int} (h1 : 0 ≤ d) (h2 : d < 1000000000) : Dg [d] := fun x hx => by simp at hx; subst hx; exact ⟨h1, h2⟩
theorem Dg.set {xs : List Int} (h : Dg xs) (k : Nat) {d : Int} (h1 : 0 ≤ d) (h2 : d < 1000000000) : Dg (xs.set k d) := fun x hx => by
  rcases List.mem_or_eq_of_mem_set hx with hx | rfl
  · exact h x hx
  · exact ⟨h1, h2⟩
theorem dv_zeros {xs : List Int} (h : ∀ k, k < xs.length → xs[k]?.getD 0 = 0) : dv xs = 0 := by
  induction xs with
  | nil => rfl
  | cons d r ih =>
    have h0 := h 0 (by simp)
    simp at h0
    simp only [dv]
    rw [h0, ih (fun k hk => by have := h (k + 1) (by simp; omega); simpa using this)]
    rfl
/-- Zeros at the end may be left out. -/
theorem dv_take {xs : List Int} (m : Nat) (h : ∀ k, m ≤ k → k < xs.length → xs[k]?.getD 0 = 0) : dv (xs.take m) = dv xs := by
  have h1 := dv_append (xs.take m) (xs.drop m)
  rw [List.take_append_drop] at h1
  have h2 : dv (xs.drop m) = 0 := dv_zeros fun k hk => by
    rw [List.getElem?_drop]
    have : k < xs.length - m := by simpa using hk
    exact h (m + k) (by omega) (by omega)
  rw [h1, h2]; simp
theorem nz_take {xs : List Int} (m : Nat) (hm : m ≤ xs.length) (h : m = 0 ∨ xs[m - 1]?.getD 0 ≠ 0) : Nz (xs.take m) := by
  unfold Nz
  rcases h with rfl | h
  · simp
  · intro hc
    apply h
    cases m with
    | zero =>
      simp at hc
    | succ m =>
      rw [List.getLast?_eq_getElem?] at hc
      simp only [List.length_take, Nat.min_eq_left hm, Nat.add_sub_cancel] at hc
      rw [List.getElem?_take] at hc
      simp at hc
      simp [hc]
theorem nz_nil : Nz [] := by simp [Nz]
/-- Digits that end with no zero are of a number that is not below the power. -/
theorem dv_ge {xs : List Int} (h : Dg xs) (hz : Nz xs) (hne : xs ≠ []) : (1000000000 : Int) ^ (xs.length - 1) ≤ dv xs := by
  obtain ⟨l, d, rfl⟩ : ∃ l d, xs = l ++ [d] := ⟨xs.dropLast, xs.getLast hne, (List.dropLast_concat_getLast hne).symm⟩
  have hd := h d (by simp)
  have hd0 : d ≠ 0 := by simpa [Nz] using hz
  have hl := dv_nonneg (fun x hx => h x (by simp [hx]) : Dg l)
  rw [dv_append]
  simp only [List.length_append, List.length_cons, List.length_nil, Nat.zero_add, Nat.add_sub_cancel, dv]
  have hp : (0 : Int) < 1000000000 ^ l.length := Int.pow_pos (by decide)
  have : (1000000000 : Int) ^ l.length * 1 ≤ 1000000000 ^ l.length * (d + 1000000000 * 0) := Int.mul_le_mul_of_nonneg_left (by omega) (Int.le_of_lt hp)
  omega
theorem nz_zero {xs : List Int} (h : Dg xs) (hz : Nz xs) : dv xs = 0 ↔ xs = [] := by
  constructor
  · intro h0
    by_cases hne : xs = []
    · exact hne
    · have := dv_ge h hz hne
      have hp : (0 : Int) < 1000000000 ^ (xs.length - 1) := Int.pow_pos (by decide)
      omega
  · rintro rfl; rfl
/-- The longer number is the greater one. -/
theorem dv_lt_of_len {xs ys : List Int} (h1 : Dg xs) (h2 : Dg ys) (hz : Nz ys) (hl : xs.length < ys.length) : dv xs < dv ys := by
  have a := dv_lt h1
  have hne : ys ≠ [] := by rintro rfl; simp at hl
  have b := dv_ge h2 hz hne
  have : (1000000000 : Int) ^ xs.length ≤ 1000000000 ^ (ys.length - 1) := pow_mono (by omega)
  omega

theorem dv_at (xs : List Int) (k : Nat) (hk : k < xs.length) : dv xs = dv (xs.take k) + 1000000000 ^ k * (xs[k]?.getD 0 + 1000000000 * dv (xs.drop (k + 1))) := by
  have h := dv_append (xs.take k) (xs.drop k)
  rw [List.take_append_drop] at h
  rw [h, List.drop_eq_getElem_cons hk]
  simp only [dv, List.length_take, Nat.min_eq_left (Nat.le_of_lt hk)]
  simp [hk]
theorem dv_take_succ (xs : List Int) (k : Nat) : dv (xs.take (k + 1)) = dv (xs.take k) + 1000000000 ^ k * xs[k]?.getD 0 := by
  by_cases hk : k < xs.length
  · rw [List.take_succ_eq_append_getElem hk, dv_append]
    simp [dv, hk, Nat.min_eq_left (Nat.le_of_lt hk)]
  · rw [List.take_of_length_le (by omega), List.take_of_length_le (by omega), List.getElem?_eq_none (by omega)]
    simp
theorem cmp_step {xs ys : List Int} {k : Nat} (h1 : Dg xs) (h2 : Dg ys) (hx : k < xs.length) (hy : k < ys.length) (hd : xs.drop (k + 1) = ys.drop (k + 1)) (hlt : xs[k]?.getD 0 < ys[k]?.getD 0) : dv xs < dv ys := by
  rw [dv_at xs k hx, dv_at ys k hy, hd]
  have a := dv_lt (h1.take k)
  have b := dv_nonneg (h2.take k)
  have hl : (xs.take k).length = k := by simp; omega
  rw [hl] at a
  generalize dv (ys.drop (k + 1)) = r at *
  generalize xs[k]?.getD 0 = x at *
  generalize ys[k]?.getD 0 = y at *
  have hp : (0 : Int) < 1000000000 ^ k := Int.pow_pos (by decide)
  generalize (1000000000 : Int) ^ k = p at *
  have : p * (x + 1000000000 * r + 1) ≤ p * (y + 1000000000 * r) := Int.mul_le_mul_of_nonneg_left (by omega) (by omega)
  have e : p * (x + 1000000000 * r + 1) = p * (x + 1000000000 * r) + p := by grind
  omega
theorem drop_step {xs ys : List Int} {k : Nat} (hx : k < xs.length) (hy : k < ys.length) (hd : xs.drop (k + 1) = ys.drop (k + 1)) (he : xs[k]?.getD 0 = ys[k]?.getD 0) : xs.drop k = ys.drop k := by
  rw [List.drop_eq_getElem_cons hx, List.drop_eq_getElem_cons hy, hd]
  simp [hx, hy] at he
  rw [he]

/-- How two numbers compare. -/
def cmpI (x y : Int) : Int := if x < y then -1 else if x = y then 0 else 1
theorem cmpI_lt {x y : Int} (h : x < y) : cmpI x y = -1 := by unfold cmpI; rw [if_pos h]
theorem cmpI_eq {x y : Int} (h : x = y) : cmpI x y = 0 := by unfold cmpI; rw [if_neg (by omega), if_pos h]
theorem cmpI_gt {x y : Int} (h : y < x) : cmpI x y = 1 := by unfold cmpI; rw [if_neg (by omega), if_neg (by omega)]

/-- How far a sum of digits has come. -/
def AddStep (xs ys ds : List Int) (k : Nat) (c : Int) : Prop := Dg ds ∧ ds.length = k ∧ (c = 0 ∨ c = 1) ∧ dv (xs.take k) + dv (ys.take k) = dv ds + 1000000000 ^ k * c
theorem AddStep.start (xs ys : List Int) : AddStep xs ys [] 0 0 := ⟨Dg.nil, rfl, .inl rfl, by simp [dv]⟩
theorem AddStep.next {xs ys ds : List Int} {k : Nat} {c : Int} (h : AddStep xs ys ds k c) (h1 : Dg xs) (h2 : Dg ys) :
    AddStep xs ys (ds ++ [(xs[k]?.getD 0 + ys[k]?.getD 0 + c) % 1000000000]) (k + 1) ((xs[k]?.getD 0 + ys[k]?.getD 0 + c) / 1000000000) := by
  obtain ⟨a1, a2, a3, a4⟩ := h
  have b1 := h1.get k
  have b2 := h2.get k
  refine ⟨a1.append (Dg.one (by omega) (by omega)), by simp [a2], by omega, ?_⟩
  rw [dv_take_succ, dv_take_succ, dv_append, a2, Int.pow_succ]
  simp only [dv]
  generalize xs[k]?.getD 0 = x at *
  generalize ys[k]?.getD 0 = y at *
  have e : x + y + c = (x + y + c) % 1000000000 + 1000000000 * ((x + y + c) / 1000000000) := by omega
  generalize (x + y + c) % 1000000000 = u at *
  generalize (x + y + c) / 1000000000 = v at *
  generalize (1000000000 : Int) ^ k = p at *
  have e2 : p * (x + y + c) = p * (u + 1000000000 * v) := by rw [e]
  grind
theorem AddStep.fin {xs ys ds : List Int} {k : Nat} (h : AddStep xs ys ds k 0) (h1 : xs.length ≤ k) (h2 : ys.length ≤ k) : dv ds = dv xs + dv ys := by
  have := h.2.2.2
  rw [List.take_of_length_le h1, List.take_of_length_le h2] at this
  omega

/-- How far a difference of digits has come. -/
def SubStep (xs ys ds : List Int) (k : Nat) (c : Int) : Prop := Dg ds ∧ ds.length = k ∧ (c = 0 ∨ c = 1) ∧ dv (xs.take k) - dv (ys.take k) = dv ds - 1000000000 ^ k * c
theorem SubStep.start (xs ys : List Int) : SubStep xs ys [] 0 0 := ⟨Dg.nil, rfl, .inl rfl, by simp [dv]⟩
theorem SubStep.next0 {xs ys ds : List Int} {k : Nat} {c : Int} (h : SubStep xs ys ds k c) (h1 : Dg xs) (h2 : Dg ys) (h0 : 0 ≤ xs[k]?.getD 0 - ys[k]?.getD 0 - c) :
    SubStep xs ys (ds ++ [xs[k]?.getD 0 - ys[k]?.getD 0 - c]) (k + 1) 0 := by
  obtain ⟨a1, a2, a3, a4⟩ := h
  have b1 := h1.get k
  have b2 := h2.get k
  refine ⟨a1.append (Dg.one h0 (by omega)), by simp [a2], .inl rfl, ?_⟩
  rw [dv_take_succ, dv_take_succ, dv_append, a2]
  simp only [dv]
  generalize xs[k]?.getD 0 = x at *
  generalize ys[k]?.getD 0 = y at *
  generalize (1000000000 : Int) ^ k = p at *
  grind
theorem SubStep.next1 {xs ys ds : List Int} {k : Nat} {c : Int} (h : SubStep xs ys ds k c) (h1 : Dg xs) (h2 : Dg ys) (h0 : xs[k]?.getD 0 - ys[k]?.getD 0 - c < 0) :
    SubStep xs ys (ds ++ [xs[k]?.getD 0 - ys[k]?.getD 0 - c + 1000000000]) (k + 1) 1 := by
  obtain ⟨a1, a2, a3, a4⟩ := h
  have b1 := h1.get k
  have b2 := h2.get k
  refine ⟨a1.append (Dg.one (by omega) (by omega)), by simp [a2], .inr rfl, ?_⟩
  rw [dv_take_succ, dv_take_succ, dv_append, a2, Int.pow_succ]
  simp only [dv]
  generalize xs[k]?.getD 0 = x at *
  generalize ys[k]?.getD 0 = y at *
  generalize (1000000000 : Int) ^ k = p at *
  grind
/-- At the end nothing is borrowed where the second number is no greater. -/
theorem SubStep.fin {xs ys ds : List Int} {k : Nat} {c : Int} (h : SubStep xs ys ds k c) (h1 : xs.length ≤ k) (h2 : ys.length ≤ k) (hle : dv ys ≤ dv xs) : dv ds = dv xs - dv ys := by
  obtain ⟨a1, a2, a3, a4⟩ := h
  rw [List.take_of_length_le h1, List.take_of_length_le h2] at a4
  have := dv_lt a1
  rw [a2] at this
  rcases a3 with rfl | rfl
  · omega
  · omega

theorem dv_set (xs : List Int) (j : Nat) (v : Int) (hj : j < xs.length) : dv (xs.set j v) = dv xs + 1000000000 ^ j * (v - xs[j]?.getD 0) := by
  rw [dv_at (xs.set j v) j (by simpa using hj), dv_at xs j hj]
  rw [List.take_set_of_le (by omega), List.drop_set_of_lt (by omega)]
  simp [hj]
  grind
theorem dv_replicate (n : Nat) : dv (List.replicate n 0) = 0 := dv_zeros (fun k hk => by simp at hk; simp [hk])
theorem Dg.replicate (n : Nat) : Dg (List.replicate n 0) := fun d hd => by
  have := List.eq_of_mem_replicate hd
  omega

/-- How far a product has come: i digits of the first number are done, k of the second with the next digit; what is left to carry. -/
def MulIn (xs ys out : List Int) (i k : Nat) (c : Int) : Prop :=
  Dg out ∧ out.length = xs.length + ys.length + 1 ∧ 0 ≤ c ∧ c < 1000000000 ∧ (∀ j, i + ys.length ≤ j → out[j]?.getD 0 = 0) ∧
  dv out + 1000000000 ^ (i + k) * c = dv (xs.take i) * dv ys + 1000000000 ^ i * xs[i]?.getD 0 * dv (ys.take k)
def MulOut (xs ys out : List Int) (i : Nat) : Prop :=
  Dg out ∧ out.length = xs.length + ys.length + 1 ∧ (∀ j, i + ys.length ≤ j → out[j]?.getD 0 = 0) ∧ dv out = dv (xs.take i) * dv ys
theorem MulOut.start (xs ys : List Int) : MulOut xs ys (List.replicate (xs.length + ys.length + 1) 0) 0 := by
  refine ⟨Dg.replicate _, by simp, fun j _ => ?_, by rw [dv_replicate]; simp [dv]⟩
  rw [List.getElem?_replicate]
  split <;> rfl
theorem MulOut.enter {xs ys out : List Int} {i : Nat} (h : MulOut xs ys out i) : MulIn xs ys out i 0 0 :=
  ⟨h.1, h.2.1, by omega, by omega, h.2.2.1, by rw [h.2.2.2]; simp [dv]⟩
theorem mul_bd {x y p c : Int} (h1 : 0 ≤ x) (h2 : x < 1000000000) (h3 : 0 ≤ y) (h4 : y < 1000000000) (h5 : 0 ≤ p) (h6 : p < 1000000000) (h7 : 0 ≤ c) (h8 : c < 1000000000) :
    0 ≤ x * y ∧ x * y ≤ 999999998000000001 ∧ 0 ≤ p + x * y + c ∧ p + x * y + c ≤ 999999999999999999 := by
  have a : 0 ≤ x * y := Int.mul_nonneg h1 h3
  have b : x * y ≤ 999999999 * 999999999 := Int.mul_le_mul (by omega) (by omega) h3 (by omega)
  omega
theorem MulIn.next {xs ys out : List Int} {i k : Nat} {c : Int} (h : MulIn xs ys out i k c) (h1 : Dg xs) (h2 : Dg ys) (hi : i < xs.length) (hk : k < ys.length) :
    MulIn xs ys (out.set (i + k) ((out[i + k]?.getD 0 + xs[i]?.getD 0 * ys[k]?.getD 0 + c) % 1000000000)) i (k + 1) ((out[i + k]?.getD 0 + xs[i]?.getD 0 * ys[k]?.getD 0 + c) / 1000000000) := by
  obtain ⟨a1, a2, a3, a4, a5, a6⟩ := h
  have b1 := h1.get i
  have b2 := h2.get k
  have b3 := a1.get (i + k)
  have b4 := mul_bd b1.1 b1.2 b2.1 b2.2 b3.1 b3.2 a3 a4
  refine ⟨a1.set _ (by omega) (by omega), by simpa using a2, by omega, by omega, fun j hj => ?_, ?_⟩
  · rw [List.getElem?_set_ne (by omega)]
    exact a5 j hj
  · rw [dv_set _ _ _ (by omega), dv_take_succ, show i + (k + 1) = i + k + 1 from rfl, Int.pow_succ, Int.pow_add] at *
    generalize out[i + k]?.getD 0 = p at *
    generalize xs[i]?.getD 0 = x at *
    generalize ys[k]?.getD 0 = y at *
    generalize hs : p + x * y + c = s at *
    have e : s = s % 1000000000 + 1000000000 * (s / 1000000000) := by omega
    generalize s % 1000000000 = u at *
    generalize s / 1000000000 = v at *
    generalize (1000000000 : Int) ^ i = q at *
    generalize (1000000000 : Int) ^ k = r at *
    grind
theorem MulIn.leave {xs ys out : List Int} {i : Nat} {c : Int} (h : MulIn xs ys out i ys.length c) (hi : i < xs.length) :
    out[i + ys.length]?.getD 0 + c = c ∧ MulOut xs ys (out.set (i + ys.length) c) (i + 1) := by
  obtain ⟨a1, a2, a3, a4, a5, a6⟩ := h
  have h0 := a5 (i + ys.length) (Nat.le_refl _)
  refine ⟨by omega, a1.set _ a3 a4, by simpa using a2, fun j hj => ?_, ?_⟩
  · rw [List.getElem?_set_ne (by omega)]
    exact a5 j (by omega)
  · rw [dv_set _ _ _ (by omega), h0, dv_take_succ]
    rw [List.take_of_length_le (Nat.le_refl _)] at a6
    grind
theorem MulOut.fin {xs ys out : List Int} {i : Nat} (h : MulOut xs ys out i) (hi : xs.length ≤ i) : dv out = dv xs * dv ys := by
  rw [h.2.2.2, List.take_of_length_le hi]

/-- How far a division has come: the digits from number k on are divided, L is left. -/
def DivOut (xs q : List Int) (D : Int) (k : Nat) (L : Int) : Prop := Dg q ∧ q.length = xs.length ∧ 0 ≤ L ∧ L < D ∧ dv (xs.drop k) = D * dv (q.drop k) + L
theorem DivOut.start (xs : List Int) {D : Int} (hD : 0 < D) : DivOut xs (List.replicate xs.length 0) D xs.length 0 :=
  ⟨Dg.replicate _, by simp, by omega, hD, by simp [dv]⟩
theorem DivOut.next {xs q : List Int} {D L lo : Int} {i : Nat} (h : DivOut xs q D (i + 1) L) (hi : i < xs.length) (h0 : 0 ≤ lo) (h1 : lo < 1000000000)
    (h2 : D * lo ≤ xs[i]?.getD 0 + 1000000000 * L) (h3 : xs[i]?.getD 0 + 1000000000 * L < D * lo + D) : DivOut xs (q.set i lo) D i (xs[i]?.getD 0 + 1000000000 * L - D * lo) := by
  obtain ⟨a1, a2, a3, a4, a5⟩ := h
  refine ⟨a1.set _ h0 h1, by simpa using a2, by omega, by omega, ?_⟩
  rw [List.drop_eq_getElem_cons hi, List.drop_eq_getElem_cons (l := q.set i lo) (by simp; omega)]
  simp only [dv, List.getElem_set_self]
  rw [List.drop_set_of_lt (by omega), a5]
  have e : xs[i]?.getD 0 = xs[i] := by simp [hi]
  rw [e]
  grind
theorem DivOut.fin {xs q : List Int} {D L : Int} (h : DivOut xs q D 0 L) : dv xs = D * dv q + L := by simpa using h.2.2.2.2
/-- Where the greatest digit is sought. -/
def Seek (D R lo hi : Int) : Prop := 0 ≤ lo ∧ lo ≤ hi ∧ hi ≤ 999999999 ∧ D * lo ≤ R ∧ R < D * hi + D
theorem Seek.start {D R : Int} (h0 : 0 ≤ R) (h1 : R < 1000000000 * D) : Seek D R 0 999999999 := ⟨by omega, by omega, by omega, by omega, by omega⟩
theorem Seek.up {D R lo hi m : Int} (h : Seek D R lo hi) (h1 : lo < m) (h2 : m ≤ hi) (h3 : D * m ≤ R) : Seek D R m hi := ⟨by have := h.1; omega, h2, h.2.2.1, h3, h.2.2.2.2⟩
theorem Seek.down {D R lo hi m : Int} (h : Seek D R lo hi) (h1 : lo < m) (h2 : m ≤ hi) (h3 : R < D * m) : Seek D R lo (m - 1) := by
  refine ⟨h.1, by omega, by have := h.2.2.1; omega, h.2.2.2.1, ?_⟩
  have : D * (m - 1) + D = D * m := by grind
  omega
/-- Rounding down, by sizes. -/
theorem floor_neg {z D Q L : Int} (hz : z < 0) (h : (z.natAbs : Int) = D * Q + L) (hD : 0 < D) (h0 : 0 ≤ L) (h1 : L < D) : z / D = -Q - (if 0 < L then 1 else 0) := by
  have e : z = -(D * Q + L) := by omega
  subst e
  split
  · rw [show -(D * Q + L) = (D - L) + D * (-Q - 1) from by grind, Int.add_mul_ediv_left _ _ (by omega), Int.ediv_eq_zero_of_lt (by omega) (by omega)]
    omega
  · have : L = 0 := by omega
    subst this
    rw [show -(D * Q + 0) = 0 + D * (-Q) from by grind, Int.add_mul_ediv_left _ _ (by omega)]
    simp
theorem floor_pos {z D Q L : Int} (h : z = D * Q + L) (h0 : 0 ≤ L) (h1 : L < D) : z / D = Q := by
  subst h
  rw [show D * Q + L = L + D * Q from by omega, Int.add_mul_ediv_left _ _ (by omega), Int.ediv_eq_zero_of_lt h0 h1]
  omega
end Go.Wides
