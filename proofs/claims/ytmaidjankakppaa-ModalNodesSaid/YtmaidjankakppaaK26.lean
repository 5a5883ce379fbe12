/- Plain law of nodes: the parts of a shape are the determinants, each times a number above 0; what is missing is the last determinant; sways are sums, and Betti's law. Plain law of sways: the sway of a sum of loads is the sum of both; Betti's law; loads are the forces of their sway. Contracts of chapter 6: shapes that are small, and a part of a shape. Two numbers that are stored into blocks of their own; a part of a shape. -/
import Derived.Test.YtmaidjankakppaaK25
namespace Go.Proofs.Ytmaidjankakppaa

/-- The last two parts are determinants. -/
theorem shP_det (ms ks : List Int) (num den : Int) (i : Nat) : (shP ms ks num den i)[i]?.getD 0 = (detRow ms ks num den i).2 ∧ (0 < i → (shP ms ks num den i)[i - 1]?.getD 0 = (detRow ms ks num den i).1 * (den * ks[i]?.getD 0)) := by
  induction i with
  | zero => exact ⟨rfl, fun h => absurd h (by omega)⟩
  | succ i ih =>
    obtain ⟨h1, h2⟩ := ih
    refine ⟨?_, fun _ => ?_⟩
    · rw [shP_last, h1, pullI, h1]
      show _ = detNext _ _ _ num den i _ _
      unfold detNext
      rcases Nat.eq_zero_or_pos i with rfl | hi
      · rw [if_pos rfl, if_pos rfl]
        grind
      · rw [if_neg (by omega), if_neg (by omega), h2 hi]
        grind
    · rw [Nat.add_sub_cancel, shP_get _ _ _ _ _ _ (Nat.le_refl _), h1]
      rfl
theorem pull_det (ms ks : List Int) (num den : Int) (i : Nat) (hk : ks[i + 1]?.getD 0 = 0) : pullI ms ks num den (shP ms ks num den i) i = (detRow ms ks num den (i + 1)).2 := by
  have h := (shP_det ms ks num den (i + 1)).1
  rw [shP_last, hk] at h
  rw [← h]
  grind
theorem sign_mul_pos {a c : Int} (h : 0 < c) : (a * c).sign = a.sign := by
  rw [Int.sign_mul, Int.sign_eq_one_of_pos h, Int.mul_one]
theorem shP_sign {ms ks : List Int} {num den : Int} {n : Nat} (hd : 0 < den) (hk : ∀ j, j < n → 1 ≤ ks[j]?.getD 0 ∧ ks[j]?.getD 0 ≤ 20) (i : Nat) (hi : i < n) (j : Nat) (hj : j ≤ i) :
    ((shP ms ks num den i)[j]?.getD 0).sign = (detRow ms ks num den j).2.sign := by
  induction i with
  | zero =>
    obtain rfl : j = 0 := by omega
    rfl
  | succ i ih =>
    rcases Nat.lt_or_ge i j with h | h
    · obtain rfl : j = i + 1 := by omega
      rw [(shP_det ms ks num den (i + 1)).1]
    · rw [shP_get _ _ _ _ _ _ h, sign_mul_pos (Int.mul_pos hd (by have := hk (i + 1) hi; omega)), ih (by omega) h]
theorem shP_zero (ms ks : List Int) (num den : Int) (i : Nat) : (shP ms ks num den i)[0]?.getD 0 = shDen ks den i := by
  induction i with
  | zero => rfl
  | succ i ih => rw [shP_get _ _ _ _ _ _ (Nat.zero_le _), ih]; rfl
theorem tdiv_sign {p : Int} {g : Nat} (h : (g : Int) ∣ p) (hg : 0 < g) : (p.tdiv g).sign = p.sign := by
  obtain ⟨t, rfl⟩ := h
  rw [Int.mul_tdiv_cancel_left _ (by omega), Int.mul_comm, sign_mul_pos (by omega)]
theorem ndTo_bAll (ms ks : List Int) (num den : Int) (xs : List Int) (n : Nat) (h : ∀ j, j < n + 1 → (xs[j]?.getD 0).sign = (detRow ms ks num den j).2.sign) (j : Nat) (hj : j ≤ n) :
    (ndTo xs (j + 1)).1 = (bAll (dets ms ks num den j)).1 ∧ (ndTo xs (j + 1)).2 = (bAll (dets ms ks num den j)).2.1 ∧ ((bAll (dets ms ks num den j)).2.1 = 1 ∨ (bAll (dets ms ks num den j)).2.1 = -1) := by
  induction j with
  | zero =>
    have h0 := h 0 (by omega)
    have h1 : (xs[0]?.getD 0).sign = 1 := h0
    refine ⟨?_, ?_, .inl rfl⟩
    · show (ndStep (0, 0) (xs[0]?.getD 0)).1 = 0
      unfold ndStep
      rw [h1]
      rfl
    · show (ndStep (0, 0) (xs[0]?.getD 0)).2 = 1
      unfold ndStep
      rw [h1]
      rfl
  | succ j ih =>
    obtain ⟨h1, h2, h3⟩ := ih (by omega)
    have hs := h (j + 1) (by omega)
    rw [dets_succ, bAll_snoc]
    show (ndStep (ndTo xs (j + 1)) (xs[j + 1]?.getD 0)).1 = _ ∧ (ndStep (ndTo xs (j + 1)) (xs[j + 1]?.getD 0)).2 = _ ∧ _
    unfold ndStep bStep
    rw [hs, h1, h2]
    generalize (detRow ms ks num den (j + 1)).2 = d at *
    generalize bAll (dets ms ks num den j) = st at *
    have hd : d.sign = 0 ∨ d.sign = 1 ∨ d.sign = -1 := by
      rcases Int.lt_trichotomy d 0 with h | h | h
      · exact .inr (.inr (Int.sign_eq_neg_one_of_neg h))
      · subst h; exact .inl rfl
      · exact .inr (.inl (Int.sign_eq_one_of_pos h))
    rcases hd with hd | hd | hd <;> rcases h3 with h3 | h3 <;> rw [hd, h3] <;> simp
theorem bAll_last (ms ks : List Int) (num den : Int) (n : Nat) : (bAll (dets ms ks num den (n + 1))).2.2 = (detRow ms ks num den (n + 1)).2 := by
  rw [dets_succ, bAll_snoc]
  unfold bStep
  split <;> rfl
theorem bAll_zero (ms ks : List Int) (num den : Int) (n : Nat) (h : (detRow ms ks num den (n + 1)).2 = 0) : (bAll (dets ms ks num den (n + 1))).1 = (bAll (dets ms ks num den n)).1 := by
  rw [dets_succ, bAll_snoc, h]
  unfold bStep
  rw [if_neg (by simp)]
/-- The law of nodes. -/
theorem nodes_law {ms ks : List Int} {x y R S : Int} {xs : List Int} {n : Nat} (hf : Fr ms ks) (hn : ms.length = n) (hy : 0 < y)
    (hR : (shDen ks y (n - 1)).tdiv (lowG (shP ms ks x y (n - 1)) (shDen ks y (n - 1))) = R) (hX : (shP ms ks x y (n - 1)).map (fun p => p.tdiv (lowG (shP ms ks x y (n - 1)) (shDen ks y (n - 1)))) = xs)
    (hS : (pullI ms ks x y (shP ms ks x y (n - 1)) (n - 1)).sign = S) :
    modeF ms ks x y = (S == 0) ∧ (modeF ms ks x y = true → (ndTo xs n).1 = belowF ms ks x y) ∧ xs[0]?.getD 0 = R := by
  obtain ⟨i, rfl⟩ : ∃ i, n = i + 1 := ⟨n - 1, by have := hf.pos; omega⟩
  rw [Nat.add_sub_cancel] at hR hX hS
  have hk : ∀ j, j < i + 1 → 1 ≤ ks[j]?.getD 0 ∧ ks[j]?.getD 0 ≤ 20 := fun j hj => hf.k j (by omega)
  have hk0 : ks[i + 1]?.getD 0 = 0 := by
    rw [List.getElem?_eq_none (by have := hf.len; omega)]
    rfl
  have hD : shDen ks y i ≠ 0 := by
    have : ∀ j, j ≤ i → 0 < shDen ks y j := by
      intro j hj
      induction j with
      | zero => exact Int.one_pos
      | succ j ih => exact Int.mul_pos (ih (by omega)) (Int.mul_pos hy (by have := hk (j + 1) (by omega); omega))
    have := this i (Nat.le_refl _)
    omega
  have hmem : shDen ks y i ∈ shP ms ks x y i ++ [shDen ks y i] := by simp
  have hg : 0 < lowG (shP ms ks x y i) (shDen ks y i) := gcds_pos hmem hD
  have hdv : ∀ p ∈ shP ms ks x y i, ((lowG (shP ms ks x y i) (shDen ks y i) : Nat) : Int) ∣ p := fun p hp => gcds_dvd_mem (List.mem_append_left _ hp)
  have hlen := shP_len ms ks x y i
  have hget : ∀ j, j < i + 1 → xs[j]?.getD 0 = ((shP ms ks x y i)[j]?.getD 0).tdiv (lowG (shP ms ks x y i) (shDen ks y i)) ∧ (shP ms ks x y i)[j]?.getD 0 ∈ shP ms ks x y i := by
    intro j hj
    rw [← hX, List.getElem?_map, List.getElem?_eq_getElem (by omega)]
    exact ⟨rfl, List.getElem_mem _⟩
  rw [pull_det _ _ _ _ _ hk0] at hS
  have hsg : ∀ j, j < i + 1 → (xs[j]?.getD 0).sign = (detRow ms ks x y j).2.sign := by
    intro j hj
    obtain ⟨h1, h2⟩ := hget j hj
    rw [h1, tdiv_sign (hdv _ h2) hg, shP_sign hy hk i (by omega) j (by omega)]
  have hm : modeF ms ks x y = (S == 0) := by
    unfold modeF
    rw [hn, bAll_last, ← hS]
    rcases Int.lt_trichotomy (detRow ms ks x y (i + 1)).2 0 with h | h | h
    · rw [Int.sign_eq_neg_one_of_neg h]
      rw [beq_eq_false_iff_ne.2 (by omega)]
      rfl
    · rw [h]
      rfl
    · rw [Int.sign_eq_one_of_pos h]
      rw [beq_eq_false_iff_ne.2 (by omega)]
      rfl
  refine ⟨hm, fun hh => ?_, ?_⟩
  · obtain ⟨h1, _, _⟩ := ndTo_bAll ms ks x y xs i hsg i (Nat.le_refl _)
    rw [h1]
    unfold belowF
    rw [hn, bAll_zero]
    unfold modeF at hh
    rw [hn, bAll_last] at hh
    simpa using hh
  · rw [(hget 0 (by omega)).1, shP_zero, hR]
end Go.Proofs.Ytmaidjankakppaa

namespace Go.Proofs.Ytmaidjankakppaa

/-- The first sums of two lists of loads. -/
def addL (ls ls' : List Int) (j : Nat) : List Int := (List.range j).map (fun t => ls[t]?.getD 0 + ls'[t]?.getD 0)
theorem addL_succ (ls ls' : List Int) (j : Nat) : addL ls ls' (j + 1) = addL ls ls' j ++ [ls[j]?.getD 0 + ls'[j]?.getD 0] := by
  unfold addL
  rw [List.range_succ, List.map_append]
  rfl
theorem addL_len (ls ls' : List Int) (j : Nat) : (addL ls ls' j).length = j := by simp [addL]
theorem addL_get (ls ls' : List Int) (n t : Nat) (h : t < n) : (addL ls ls' n)[t]?.getD 0 = ls[t]?.getD 0 + ls'[t]?.getD 0 := by
  unfold addL
  rw [List.getElem?_map, List.getElem?_range h]
  rfl
theorem carT_add (ls ls' : List Int) (n i t : Nat) (h : i + t ≤ n) : carT (addL ls ls' n) i t = carT ls i t + carT ls' i t := by
  induction t with
  | zero => rfl
  | succ t ih =>
    rw [carT, carT, carT, ih (by omega), addL_get _ _ _ _ (by omega)]
    omega
theorem divInt_add (a b k : Int) : Rat.divInt (a + b) k = Rat.divInt a k + Rat.divInt b k := by
  rw [Rat.divInt_eq_div, Rat.divInt_eq_div, Rat.divInt_eq_div, Rat.intCast_add]
  grind
theorem swQ_add (ks ls ls' : List Int) (n i : Nat) (h : i ≤ n) : swQ ks (addL ls ls' n) n i = swQ ks ls n i + swQ ks ls' n i := by
  induction i with
  | zero =>
    simp only [swQ]
    grind
  | succ i ih =>
    rw [swQ, swQ, swQ, ih (by omega), carT_add _ _ _ _ _ (by omega), divInt_add]
    grind

/-- The work of loads on the sway under other ones, the first storeys'. -/
def beT (ks ls ls' : List Int) (n : Nat) : Nat → Rat
  | 0 => 0
  | j + 1 => beT ks ls ls' n j + ((ls'[j]?.getD 0 : Int) : Rat) * swQ ks ls n (j + 1)
theorem betti (ks ls ls' : List Int) (n : Nat) (h : n ≤ 4) : beT ks ls ls' n n = beT ks ls' ls n n := by
  rcases (by omega : n = 0 ∨ n = 1 ∨ n = 2 ∨ n = 3 ∨ n = 4) with rfl | rfl | rfl | rfl | rfl
  · rfl
  all_goals
    simp only [beT, swQ, carT, Rat.divInt_eq_div, Nat.sub_zero, Nat.add_zero, Nat.zero_add, Nat.reduceSub, Nat.reduceAdd, Rat.intCast_add, Rat.intCast_zero]
    try generalize ls[0]?.getD 0 = a0
    try generalize ls[1]?.getD 0 = a1
    try generalize ls[2]?.getD 0 = a2
    try generalize ls[3]?.getD 0 = a3
    try generalize ls'[0]?.getD 0 = b0
    try generalize ls'[1]?.getD 0 = b1
    try generalize ls'[2]?.getD 0 = b2
    try generalize ls'[3]?.getD 0 = b3
    try generalize ks[0]?.getD 0 = k0
    try generalize ks[1]?.getD 0 = k1
    try generalize ks[2]?.getD 0 = k2
    try generalize ks[3]?.getD 0 = k3
    simp only [Rat.div_def]
    try generalize ((k0 : Int) : Rat)⁻¹ = r0
    try generalize ((k1 : Int) : Rat)⁻¹ = r1
    try generalize ((k2 : Int) : Rat)⁻¹ = r2
    try generalize ((k3 : Int) : Rat)⁻¹ = r3
    try grind

/-- What a sway in lowest terms is. -/
theorem sway_parts {ms ks ls : List Int} {n : Nat} {R : Int} {xs : List Int} (hn : ms.length = n) (hE : swayE ms ks ls = 0)
    (hR : (prodK ks n).tdiv (lowG (swPs ks ls n) (prodK ks n)) = R) (hX : (swPs ks ls n).map (fun p => p.tdiv (lowG (swPs ks ls n) (prodK ks n))) = xs) :
    ∃ g : Int, 0 < g ∧ prodK ks n = g * R ∧ 0 < prodK ks n ∧ ∀ i, i < n → swP ks ls n (prodK ks n) (i + 1) = g * xs[i]?.getD 0 := by
  obtain ⟨hc, hl⟩ := swayE_ok hE
  obtain ⟨q1, q2, q3, q4, q5⟩ := checkF_ok hc
  rw [hn] at q2 q3 q4 q5
  obtain ⟨p1, _⟩ := prodK_bd q5 n (Nat.le_refl _)
  have hmem : prodK ks n ∈ swPs ks ls n ++ [prodK ks n] := by simp
  have hg : 0 < lowG (swPs ks ls n) (prodK ks n) := gcds_pos hmem (by omega)
  have hd : ∀ p ∈ swPs ks ls n ++ [prodK ks n], p = (lowG (swPs ks ls n) (prodK ks n) : Nat) * p.tdiv (lowG (swPs ks ls n) (prodK ks n)) := by
    intro p hp
    obtain ⟨t, ht⟩ : ((lowG (swPs ks ls n) (prodK ks n) : Nat) : Int) ∣ p := gcds_dvd_mem hp
    generalize lowG (swPs ks ls n) (prodK ks n) = g at *
    subst ht
    rw [Int.mul_tdiv_cancel_left _ (by omega)]
  refine ⟨lowG (swPs ks ls n) (prodK ks n), by omega, ?_, by omega, fun i hi => ?_⟩
  · have := hd _ hmem
    rw [hR] at this
    exact this
  · have hm : swP ks ls n (prodK ks n) (i + 1) ∈ swPs ks ls n := List.mem_map.2 ⟨i, List.mem_range.2 hi, rfl⟩
    have := hd _ (List.mem_append_left _ hm)
    rw [← hX, List.getElem?_map, swPs, List.getElem?_map, List.getElem?_range hi]
    exact this
theorem carT_back (ls : List Int) (i t : Nat) : carT ls i (t + 1) = ls[i]?.getD 0 + carT ls (i + 1) t := by
  induction t with
  | zero => simp [carT]
  | succ t ih =>
    rw [carT, ih, carT]
    have : i + (t + 1) = i + 1 + t := by omega
    rw [this]
    omega
/-- The force at a storey. -/
theorem force_law {ms ks ls : List Int} {n : Nat} {R : Int} {xs : List Int} (hn : ms.length = n) (hE : swayE ms ks ls = 0)
    (hR : (prodK ks n).tdiv (lowG (swPs ks ls n) (prodK ks n)) = R) (hX : (swPs ks ls n).map (fun p => p.tdiv (lowG (swPs ks ls n) (prodK ks n))) = xs) (i : Nat) (hi : i < n) :
    ks[i]?.getD 0 * (xs[i]?.getD 0 - (if i = 0 then 0 else xs[i - 1]?.getD 0)) - (if i + 1 < n then ks[i + 1]?.getD 0 * (xs[i + 1]?.getD 0 - xs[i]?.getD 0) else 0) = ls[i]?.getD 0 * R := by
  obtain ⟨g, hg, h1, h2, h3⟩ := sway_parts hn hE hR hX
  obtain ⟨hc, hl⟩ := swayE_ok hE
  obtain ⟨q1, q2, q3, q4, q5⟩ := checkF_ok hc
  rw [hn] at q2 q3 q4 q5
  have key : ∀ j, j < n → g * (ks[j]?.getD 0 * (xs[j]?.getD 0 - (if j = 0 then 0 else xs[j - 1]?.getD 0))) = carT ls j (n - j) * (g * R) := by
    intro j hj
    have e1 := h3 j hj
    rw [swP] at e1
    have e0 : swP ks ls n (prodK ks n) j = g * (if j = 0 then 0 else xs[j - 1]?.getD 0) := by
      rcases Nat.eq_zero_or_pos j with rfl | h0
      · rw [if_pos rfl]
        simp [swP]
      · rw [if_neg (by omega), ← h3 (j - 1) (by omega), show j - 1 + 1 = j by omega]
    rw [e0] at e1
    obtain ⟨t, ht⟩ := prodK_dvd ks j n hj
    have hk := q5 j hj
    have e2 : (prodK ks n).tdiv (ks[j]?.getD 0) = t := by rw [ht, Int.mul_tdiv_cancel_left _ (by omega)]
    rw [e2] at e1
    rw [← h1, ht]
    grind
  have k1 := key i hi
  have hcancel : ∀ a b : Int, g * a = g * b → a = b := fun a b h => Int.eq_of_mul_eq_mul_left (by omega) h
  apply hcancel
  by_cases hn1 : i + 1 < n
  · have k2 := key (i + 1) hn1
    rw [if_neg (by omega), Nat.add_sub_cancel] at k2
    rw [if_pos hn1]
    have hb := carT_back ls i (n - (i + 1))
    rw [show n - (i + 1) + 1 = n - i by omega] at hb
    rw [hb] at k1
    grind
  · rw [if_neg hn1]
    have hb := carT_back ls i 0
    rw [show (0 : Nat) + 1 = n - i by omega] at hb
    rw [hb] at k1
    have : carT ls (i + 1) 0 = 0 := rfl
    rw [this] at k1
    grind
/-- A part over the denominator is the sway. -/
theorem sway_rat {ms ks ls : List Int} {n : Nat} {R : Int} {xs : List Int} (hn : ms.length = n) (hE : swayE ms ks ls = 0)
    (hR : (prodK ks n).tdiv (lowG (swPs ks ls n) (prodK ks n)) = R) (hX : (swPs ks ls n).map (fun p => p.tdiv (lowG (swPs ks ls n) (prodK ks n))) = xs) (i : Nat) (hi : i < n) :
    Rat.divInt (xs[i]?.getD 0) R = swQ ks ls n (i + 1) := by
  obtain ⟨g, hg, h1, h2, h3⟩ := sway_parts hn hE hR hX
  obtain ⟨hc, hl⟩ := swayE_ok hE
  obtain ⟨q1, q2, q3, q4, q5⟩ := checkF_ok hc
  rw [hn] at q2 q3 q4 q5
  have e1 := swP_swQ ks ls n q5 (i + 1) (by omega)
  rw [h3 i hi, h1, Rat.intCast_mul, Rat.intCast_mul] at e1
  have hg0 : (g : Rat) ≠ 0 := rat_ne (by omega)
  have hR0 : (R : Rat) ≠ 0 := by
    refine rat_ne ?_
    rintro rfl
    rw [h1] at h2
    omega
  rw [Rat.divInt_eq_div]
  grind
end Go.Proofs.Ytmaidjankakppaa

namespace Go.Proofs.Ytmaidjankakppaa
open Go.RowKit

set_option maxRecDepth 100000 in
set_option maxHeartbeats 2000000 in
theorem isShape_ok (den : Int) (a : Option Addr) (n c : Nat) (xs : List Int) (w : World) (h1 : SI w a n c xs) (hd : wIn den 1 1099511627776 = true) (hx : ∀ i, i < n → wIn (xs[i]?.getD 0) (-1125899906842624) 1125899906842624 = true) :
    Calls Try.prog 85 #[.agg #[.int .i64 den, .slice a n c], .int .i64 n] w fun e w' => e = .returned (.bool true) ∧ Below w.heap.size w w' := by
  have m1 := h1.max
  have c1 := h1.cap
  have HD := Lib.hid hd
  have HX := Lib.hid hx
  clear hd hx
  have hb : Below w.heap.size w (w.alloc (.cells #[.int .i64 den, .slice a n c] 117)) := (Below.refl _ _).alloc (Nat.le_refl _) _
  have X := alloc_new w (.cells #[.int .i64 den, .slice a n c] 117)
  go_enter Try.func85, Try.ntmps85
  go_wp2_with fail
  refine (within_any _ _ _ _).mono ?_
  rintro e w1 ⟨rfl, rfl⟩
  rw [HD.out]
  go_wp2_with fail
  go_loopw [5] (fun z wr => ∃ (i : Nat), i ≤ n ∧ z = .int .i64 (i : Int) ∧ Below (w.alloc (.cells #[.int .i64 den, .slice a n c] 117)).heap.size (w.alloc (.cells #[.int .i64 den, .slice a n c] 117)) wr) (fun z _ => n - (intOf z).toNat)
  case atStart => exact ⟨0, by omega, rfl, Below.refl _ _⟩
  case round =>
    obtain ⟨i, hi0, rfl, hbr⟩ := hrel
    have BW := hb.trans (hbr.mono hb.size)
    by_cases hlt : i < n
    · have X2 := blk_keep X hbr
      have f0 := cell_block X2 0
      have f1 := cell_block X2 1
      obtain ⟨ba, oa, rfl, hca⟩ := (h1.keep BW).at_ (by omega)
      have ea := hca i hlt
      have hw := HX.out i hlt
      obtain ⟨x, hx⟩ : ∃ v, xs[i]?.getD 0 = v := ⟨_, rfl⟩
      rw [hx] at ea hw
      clear hca hx
      have hii : (i : Int) < (n : Int) := by omega
      have hi0' : (0 : Int) ≤ (i : Int) := by omega
      go_wp2_with fail
      refine (within_any _ _ _ _).mono ?_
      rintro e w1 ⟨rfl, rfl⟩
      rw [hw]
      go_wp2_with fail
      go_roundw
      case rel => exact ⟨i + 1, by omega, by go_num, hbr⟩
      case measure => simp [intOf]; omega
    · have hle : (n : Int) ≤ (i : Int) := by omega
      go_wp2_with fail
      go_ret
      exact ⟨rfl, BW⟩
end Go.Proofs.Ytmaidjankakppaa

namespace Go.Proofs.Ytmaidjankakppaa
open Go.RowKit Go.Wides
open Calmly (Kept)

/-- The act by its form: what is dead in it gets names. -/
theorem wp_act {P : Program} {c : Code} {Q : Exit → Act → World → Prop} {a : Act} {w : World} (S : Act → Prop) (hS : S a) (h : ∀ b, S b → c.wp P Q b w) : c.wp P Q a w := h a hS
/-- Which of two blocks is stored into first. -/
theorem isAB {K : Act → World → Prop} {a : Act} {V W : World} {ra rb : Nat} {o o' : Obj} (_ : W.heap[ra]? = some o) (_ : W.heap[rb]? = some o') {x0 x1 x2 x3 x4 x5 x6 x7 : Value}
    (_ : V = (((((((((W.setCell ⟨ra, 0, none⟩ x0).setCell ⟨ra, 1, none⟩ x1).setCell ⟨ra, 2, none⟩ x2).setCell ⟨ra, 3, none⟩ x3)).setCell ⟨rb, 0, none⟩ x4).setCell ⟨rb, 1, none⟩ x5).setCell ⟨rb, 2, none⟩ x6).setCell ⟨rb, 3, none⟩ x7)) (h : K a V) : K a V := h
/-- How long numbers become. -/
def oL : Nat → Nat
  | 0 => 3
  | i + 1 => 2 * oL i + 46
theorem oL_bd (i : Nat) (h : i ≤ 4) : 3 ≤ oL i ∧ oL i ≤ 1000 := by
  rcases (by omega : i = 0 ∨ i = 1 ∨ i = 2 ∨ i = 3 ∨ i = 4) with rfl | rfl | rfl | rfl | rfl <;> decide
theorem cmp_same {p q : Rat} (h : p = q) : cmpI (p.num * (q.den : Int)) (q.num * (p.den : Int)) = 0 := by
  subst h
  exact cmpI_eq rfl
theorem SI.hereN {w : World} {b o n c : Nat} {xs : List Int} (h : SI w (some ⟨b, o, none⟩) n c xs) {k : Nat} (hk : k < n) : w.cell? ⟨b, o + k, none⟩ = some (.int .i64 (xs[k]?.getD 0)) := by
  obtain ⟨b', o', he, hc⟩ := h.at_ (by omega)
  cases he
  exact hc k hk
theorem RatV.set4n {V : World} {r : Nat} {s : Int} {a : Option Addr} {m c : Nat} {s' : Int} {a' : Option Addr} {m' c' : Nat} {q : Rat} (h : RatV V s a m c s' a' m' c' q) (hT : BlkT V r 72) (x y z u : Value) :
    RatV ((((V.setCell ⟨r, 0, none⟩ x).setCell ⟨r, 1, none⟩ y).setCell ⟨r, 2, none⟩ z).setCell ⟨r, 3, none⟩ u) s a m c s' a' m' c' q :=
  ⟨(((h.1.set hT (by decide)).set (hT.set _ _) (by decide)).set ((hT.set _ _).set _ _) (by decide)).set (((hT.set _ _).set _ _).set _ _) (by decide),
    (((h.2.set hT (by decide)).set (hT.set _ _) (by decide)).set ((hT.set _ _).set _ _) (by decide)).set (((hT.set _ _).set _ _).set _ _) (by decide)⟩
theorem blk_set4 {V : World} {b r : Nat} {o : Obj} (h : V.heap[b]? = some o) (hne : b ≠ r) (x y z u : Value) : ((((V.setCell ⟨r, 0, none⟩ x).setCell ⟨r, 1, none⟩ y).setCell ⟨r, 2, none⟩ z).setCell ⟨r, 3, none⟩ u).heap[b]? = some o :=
  blk_other' (blk_other' (blk_other' (blk_other' h hne 0 x) hne 1 y) hne 2 z) hne 3 u
theorem blk_own4 {V : World} {r : Nat} {u0 u1 u2 u3 : Value} {t : TypeId} (h : V.heap[r]? = some (.cells #[u0, u1, u2, u3] t)) (x y z u : Value) : ((((V.setCell ⟨r, 0, none⟩ x).setCell ⟨r, 1, none⟩ y).setCell ⟨r, 2, none⟩ z).setCell ⟨r, 3, none⟩ u).heap[r]? = some (.cells #[x, y, z, u] t) :=
  blkSet (blkSet (blkSet (blkSet h 0 x) 1 y) 2 z) 3 u
/-- Two numbers are stored. -/
theorem twoRat {U W : World} {ra rb : Nat} {u0 u1 u2 u3 v0 v1 v2 v3 : Value} {s : Int} {a : Option Addr} {m c : Nat} {s' : Int} {a' : Option Addr} {m' c' : Nat} {t : Int} {b : Option Addr} {k d : Nat} {t' : Int} {b' : Option Addr} {k' d' : Nat} {p q : Rat}
    (pA : W.heap[ra]? = some (.cells #[u0, u1, u2, u3] 72)) (pB : W.heap[rb]? = some (.cells #[v0, v1, v2, v3] 72)) (hne : ra ≠ rb)
    (rA : RatV W s a m c s' a' m' c' p) (rB : RatV W t b k d t' b' k' d' q) (hk : Below U.heap.size U W) (ha : U.heap.size ≤ ra) (hb : U.heap.size ≤ rb) (V : World)
    (hV : V = (((((((((W.setCell ⟨ra, 0, none⟩ (.int .i64 s)).setCell ⟨ra, 1, none⟩ (.slice a m c)).setCell ⟨ra, 2, none⟩ (.int .i64 s')).setCell ⟨ra, 3, none⟩ (.slice a' m' c'))).setCell ⟨rb, 0, none⟩ (.int .i64 t)).setCell ⟨rb, 1, none⟩ (.slice b k d)).setCell ⟨rb, 2, none⟩ (.int .i64 t')).setCell ⟨rb, 3, none⟩ (.slice b' k' d'))) :
    Below U.heap.size U V ∧ V.heap[ra]? = some (.cells #[.int .i64 s, .slice a m c, .int .i64 s', .slice a' m' c'] 72) ∧ V.heap[rb]? = some (.cells #[.int .i64 t, .slice b k d, .int .i64 t', .slice b' k' d'] 72) ∧
      RatV V s a m c s' a' m' c' p ∧ RatV V t b k d t' b' k' d' q := by
  subst hV
  have q1 := blk_own4 pA (.int .i64 s) (.slice a m c) (.int .i64 s') (.slice a' m' c')
  have q2 := blk_set4 pB (Ne.symm hne) (.int .i64 s) (.slice a m c) (.int .i64 s') (.slice a' m' c')
  refine ⟨below4 (below4 hk ha) hb, blk_set4 q1 hne _ _ _ _, blk_own4 q2 _ _ _ _, ?_, ?_⟩
  · exact RatV.set4n (RatV.set4n rA ⟨_, pA⟩ _ _ _ _) ⟨_, q2⟩ _ _ _ _
  · exact RatV.set4n (RatV.set4n rB ⟨_, pA⟩ _ _ _ _) ⟨_, q2⟩ _ _ _ _

/-- A part of a shape; 0 of the ground. -/
theorem part_any (x : Int) (a : Option Addr) (n c : Nat) (xs : List Int) (i : Nat) (w : World) (h1 : SI w a n c xs) (hi : i < n) :
    Calls Try.prog 88 #[.agg #[.int .i64 x, .slice a n c], .int .i64 ((i : Int) - 1)] w fun e w' => e = .returned (.int .i64 (if i = 0 then 0 else xs[i - 1]?.getD 0)) ∧ Below w.heap.size w w' := by
  have hA : Below w.heap.size w (w.alloc (.cells #[.int .i64 x, .slice a n c] 117)) := (Below.refl _ _).alloc (Nat.le_refl _) _
  have m1 := h1.max
  have c1 := h1.cap
  rcases Nat.eq_zero_or_pos i with rfl | h0
  · rw [if_pos rfl]
    go_enter Try.func88, Try.ntmps88
    go_wp2_with fail
    go_ret
    exact ⟨rfl, hA⟩
  · rw [if_neg (by omega)]
    obtain ⟨j, rfl⟩ : ∃ j, i = j + 1 := ⟨i - 1, by omega⟩
    rw [Nat.add_sub_cancel]
    have hj : ((j + 1 : Nat) : Int) - 1 = (j : Int) := by omega
    rw [hj]
    clear hj
    obtain ⟨ba, oa, rfl, hca⟩ := (h1.keep hA).at_ (by omega)
    have ea := hca j (by omega)
    obtain ⟨v, hv⟩ : ∃ v, xs[j]?.getD 0 = v := ⟨_, rfl⟩
    rw [hv] at ea ⊢
    clear hca hv
    have hj0 : (0 : Int) ≤ (j : Int) := by omega
    have hj1 : (j : Int) < (n : Int) := by omega
    go_enter Try.func88, Try.ntmps88
    go_wp2_with fail
    go_ret
    exact ⟨rfl, hA⟩
end Go.Proofs.Ytmaidjankakppaa
