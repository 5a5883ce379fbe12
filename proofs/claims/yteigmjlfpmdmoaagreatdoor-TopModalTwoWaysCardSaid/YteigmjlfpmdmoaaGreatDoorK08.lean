/- Contracts of chapter 6: the polynomial of a frame. Contracts of chapter 6: the determinants of a frame, one after the other. -/
import Derived.Test.YteigmjlfpmdmoaaGreatDoorK07
namespace Go.Proofs.YteigmjlfpmdmoaaGreatDoor
open Go.RowKit
open Calmly (Kept)

/-- One coefficient of the row before, put into a new row. -/
def step1 (own m c : Int) (p : Nat) (y : List Int) : List Int := (y.set p (y[p]?.getD 0 + own * c)).set (p + 1) ((y.set p (y[p]?.getD 0 + own * c))[p + 1]?.getD 0 - m * c)
def fold1 (own m : Int) (last : List Int) : Nat → List Int → List Int
  | 0, y => y
  | p + 1, y => step1 own m (last[p]?.getD 0) p (fold1 own m last p y)
def step2 (k c : Int) (p : Nat) (y : List Int) : List Int := y.set p (y[p]?.getD 0 - k * k * c)
def fold2 (k : Int) (before : List Int) : Nat → List Int → List Int
  | 0, y => y
  | p + 1, y => step2 k (before[p]?.getD 0) p (fold2 k before p y)
def nextRow (own m k : Int) (i : Nat) (before now : List Int) : List Int :=
  if 0 < i then fold2 k before before.length (fold1 own m now now.length (List.replicate (now.length + 1) 0)) else fold1 own m now now.length (List.replicate (now.length + 1) 0)
/-- The two last rows. -/
def polyRow (ms ks : List Int) : Nat → List Int × List Int
  | 0 => ([0], [1])
  | i + 1 => ((polyRow ms ks i).2, nextRow (ks[i]?.getD 0 + ks[i + 1]?.getD 0) (ms[i]?.getD 0) (ks[i]?.getD 0) i (polyRow ms ks i).1 (polyRow ms ks i).2)
def polyF (ms ks : List Int) : List Int := (polyRow ms ks ms.length).2

theorem SI.drew {w : World} {a : Option Addr} {n c : Nat} {xs : List Int} (h : SI w a n c xs) : SI w.drew a n c xs := h

def Bd (C : Int) (l : List Int) : Prop := ∀ j : Nat, -C ≤ l[j]?.getD 0 ∧ l[j]?.getD 0 ≤ C
theorem Bd.set {C : Int} {l : List Int} (h : Bd C l) (p : Nat) {x : Int} (h1 : -C ≤ x) (h2 : x ≤ C) : Bd C (l.set p x) := fun j => by
  rw [List.getElem?_set]
  split
  · split
    · exact ⟨h1, h2⟩
    · simp; omega
  · exact h j
theorem Bd.mono {C D : Int} {l : List Int} (h : Bd C l) (hd : C ≤ D) : Bd D l := fun j => by have := h j; omega
theorem Bd.zeros {C : Int} (hC : 0 ≤ C) (n : Nat) : Bd C (List.replicate n 0) := fun j => by
  rw [List.getElem?_replicate]
  split <;> simp <;> omega
theorem mul_bd {a x A C : Int} (h1 : 0 ≤ a) (h2 : a ≤ A) (h3 : -C ≤ x) (h4 : x ≤ C) (hC : 0 ≤ C) : -(A * C) ≤ a * x ∧ a * x ≤ A * C := by
  have e1 : a * x ≤ a * C := Int.mul_le_mul_of_nonneg_left h4 h1
  have e2 : a * -C ≤ a * x := Int.mul_le_mul_of_nonneg_left h3 h1
  have e3 : a * C ≤ A * C := Int.mul_le_mul_of_nonneg_right h2 hC
  rw [Int.mul_neg] at e2
  omega
theorem step1_len (own m c : Int) (p : Nat) (y : List Int) : (step1 own m c p y).length = y.length := by simp [step1]
theorem fold1_len (own m : Int) (last : List Int) (p : Nat) (y : List Int) : (fold1 own m last p y).length = y.length := by
  induction p with
  | zero => rfl
  | succ p ih => rw [fold1, step1_len, ih]
theorem fold2_len (k : Int) (before : List Int) (p : Nat) (y : List Int) : (fold2 k before p y).length = y.length := by
  induction p with
  | zero => rfl
  | succ p ih => rw [fold2]; unfold step2; rw [List.length_set, ih]
theorem nextRow_len (own m k : Int) (i : Nat) (before now : List Int) : (nextRow own m k i before now).length = now.length + 1 := by
  unfold nextRow
  split
  · rw [fold2_len, fold1_len]; simp
  · rw [fold1_len]; simp
theorem polyRow_len (ms ks : List Int) (i : Nat) : (polyRow ms ks i).2.length = i + 1 ∧ (polyRow ms ks i).1.length ≤ i + 1 := by
  induction i with
  | zero => simp [polyRow]
  | succ i ih =>
    simp only [polyRow]
    rw [nextRow_len]
    omega
theorem step1_bd {own m c C D : Int} {p : Nat} {y : List Int} (h : Bd D y) (ho1 : 0 ≤ own) (ho2 : own ≤ 40) (hm1 : 0 ≤ m) (hm2 : m ≤ 10) (hc1 : -C ≤ c) (hc2 : c ≤ C) (hC : 0 ≤ C) :
    -(40 * C) ≤ own * c ∧ own * c ≤ 40 * C ∧ -(10 * C) ≤ m * c ∧ m * c ≤ 10 * C ∧ Bd (D + 50 * C) (step1 own m c p y) := by
  have e1 := mul_bd ho1 ho2 hc1 hc2 hC
  have e2 := mul_bd hm1 hm2 hc1 hc2 hC
  refine ⟨e1.1, e1.2, e2.1, e2.2, ?_⟩
  have h0 := h p
  have h1 : Bd (D + 40 * C) (y.set p (y[p]?.getD 0 + own * c)) := (h.mono (by omega)).set p (by omega) (by omega)
  have h2 := h1 (p + 1)
  exact (h1.mono (by omega)).set _ (by omega) (by omega)
theorem fold1_bd {own m C : Int} {last : List Int} (h : Bd C last) (ho1 : 0 ≤ own) (ho2 : own ≤ 40) (hm1 : 0 ≤ m) (hm2 : m ≤ 10) (hC : 0 ≤ C) (p : Nat) (y : List Int) (hy : Bd 0 y) : Bd (p * (50 * C)) (fold1 own m last p y) := by
  induction p with
  | zero => simpa [fold1] using hy
  | succ p ih =>
    have := (step1_bd (p := p) ih ho1 ho2 hm1 hm2 (h p).1 (h p).2 hC).2.2.2.2
    rw [fold1, show ((p + 1 : Nat) : Int) * (50 * C) = p * (50 * C) + 50 * C by push_cast; rw [Int.add_mul]; omega]
    exact this
theorem step2_bd {k c C D : Int} {p : Nat} {y : List Int} (h : Bd D y) (hk1 : 0 ≤ k) (hk2 : k ≤ 20) (hc1 : -C ≤ c) (hc2 : c ≤ C) (hC : 0 ≤ C) :
    0 ≤ k * k ∧ k * k ≤ 400 ∧ -(400 * C) ≤ k * k * c ∧ k * k * c ≤ 400 * C ∧ Bd (D + 400 * C) (step2 k c p y) := by
  have e0 := mul_bd hk1 hk2 (by omega : -20 ≤ k) hk2 (by omega)
  have e00 : 0 ≤ k * k := Int.mul_nonneg hk1 hk1
  have e1 := mul_bd e00 (by omega : k * k ≤ 400) hc1 hc2 hC
  have h0 := h p
  exact ⟨e00, by omega, e1.1, e1.2, (h.mono (by omega)).set p (by omega) (by omega)⟩
theorem fold2_bd {k C D : Int} {before : List Int} (h : Bd C before) (hk1 : 0 ≤ k) (hk2 : k ≤ 20) (hC : 0 ≤ C) (p : Nat) (y : List Int) (hy : Bd D y) : Bd (D + p * (400 * C)) (fold2 k before p y) := by
  induction p with
  | zero => simpa [fold2] using hy
  | succ p ih =>
    have := (step2_bd (p := p) ih hk1 hk2 (h p).1 (h p).2 hC).2.2.2.2
    rw [fold2, show D + ((p + 1 : Nat) : Int) * (400 * C) = D + p * (400 * C) + 400 * C by push_cast; rw [Int.add_mul]; omega]
    exact this

theorem checkF_ok {ms ks : List Int} (h : (checkF ms ks).2 = 0) : ks.length = ms.length ∧ 0 < ms.length ∧ ms.length ≤ 4 ∧ (∀ i, i < ms.length → 1 ≤ ms[i]?.getD 0 ∧ ms[i]?.getD 0 ≤ 10) ∧ (∀ i, i < ms.length → 1 ≤ ks[i]?.getD 0 ∧ ks[i]?.getD 0 ≤ 20) := by
  by_cases h1 : ms.length = 0 ∨ ks.length ≠ ms.length
  · rw [checkF_shape h1] at h; simp at h
  by_cases h2 : 4 < ms.length
  · rw [checkF_large h1 h2] at h; simp at h
  rw [checkF_rest h1 h2] at h
  have hb : ∀ k, k ≤ ms.length → (badF k (ms.drop k) (ks.drop k)).2 = 0 → ∀ i, k ≤ i → i < ms.length → (1 ≤ ms[i]?.getD 0 ∧ ms[i]?.getD 0 ≤ 10) ∧ (1 ≤ ks[i]?.getD 0 ∧ ks[i]?.getD 0 ≤ 20) := by
    intro k hk
    induction hd : ms.length - k generalizing k with
    | zero => intro _ i h3 h4; omega
    | succ t ih =>
      intro h0 i h3 h4
      rw [badF_drop ms ks k (by omega)] at h0
      split at h0
      · rename_i hw
        simp only [Bool.and_eq_true, wIn_iff] at hw
        by_cases hik : i = k
        · subst hik; exact hw
        · exact ih (k + 1) (by omega) (by omega) h0 i (by omega) h4
      · simp at h0
  have h3 := hb 0 (by omega) (by simpa using h)
  exact ⟨by omega, by omega, by omega, fun i hi => (h3 i (by omega) hi).1, fun i hi => (h3 i (by omega) hi).2⟩

set_option maxRecDepth 100000 in
set_option maxHeartbeats 4000000 in
theorem PolynomialOf_err (a b : Option Addr) (n c m d : Nat) (ms ks : List Int) (w : World) (h1 : SI w a n c ms) (h2 : SI w b m d ks) (he : (checkF ms ks).2 ≠ 0) :
    Calls Tryz.prog 80 #[.agg #[.slice a n c, .slice b m d]] w fun e w' => e = .returned (.tuple #[.slice none 0 0, .int .i64 (checkF ms ks).2]) ∧ Below w.heap.size w w' := by
  have hb : ∀ o, Below w.heap.size w (w.alloc o) := fun o => (Below.refl _ _).alloc (Nat.le_refl _) _
  have he1 : ((checkF ms ks).2 != 0) = true := by simpa using he
  go_enter Tryz.func80, Tryz.ntmps80
  go_wp2_with fail
  refine (open_any a b n c m d ms ks _ (h1.keep (hb _)) (h2.keep (hb _))).mono ?_
  rintro e w1 ⟨rfl, hb1⟩
  have hb2 : Below w.heap.size w w1 := (hb _).trans (hb1.mono (by simp))
  have hs := hb2.size
  go_wp2_with fail
  go_ret2
  exact ⟨rfl, hb2.alloc hs _⟩

theorem own_bd {ms ks : List Int} (q1 : ks.length = ms.length) (q5 : ∀ i, i < ms.length → 1 ≤ ks[i]?.getD 0 ∧ ks[i]?.getD 0 ≤ 20) (i : Nat) : 0 ≤ ks[i]?.getD 0 ∧ ks[i]?.getD 0 ≤ 20 := by
  by_cases h : i < ms.length
  · have := q5 i h; omega
  · rw [List.getElem?_eq_none (by omega)]; simp
theorem polyRow_bd {ms ks : List Int} (he : (checkF ms ks).2 = 0) (i : Nat) (hi : i ≤ ms.length) : Bd (2000 ^ i) (polyRow ms ks i).1 ∧ Bd (2000 ^ i) (polyRow ms ks i).2 := by
  obtain ⟨q1, q2, q3, q4, q5⟩ := checkF_ok he
  induction i with
  | zero => exact ⟨fun j => by cases j <;> simp [polyRow], fun j => by cases j <;> simp [polyRow]⟩
  | succ i ih =>
    obtain ⟨ih1, ih2⟩ := ih (by omega)
    have hC : (0 : Int) ≤ 2000 ^ i := Int.pow_nonneg (by omega)
    have hs : (2000 : Int) ^ (i + 1) = 2000 ^ i * 2000 := Int.pow_succ ..
    obtain ⟨L1, L2⟩ := polyRow_len ms ks i
    generalize (2000 : Int) ^ i = C at *
    refine ⟨ih2.mono (by omega), ?_⟩
    simp only [polyRow]
    have e1 := own_bd q1 q5 i
    have e2 := own_bd q1 q5 (i + 1)
    have e3 := q4 i (by omega)
    have f1 := fold1_bd ih2 (own := ks[i]?.getD 0 + ks[i + 1]?.getD 0) (m := ms[i]?.getD 0) (by omega) (by omega) (by omega) (by omega) hC (polyRow ms ks i).2.length (List.replicate ((polyRow ms ks i).2.length + 1) 0) (Bd.zeros (by omega) _)
    have g1 : (((polyRow ms ks i).2.length : Nat) : Int) * (50 * C) ≤ 4 * (50 * C) := Int.mul_le_mul_of_nonneg_right (by omega) (by omega)
    unfold nextRow
    split
    · have f2 := fold2_bd ih1 (k := ks[i]?.getD 0) (by omega) (by omega) hC (polyRow ms ks i).1.length _ f1
      have g2 : (((polyRow ms ks i).1.length : Nat) : Int) * (400 * C) ≤ 4 * (400 * C) := Int.mul_le_mul_of_nonneg_right (by omega) (by omega)
      exact f2.mono (by omega)
    · exact f1.mono (by omega)
theorem pow2000 {i : Nat} (h : i ≤ 3) : (2000 : Int) ^ i ≤ 8000000000 := by
  rcases i with _ | _ | _ | _ | i <;> first | decide | omega

set_option maxRecDepth 100000 in
set_option maxHeartbeats 4000000 in
theorem PolynomialOf_ok (a b : Option Addr) (n c m d : Nat) (ms ks : List Int) (w : World) (h1 : SI w a n c ms) (h2 : SI w b m d ks) (he : (checkF ms ks).2 = 0) :
    Calls Tryz.prog 80 #[.agg #[.slice a n c, .slice b m d]] w fun e w' => ∃ a' c', e = .returned (.tuple #[.slice a' (n + 1) c', .int .i64 0]) ∧ OwI w' w.heap.size a' (n + 1) c' (polyF ms ks) ∧ Below w.heap.size w w' := by
  obtain ⟨l1, l2⟩ : n ≤ ms.length ∧ ms.length ≤ n := by have := h1.len; omega
  obtain ⟨k1, k2⟩ : m ≤ ks.length ∧ ks.length ≤ m := by have := h2.len; omega
  have hb : ∀ o, Below w.heap.size w (w.alloc o) := fun o => (Below.refl _ _).alloc (Nat.le_refl _) _
  obtain ⟨q1, q2, q3, q4, q5⟩ := checkF_ok he
  have hmn : m = n := by omega
  subst hmn
  have Q4 := Lib.hid q4
  have Q5 := Lib.hid q5
  clear q4 q5
  go_enter Tryz.func80, Tryz.ntmps80
  go_wp2_with fail
  refine (open_any a b m c m d ms ks _ (h1.keep (hb _)) (h2.keep (hb _))).mono ?_
  rintro e w1 ⟨rfl, hb1⟩
  have hb2 : Below w.heap.size w w1 := (hb _).trans (hb1.mono (by simp))
  have hs := hb2.size
  go_wp2_with fail
  refine wp_gen (fun v => Below w.heap.size w v ∧ w1.heap.size + 1 ≤ v.heap.size ∧ v.cell? ⟨w1.heap.size, 0, none⟩ = some (.slice a m c) ∧ v.cell? ⟨w1.heap.size, 1, none⟩ = some (.slice b m d) ∧ OwI v (w1.heap.size + 1) (some ⟨w1.heap.size + 1, 0, none⟩) 1 1 [0] ∧ OwI v (w1.heap.size + 1) (some ⟨w1.heap.size + 1 + 1, 0, none⟩) 1 1 [1]) ?_ ?_
  · have hq : Below w1.heap.size w1 (w1.alloc (.cells #[.slice a m c, .slice b m d] 118)) := (Below.refl _ _).alloc (Nat.le_refl _) _
    have o0 := OwI.one (B := w1.heap.size + 1) (w1.alloc (.cells #[.slice a m c, .slice b m d] 118)) (by simp) 0
    have o1 := OwI.one (B := w1.heap.size + 1) ((w1.alloc (.cells #[.slice a m c, .slice b m d] 118)).alloc (.cells #[.int .i64 0] 3)) (by simp <;> omega) 1
    have k1 : Below (w1.alloc (.cells #[.slice a m c, .slice b m d] 118)).heap.size (w1.alloc (.cells #[.slice a m c, .slice b m d] 118)) (((w1.alloc (.cells #[.slice a m c, .slice b m d] 118)).alloc (.cells #[.int .i64 0] 3)).alloc (.cells #[.int .i64 1] 3)) := ((Below.refl _ _).alloc (Nat.le_refl _) _).alloc (by simp) _
    have k2 : Below ((w1.alloc (.cells #[.slice a m c, .slice b m d] 118)).alloc (.cells #[.int .i64 0] 3)).heap.size ((w1.alloc (.cells #[.slice a m c, .slice b m d] 118)).alloc (.cells #[.int .i64 0] 3)) (((w1.alloc (.cells #[.slice a m c, .slice b m d] 118)).alloc (.cells #[.int .i64 0] 3)).alloc (.cells #[.int .i64 1] 3)) := (Below.refl _ _).alloc (Nat.le_refl _) _
    have hx := box1 (w := w1) k1
    refine ⟨((hb2.alloc hs _).alloc (by simp <;> omega) _).alloc (by simp <;> omega) _, by simp <;> omega, cell_block hx 0, cell_block hx 1, ?_, ?_⟩
    · have := o0.keep k2
      simpa using this
    · simpa using o1
  rintro v ⟨hbv, hsv, fr0, fr1, ow0, ow1⟩
  go_loopw [6, 7, 28] (fun x y z wr => ∃ (i gb cb gn cn : Nat), i ≤ m ∧ x = .slice (some ⟨gb, 0, none⟩) (polyRow ms ks i).1.length cb ∧ y = .slice (some ⟨gn, 0, none⟩) (i + 1) cn ∧ z = .int .i64 i ∧ OwI wr (w1.heap.size + 1) (some ⟨gb, 0, none⟩) (polyRow ms ks i).1.length cb (polyRow ms ks i).1 ∧ OwI wr (w1.heap.size + 1) (some ⟨gn, 0, none⟩) (i + 1) cn (polyRow ms ks i).2 ∧ Below (w1.heap.size + 1) v wr) (fun _ _ z _ => m - (intOf z).toNat)
  case atStart => exact ⟨0, _, 1, _, 1, by omega, rfl, rfl, rfl, ow0, ow1, Below.refl _ _⟩
  case round =>
    obtain ⟨wo, hwo⟩ : ∃ x, x = wr := ⟨_, rfl⟩
    subst hwo
    obtain ⟨i, gb, cb, gn, cn, hi, rfl, rfl, rfl, hob, hon, hbr⟩ := hrel
    have hbw := hbv.trans (hbr.mono (by omega))
    have fr0' := (hbr.cell (p := ⟨w1.heap.size, 0, none⟩) (by simp)).trans fr0
    have fr1' := (hbr.cell (p := ⟨w1.heap.size, 1, none⟩) (by simp)).trans fr1
    by_cases hlt : i < m
    · obtain ⟨ba, oa, rfl, hca⟩ := h1.at_ (by omega)
      obtain ⟨bb, ob, rfl, hcb⟩ := h2.at_ (by omega)
      have ea := cell_keep (hca i hlt) hbw
      have eb := cell_keep (hcb i hlt) hbw
      clear hca hcb
      have hi1 : (i : Int) < (m : Int) := by omega
      have hi0 : (0 : Int) ≤ (i : Int) := by omega
      obtain ⟨B1, B2⟩ := polyRow_bd he i (by omega)
      obtain ⟨L1, L2⟩ := polyRow_len ms ks i
      have hC := pow2000 (i := i) (by omega)
      have hC0 : (0 : Int) ≤ 2000 ^ i := Int.pow_nonneg (by omega)
      have e1 := own_bd q1 Q5.out i
      have e2 := own_bd q1 Q5.out (i + 1)
      have e3 := Q4.out i (by omega)
      go_wp2_with (refine makeI (B := wo.heap.size) (n := i + 2) rfl _ _ rfl rfl rfl (by omega) (by omega) (by omega) ?_; intro w2 ho2 hb2 hs2)
      go_loopw [39] (fun z wz => ∃ (p : Nat), p ≤ i + 1 ∧ z = .int .i64 p ∧ OwI wz wo.heap.size (some ⟨wo.heap.size, 0, none⟩) (i + 2) (i + 2) (fold1 (ks[i]?.getD 0 + ks[i + 1]?.getD 0) (ms[i]?.getD 0) (polyRow ms ks i).2 p (List.replicate (i + 2) 0)) ∧ Below wo.heap.size wo wz) (fun z _ => i + 1 - (intOf z).toNat)
      case atStart => exact ⟨0, by omega, rfl, ho2, hb2⟩
      case round =>
        obtain ⟨p, hp, rfl, hox, hbz⟩ := hrel
        by_cases hpl : p < i + 1
        · have ec := cell_keep (hon.cell p hpl) hbz
          have ex := hox.cell p (by omega)
          have fx := hox.free p
          have k0 := cell_keep fr0' hbz
          have k1 := cell_keep fr1' hbz
          have hsb := (h2.keep hbw).keep hbz
          have hzs := hbz.size
          have bc := B2 p
          have by1 := fold1_bd B2 (own := ks[i]?.getD 0 + ks[i + 1]?.getD 0) (m := ms[i]?.getD 0) (by omega) (by omega) (by omega) (by omega) hC0 p (List.replicate (i + 2) 0) (Bd.zeros (by omega) _)
          have g1 : (p : Int) * (50 * 2000 ^ i) ≤ 4 * (50 * 2000 ^ i) := Int.mul_le_mul_of_nonneg_right (by omega) (by omega)
          have by2 := by1 p
          have by3 := (step1_bd (p := p) by1 (by omega : 0 ≤ ks[i]?.getD 0 + ks[i + 1]?.getD 0) (by omega) (by omega : 0 ≤ ms[i]?.getD 0) (by omega) bc.1 bc.2 hC0)
          obtain ⟨z1, z2, z3, z4, z5⟩ := by3
          have hlen := fold1_len (ks[i]?.getD 0 + ks[i + 1]?.getD 0) (ms[i]?.getD 0) (polyRow ms ks i).2 p (List.replicate (i + 2) 0)
          have hst : fold1 (ks[i]?.getD 0 + ks[i + 1]?.getD 0) (ms[i]?.getD 0) (polyRow ms ks i).2 (p + 1) (List.replicate (i + 2) 0) = step1 (ks[i]?.getD 0 + ks[i + 1]?.getD 0) (ms[i]?.getD 0) ((polyRow ms ks i).2[p]?.getD 0) p (fold1 (ks[i]?.getD 0 + ks[i + 1]?.getD 0) (ms[i]?.getD 0) (polyRow ms ks i).2 p (List.replicate (i + 2) 0)) := rfl
          have HST := Lib.hid hst
          clear hst by1
          rw [List.length_replicate] at hlen
          obtain ⟨y, hy⟩ : ∃ y, fold1 (ks[i]?.getD 0 + ks[i + 1]?.getD 0) (ms[i]?.getD 0) (polyRow ms ks i).2 p (List.replicate (i + 2) 0) = y := ⟨_, rfl⟩
          rw [hy] at hox by2 hlen z5
          rw [hy] at ex
          have HY := Lib.hid hy
          clear hy
          obtain ⟨c0, hc0⟩ : ∃ c0, (polyRow ms ks i).2[p]?.getD 0 = c0 := ⟨_, rfl⟩
          rw [hc0] at ec bc z1 z2 z3 z4
          have HC0 := Lib.hid hc0
          rw [HC0.out] at z5
          have z5' := z5 (p + 1)
          have z6 : (step1 (ks[i]?.getD 0 + ks[i + 1]?.getD 0) (ms[i]?.getD 0) c0 p y) = (y.set p (y[p]?.getD 0 + (ks[i]?.getD 0 + ks[i + 1]?.getD 0) * c0)).set (p + 1) ((y.set p (y[p]?.getD 0 + (ks[i]?.getD 0 + ks[i + 1]?.getD 0) * c0))[p + 1]?.getD 0 - ms[i]?.getD 0 * c0) := rfl
          have Z6 := Lib.hid z6
          clear hc0 z6 z5
          obtain ⟨y0, hy0⟩ : ∃ y0, y[p]?.getD 0 = y0 := ⟨_, rfl⟩
          rw [hy0] at ex by2
          have HY0 := Lib.hid hy0
          clear hy0
          have hj1 : (p : Int) < i + 1 := by omega
          have hj0 : (0 : Int) ≤ (p : Int) := by omega
          go_wp2_with fail
          refine Calmly.wp_region_mix 11 (.fl 0 <| .fl 1 <| .fl 2 <| .fl 3 <| .fl 4 <| .fl 5 <| .fl 6 <| .fl 9 <| .eff 7 <| .fl 8 <| .fl 10 <| .tail [11, 12, 13]) (by kernel_rfl) (by kernel_rfl) ?_
          have hk := Below.refl wr.drew.heap.size wr.drew
          go_wp2_with (first | ((with_reducible refine Calmly.is_fl ?_); refine Calmly.mix_fl rfl ?_ (fun _ _ => ?_); (first | exact .move _ | exact .load _ _ | exact .fieldAddr _ _ _ (by kernel_rfl) | exact .assign _ | exact .binOp _ _ _ _ _ rfl | exact .indexAddr _ _ _ | exact .len _ _ (by kernel_rfl) | exact .field _ _ _ | exact .extract _ _ | exact .pick _ _ _ | exact .build _ _ | exact .slice _ _ _ _ _ | exact .unOp _ _ _ rfl | exact .index _ _ _ | exact .max _ _ _ rfl rfl | exact .min _ _ _ rfl rfl | exact .nilCheck _ _ rfl)) | ((with_reducible refine Calmly.is_gl ?_); refine Calmly.mix_gl rfl rfl rfl ?_; first | ((first | with_reducible refine Calmly.gl_tt ?_ (fun _ _ => ?_) | with_reducible refine Calmly.gl_ff ?_ (fun _ _ => ?_)); (first | exact .move _ | exact .load _ _ | exact .fieldAddr _ _ _ (by kernel_rfl) | exact .assign _ | exact .binOp _ _ _ _ _ rfl | exact .indexAddr _ _ _ | exact .len _ _ (by kernel_rfl) | exact .field _ _ _ | exact .extract _ _ | exact .pick _ _ _ | exact .build _ _ | exact .slice _ _ _ _ _ | exact .unOp _ _ _ rfl | exact .index _ _ _ | exact .max _ _ _ rfl rfl | exact .min _ _ _ rfl rfl | exact .nilCheck _ _ rfl)) | with_reducible refine Calmly.gl_tf (fun _ _ => ?_) | with_reducible refine Calmly.gl_ft (fun _ _ => ?_)) | ((with_reducible refine Calmly.is_eff ?_); refine Calmly.mix_eff rfl (fun _ _ => ?_)) | ((with_reducible refine Calmly.is_gf ?_); refine Calmly.mix_gf rfl rfl rfl ?_; first | with_reducible refine Calmly.gf_tt (fun _ _ => ?_) | with_reducible refine Calmly.gf_ff (fun _ _ => ?_) | with_reducible refine Calmly.gf_tf (kept_of hk) (fun _ _ => ?_) | with_reducible refine Calmly.gf_ft (kept_of hk) (fun _ _ => ?_)) | ((with_reducible refine Calmly.is_tail ?_); first | refine Calmly.mix_tail_nil ?_ | refine Calmly.mix_tail rfl (fun _ _ => ?_)) | ((with_reducible refine Calmly.is_kept ?_); refine ⟨kept_of hk, ?_⟩) | (with_reducible refine Calmly.mix_alt ?_ ?_))
          refine (above_any (some ⟨ba, oa, none⟩) (some ⟨bb, ob, none⟩) m c m d ks i _ hsb.drew (by omega) (by omega)).mono ?_
          rintro e w3 ⟨rfl, hb3⟩
          replace hk := step_of hk hb3
          have o3 := OwI.keep (w := wr.drew) hox.drew hb3
          have ex3 := o3.cell p (by omega)
          rw [HY0.out] at ex3
          have fx3 := o3.free p
          have hb3z : Below wo.heap.size wo w3 := hbz.drew.trans (hb3.mono hzs)
          have st3 := o3.stored p (y0 + (ks[i]?.getD 0 + ks[i + 1]?.getD 0) * c0)
          have ST3 := Lib.hid st3
          clear st3
          go_wp2_with (first | ((with_reducible refine Calmly.is_fl ?_); refine Calmly.mix_fl rfl ?_ (fun _ _ => ?_); (first | exact .move _ | exact .load _ _ | exact .fieldAddr _ _ _ (by kernel_rfl) | exact .assign _ | exact .binOp _ _ _ _ _ rfl | exact .indexAddr _ _ _ | exact .len _ _ (by kernel_rfl) | exact .field _ _ _ | exact .extract _ _ | exact .pick _ _ _ | exact .build _ _ | exact .slice _ _ _ _ _ | exact .unOp _ _ _ rfl | exact .index _ _ _ | exact .max _ _ _ rfl rfl | exact .min _ _ _ rfl rfl | exact .nilCheck _ _ rfl)) | ((with_reducible refine Calmly.is_gl ?_); refine Calmly.mix_gl rfl rfl rfl ?_; first | ((first | with_reducible refine Calmly.gl_tt ?_ (fun _ _ => ?_) | with_reducible refine Calmly.gl_ff ?_ (fun _ _ => ?_)); (first | exact .move _ | exact .load _ _ | exact .fieldAddr _ _ _ (by kernel_rfl) | exact .assign _ | exact .binOp _ _ _ _ _ rfl | exact .indexAddr _ _ _ | exact .len _ _ (by kernel_rfl) | exact .field _ _ _ | exact .extract _ _ | exact .pick _ _ _ | exact .build _ _ | exact .slice _ _ _ _ _ | exact .unOp _ _ _ rfl | exact .index _ _ _ | exact .max _ _ _ rfl rfl | exact .min _ _ _ rfl rfl | exact .nilCheck _ _ rfl)) | with_reducible refine Calmly.gl_tf (fun _ _ => ?_) | with_reducible refine Calmly.gl_ft (fun _ _ => ?_)) | ((with_reducible refine Calmly.is_eff ?_); refine Calmly.mix_eff rfl (fun _ _ => ?_)) | ((with_reducible refine Calmly.is_gf ?_); refine Calmly.mix_gf rfl rfl rfl ?_; first | with_reducible refine Calmly.gf_tt (fun _ _ => ?_) | with_reducible refine Calmly.gf_ff (fun _ _ => ?_) | with_reducible refine Calmly.gf_tf (kept_of hk) (fun _ _ => ?_) | with_reducible refine Calmly.gf_ft (kept_of hk) (fun _ _ => ?_)) | ((with_reducible refine Calmly.is_tail ?_); first | refine Calmly.mix_tail_nil ?_ | refine Calmly.mix_tail rfl (fun _ _ => ?_)) | ((with_reducible refine Calmly.is_kept ?_); refine ⟨kept_of hk, ?_⟩) | (with_reducible refine Calmly.mix_alt ?_ ?_))
          rw [Z6.out, HY0.out] at z5'
          rw [List.getElem?_set_self (by simp; omega)] at z5'
          refine wp_gen (fun v => OwI v wo.heap.size (some ⟨wo.heap.size, 0, none⟩) (i + 2) (i + 2) (y.set p (y0 + (ks[i]?.getD 0 + ks[i + 1]?.getD 0) * c0)) ∧ Below wo.heap.size wo v) ⟨ST3.out.1, hb3z.trans ST3.out.2⟩ ?_
          clear ST3 fx3 ex3 o3 hb3z hk hb3 ex fx k0 k1 hsb hzs ec
          rintro v4 ⟨ov4, bv4⟩
          have k0 := cell_keep fr0' bv4
          have ea4 := cell_keep ea bv4
          have e4 := ov4.cell (p + 1) (by omega)
          have f4 := ov4.free (p + 1)
          obtain ⟨y1, hy1⟩ : ∃ y1, (y.set p (y0 + (ks[i]?.getD 0 + ks[i + 1]?.getD 0) * c0))[p + 1]?.getD 0 = y1 := ⟨_, rfl⟩
          rw [hy1] at e4 z5'
          have st4 := ov4.stored (p + 1) (y1 - ms[i]?.getD 0 * c0)
          have Z7 : (y.set p (y0 + (ks[i]?.getD 0 + ks[i + 1]?.getD 0) * c0)).set (p + 1) (y1 - ms[i]?.getD 0 * c0) = fold1 (ks[i]?.getD 0 + ks[i + 1]?.getD 0) (ms[i]?.getD 0) (polyRow ms ks i).2 (p + 1) (List.replicate (i + 2) 0) := by
            rw [HST.out, HY.out, HC0.out, Z6.out, HY0.out, hy1]
          rw [Z7] at st4
          have ST4 := Lib.hid st4
          clear st4 Z7 hy1 Z6 HY0 HC0 HY HST ov4
          obtain ⟨z5a, z5b⟩ := z5'
          simp only [Option.getD_some] at z5a z5b
          have hw1 : -1000000000000000 ≤ y1 - ms[i]?.getD 0 * c0 := by omega
          have hw2 : y1 - ms[i]?.getD 0 * c0 ≤ 1000000000000000 := by omega
          clear z5a z5b g1 by2
          have hj2 : (p : Int) + 1 < (i : Int) + 2 := by omega
          go_wp2_with fail
          refine Calmly.wp_region_mix 12 (.fl 0 <| .fl 1 <| .fl 2 <| .fl 3 <| .fl 4 <| .fl 5 <| .fl 6 <| .fl 7 <| .fl 8 <| .fl 9 <| .fl 10 <| .fl 11 <| .tail [12, 13, 14]) (by kernel_rfl) (by kernel_rfl) ?_
          have hk := Below.refl v4.drew.heap.size v4.drew
          go_wp2_with (first | ((with_reducible refine Calmly.is_fl ?_); refine Calmly.mix_fl rfl ?_ (fun _ _ => ?_); (first | exact .move _ | exact .load _ _ | exact .fieldAddr _ _ _ (by kernel_rfl) | exact .assign _ | exact .binOp _ _ _ _ _ rfl | exact .indexAddr _ _ _ | exact .len _ _ (by kernel_rfl) | exact .field _ _ _ | exact .extract _ _ | exact .pick _ _ _ | exact .build _ _ | exact .slice _ _ _ _ _ | exact .unOp _ _ _ rfl | exact .index _ _ _ | exact .max _ _ _ rfl rfl | exact .min _ _ _ rfl rfl | exact .nilCheck _ _ rfl)) | ((with_reducible refine Calmly.is_gl ?_); refine Calmly.mix_gl rfl rfl rfl ?_; first | ((first | with_reducible refine Calmly.gl_tt ?_ (fun _ _ => ?_) | with_reducible refine Calmly.gl_ff ?_ (fun _ _ => ?_)); (first | exact .move _ | exact .load _ _ | exact .fieldAddr _ _ _ (by kernel_rfl) | exact .assign _ | exact .binOp _ _ _ _ _ rfl | exact .indexAddr _ _ _ | exact .len _ _ (by kernel_rfl) | exact .field _ _ _ | exact .extract _ _ | exact .pick _ _ _ | exact .build _ _ | exact .slice _ _ _ _ _ | exact .unOp _ _ _ rfl | exact .index _ _ _ | exact .max _ _ _ rfl rfl | exact .min _ _ _ rfl rfl | exact .nilCheck _ _ rfl)) | with_reducible refine Calmly.gl_tf (fun _ _ => ?_) | with_reducible refine Calmly.gl_ft (fun _ _ => ?_)) | ((with_reducible refine Calmly.is_eff ?_); refine Calmly.mix_eff rfl (fun _ _ => ?_)) | ((with_reducible refine Calmly.is_gf ?_); refine Calmly.mix_gf rfl rfl rfl ?_; first | with_reducible refine Calmly.gf_tt (fun _ _ => ?_) | with_reducible refine Calmly.gf_ff (fun _ _ => ?_) | with_reducible refine Calmly.gf_tf (kept_of hk) (fun _ _ => ?_) | with_reducible refine Calmly.gf_ft (kept_of hk) (fun _ _ => ?_)) | ((with_reducible refine Calmly.is_tail ?_); first | refine Calmly.mix_tail_nil ?_ | refine Calmly.mix_tail rfl (fun _ _ => ?_)) | ((with_reducible refine Calmly.is_kept ?_); refine ⟨kept_of hk, ?_⟩) | (with_reducible refine Calmly.mix_alt ?_ ?_))
          go_roundw
          case rel => exact ⟨p + 1, by omega, by go_num, ST4.out.1.drew, (bv4.trans ST4.out.2).drew⟩
          case measure => simp [intOf]; omega
        · have hle : (i : Int) + 1 ≤ (p : Int) := by omega
          obtain rfl : p = i + 1 := by omega
          obtain ⟨y, hy⟩ : ∃ y, fold1 (ks[i]?.getD 0 + ks[i + 1]?.getD 0) (ms[i]?.getD 0) (polyRow ms ks i).2 (i + 1) (List.replicate (i + 2) 0) = y := ⟨_, rfl⟩
          have YB := fold1_bd B2 (own := ks[i]?.getD 0 + ks[i + 1]?.getD 0) (m := ms[i]?.getD 0) (by omega) (by omega) (by omega) (by omega) hC0 (i + 1) (List.replicate (i + 2) 0) (Bd.zeros (by omega) _)
          have g0 : ((i + 1 : Nat) : Int) * (50 * 2000 ^ i) ≤ 4 * (50 * 2000 ^ i) := Int.mul_le_mul_of_nonneg_right (by omega) (by omega)
          replace YB := YB.mono g0
          clear g0
          rw [hy] at hox YB
          have hry : (polyRow ms ks (i + 1)).2 = if 0 < i then fold2 (ks[i]?.getD 0) (polyRow ms ks i).1 (polyRow ms ks i).1.length y else y := by
            rw [← hy]
            simp only [polyRow, nextRow]
            rw [L1]
          have hrb : (polyRow ms ks (i + 1)).1 = (polyRow ms ks i).2 := rfl
          have HRY := Lib.hid hry
          have HRB := Lib.hid hrb
          have HY := Lib.hid hy
          clear hry hrb hy
          have hbz1 := hbr.trans (hbz.mono (by have := hbr.size; omega))
          have hwo1 : w1.heap.size + 1 ≤ wo.heap.size := by have := hbr.size; omega
          by_cases hz : 0 < i
          · have hz1 : (0 : Int) < (i : Int) := by omega
            have HR2 : (polyRow ms ks (i + 1)).2 = fold2 (ks[i]?.getD 0) (polyRow ms ks i).1 (polyRow ms ks i).1.length y := by rw [HRY.out, if_pos hz]
            replace HR2 := Lib.hid HR2
            go_wp2_with fail
            refine wp_gen (fun v => OwI v wo.heap.size (some ⟨wo.heap.size, 0, none⟩) (i + 2) (i + 2) y ∧ Below wo.heap.size wo v) ⟨hox, hbz⟩ ?_
            clear hox hbz hbz1
            rintro wm ⟨hox, hbz⟩
            go_loopw [76] (fun z wz => ∃ (p : Nat), p ≤ (polyRow ms ks i).1.length ∧ z = .int .i64 p ∧ OwI wz wo.heap.size (some ⟨wo.heap.size, 0, none⟩) (i + 2) (i + 2) (fold2 (ks[i]?.getD 0) (polyRow ms ks i).1 p y) ∧ Below wo.heap.size wo wz) (fun z _ => (polyRow ms ks i).1.length - (intOf z).toNat)
            case atStart => exact ⟨0, by omega, rfl, hox, hbz⟩
            case round =>
              clear hox hbz
              obtain ⟨p, hp, rfl, hox, hbz⟩ := hrel
              by_cases hpl : p < (polyRow ms ks i).1.length
              · have ec := cell_keep (hob.cell p hpl) hbz
                have ex := hox.cell p (by omega)
                have fx := hox.free p
                have bc := B1 p
                have by1 := fold2_bd B1 (k := ks[i]?.getD 0) (by omega) (by omega) hC0 p y YB
                have g1 : (p : Int) * (400 * 2000 ^ i) ≤ 4 * (400 * 2000 ^ i) := Int.mul_le_mul_of_nonneg_right (by omega) (by omega)
                have by2 := by1 p
                have by3 := (step2_bd (p := p) by1 (by omega : 0 ≤ ks[i]?.getD 0) (by omega) bc.1 bc.2 hC0)
                obtain ⟨z1, z2, z3, z4, z5⟩ := by3
                clear z5 by1
                have hst : fold2 (ks[i]?.getD 0) (polyRow ms ks i).1 (p + 1) y = (fold2 (ks[i]?.getD 0) (polyRow ms ks i).1 p y).set p ((fold2 (ks[i]?.getD 0) (polyRow ms ks i).1 p y)[p]?.getD 0 - ks[i]?.getD 0 * ks[i]?.getD 0 * (polyRow ms ks i).1[p]?.getD 0) := rfl
                have st := hox.stored p ((fold2 (ks[i]?.getD 0) (polyRow ms ks i).1 p y)[p]?.getD 0 - ks[i]?.getD 0 * ks[i]?.getD 0 * (polyRow ms ks i).1[p]?.getD 0)
                rw [← hst] at st
                obtain ⟨y0, hy0⟩ : ∃ y0, (fold2 (ks[i]?.getD 0) (polyRow ms ks i).1 p y)[p]?.getD 0 = y0 := ⟨_, rfl⟩
                obtain ⟨c0, hc0⟩ : ∃ c0, (polyRow ms ks i).1[p]?.getD 0 = c0 := ⟨_, rfl⟩
                rw [hy0] at ex by2 st
                rw [hc0] at ec st z3 z4
                have ST := Lib.hid st
                clear st hst hy0 hc0
                have hv1 : -1000000000000000 ≤ y0 - ks[i]?.getD 0 * ks[i]?.getD 0 * c0 := by omega
                have hv2 : y0 - ks[i]?.getD 0 * ks[i]?.getD 0 * c0 ≤ 1000000000000000 := by omega
                clear g1 by2
                have hj1 : (p : Int) < ((polyRow ms ks i).1.length : Int) := by omega
                have hj0 : (0 : Int) ≤ (p : Int) := by omega
                have hj2 : (p : Int) < (i : Int) + 2 := by omega
                go_wp2_with fail
                go_roundw
                case rel => exact ⟨p + 1, by omega, by go_num, ST.out.1, hbz.trans ST.out.2⟩
                case measure => simp [intOf]; omega
              · have hle : ((polyRow ms ks i).1.length : Int) ≤ (p : Int) := by omega
                obtain rfl : p = (polyRow ms ks i).1.length := by omega
                rw [← HR2.out] at hox
                go_wp2_with fail
                go_roundw
                case rel => exact ⟨i + 1, gn, cn, wo.heap.size, i + 2, by omega, by rw [HRB.out, L1], rfl, by go_num, by rw [HRB.out, L1]; exact hon.keep hbz, hox.weak hwo1, hbr.trans (hbz.mono hwo1)⟩
                case measure => simp [intOf]; omega
          · obtain rfl : i = 0 := by omega
            have HR2 : (polyRow ms ks 1).2 = y := by rw [HRY.out, if_neg hz]
            replace HR2 := Lib.hid HR2
            go_wp2_with fail
            go_roundw
            case rel => exact ⟨1, gn, cn, wo.heap.size, 2, by omega, by rw [show (polyRow ms ks 1).1 = (polyRow ms ks 0).2 from rfl, L1], rfl, rfl, by rw [show (polyRow ms ks 1).1 = (polyRow ms ks 0).2 from rfl, L1]; exact hon.keep hbz, by rw [HR2.out]; exact hox.weak hwo1, hbz1⟩
            case measure => simp [intOf]; omega
    · have hle : (m : Int) ≤ (i : Int) := by omega
      have hq : i = ms.length := by omega
      have hz : OwI wo w.heap.size (some ⟨gn, 0, none⟩) (m + 1) cn (polyF ms ks) := by
        unfold polyF
        rw [← hq]
        obtain rfl : i = m := by omega
        exact hon.weak (by omega)
      obtain rfl : m = i := by omega
      go_wp2
      go_ret2
      exact ⟨_, _, rfl, hz, hbw⟩
end Go.Proofs.YteigmjlfpmdmoaaGreatDoor

namespace Go.Proofs.YteigmjlfpmdmoaaGreatDoor
open Go.RowKit Go.Shelf
attribute [local go_sem] Oper.semAt_some
open Calmly (Kept)

/-- Here the walk stops. -/
structure Stop (p : Prop) : Prop where
  out : p
/-- The rest of a sequence is to be walked within a fence. -/
theorem wp_seq_in {P : Program} {Q : Exit → Act → World → Prop} {a : Act} {w : World} {x y : Code} (n : Nat) (h : ∀ K : Act → World → Prop, (∀ a w, y.wpIn Fence.wide n P Q a w → K a w) → x.wp P (Exit.then K Q) a w) : (Code.seq x y).wp P Q a w :=
  wp_seq_k (fun K hK => h K (fun a w hy => hK a w (wpIn_wide.1 hy)))

theorem mul_bd2 {a x A C : Int} (h1 : -A ≤ a) (h2 : a ≤ A) (h3 : -C ≤ x) (h4 : x ≤ C) : -(A * C) ≤ a * x ∧ a * x ≤ A * C := by
  have hA : 0 ≤ A := by omega
  have hC : 0 ≤ C := by omega
  have h : (a * x).natAbs ≤ A.natAbs * C.natAbs := by
    rw [Int.natAbs_mul]
    exact Nat.mul_le_mul (by omega) (by omega)
  have h5 : ((A.natAbs * C.natAbs : Nat) : Int) = A * C := by rw [Int.natCast_mul]; congr 1 <;> omega
  omega

def detNext (own m k num den : Int) (i : Nat) (before now : Int) : Int := if i = 0 then (den * own - num * m) * now else (den * own - num * m) * now - den * den * k * k * before
/-- The two last determinants. -/
def detRow (ms ks : List Int) (num den : Int) : Nat → Int × Int
  | 0 => (0, 1)
  | i + 1 => ((detRow ms ks num den i).2, detNext (ks[i]?.getD 0 + ks[i + 1]?.getD 0) (ms[i]?.getD 0) (ks[i]?.getD 0) num den i (detRow ms ks num den i).1 (detRow ms ks num den i).2)
def dets (ms ks : List Int) (num den : Int) (n : Nat) : List Int := (List.range n).map (fun i => (detRow ms ks num den (i + 1)).2)
theorem dets_succ (ms ks : List Int) (num den : Int) (n : Nat) : dets ms ks num den (n + 1) = dets ms ks num den n ++ [(detRow ms ks num den (n + 1)).2] := by
  unfold dets
  rw [List.range_succ, List.map_append]
  rfl
theorem dets_len (ms ks : List Int) (num den : Int) (n : Nat) : (dets ms ks num den n).length = n := by simp [dets]

/-- Squares for which no determinant leaves the numbers. -/
def Sq (num den : Int) : Prop := -4000 ≤ num ∧ num ≤ 4000 ∧ 1 ≤ den ∧ den ≤ 100

theorem det_parts {den num k ab mi : Int} (hq : Sq num den) (hk : 0 ≤ k ∧ k ≤ 20) (ha : 0 ≤ ab ∧ ab ≤ 20) (hm : 0 ≤ mi ∧ mi ≤ 10) :
    (0 ≤ den * (k + ab) ∧ den * (k + ab) ≤ 4000) ∧ (-40000 ≤ num * mi ∧ num * mi ≤ 40000) ∧ (0 ≤ den * den ∧ den * den ≤ 10000) ∧ (0 ≤ den * den * k ∧ den * den * k ≤ 200000) ∧ (0 ≤ den * den * k * k ∧ den * den * k * k ≤ 4000000) := by
  obtain ⟨q1, q2, q3, q4⟩ := hq
  have e1 := mul_bd (a := den) (x := k + ab) (A := 100) (C := 40) (by omega) (by omega) (by omega) (by omega) (by omega)
  have e1' : 0 ≤ den * (k + ab) := Int.mul_nonneg (by omega) (by omega)
  have e2 := mul_bd2 (a := num) (x := mi) (A := 4000) (C := 10) (by omega) (by omega) (by omega) (by omega)
  have e3 := mul_bd (a := den) (x := den) (A := 100) (C := 100) (by omega) (by omega) (by omega) (by omega) (by omega)
  have e3' : 0 ≤ den * den := Int.mul_nonneg (by omega) (by omega)
  have e4 := mul_bd (a := den * den) (x := k) (A := 10000) (C := 20) (by omega) (by omega) (by omega) (by omega) (by omega)
  have e4' : 0 ≤ den * den * k := Int.mul_nonneg (by omega) (by omega)
  have e5 := mul_bd (a := den * den * k) (x := k) (A := 200000) (C := 20) (by omega) (by omega) (by omega) (by omega) (by omega)
  have e5' : 0 ≤ den * den * k * k := Int.mul_nonneg (by omega) (by omega)
  omega
theorem detRow_bd {ms ks : List Int} (he : (checkF ms ks).2 = 0) {num den : Int} (hq : Sq num den) (i : Nat) (hi : i ≤ ms.length) :
    (-(if i = 0 then 0 else 50000 ^ (i - 1)) ≤ (detRow ms ks num den i).1 ∧ (detRow ms ks num den i).1 ≤ if i = 0 then 0 else 50000 ^ (i - 1)) ∧ (-(50000 ^ i) ≤ (detRow ms ks num den i).2 ∧ (detRow ms ks num den i).2 ≤ 50000 ^ i) := by
  obtain ⟨q1, q2, q3, q4, q5⟩ := checkF_ok he
  induction i with
  | zero => simp [detRow]
  | succ i ih =>
    obtain ⟨ih1, ih2⟩ := ih (by omega)
    refine ⟨by simpa [detRow] using ih2, ?_⟩
    have e1 := own_bd q1 q5 i
    have e2 := own_bd q1 q5 (i + 1)
    have e3 := q4 i (by omega)
    obtain ⟨p1, p2, p3, p4, p5⟩ := det_parts hq e1 e2 (mi := ms[i]?.getD 0) (by omega)
    simp only [detRow, detNext]
    have f1 := mul_bd2 (a := den * (ks[i]?.getD 0 + ks[i + 1]?.getD 0) - num * ms[i]?.getD 0) (x := (detRow ms ks num den i).2) (A := 44000) (by omega) (by omega) ih2.1 ih2.2
    have hs : (50000 : Int) ^ (i + 1) = 50000 ^ i * 50000 := Int.pow_succ ..
    have hC : (0 : Int) ≤ 50000 ^ i := Int.pow_nonneg (by omega)
    by_cases hz : i = 0
    · rw [if_pos hz]
      omega
    · rw [if_neg hz]
      rw [if_neg hz] at ih1
      have f2 := mul_bd2 (a := den * den * ks[i]?.getD 0 * ks[i]?.getD 0) (x := (detRow ms ks num den i).1) (A := 4000000) (by omega) (by omega) ih1.1 ih1.2
      have hs2 : (50000 : Int) ^ i = 50000 ^ (i - 1) * 50000 := by
        have : i = (i - 1) + 1 := by omega
        rw [this, Int.pow_succ]
        simp
      have hD : (0 : Int) ≤ 50000 ^ (i - 1) := Int.pow_nonneg (by omega)
      omega
theorem detRow_num {ms ks : List Int} (he : (checkF ms ks).2 = 0) {num den : Int} (hq : Sq num den) (i : Nat) (hi : i < ms.length) :
    (-2500000000 ≤ (detRow ms ks num den i).1 ∧ (detRow ms ks num den i).1 ≤ 2500000000) ∧ (-125000000000000 ≤ (detRow ms ks num den i).2 ∧ (detRow ms ks num den i).2 ≤ 125000000000000) := by
  obtain ⟨q1, q2, q3, q4, q5⟩ := checkF_ok he
  obtain ⟨h1, h2⟩ := detRow_bd he hq i (by omega)
  have : i = 0 ∨ i = 1 ∨ i = 2 ∨ i = 3 := by omega
  rcases this with rfl | rfl | rfl | rfl <;> simp at h1 h2 <;> omega

theorem round_wide {m m' : Nat} {P : Program} {l : Nat} {f : FuncId} {tmps : Array Value} {assign body : Code} {w : World} {R : Ending → World → Prop}
    (h : RoundIn Fence.wide m P l f tmps assign body w R) : RoundIn Fence.wide m' P l f tmps assign body w R := ⟨h.1, fun c cs _ => h.2 c cs (room_wide _)⟩
/-- The memory that the closure reads. -/
def Dt (w : World) (bf bd bn : Nat) (F : Obj) (num den : Int) (v : World) : Prop :=
  w.heap.size ≤ v.heap.size ∧ (∀ k, k < w.heap.size → v.heap[k]? = w.heap[k]?) ∧ v.heap[bf]? = some F ∧ v.heap[bd]? = some (.cells #[.int .i64 den] 3) ∧ v.heap[bn]? = some (.cells #[.int .i64 num] 3)
theorem Dt.below {w v v' : World} {bf bd bn : Nat} {F : Obj} {num den : Int} (h : Dt w bf bd bn F num den v) (hb : Below v.heap.size v v') : Dt w bf bd bn F num den v' := by
  obtain ⟨h1, h2, h3, h4, h5⟩ := h
  exact ⟨Nat.le_trans h1 hb.size, fun k hk => (hb.block k (by omega)).trans (h2 k hk), blk_keep h3 hb, blk_keep h4 hb, blk_keep h5 hb⟩
theorem Dt.si {w v : World} {bf bd bn : Nat} {F : Obj} {num den : Int} (h : Dt w bf bd bn F num den v) {a : Option Addr} {n c : Nat} {xs : List Int} (hs : SI w a n c xs) : SI v a n c xs := by
  obtain ⟨h1, h2, _⟩ := h
  obtain ⟨s1, s2, s3, s4⟩ := hs
  refine ⟨s1, s2, s3, ?_⟩
  rcases s4 with s4 | ⟨b, off, ha, hc⟩
  · exact .inl s4
  · refine .inr ⟨b, off, ha, fun i hi => ?_⟩
    have h3 := hc i hi
    have hsz : i < (xs.map (Value.int .i64)).length := by omega
    rw [List.getElem?_eq_getElem hsz] at h3 ⊢
    rw [World.cell?_of_block (h2 b (cell_lt h3))]
    exact h3

theorem grown_of_below {w w' : World} (h : Below w.heap.size w w') : w.grownBy w' none := ⟨h.os, h.tape, h.output, h.size, fun k hk _ => h.block k hk⟩
theorem Dt.cells {w v : World} {bf bd bn : Nat} {x y : Value} {e : TypeId} {num den : Int} (h : Dt w bf bd bn (.cells #[x, y] e) num den v) :
    v.cell? ⟨bf, 0, none⟩ = some x ∧ v.cell? ⟨bf, 1, none⟩ = some y ∧ v.cell? ⟨bd, 0, none⟩ = some (.int .i64 den) ∧ v.cell? ⟨bn, 0, none⟩ = some (.int .i64 num) := by
  obtain ⟨_, _, h3, h4, h5⟩ := h
  exact ⟨cell_block h3 0, cell_block h3 1, cell_block h4 0, cell_block h5 0⟩

set_option maxRecDepth 100000 in
set_option maxHeartbeats 4000000 in
theorem dets_call (l : Nat) (J Jx : List Int → World → Prop) (w W : World) (a b : Option Addr) (m c d bf bd bn : Nat) (ms ks : List Int) (num den : Int) (h1 : SI w a m c ms) (h2 : SI w b m d ks) (he : (checkF ms ks).2 = 0) (hq : Sq num den)
    (hD : Dt w bf bd bn (.cells #[.slice a m c, .slice b m d] 118) num den W) (hJ : AbidesFrom W.heap.size J) (k : Nat)
    (hY : ∀ pre x W1, J pre W1 → pre.length < m → YieldAt Fence.wide k Tryz.prog l #[.int .i64 x] W1 fun e W' =>
      (e = .returned (.bool true) ∧ J (pre ++ [x]) W' ∧ (Dt w bf bd bn (.cells #[.slice a m c, .slice b m d] 118) num den W1 → Dt w bf bd bn (.cells #[.slice a m c, .slice b m d] 118) num den W')) ∨ (e = .returned (.bool false) ∧ Jx (pre ++ [x]) W'))
    (h0 : J [] W) :
    Calls Tryz.prog 106 #[.func (.yield l) #[] #[], .pointer (some ⟨bf, 0, none⟩), .pointer (some ⟨bd, 0, none⟩), .pointer (some ⟨bn, 0, none⟩)] W fun e W' => (∃ v, e = .returned v) ∧
      (J (dets ms ks num den m) W' ∨ ∃ pre, Jx pre W') := by
  obtain ⟨l1, l2⟩ : m ≤ ms.length ∧ ms.length ≤ m := by have := h1.len; omega
  obtain ⟨q1, q2, q3, q4, q5⟩ := checkF_ok he
  have Q4 := Lib.hid q4
  have Q5 := Lib.hid q5
  have HY := Lib.hid hY
  have HJ := Lib.hid hJ
  clear q4 q5 hY hJ
  have e0 := hD.cells.2.1
  go_enter Tryz.func106, Tryz.ntmps106
  go_wp2_with fail
  go_loopw [5, 6, 13] (fun x y z wr => ∃ (i : Nat), i ≤ m ∧ x = .int .i64 (detRow ms ks num den i).1 ∧ y = .int .i64 (detRow ms ks num den i).2 ∧ z = .int .i64 i ∧ J (dets ms ks num den i) wr ∧ Dt w bf bd bn (.cells #[.slice a m c, .slice b m d] 118) num den wr) (fun _ _ z _ => m - (intOf z).toNat)
  case atStart => exact ⟨0, by omega, rfl, rfl, rfl, h0, hD⟩
  case round =>
    clear h0
    obtain ⟨i, hi, rfl, rfl, rfl, hJi, hDi⟩ := hrel
    by_cases hlt : i < m
    · obtain ⟨ba, oa, rfl, hca⟩ := (hDi.si h1).at_ (by omega)
      obtain ⟨bb, ob, rfl, hcb⟩ := (hDi.si h2).at_ (by omega)
      have ea := hca i hlt
      have eb := hcb i hlt
      clear hca hcb
      obtain ⟨f0, f1, f2, f3⟩ := hDi.cells
      have hi1 : (i : Int) < (m : Int) := by omega
      have hi0 : (0 : Int) ≤ (i : Int) := by omega
      obtain ⟨⟨n1, n2⟩, n3, n4⟩ := detRow_num he hq i (by omega)
      have e1 := own_bd q1 Q5.out i
      have e2 := own_bd q1 Q5.out (i + 1)
      have e3 := Q4.out i (by omega)
      obtain ⟨⟨p1, p1'⟩, ⟨p2, p2'⟩, ⟨p3, p3'⟩, ⟨p4, p4'⟩, p5, p5'⟩ := det_parts hq e1 e2 (mi := ms[i]?.getD 0) (by omega)
      have g1 := mul_bd2 (a := den * (ks[i]?.getD 0 + ks[i + 1]?.getD 0) - num * ms[i]?.getD 0) (x := (detRow ms ks num den i).2) (A := 44000) (by omega) (by omega) n3 n4
      have g2 := mul_bd2 (a := den * den * ks[i]?.getD 0 * ks[i]?.getD 0) (x := (detRow ms ks num den i).1) (A := 4000000) (by omega) (by omega) n1 n2
      obtain ⟨g1a, g1b⟩ := g1
      obtain ⟨g2a, g2b⟩ := g2
      simp only [Int.reduceMul, Int.reduceNeg] at g1a g1b g2a g2b
      go_wp2_with fail
      refine Calmly.wp_region_mix 26 (.fl 0 <| .fl 1 <| .fl 2 <| .fl 3 <| .fl 7 <| .fl 8 <| .fl 9 <| .fl 10 <| .fl 11 <| .fl 12 <| .fl 13 <| .fl 15 <| .fl 17 <| .fl 18 <| .fl 19 <| .fl 20 <| .fl 21 <| .fl 22 <| .fl 23 <| .fl 24 <| .fl 25 <| .eff 4 <| .fl 5 <| .fl 6 <| .fl 14 <| .fl 16 <| .tail [26, 27]) (by kernel_rfl) (by kernel_rfl) ?_
      rename_i K hK
      have hK' := fun a w (h : Stop _) => hK a w h.out
      clear hK
      have hk := Below.refl wr.drew.heap.size wr.drew
      go_wp2_with (first | ((with_reducible refine Calmly.is_fl ?_); refine Calmly.mix_fl rfl ?_ (fun _ _ => ?_); (first | exact .move _ | exact .load _ _ | exact .fieldAddr _ _ _ (by kernel_rfl) | exact .assign _ | exact .binOp _ _ _ _ _ rfl | exact .indexAddr _ _ _ | exact .len _ _ (by kernel_rfl) | exact .field _ _ _ | exact .extract _ _ | exact .pick _ _ _ | exact .build _ _ | exact .slice _ _ _ _ _ | exact .unOp _ _ _ rfl | exact .index _ _ _ | exact .max _ _ _ rfl rfl | exact .min _ _ _ rfl rfl | exact .nilCheck _ _ rfl)) | ((with_reducible refine Calmly.is_gl ?_); refine Calmly.mix_gl rfl rfl rfl ?_; first | ((first | with_reducible refine Calmly.gl_tt ?_ (fun _ _ => ?_) | with_reducible refine Calmly.gl_ff ?_ (fun _ _ => ?_)); (first | exact .move _ | exact .load _ _ | exact .fieldAddr _ _ _ (by kernel_rfl) | exact .assign _ | exact .binOp _ _ _ _ _ rfl | exact .indexAddr _ _ _ | exact .len _ _ (by kernel_rfl) | exact .field _ _ _ | exact .extract _ _ | exact .pick _ _ _ | exact .build _ _ | exact .slice _ _ _ _ _ | exact .unOp _ _ _ rfl | exact .index _ _ _ | exact .max _ _ _ rfl rfl | exact .min _ _ _ rfl rfl | exact .nilCheck _ _ rfl)) | with_reducible refine Calmly.gl_tf (fun _ _ => ?_) | with_reducible refine Calmly.gl_ft (fun _ _ => ?_)) | ((with_reducible refine Calmly.is_eff ?_); refine Calmly.mix_eff rfl (fun _ _ => ?_)) | ((with_reducible refine Calmly.is_gf ?_); refine Calmly.mix_gf rfl rfl rfl ?_; first | with_reducible refine Calmly.gf_tt (fun _ _ => ?_) | with_reducible refine Calmly.gf_ff (fun _ _ => ?_) | with_reducible refine Calmly.gf_tf (kept_of hk) (fun _ _ => ?_) | with_reducible refine Calmly.gf_ft (kept_of hk) (fun _ _ => ?_)) | ((with_reducible refine Calmly.is_tail ?_); first | refine Calmly.mix_tail_nil ?_ | refine Calmly.mix_tail rfl (fun _ _ => ?_)) | ((with_reducible refine Calmly.is_kept ?_); refine ⟨kept_of hk, ?_⟩) | (with_reducible refine Calmly.mix_alt ?_ ?_))
      refine (above_any (some ⟨ba, oa, none⟩) (some ⟨bb, ob, none⟩) m c m d ks i _ (hDi.si h2).drew (by omega) (by omega)).mono ?_
      rintro e w3 ⟨rfl, hb3⟩
      replace hk := step_of hk hb3
      have hDj := Dt.below (v := wr.drew) hDi hb3
      have hJj := HJ.out _ wr w3 none hJi (grown_of_below ((Below.refl wr.heap.size wr).drew.trans hb3)) (fun r e => by cases e)
      have hsz3 := hb3.size
      go_wp2_with (first | ((with_reducible refine Calmly.is_fl ?_); refine Calmly.mix_fl rfl ?_ (fun _ _ => ?_); (first | exact .move _ | exact .load _ _ | exact .fieldAddr _ _ _ (by kernel_rfl) | exact .assign _ | exact .binOp _ _ _ _ _ rfl | exact .indexAddr _ _ _ | exact .len _ _ (by kernel_rfl) | exact .field _ _ _ | exact .extract _ _ | exact .pick _ _ _ | exact .build _ _ | exact .slice _ _ _ _ _ | exact .unOp _ _ _ rfl | exact .index _ _ _ | exact .max _ _ _ rfl rfl | exact .min _ _ _ rfl rfl | exact .nilCheck _ _ rfl)) | ((with_reducible refine Calmly.is_gl ?_); refine Calmly.mix_gl rfl rfl rfl ?_; first | ((first | with_reducible refine Calmly.gl_tt ?_ (fun _ _ => ?_) | with_reducible refine Calmly.gl_ff ?_ (fun _ _ => ?_)); (first | exact .move _ | exact .load _ _ | exact .fieldAddr _ _ _ (by kernel_rfl) | exact .assign _ | exact .binOp _ _ _ _ _ rfl | exact .indexAddr _ _ _ | exact .len _ _ (by kernel_rfl) | exact .field _ _ _ | exact .extract _ _ | exact .pick _ _ _ | exact .build _ _ | exact .slice _ _ _ _ _ | exact .unOp _ _ _ rfl | exact .index _ _ _ | exact .max _ _ _ rfl rfl | exact .min _ _ _ rfl rfl | exact .nilCheck _ _ rfl)) | with_reducible refine Calmly.gl_tf (fun _ _ => ?_) | with_reducible refine Calmly.gl_ft (fun _ _ => ?_)) | ((with_reducible refine Calmly.is_eff ?_); refine Calmly.mix_eff rfl (fun _ _ => ?_)) | ((with_reducible refine Calmly.is_gf ?_); refine Calmly.mix_gf rfl rfl rfl ?_; first | with_reducible refine Calmly.gf_tt (fun _ _ => ?_) | with_reducible refine Calmly.gf_ff (fun _ _ => ?_) | with_reducible refine Calmly.gf_tf (kept_of hk) (fun _ _ => ?_) | with_reducible refine Calmly.gf_ft (kept_of hk) (fun _ _ => ?_)) | ((with_reducible refine Calmly.is_tail ?_); first | refine Calmly.mix_tail_nil ?_ | refine Calmly.mix_tail rfl (fun _ _ => ?_)) | ((with_reducible refine Calmly.is_kept ?_); refine ⟨kept_of hk, ?_⟩) | (with_reducible refine Calmly.mix_alt ?_ ?_))
      refine ⟨?_⟩
      refine wp_seq_in 5 (fun K2 hK2 => ?_)
      have ea3 := cell_keep (w := wr.drew) ea hb3
      have eb3 := cell_keep (w := wr.drew) eb hb3
      obtain ⟨f0', f1', f2', f3'⟩ := hDj.cells
      clear ea eb f0 f1 f2 f3 hk hb3
      by_cases hz : i = 0
      · have hz1 : ((i : Int) == 0) = true := by simp [hz]
        have hx : (detRow ms ks num den (i + 1)).2 = (den * (ks[i]?.getD 0 + ks[i + 1]?.getD 0) - num * ms[i]?.getD 0) * (detRow ms ks num den i).2 := by
          simp only [detRow, detNext]
          rw [if_pos hz]
        have HX := Lib.hid hx
        clear hx hz
        go_wp2_with fail
        refine Calmly.wp_region_mix 16 (.fl 0 <| .fl 1 <| .fl 2 <| .fl 3 <| .fl 7 <| .fl 8 <| .fl 9 <| .fl 10 <| .fl 11 <| .fl 12 <| .fl 13 <| .fl 15 <| .eff 4 <| .fl 5 <| .fl 6 <| .fl 14 <| .tail [16, 17]) (by kernel_rfl) (by kernel_rfl) ?_
        have hk := Below.refl w3.drew.heap.size w3.drew
        go_wp2_with (first | ((with_reducible refine Calmly.is_fl ?_); refine Calmly.mix_fl rfl ?_ (fun _ _ => ?_); (first | exact .move _ | exact .load _ _ | exact .fieldAddr _ _ _ (by kernel_rfl) | exact .assign _ | exact .binOp _ _ _ _ _ rfl | exact .indexAddr _ _ _ | exact .len _ _ (by kernel_rfl) | exact .field _ _ _ | exact .extract _ _ | exact .pick _ _ _ | exact .build _ _ | exact .slice _ _ _ _ _ | exact .unOp _ _ _ rfl | exact .index _ _ _ | exact .max _ _ _ rfl rfl | exact .min _ _ _ rfl rfl | exact .nilCheck _ _ rfl)) | ((with_reducible refine Calmly.is_gl ?_); refine Calmly.mix_gl rfl rfl rfl ?_; first | ((first | with_reducible refine Calmly.gl_tt ?_ (fun _ _ => ?_) | with_reducible refine Calmly.gl_ff ?_ (fun _ _ => ?_)); (first | exact .move _ | exact .load _ _ | exact .fieldAddr _ _ _ (by kernel_rfl) | exact .assign _ | exact .binOp _ _ _ _ _ rfl | exact .indexAddr _ _ _ | exact .len _ _ (by kernel_rfl) | exact .field _ _ _ | exact .extract _ _ | exact .pick _ _ _ | exact .build _ _ | exact .slice _ _ _ _ _ | exact .unOp _ _ _ rfl | exact .index _ _ _ | exact .max _ _ _ rfl rfl | exact .min _ _ _ rfl rfl | exact .nilCheck _ _ rfl)) | with_reducible refine Calmly.gl_tf (fun _ _ => ?_) | with_reducible refine Calmly.gl_ft (fun _ _ => ?_)) | ((with_reducible refine Calmly.is_eff ?_); refine Calmly.mix_eff rfl (fun _ _ => ?_)) | ((with_reducible refine Calmly.is_gf ?_); refine Calmly.mix_gf rfl rfl rfl ?_; first | with_reducible refine Calmly.gf_tt (fun _ _ => ?_) | with_reducible refine Calmly.gf_ff (fun _ _ => ?_) | with_reducible refine Calmly.gf_tf (kept_of hk) (fun _ _ => ?_) | with_reducible refine Calmly.gf_ft (kept_of hk) (fun _ _ => ?_)) | ((with_reducible refine Calmly.is_tail ?_); first | refine Calmly.mix_tail_nil ?_ | refine Calmly.mix_tail rfl (fun _ _ => ?_)) | ((with_reducible refine Calmly.is_kept ?_); refine ⟨kept_of hk, ?_⟩) | (with_reducible refine Calmly.mix_alt ?_ ?_))
        refine (above_any (some ⟨ba, oa, none⟩) (some ⟨bb, ob, none⟩) m c m d ks i _ (hDj.si h2).drew (by omega) (by omega)).mono ?_
        rintro e w4 ⟨rfl, hb4⟩
        replace hk := step_of hk hb4
        have hDk := Dt.below (v := w3.drew) hDj hb4
        have hJk := HJ.out _ w3 w4 none hJj (grown_of_below ((Below.refl w3.heap.size w3).drew.trans hb4)) (fun r e => by cases e)
        have hsz4 := hb4.size
        go_wp2_with (first | ((with_reducible refine Calmly.is_fl ?_); refine Calmly.mix_fl rfl ?_ (fun _ _ => ?_); (first | exact .move _ | exact .load _ _ | exact .fieldAddr _ _ _ (by kernel_rfl) | exact .assign _ | exact .binOp _ _ _ _ _ rfl | exact .indexAddr _ _ _ | exact .len _ _ (by kernel_rfl) | exact .field _ _ _ | exact .extract _ _ | exact .pick _ _ _ | exact .build _ _ | exact .slice _ _ _ _ _ | exact .unOp _ _ _ rfl | exact .index _ _ _ | exact .max _ _ _ rfl rfl | exact .min _ _ _ rfl rfl | exact .nilCheck _ _ rfl)) | ((with_reducible refine Calmly.is_gl ?_); refine Calmly.mix_gl rfl rfl rfl ?_; first | ((first | with_reducible refine Calmly.gl_tt ?_ (fun _ _ => ?_) | with_reducible refine Calmly.gl_ff ?_ (fun _ _ => ?_)); (first | exact .move _ | exact .load _ _ | exact .fieldAddr _ _ _ (by kernel_rfl) | exact .assign _ | exact .binOp _ _ _ _ _ rfl | exact .indexAddr _ _ _ | exact .len _ _ (by kernel_rfl) | exact .field _ _ _ | exact .extract _ _ | exact .pick _ _ _ | exact .build _ _ | exact .slice _ _ _ _ _ | exact .unOp _ _ _ rfl | exact .index _ _ _ | exact .max _ _ _ rfl rfl | exact .min _ _ _ rfl rfl | exact .nilCheck _ _ rfl)) | with_reducible refine Calmly.gl_tf (fun _ _ => ?_) | with_reducible refine Calmly.gl_ft (fun _ _ => ?_)) | ((with_reducible refine Calmly.is_eff ?_); refine Calmly.mix_eff rfl (fun _ _ => ?_)) | ((with_reducible refine Calmly.is_gf ?_); refine Calmly.mix_gf rfl rfl rfl ?_; first | with_reducible refine Calmly.gf_tt (fun _ _ => ?_) | with_reducible refine Calmly.gf_ff (fun _ _ => ?_) | with_reducible refine Calmly.gf_tf (kept_of hk) (fun _ _ => ?_) | with_reducible refine Calmly.gf_ft (kept_of hk) (fun _ _ => ?_)) | ((with_reducible refine Calmly.is_tail ?_); first | refine Calmly.mix_tail_nil ?_ | refine Calmly.mix_tail rfl (fun _ _ => ?_)) | ((with_reducible refine Calmly.is_kept ?_); refine ⟨kept_of hk, ?_⟩) | (with_reducible refine Calmly.mix_alt ?_ ?_))
        obtain ⟨fn, tmps, assign, body, hy, hR⟩ := HY.out _ ((den * (ks[i]?.getD 0 + ks[i + 1]?.getD 0) - num * ms[i]?.getD 0) * (detRow ms ks num den i).2) w4 hJk (by rw [dets_len]; exact hlt)
        go_wp2_with fail
        gi_wp2
        refine (round_wide hR).mono ?_
        rintro e W5 (⟨rfl, hJ5, hk5⟩ | ⟨rfl, hx5⟩)
        · gi_wp2
          go_wp2_with fail
          go_roundw
          case rel => exact ⟨i + 1, by omega, rfl, by rw [HX.out], by go_num, by rw [dets_succ, HX.out]; exact hJ5, hk5 hDk⟩
          case measure => simp [intOf]; omega
        · gi_wp2
          refine bodyPost_ret (results_none rfl _ _ _) rfl ?_
          exact ⟨⟨_, rfl⟩, .inr ⟨_, hx5⟩⟩
      · have hz1 : ((i : Int) == 0) = false := by simp [hz]
        have hx : (detRow ms ks num den (i + 1)).2 = (den * (ks[i]?.getD 0 + ks[i + 1]?.getD 0) - num * ms[i]?.getD 0) * (detRow ms ks num den i).2 - den * den * ks[i]?.getD 0 * ks[i]?.getD 0 * (detRow ms ks num den i).1 := by
          simp only [detRow, detNext]
          rw [if_neg hz]
        have HX := Lib.hid hx
        clear hx hz
        obtain ⟨fn, tmps, assign, body, hy, hR⟩ := HY.out _ ((den * (ks[i]?.getD 0 + ks[i + 1]?.getD 0) - num * ms[i]?.getD 0) * (detRow ms ks num den i).2 - den * den * ks[i]?.getD 0 * ks[i]?.getD 0 * (detRow ms ks num den i).1) w3 hJj (by rw [dets_len]; exact hlt)
        go_wp2_with fail
        gi_wp2
        refine (round_wide hR).mono ?_
        rintro e W5 (⟨rfl, hJ5, hk5⟩ | ⟨rfl, hx5⟩)
        · gi_wp2
          go_wp2_with fail
          go_roundw
          case rel => exact ⟨i + 1, by omega, rfl, by rw [HX.out], by go_num, by rw [dets_succ, HX.out]; exact hJ5, hk5 hDj⟩
          case measure => simp [intOf]; omega
        · gi_wp2
          refine bodyPost_ret (results_none rfl _ _ _) rfl ?_
          exact ⟨⟨_, rfl⟩, .inr ⟨_, hx5⟩⟩
    · have hle : (m : Int) ≤ (i : Int) := by omega
      obtain rfl : i = m := by omega
      go_wp2_with fail
      go_end0
      exact ⟨⟨_, rfl⟩, .inl hJi⟩
end Go.Proofs.YteigmjlfpmdmoaaGreatDoor
