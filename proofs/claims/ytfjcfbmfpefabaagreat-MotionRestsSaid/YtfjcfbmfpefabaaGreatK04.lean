/- Contracts of numbers of any size: made of digits, compared, added, subtracted. Contracts of numbers of any size: comparing, adding and subtracting digits. -/
import Derived.Test.YtfjcfbmfpefabaaGreatK03
namespace Go.Proofs.YtfjcfbmfpefabaaGreat
open Go.RowKit Go.Wides
open Calmly (Kept)

/-- A sign and a slice of digits are the number z. -/
def WideV (w : World) (s : Int) (a : Option Addr) (n c : Nat) (z : Int) : Prop := ∃ ds, SI w a n c ds ∧ In w 3 a ∧ Dg ds ∧ Nz ds ∧ dv ds = z.natAbs ∧ s = z.sign
theorem WideV.keep {w w' : World} {s : Int} {a : Option Addr} {n c : Nat} {z : Int} (h : WideV w s a n c z) (hb : Below w.heap.size w w') : WideV w' s a n c z := by
  obtain ⟨ds, h1, h2, h3⟩ := h
  exact ⟨ds, h1.keep hb, h2.keep hb, h3⟩
theorem WideV.set {w : World} {s : Int} {a : Option Addr} {n c : Nat} {z : Int} {r o : Nat} {v : Value} {e : TypeId} (h : WideV w s a n c z) (hr : BlkT w r e) (he : 3 ≠ e) : WideV (w.setCell ⟨r, o, none⟩ v) s a n c z := by
  obtain ⟨ds, h1, h2, h3⟩ := h
  exact ⟨ds, Sl.set h1 h2 hr he, h2.set _ _, h3⟩
theorem WideV.zero (w : World) : WideV w 0 none 0 0 0 := ⟨[], Sl.nil w 1, .inl rfl, Dg.nil, nz_nil, rfl, rfl⟩
theorem WideV.s_bd {w : World} {s : Int} {a : Option Addr} {n c : Nat} {z : Int} (h : WideV w s a n c z) : -1 ≤ s ∧ s ≤ 1 := by
  obtain ⟨ds, _, _, _, _, _, rfl⟩ := h
  rcases Int.lt_trichotomy z 0 with h | h | h
  · rw [Int.sign_eq_neg_one_of_neg h]; omega
  · rw [h]; simp
  · rw [Int.sign_eq_one_of_pos h]; omega

/-- A sign that fits. -/
def SgOk (s : Int) (xs : List Int) : Prop := s = 1 ∨ s = -1 ∨ dv xs = 0
theorem sign_of {s : Int} {xs : List Int} (hd : Dg xs) (hs : SgOk s xs) :
    dv xs = (s * dv xs).natAbs ∧ (dv xs ≠ 0 → s = (s * dv xs).sign) := by
  have h0 := dv_nonneg hd
  rcases hs with rfl | rfl | h
  · refine ⟨by omega, fun hne => ?_⟩
    rw [Int.one_mul, Int.sign_eq_one_of_pos (by omega)]
  · refine ⟨by omega, fun hne => ?_⟩
    rw [Int.sign_eq_neg_one_of_neg (by omega)]
  · rw [h]; simp

set_option maxRecDepth 100000 in
set_option maxHeartbeats 400000 in
theorem wideOf_any (s : Int) (a : Option Addr) (n c : Nat) (xs : List Int) (w : World) (h1 : SI w a n c xs) (hI : In w 3 a) (hd : Dg xs) (hs : SgOk s xs) :
    Calls Tryz.prog 94 #[.int .i64 s, .slice a n c] w fun e w' => ∃ s' m, e = .returned (.agg #[.int .i64 s', .slice a m c]) ∧ (m ≤ n ∧ WideV w' s' a m c (s * dv xs)) ∧ Below w.heap.size w w' := by
  have hk0 : ∀ o, Below w.heap.size w (w.alloc o) := fun o => (Below.refl _ _).alloc (Nat.le_refl _) _
  obtain ⟨hs1, hs2⟩ := sign_of hd hs
  clear hs
  have HS1 := Lib.hid hs1
  clear hs1
  have HS2 := Lib.hid hs2
  clear hs2
  go_enter Tryz.func94, Tryz.ntmps94
  go_wp2_with fail
  refine (trimmed_any a n c xs _ (h1.keep (hk0 _))).mono ?_
  rintro e w' ⟨m, rfl, hm, rfl⟩
  obtain ⟨hm1, hm2, hm3⟩ := hm
  have HM2 := Lib.hid hm2
  clear hm2
  have HM3 := Lib.hid hm3
  clear hm3
  have hS := (h1.take hm1).keep (hk0 (.cells #[.int .i64 0, .slice none 0 0] 78))
  by_cases h0 : m = 0
  · have hb : ((m : Int) == 0) = true := by simp [h0]
    have H0 := Lib.hid h0
    clear h0
    go_wp2_with fail
    refine bodyPost_ret (v := .agg #[.int .i64 0, .slice a m c]) (by simp [results, Tryz.results94, go_sem]) rfl ⟨0, m, rfl, ⟨hm1, xs.take m, h1.take hm1 |>.keep (hk0 _), hI.keep (hk0 _), hd.take m, HM3.out, HM2.out.trans HS1.out, ?_⟩, hk0 _⟩
    have h2 := HM2.out
    rw [H0.out] at h2
    simp only [List.take_zero] at h2
    rw [← h2]
    simp [dv]
  · have hb : ((m : Int) == 0) = false := by simp; omega
    go_wp2_with fail
    refine bodyPost_ret (v := .agg #[.int .i64 s, .slice a m c]) (by simp [results, Tryz.results94, go_sem]) rfl ⟨s, m, rfl, ⟨hm1, xs.take m, h1.take hm1 |>.keep (hk0 _), hI.keep (hk0 _), hd.take m, HM3.out, HM2.out.trans HS1.out, HS2.out fun hc => ?_⟩, hk0 _⟩
    rw [← HM2.out] at hc
    have := (nz_zero (hd.take m) HM3.out).1 hc
    have h3 := congrArg List.length this
    simp only [List.length_take, List.length_nil] at h3
    have := h1.len
    omega

/-- How far the digits of an int have come. -/
def OfStep (n p : Int) (ds : List Int) : Prop :=
  Dg ds ∧ (n.natAbs : Int) = dv ds + 1000000000 ^ ds.length * p.natAbs ∧ (0 ≤ n → 0 ≤ p) ∧ (n ≤ 0 → p ≤ 0) ∧
  ((ds.length = 0 ∧ p.natAbs ≤ 9223372036854775807) ∨ (ds.length = 1 ∧ p.natAbs ≤ 9223372036) ∨ (ds.length = 2 ∧ p.natAbs ≤ 9) ∨ (ds.length = 3 ∧ p = 0))
theorem OfStep.start (n : Int) (h1 : -9223372036854775807 ≤ n) (h2 : n ≤ 9223372036854775807) : OfStep n n [] :=
  ⟨Dg.nil, by simp [dv], fun h => h, fun h => h, .inl ⟨rfl, by omega⟩⟩
theorem OfStep.next {n p : Int} {ds : List Int} (h : OfStep n p ds) (h0 : p ≠ 0) : OfStep n (p.tdiv 1000000000) (ds ++ [(p.natAbs : Int) % 1000000000]) := by
  obtain ⟨h1, h2, h3, h4, h5⟩ := h
  have e2 : ((p.tdiv 1000000000).natAbs : Int) = (p.natAbs : Int) / 1000000000 := by
    rw [Int.natAbs_tdiv]; show ((p.natAbs / 1000000000 : Nat) : Int) = _; omega
  refine ⟨h1.append (Dg.one (by omega) (by omega)), ?_, ?_, ?_, ?_⟩
  · rw [dv_append, List.length_append, Int.pow_add]
    simp only [dv, List.length_cons, List.length_nil]
    rw [h2, e2]
    have : (p.natAbs : Int) = (p.natAbs : Int) % 1000000000 + 1000000000 * ((p.natAbs : Int) / 1000000000) := by omega
    generalize (p.natAbs : Int) % 1000000000 = x at *
    generalize (p.natAbs : Int) / 1000000000 = y at *
    rw [this]
    grind
  · intro hn
    have := h3 hn
    exact Int.tdiv_nonneg this (by decide)
  · intro hn
    have := h4 hn
    have := Int.tdiv_nonneg (a := -p) (b := 1000000000) (by omega) (by decide)
    rw [Int.neg_tdiv] at this
    omega
  · simp only [List.length_append, List.length_cons, List.length_nil]
    omega

def sg1 (n : Int) : Int := if n < 0 then -1 else 1
theorem sg1_fin (n : Int) (ds : List Int) (h : OfStep n 0 ds) : SgOk (sg1 n) ds ∧ sg1 n * dv ds = n := by
  obtain ⟨_, h3, _⟩ := h
  simp at h3
  unfold sg1
  by_cases hn : n < 0
  · rw [if_pos hn]; exact ⟨.inr (.inl rfl), by omega⟩
  · rw [if_neg hn]; exact ⟨.inl rfl, by omega⟩
theorem cells_to {B : Nat} {W w1 : World} (hb : Below B W w1) : (∀ b o, b < B → w1.cell? ⟨b, o, none⟩ = W.cell? ⟨b, o, none⟩) ∧ (∀ b o, b < B → w1.frozen? ⟨b, o, none⟩ = W.frozen? ⟨b, o, none⟩) :=
  ⟨fun b o h => hb.cell (p := ⟨b, o, none⟩) h, fun b o h => hb.frozen (p := ⟨b, o, none⟩) h⟩

set_option maxRecDepth 100000 in
set_option maxHeartbeats 1000000 in
theorem WideOf_any (n : Int) (w : World) (hn1 : -9223372036854775807 ≤ n) (hn2 : n ≤ 9223372036854775807) :
    Calls Tryz.prog 70 #[.int .i64 n] w fun e w' => ∃ s a m c, e = .returned (.agg #[.int .i64 s, .slice a m c]) ∧ (m ≤ 3 ∧ WideV w' s a m c n) ∧ Below w.heap.size w w' := by
  have S0 := OfStep.start n hn1 hn2
  have FIN := sg1_fin n
  by_cases hneg : n < 0
  · rw [show sg1 n = -1 from if_pos hneg] at FIN
    go_enter Tryz.func70, Tryz.ntmps70
    go_wp2_with fail
    go_loopw [0, 4] (fun x l wr => ∃ (p : Int) (ds : List Int) (a : Option Addr) (m c : Nat), x = .int .i64 p ∧ l = .slice a m c ∧ OwI wr (w.heap.size + 1) a m c ds ∧ m ≤ 3 ∧ OfStep n p ds ∧ -9223372036854775807 ≤ p ∧ p ≤ 9223372036854775807 ∧ Below (w.heap.size + 1) (w.alloc (.cells #[.int .i64 0, .slice none 0 0] 78)) wr) (fun x _ _ => (intOf x).natAbs)
    case atStart => exact ⟨n, [], none, 0, 0, rfl, rfl, OwI.nil _ _, by omega, S0, hn1, hn2, Below.refl _ _⟩
    case round =>
      obtain ⟨p, ds, a, m, c, rfl, rfl, hown, hm, hst, hp1, hp2, hbel⟩ := hrel
      obtain ⟨hkc, hkf⟩ := cells_to hbel
      have hsz := hbel.size
      simp at hsz
      by_cases h0 : p = 0
      · have hb : (p != 0) = false := by simp [h0]
        rw [h0] at hst
        obtain ⟨F1, F2⟩ := FIN ds hst
        have H0 := Lib.hid h0
        clear h0
        have HF2 := Lib.hid F2
        clear F2 FIN
        go_wp2_with fail
        refine (wideOf_any _ a m c ds _ hown.si (In.of_owns hown) hst.1 F1).mono ?_
        rintro e w' ⟨s', m', rfl, ⟨hm', hv⟩, hb2⟩
        rw [HF2.out] at hv
        have hb3 := hbel.trans (hb2.mono hsz)
        obtain ⟨hkc', hkf'⟩ := cells_to hb3
        have hT := (BlkT.new w #[.int .i64 0, .slice none 0 0] 78).below hb3 (by omega)
        clear hkc hkf
        go_wp2_with fail
        refine bodyPost_ret (v := .agg #[.int .i64 s', .slice a m' c]) (by simp [results, Tryz.results70, go_sem, hkc']) rfl ⟨s', a, m', c, rfl, ⟨by omega, (hv.set hT (by decide)).set (hT.set _ _) (by decide)⟩, (((Below.refl _ _).alloc (Nat.le_refl _) _).trans (hb3.mono (by omega))).setCell (by simp) _ |>.setCell (by simp) _⟩
      · have hb : (p != 0) = true := by simpa using h0
        have hN := Lib.hid (hst.next h0)
        have hlen := hown.len
        have hst5 := hst.2.2.2.2
        have hm3 : m < 3 := by omega
        have h9 : (p.tdiv 1000000000).natAbs < p.natAbs := by rw [Int.natAbs_tdiv]; show p.natAbs / 1000000000 < _; omega
        clear hlen hst5
        go_wp2_with fail
        refine (size_any _ _ (tmod_bd (by decide) (by decide) (by decide)).1 (tmod_bd (by decide) (by decide) (by decide)).2).mono ?_
        rintro e w' ⟨rfl, rfl⟩
        go_wp2_with (at_builtin; refine appI rfl _ _ rfl hown rfl rfl (by omega) (by omega) ?_; intro a' c' w1 hown1 hb1 hlt1)
        go_roundw
        case rel => exact ⟨p.tdiv 1000000000, _, a', m + 1, c', rfl, rfl, hown1, by omega, hN.out, by omega, by omega, hbel.trans hb1⟩
        case measure => exact h9
  · rw [show sg1 n = 1 from if_neg hneg] at FIN
    go_enter Tryz.func70, Tryz.ntmps70
    go_wp2_with fail
    go_loopw [0, 4] (fun x l wr => ∃ (p : Int) (ds : List Int) (a : Option Addr) (m c : Nat), x = .int .i64 p ∧ l = .slice a m c ∧ OwI wr (w.heap.size + 1) a m c ds ∧ m ≤ 3 ∧ OfStep n p ds ∧ -9223372036854775807 ≤ p ∧ p ≤ 9223372036854775807 ∧ Below (w.heap.size + 1) (w.alloc (.cells #[.int .i64 0, .slice none 0 0] 78)) wr) (fun x _ _ => (intOf x).natAbs)
    case atStart => exact ⟨n, [], none, 0, 0, rfl, rfl, OwI.nil _ _, by omega, S0, hn1, hn2, Below.refl _ _⟩
    case round =>
      obtain ⟨p, ds, a, m, c, rfl, rfl, hown, hm, hst, hp1, hp2, hbel⟩ := hrel
      obtain ⟨hkc, hkf⟩ := cells_to hbel
      have hsz := hbel.size
      simp at hsz
      by_cases h0 : p = 0
      · have hb : (p != 0) = false := by simp [h0]
        rw [h0] at hst
        obtain ⟨F1, F2⟩ := FIN ds hst
        have H0 := Lib.hid h0
        clear h0
        have HF2 := Lib.hid F2
        clear F2 FIN
        go_wp2_with fail
        refine (wideOf_any _ a m c ds _ hown.si (In.of_owns hown) hst.1 F1).mono ?_
        rintro e w' ⟨s', m', rfl, ⟨hm', hv⟩, hb2⟩
        rw [HF2.out] at hv
        have hb3 := hbel.trans (hb2.mono hsz)
        obtain ⟨hkc', hkf'⟩ := cells_to hb3
        have hT := (BlkT.new w #[.int .i64 0, .slice none 0 0] 78).below hb3 (by omega)
        clear hkc hkf
        go_wp2_with fail
        refine bodyPost_ret (v := .agg #[.int .i64 s', .slice a m' c]) (by simp [results, Tryz.results70, go_sem, hkc']) rfl ⟨s', a, m', c, rfl, ⟨by omega, (hv.set hT (by decide)).set (hT.set _ _) (by decide)⟩, (((Below.refl _ _).alloc (Nat.le_refl _) _).trans (hb3.mono (by omega))).setCell (by simp) _ |>.setCell (by simp) _⟩
      · have hb : (p != 0) = true := by simpa using h0
        have hN := Lib.hid (hst.next h0)
        have hlen := hown.len
        have hst5 := hst.2.2.2.2
        have hm3 : m < 3 := by omega
        have h9 : (p.tdiv 1000000000).natAbs < p.natAbs := by rw [Int.natAbs_tdiv]; show p.natAbs / 1000000000 < _; omega
        clear hlen hst5
        go_wp2_with fail
        refine (size_any _ _ (tmod_bd (by decide) (by decide) (by decide)).1 (tmod_bd (by decide) (by decide) (by decide)).2).mono ?_
        rintro e w' ⟨rfl, rfl⟩
        go_wp2_with (at_builtin; refine appI rfl _ _ rfl hown rfl rfl (by omega) (by omega) ?_; intro a' c' w1 hown1 hb1 hlt1)
        go_roundw
        case rel => exact ⟨p.tdiv 1000000000, _, a', m + 1, c', rfl, rfl, hown1, by omega, hN.out, by omega, by omega, hbel.trans hb1⟩
        case measure => exact h9
end Go.Proofs.YtfjcfbmfpefabaaGreat

namespace Go.Proofs.YtfjcfbmfpefabaaGreat
open Go.RowKit Go.Wides
open Calmly (Kept)

set_option maxRecDepth 100000 in
set_option maxHeartbeats 1000000 in
theorem cmpDigits_any (a b : Option Addr) (n m c d : Nat) (xs ys : List Int) (w : World) (h1 : SI w a n c xs) (h2 : SI w b m d ys) (d1 : Dg xs) (d2 : Dg ys) (z1 : Nz xs) (z2 : Nz ys) :
    Calls Tryz.prog 96 #[.slice a n c, .slice b m d] w fun e w' => e = .returned (.int .i64 (cmpI (dv xs) (dv ys))) ∧ ∃ q, w' = w.drewN q := by
  obtain ⟨l1, l2⟩ : n ≤ xs.length ∧ xs.length ≤ n := by have := h1.len; omega
  obtain ⟨k1, k2⟩ : m ≤ ys.length ∧ ys.length ≤ m := by have := h2.len; omega
  have m1 := h1.max
  have m2 := h2.max
  have c1 := h1.cap
  have c2 := h2.cap
  by_cases he : n = m
  · subst he
    go_enter Tryz.func96, Tryz.ntmps96
    go_wp2
    go_loopw [5] (fun i wr => ∃ k : Nat, k ≤ n ∧ i = .int .i64 ((k : Int) - 1) ∧ Hid (xs.drop k = ys.drop k) ∧ ∃ n, wr = w.drewN n) (fun i _ => (intOf i + 1).toNat)
    case atStart => exact ⟨n, by omega, rfl, by rw [List.drop_of_length_le (by omega), List.drop_of_length_le (by omega)]; rfl, 0, rfl⟩
    case round =>
      obtain ⟨k, hk, rfl, ht, q, rfl⟩ := hrel
      by_cases hlt : 0 < k
      · obtain ⟨b1, o1, rfl, hc1⟩ := h1.at_ (by omega)
        obtain ⟨b2, o2, rfl, hc2⟩ := h2.at_ (by omega)
        have e1 := hc1 (k - 1) (by omega)
        have e2 := hc2 (k - 1) (by omega)
        clear hc1 hc2
        have hi : (k : Int) - 1 < (n : Int) := by omega
        have hi0 : (0 : Int) ≤ (k : Int) - 1 := by omega
        have hi1 : (1 : Int) ≤ (k : Int) := by omega
        have hj : ((k : Int) - 1).toNat = k - 1 := by omega
        have ht' : Hid (xs.drop (k - 1 + 1) = ys.drop (k - 1 + 1)) := by rw [show k - 1 + 1 = k from by omega]; exact ht
        go_wp2_with fail
        refine Calmly.wp_region_mix 8 (.fl 0 <| .fl 1 <| .fl 2 <| .fl 3 <| .fl 4 <| .fl 5 <| .fl 6 <| .fl 7 <| .tail [8]) (by kernel_rfl) (by kernel_rfl) ?_
        go_wp2_with (first | ((with_reducible refine Calmly.is_fl ?_); refine Calmly.mix_fl rfl ?_ (fun _ _ => ?_); (first | exact .move _ | exact .load _ _ | exact .fieldAddr _ _ _ (by kernel_rfl) | exact .assign _ | exact .binOp _ _ _ _ _ rfl | exact .indexAddr _ _ _ | exact .len _ _ (by kernel_rfl) | exact .field _ _ _ | exact .extract _ _ | exact .pick _ _ _ | exact .build _ _ | exact .slice _ _ _ _ _ | exact .unOp _ _ _ rfl | exact .index _ _ _ | exact .max _ _ _ rfl rfl | exact .min _ _ _ rfl rfl)) | ((with_reducible refine Calmly.is_gl ?_); refine Calmly.mix_gl rfl rfl rfl ?_; first | ((first | with_reducible refine Calmly.gl_tt ?_ (fun _ _ => ?_) | with_reducible refine Calmly.gl_ff ?_ (fun _ _ => ?_)); (first | exact .move _ | exact .load _ _ | exact .fieldAddr _ _ _ (by kernel_rfl) | exact .assign _ | exact .binOp _ _ _ _ _ rfl | exact .indexAddr _ _ _ | exact .len _ _ (by kernel_rfl) | exact .field _ _ _ | exact .extract _ _ | exact .pick _ _ _ | exact .build _ _ | exact .slice _ _ _ _ _ | exact .unOp _ _ _ rfl | exact .index _ _ _ | exact .max _ _ _ rfl rfl | exact .min _ _ _ rfl rfl)) | with_reducible refine Calmly.gl_tf (fun _ _ => ?_) | with_reducible refine Calmly.gl_ft (fun _ _ => ?_)) | ((with_reducible refine Calmly.is_eff ?_); refine Calmly.mix_eff rfl (fun _ _ => ?_)) | ((with_reducible refine Calmly.is_gf ?_); refine Calmly.mix_gf rfl rfl rfl ?_; first | with_reducible refine Calmly.gf_tt (fun _ _ => ?_) | with_reducible refine Calmly.gf_ff (fun _ _ => ?_) | with_reducible refine Calmly.gf_tf (kept_of hk) (fun _ _ => ?_) | with_reducible refine Calmly.gf_ft (kept_of hk) (fun _ _ => ?_)) | ((with_reducible refine Calmly.is_tail ?_); first | refine Calmly.mix_tail_nil ?_ | refine Calmly.mix_tail rfl (fun _ _ => ?_)) | ((with_reducible refine Calmly.is_kept ?_); refine ⟨kept_of hk, ?_⟩) | (with_reducible refine Calmly.mix_alt ?_ ?_))
        · go_ret
          have hx : xs[k - 1]?.getD 0 < ys[k - 1]?.getD 0 := by assumption
          exact ⟨ret_int (by rw [cmpI_lt (cmp_step d1 d2 (by omega) (by omega) ht'.out hx)]), q + 1, rfl⟩
        · have hx : ys[k - 1]?.getD 0 ≤ xs[k - 1]?.getD 0 := by assumption
          refine Calmly.wp_region_mix 8 (.fl 0 <| .fl 1 <| .fl 2 <| .fl 3 <| .fl 4 <| .fl 5 <| .fl 6 <| .fl 7 <| .tail [8]) (by kernel_rfl) (by kernel_rfl) ?_
          go_wp2_with (first | ((with_reducible refine Calmly.is_fl ?_); refine Calmly.mix_fl rfl ?_ (fun _ _ => ?_); (first | exact .move _ | exact .load _ _ | exact .fieldAddr _ _ _ (by kernel_rfl) | exact .assign _ | exact .binOp _ _ _ _ _ rfl | exact .indexAddr _ _ _ | exact .len _ _ (by kernel_rfl) | exact .field _ _ _ | exact .extract _ _ | exact .pick _ _ _ | exact .build _ _ | exact .slice _ _ _ _ _ | exact .unOp _ _ _ rfl | exact .index _ _ _ | exact .max _ _ _ rfl rfl | exact .min _ _ _ rfl rfl)) | ((with_reducible refine Calmly.is_gl ?_); refine Calmly.mix_gl rfl rfl rfl ?_; first | ((first | with_reducible refine Calmly.gl_tt ?_ (fun _ _ => ?_) | with_reducible refine Calmly.gl_ff ?_ (fun _ _ => ?_)); (first | exact .move _ | exact .load _ _ | exact .fieldAddr _ _ _ (by kernel_rfl) | exact .assign _ | exact .binOp _ _ _ _ _ rfl | exact .indexAddr _ _ _ | exact .len _ _ (by kernel_rfl) | exact .field _ _ _ | exact .extract _ _ | exact .pick _ _ _ | exact .build _ _ | exact .slice _ _ _ _ _ | exact .unOp _ _ _ rfl | exact .index _ _ _ | exact .max _ _ _ rfl rfl | exact .min _ _ _ rfl rfl)) | with_reducible refine Calmly.gl_tf (fun _ _ => ?_) | with_reducible refine Calmly.gl_ft (fun _ _ => ?_)) | ((with_reducible refine Calmly.is_eff ?_); refine Calmly.mix_eff rfl (fun _ _ => ?_)) | ((with_reducible refine Calmly.is_gf ?_); refine Calmly.mix_gf rfl rfl rfl ?_; first | with_reducible refine Calmly.gf_tt (fun _ _ => ?_) | with_reducible refine Calmly.gf_ff (fun _ _ => ?_) | with_reducible refine Calmly.gf_tf (kept_of hk) (fun _ _ => ?_) | with_reducible refine Calmly.gf_ft (kept_of hk) (fun _ _ => ?_)) | ((with_reducible refine Calmly.is_tail ?_); first | refine Calmly.mix_tail_nil ?_ | refine Calmly.mix_tail rfl (fun _ _ => ?_)) | ((with_reducible refine Calmly.is_kept ?_); refine ⟨kept_of hk, ?_⟩) | (with_reducible refine Calmly.mix_alt ?_ ?_))
          · go_ret
            have hx : ys[k - 1]?.getD 0 < xs[k - 1]?.getD 0 := by assumption
            exact ⟨ret_int (by rw [cmpI_gt (cmp_step d2 d1 (by omega) (by omega) ht'.out.symm hx)]), q + 1 + 1, rfl⟩
          · have hy : xs[k - 1]?.getD 0 ≤ ys[k - 1]?.getD 0 := by assumption
            go_roundw
            case rel => exact ⟨k - 1, by omega, by congr 1; omega, drop_step (by omega) (by omega) ht'.out (by omega), q + 1 + 1, rfl⟩
            case measure => simp [intOf]; omega
      · go_wp2
        go_ret
        refine ⟨ret_int ?_, q, rfl⟩
        have := ht.out
        rw [show k = 0 from by omega] at this
        simp at this
        rw [this, cmpI_eq rfl]
  · by_cases hlt : n < m
    · have := dv_lt_of_len d1 d2 z2 (by omega)
      go_enter Tryz.func96, Tryz.ntmps96
      go_wp2
      go_ret
      exact ⟨ret_int (by rw [cmpI_lt this]), 0, rfl⟩
    · have := dv_lt_of_len d2 d1 z1 (by omega)
      go_enter Tryz.func96, Tryz.ntmps96
      go_wp2
      go_ret
      exact ⟨ret_int (by rw [cmpI_gt this]), 0, rfl⟩

set_option maxRecDepth 100000 in
set_option maxHeartbeats 1000000 in
theorem addDigits_any (a b : Option Addr) (n m c d : Nat) (xs ys : List Int) (w : World) (h1 : SI w a n c xs) (h2 : SI w b m d ys) (d1 : Dg xs) (d2 : Dg ys) (hn : n ≤ 1099511627776) (hm : m ≤ 1099511627776) :
    Calls Tryz.prog 95 #[.slice a n c, .slice b m d] w fun e w' => ∃ a' m' c', e = .returned (.slice a' m' c') ∧ (∃ ds, OwI w' w.heap.size a' m' c' ds ∧ Dg ds ∧ dv ds = dv xs + dv ys ∧ m' ≤ max n m + 1) ∧ Below w.heap.size w w' := by
  obtain ⟨l1, l2⟩ : n ≤ xs.length ∧ xs.length ≤ n := by have := h1.len; omega
  obtain ⟨k1, k2⟩ : m ≤ ys.length ∧ ys.length ≤ m := by have := h2.len; omega
  have c1 := h1.cap
  have c2 := h2.cap
  go_enter Tryz.func95, Tryz.ntmps95
  go_wp2_with fail
  go_loopw [5, 6, 7] (fun l x i wr => ∃ (k : Nat) (cy : Int) (ds : List Int) (a' : Option Addr) (c' : Nat), i = .int .i64 k ∧ x = .int .i64 cy ∧ l = .slice a' k c' ∧ OwI wr w.heap.size a' k c' ds ∧ 0 ≤ cy ∧ cy ≤ 1 ∧ k ≤ 1099511627777 ∧ Hid (AddStep xs ys ds k cy) ∧ Hid (k ≤ max n m ∨ (k = max n m + 1 ∧ cy = 0)) ∧ Below w.heap.size w wr) (fun _ _ i _ => max n m + 1 - (intOf i).toNat)
  case atStart => exact ⟨0, 0, [], none, 0, rfl, rfl, rfl, OwI.nil _ _, by omega, by omega, by omega, AddStep.start _ _, .inl (by omega), Below.refl _ _⟩
  case round =>
    obtain ⟨k, cy, ds, a', c', rfl, rfl, rfl, hown, hc0, hc1, hkm, hst, hmx, hbel⟩ := hrel
    have hg1 := d1.get k
    have hg2 := d2.get k
    have hsz := hbel.size
    by_cases hgo : k < n ∨ k < m ∨ 0 < cy
    · have hk1 : k ≤ max n m := by have := hmx.out; omega
      have hN := Lib.hid (hst.out.next d1 d2)
      have hmx' : Hid (k + 1 ≤ max n m ∨ (k + 1 = max n m + 1 ∧ (xs[k]?.getD 0 + ys[k]?.getD 0 + cy) / 1000000000 = 0)) := by
        show _ ∨ _
        by_cases hh : k + 1 ≤ max n m
        · exact .inl hh
        · right
          refine ⟨by omega, ?_⟩
          rw [List.getElem?_eq_none (l := xs) (by omega), List.getElem?_eq_none (l := ys) (by omega)]
          simp; omega
      have hs1 := h1.keep (hbel.mono (Nat.le_refl _))
      have hs2 := h2.keep (hbel.mono (Nat.le_refl _))
      have hk2 : k ≤ 1099511627776 := by omega
      have hkd : max n m + 1 - (k + 1) < max n m + 1 - k := by omega
      have HKD := Lib.hid hkd
      clear hkd
      have cases3 : (k < n) ∨ (¬ k < n ∧ k < m) ∨ (¬ k < n ∧ ¬ k < m ∧ 0 < cy) := by omega
      clear hgo hk1
      rcases cases3 with h | ⟨h, h'⟩ | ⟨h, h', h''⟩
      all_goals
        go_wp2_with fail
        refine (digit_any a n c xs k _ hs1 (by omega)).mono ?_
        rintro e w' ⟨rfl, rfl⟩
        go_wp2_with fail
        refine (digit_any b m d ys k _ hs2 (by omega)).mono ?_
        rintro e w' ⟨rfl, rfl⟩
        rw [Int.toNat_natCast]
        go_wp2_with (at_builtin; refine appI rfl _ _ rfl hown rfl rfl (by omega) (by omega) ?_; intro a2 c2 w1 hown1 hb1 hlt1)
        go_roundw
        case rel => exact ⟨k + 1, _, _, a2, c2, by go_num, rfl, rfl, hown1, by omega, by omega, by omega, hN, hmx', hbel.trans hb1⟩
        case measure => exact HKD.out
    · have hz : cy = 0 := by omega
      rw [hz] at hst
      have hf := hst.out.fin (by omega) (by omega)
      have HF := Lib.hid hf
      have HZ := Lib.hid hz
      have hfd := hst.out.1
      have hmm := hmx.out
      have hk9 : k ≤ max n m + 1 := by omega
      clear hf hz hmm
      go_wp2_with fail
      go_ret
      exact ⟨a', k, c', rfl, ⟨ds, hown, hfd, HF.out, hk9⟩, hbel⟩

set_option maxRecDepth 100000 in
set_option maxHeartbeats 1000000 in
theorem subDigits_any (a b : Option Addr) (n m c d : Nat) (xs ys : List Int) (w : World) (h1 : SI w a n c xs) (h2 : SI w b m d ys) (d1 : Dg xs) (d2 : Dg ys) (hle : dv ys ≤ dv xs) (hml : m ≤ n) (hn : n ≤ 1099511627776) :
    Calls Tryz.prog 97 #[.slice a n c, .slice b m d] w fun e w' => ∃ a' m' c', e = .returned (.slice a' m' c') ∧ (∃ ds, SI w' a' m' c' ds ∧ In w' 3 a' ∧ Dg ds ∧ Nz ds ∧ dv ds = dv xs - dv ys ∧ m' ≤ n) ∧ Below w.heap.size w w' := by
  obtain ⟨l1, l2⟩ : n ≤ xs.length ∧ xs.length ≤ n := by have := h1.len; omega
  obtain ⟨k1, k2⟩ : m ≤ ys.length ∧ ys.length ≤ m := by have := h2.len; omega
  have c1 := h1.cap
  have c2 := h2.cap
  have hc9 := h1.max
  go_enter Tryz.func97, Tryz.ntmps97
  go_wp2_with fail
  go_loopw [5, 6, 7] (fun l x i wr => ∃ (k : Nat) (cy : Int) (ds : List Int) (a' : Option Addr) (c' : Nat), i = .int .i64 k ∧ x = .int .i64 cy ∧ l = .slice a' k c' ∧ OwI wr w.heap.size a' k c' ds ∧ 0 ≤ cy ∧ cy ≤ 1 ∧ k ≤ n ∧ Hid (SubStep xs ys ds k cy) ∧ Below w.heap.size w wr) (fun _ _ i _ => n - (intOf i).toNat)
  case atStart => exact ⟨0, 0, [], none, 0, rfl, rfl, rfl, OwI.nil _ _, by omega, by omega, by omega, SubStep.start _ _, Below.refl _ _⟩
  case round =>
    obtain ⟨k, cy, ds, a', c', rfl, rfl, rfl, hown, hc0, hc1, hkm, hst, hbel⟩ := hrel
    have hg1 := d1.get k
    have hg2 := d2.get k
    have hsz := hbel.size
    by_cases hgo : k < n
    · have hs2 := h2.keep (hbel.mono (Nat.le_refl _))
      obtain ⟨b1, o1, rfl, hce⟩ := (h1.keep (hbel.mono (Nat.le_refl _))).at_ (by omega)
      have e1 := hce k hgo
      clear hce
      have hi : (k : Int) < (n : Int) := by omega
      have hi0 : (0 : Int) ≤ (k : Int) := by omega
      go_wp2_with fail
      refine Calmly.wp_region_mix 9 (.fl 0 <| .fl 1 <| .fl 2 <| .fl 3 <| .fl 4 <| .fl 5 <| .fl 8 <| .eff 6 <| .fl 7 <| .tail [9, 10]) (by kernel_rfl) (by kernel_rfl) ?_
      have hk : Below wr.drew.heap.size wr.drew wr.drew := Below.refl _ _
      go_wp2_with (first | ((with_reducible refine Calmly.is_fl ?_); refine Calmly.mix_fl rfl ?_ (fun _ _ => ?_); (first | exact .move _ | exact .load _ _ | exact .fieldAddr _ _ _ (by kernel_rfl) | exact .assign _ | exact .binOp _ _ _ _ _ rfl | exact .indexAddr _ _ _ | exact .len _ _ (by kernel_rfl) | exact .field _ _ _ | exact .extract _ _ | exact .pick _ _ _ | exact .build _ _ | exact .slice _ _ _ _ _ | exact .unOp _ _ _ rfl | exact .index _ _ _ | exact .max _ _ _ rfl rfl | exact .min _ _ _ rfl rfl)) | ((with_reducible refine Calmly.is_gl ?_); refine Calmly.mix_gl rfl rfl rfl ?_; first | ((first | with_reducible refine Calmly.gl_tt ?_ (fun _ _ => ?_) | with_reducible refine Calmly.gl_ff ?_ (fun _ _ => ?_)); (first | exact .move _ | exact .load _ _ | exact .fieldAddr _ _ _ (by kernel_rfl) | exact .assign _ | exact .binOp _ _ _ _ _ rfl | exact .indexAddr _ _ _ | exact .len _ _ (by kernel_rfl) | exact .field _ _ _ | exact .extract _ _ | exact .pick _ _ _ | exact .build _ _ | exact .slice _ _ _ _ _ | exact .unOp _ _ _ rfl | exact .index _ _ _ | exact .max _ _ _ rfl rfl | exact .min _ _ _ rfl rfl)) | with_reducible refine Calmly.gl_tf (fun _ _ => ?_) | with_reducible refine Calmly.gl_ft (fun _ _ => ?_)) | ((with_reducible refine Calmly.is_eff ?_); refine Calmly.mix_eff rfl (fun _ _ => ?_)) | ((with_reducible refine Calmly.is_gf ?_); refine Calmly.mix_gf rfl rfl rfl ?_; first | with_reducible refine Calmly.gf_tt (fun _ _ => ?_) | with_reducible refine Calmly.gf_ff (fun _ _ => ?_) | with_reducible refine Calmly.gf_tf (kept_of hk) (fun _ _ => ?_) | with_reducible refine Calmly.gf_ft (kept_of hk) (fun _ _ => ?_)) | ((with_reducible refine Calmly.is_tail ?_); first | refine Calmly.mix_tail_nil ?_ | refine Calmly.mix_tail rfl (fun _ _ => ?_)) | ((with_reducible refine Calmly.is_kept ?_); refine ⟨kept_of hk, ?_⟩) | (with_reducible refine Calmly.mix_alt ?_ ?_) | (go_at_call 106; refine (digit_any b m d ys k _ (hs2.keep (Below.drew (Below.refl _ _))) (by omega)).mono ?_; rintro e w' ⟨rfl, rfl⟩; rw [Int.toNat_natCast]) | (at_builtin; refine appI rfl _ _ rfl hown.drew rfl rfl (by omega) (by simp; omega) ?_; intro a2 c2 w1 hown1 hb1 hlt1))
      · have hlt : xs[k]?.getD 0 - ys[k]?.getD 0 - cy < 0 := by assumption
        have hN := Lib.hid (hst.out.next1 d1 d2 hlt)
        go_roundw
        case rel => exact ⟨k + 1, _, _, a2, c2, by go_num, rfl, rfl, hown1, by omega, by omega, by omega, hN, (Below.drew hbel).trans hb1⟩
        case measure => simp [intOf]; omega
      · have hlt : 0 ≤ xs[k]?.getD 0 - ys[k]?.getD 0 - cy := by assumption
        have hN := Lib.hid (hst.out.next0 d1 d2 hlt)
        go_roundw
        case rel => exact ⟨k + 1, _, _, a2, c2, by go_num, rfl, rfl, hown1, by omega, by omega, by omega, hN, (Below.drew hbel).trans hb1⟩
        case measure => simp [intOf]; omega
    · have hf := hst.out.fin (by omega) (by omega) hle
      have hfd := hst.out.1
      have HF := Lib.hid hf
      clear hf
      go_wp2_with fail
      refine (trimmed_any a' k c' ds _ hown.si).mono ?_
      rintro e w' ⟨m', rfl, ⟨hm1, hm2, hm3⟩, rfl⟩
      have HM2 := Lib.hid hm2
      clear hm2
      go_wp2_with fail
      go_ret
      exact ⟨a', m', c', rfl, ⟨ds.take m', hown.si.take hm1, In.of_owns hown, hfd.take _, hm3, HM2.out.trans HF.out, by omega⟩, hbel⟩
end Go.Proofs.YtfjcfbmfpefabaaGreat
