/- Contracts of numbers of any size: made of digits, compared, added, subtracted. -/
import Derived.Test.YtmaidjankakppaaBa
namespace Go.Proofs.Ytmaidjankakppaa
open Go.RowKit Go.Wides
open Calmly (Kept)

/-- A sign and a slice of digits are the number z. -/
def WideV (w : World) (s : Int) (a : Option Addr) (n c : Nat) (z : Int) : Prop := ∃ ds, SI w a n c ds ∧ In w 3 a ∧ Dg ds ∧ Nz ds ∧ dv ds = z.natAbs ∧ s = z.sign
theorem WideV.keep {w w' : World} {s : Int} {a : Option Addr} {n c : Nat} {z : Int} (h : WideV w s a n c z) (hb : Below w.heap.size w w') : WideV w' s a n c z := by
  obtain ⟨ds, h1, h2, h3⟩ := h
  exact ⟨ds, h1.keep hb, h2.keep hb, h3⟩
theorem WideV.set {w : World} {s : Int} {a : Option Addr} {n c : Nat} {z : Int} {r o : Nat} {v : Value} {e : TypeId} (h : WideV w s a n c z) (hr : BlkT w r e) (he : 3 ≠ e) : WideV (w.setCell ⟨r, o, none⟩ v) s a n c z := by
  obtain ⟨ds, h1, h2, h3⟩ := h
  exact ⟨ds, Sl.set h1 h2 hr he, h2.set _ _, h3⟩
theorem WideV.zero (w : World) : WideV w 0 none 0 0 0 := ⟨[], Sl.nil w 1, .inl rfl, Dg.nil, nz_nil, rfl, rfl⟩
theorem WideV.s_bd {w : World} {s : Int} {a : Option Addr} {n c : Nat} {z : Int} (h : WideV w s a n c z) : -1 ≤ s ∧ s ≤ 1 := by
  obtain ⟨ds, _, _, _, _, _, rfl⟩ := h
  rcases Int.lt_trichotomy z 0 with h | h | h
  · rw [Int.sign_eq_neg_one_of_neg h]; omega
  · rw [h]; simp
  · rw [Int.sign_eq_one_of_pos h]; omega

/-- A sign that fits. -/
def SgOk (s : Int) (xs : List Int) : Prop := s = 1 ∨ s = -1 ∨ dv xs = 0
theorem sign_of {s : Int} {xs : List Int} (hd : Dg xs) (hs : SgOk s xs) :
    dv xs = (s * dv xs).natAbs ∧ (dv xs ≠ 0 → s = (s * dv xs).sign) := by
  have h0 := dv_nonneg hd
  rcases hs with rfl | rfl | h
  · refine ⟨by omega, fun hne => ?_⟩
    rw [Int.one_mul, Int.sign_eq_one_of_pos (by omega)]
  · refine ⟨by omega, fun hne => ?_⟩
    rw [Int.sign_eq_neg_one_of_neg (by omega)]
  · rw [h]; simp

set_option maxRecDepth 100000 in
set_option maxHeartbeats 400000 in
theorem wideOf_any (s : Int) (a : Option Addr) (n c : Nat) (xs : List Int) (w : World) (h1 : SI w a n c xs) (hI : In w 3 a) (hd : Dg xs) (hs : SgOk s xs) :
    Calls Try.prog 134 #[.int .i64 s, .slice a n c] w fun e w' => ∃ s' m, e = .returned (.agg #[.int .i64 s', .slice a m c]) ∧ (m ≤ n ∧ WideV w' s' a m c (s * dv xs)) ∧ Below w.heap.size w w' := by
  have hk0 : ∀ o, Below w.heap.size w (w.alloc o) := fun o => (Below.refl _ _).alloc (Nat.le_refl _) _
  obtain ⟨hs1, hs2⟩ := sign_of hd hs
  clear hs
  have HS1 := Lib.hid hs1
  clear hs1
  have HS2 := Lib.hid hs2
  clear hs2
  go_enter Try.func134, Try.ntmps134
  go_wp2_with fail
  refine (trimmed_any a n c xs _ (h1.keep (hk0 _))).mono ?_
  rintro e w' ⟨m, rfl, hm, rfl⟩
  obtain ⟨hm1, hm2, hm3⟩ := hm
  have HM2 := Lib.hid hm2
  clear hm2
  have HM3 := Lib.hid hm3
  clear hm3
  have hS := (h1.take hm1).keep (hk0 (.cells #[.int .i64 0, .slice none 0 0] 70))
  by_cases h0 : m = 0
  · have hb : ((m : Int) == 0) = true := by simp [h0]
    have H0 := Lib.hid h0
    clear h0
    go_wp2_with fail
    refine bodyPost_ret (v := .agg #[.int .i64 0, .slice a m c]) (by simp [results, Try.results134, go_sem]) rfl ⟨0, m, rfl, ⟨hm1, xs.take m, h1.take hm1 |>.keep (hk0 _), hI.keep (hk0 _), hd.take m, HM3.out, HM2.out.trans HS1.out, ?_⟩, hk0 _⟩
    have h2 := HM2.out
    rw [H0.out] at h2
    simp only [List.take_zero] at h2
    rw [← h2]
    simp [dv]
  · have hb : ((m : Int) == 0) = false := by simp; omega
    go_wp2_with fail
    refine bodyPost_ret (v := .agg #[.int .i64 s, .slice a m c]) (by simp [results, Try.results134, go_sem]) rfl ⟨s, m, rfl, ⟨hm1, xs.take m, h1.take hm1 |>.keep (hk0 _), hI.keep (hk0 _), hd.take m, HM3.out, HM2.out.trans HS1.out, HS2.out fun hc => ?_⟩, hk0 _⟩
    rw [← HM2.out] at hc
    have := (nz_zero (hd.take m) HM3.out).1 hc
    have h3 := congrArg List.length this
    simp only [List.length_take, List.length_nil] at h3
    have := h1.len
    omega

/-- How far the digits of an int have come. -/
def OfStep (n p : Int) (ds : List Int) : Prop :=
  Dg ds ∧ (n.natAbs : Int) = dv ds + 1000000000 ^ ds.length * p.natAbs ∧ (0 ≤ n → 0 ≤ p) ∧ (n ≤ 0 → p ≤ 0) ∧
  ((ds.length = 0 ∧ p.natAbs ≤ 9223372036854775807) ∨ (ds.length = 1 ∧ p.natAbs ≤ 9223372036) ∨ (ds.length = 2 ∧ p.natAbs ≤ 9) ∨ (ds.length = 3 ∧ p = 0))
theorem OfStep.start (n : Int) (h1 : -9223372036854775807 ≤ n) (h2 : n ≤ 9223372036854775807) : OfStep n n [] :=
  ⟨Dg.nil, by simp [dv], fun h => h, fun h => h, .inl ⟨rfl, by omega⟩⟩
theorem OfStep.next {n p : Int} {ds : List Int} (h : OfStep n p ds) (h0 : p ≠ 0) : OfStep n (p.tdiv 1000000000) (ds ++ [(p.natAbs : Int) % 1000000000]) := by
  obtain ⟨h1, h2, h3, h4, h5⟩ := h
  have e2 : ((p.tdiv 1000000000).natAbs : Int) = (p.natAbs : Int) / 1000000000 := by
    rw [Int.natAbs_tdiv]; show ((p.natAbs / 1000000000 : Nat) : Int) = _; omega
  refine ⟨h1.append (Dg.one (by omega) (by omega)), ?_, ?_, ?_, ?_⟩
  · rw [dv_append, List.length_append, Int.pow_add]
    simp only [dv, List.length_cons, List.length_nil]
    rw [h2, e2]
    have : (p.natAbs : Int) = (p.natAbs : Int) % 1000000000 + 1000000000 * ((p.natAbs : Int) / 1000000000) := by omega
    generalize (p.natAbs : Int) % 1000000000 = x at *
    generalize (p.natAbs : Int) / 1000000000 = y at *
    rw [this]
    grind
  · intro hn
    have := h3 hn
    exact Int.tdiv_nonneg this (by decide)
  · intro hn
    have := h4 hn
    have := Int.tdiv_nonneg (a := -p) (b := 1000000000) (by omega) (by decide)
    rw [Int.neg_tdiv] at this
    omega
  · simp only [List.length_append, List.length_cons, List.length_nil]
    omega

def sg1 (n : Int) : Int := if n < 0 then -1 else 1
theorem sg1_fin (n : Int) (ds : List Int) (h : OfStep n 0 ds) : SgOk (sg1 n) ds ∧ sg1 n * dv ds = n := by
  obtain ⟨_, h3, _⟩ := h
  simp at h3
  unfold sg1
  by_cases hn : n < 0
  · rw [if_pos hn]; exact ⟨.inr (.inl rfl), by omega⟩
  · rw [if_neg hn]; exact ⟨.inl rfl, by omega⟩
theorem cells_to {B : Nat} {W w1 : World} (hb : Below B W w1) : (∀ b o, b < B → w1.cell? ⟨b, o, none⟩ = W.cell? ⟨b, o, none⟩) ∧ (∀ b o, b < B → w1.frozen? ⟨b, o, none⟩ = W.frozen? ⟨b, o, none⟩) :=
  ⟨fun b o h => hb.cell (p := ⟨b, o, none⟩) h, fun b o h => hb.frozen (p := ⟨b, o, none⟩) h⟩

set_option maxRecDepth 100000 in
set_option maxHeartbeats 1000000 in
theorem WideOf_any (n : Int) (w : World) (hn1 : -9223372036854775807 ≤ n) (hn2 : n ≤ 9223372036854775807) :
    Calls Try.prog 107 #[.int .i64 n] w fun e w' => ∃ s a m c, e = .returned (.agg #[.int .i64 s, .slice a m c]) ∧ (m ≤ 3 ∧ WideV w' s a m c n) ∧ Below w.heap.size w w' := by
  have S0 := OfStep.start n hn1 hn2
  have FIN := sg1_fin n
  by_cases hneg : n < 0
  · rw [show sg1 n = -1 from if_pos hneg] at FIN
    go_enter Try.func107, Try.ntmps107
    go_wp2_with fail
    go_loopw [0, 4] (fun x l wr => ∃ (p : Int) (ds : List Int) (a : Option Addr) (m c : Nat), x = .int .i64 p ∧ l = .slice a m c ∧ OwI wr (w.heap.size + 1) a m c ds ∧ m ≤ 3 ∧ OfStep n p ds ∧ -9223372036854775807 ≤ p ∧ p ≤ 9223372036854775807 ∧ Below (w.heap.size + 1) (w.alloc (.cells #[.int .i64 0, .slice none 0 0] 70)) wr) (fun x _ _ => (intOf x).natAbs)
    case atStart => exact ⟨n, [], none, 0, 0, rfl, rfl, OwI.nil _ _, by omega, S0, hn1, hn2, Below.refl _ _⟩
    case round =>
      obtain ⟨p, ds, a, m, c, rfl, rfl, hown, hm, hst, hp1, hp2, hbel⟩ := hrel
      obtain ⟨hkc, hkf⟩ := cells_to hbel
      have hsz := hbel.size
      simp at hsz
      by_cases h0 : p = 0
      · have hb : (p != 0) = false := by simp [h0]
        rw [h0] at hst
        obtain ⟨F1, F2⟩ := FIN ds hst
        have H0 := Lib.hid h0
        clear h0
        have HF2 := Lib.hid F2
        clear F2 FIN
        go_wp2_with fail
        refine (wideOf_any _ a m c ds _ hown.si (In.of_owns hown) hst.1 F1).mono ?_
        rintro e w' ⟨s', m', rfl, ⟨hm', hv⟩, hb2⟩
        rw [HF2.out] at hv
        have hb3 := hbel.trans (hb2.mono hsz)
        obtain ⟨hkc', hkf'⟩ := cells_to hb3
        have hT := (BlkT.new w #[.int .i64 0, .slice none 0 0] 70).below hb3 (by omega)
        clear hkc hkf
        go_wp2_with fail
        refine bodyPost_ret (v := .agg #[.int .i64 s', .slice a m' c]) (by simp [results, Try.results107, go_sem, hkc', hkf']) rfl ⟨s', a, m', c, rfl, ⟨by omega, (hv.set hT (by decide)).set (hT.set _ _) (by decide)⟩, (((Below.refl _ _).alloc (Nat.le_refl _) _).trans (hb3.mono (by omega))).setCell (by simp) _ |>.setCell (by simp) _⟩
      · have hb : (p != 0) = true := by simpa using h0
        have hN := Lib.hid (hst.next h0)
        have hlen := hown.len
        have hst5 := hst.2.2.2.2
        have hm3 : m < 3 := by omega
        have h9 : (p.tdiv 1000000000).natAbs < p.natAbs := by rw [Int.natAbs_tdiv]; show p.natAbs / 1000000000 < _; omega
        clear hlen hst5
        go_wp2_with fail
        refine (size_any _ _ (tmod_bd (by decide) (by decide) (by decide)).1 (tmod_bd (by decide) (by decide) (by decide)).2).mono ?_
        rintro e w' ⟨rfl, rfl⟩
        go_wp2_with (at_builtin; refine appI rfl _ _ rfl hown rfl rfl (by omega) (by omega) ?_; intro a' c' w1 hown1 hb1 hlt1)
        go_roundw
        case rel => exact ⟨p.tdiv 1000000000, _, a', m + 1, c', rfl, rfl, hown1, by omega, hN.out, by omega, by omega, hbel.trans hb1⟩
        case measure => exact h9
  · rw [show sg1 n = 1 from if_neg hneg] at FIN
    go_enter Try.func107, Try.ntmps107
    go_wp2_with fail
    go_loopw [0, 4] (fun x l wr => ∃ (p : Int) (ds : List Int) (a : Option Addr) (m c : Nat), x = .int .i64 p ∧ l = .slice a m c ∧ OwI wr (w.heap.size + 1) a m c ds ∧ m ≤ 3 ∧ OfStep n p ds ∧ -9223372036854775807 ≤ p ∧ p ≤ 9223372036854775807 ∧ Below (w.heap.size + 1) (w.alloc (.cells #[.int .i64 0, .slice none 0 0] 70)) wr) (fun x _ _ => (intOf x).natAbs)
    case atStart => exact ⟨n, [], none, 0, 0, rfl, rfl, OwI.nil _ _, by omega, S0, hn1, hn2, Below.refl _ _⟩
    case round =>
      obtain ⟨p, ds, a, m, c, rfl, rfl, hown, hm, hst, hp1, hp2, hbel⟩ := hrel
      obtain ⟨hkc, hkf⟩ := cells_to hbel
      have hsz := hbel.size
      simp at hsz
      by_cases h0 : p = 0
      · have hb : (p != 0) = false := by simp [h0]
        rw [h0] at hst
        obtain ⟨F1, F2⟩ := FIN ds hst
        have H0 := Lib.hid h0
        clear h0
        have HF2 := Lib.hid F2
        clear F2 FIN
        go_wp2_with fail
        refine (wideOf_any _ a m c ds _ hown.si (In.of_owns hown) hst.1 F1).mono ?_
        rintro e w' ⟨s', m', rfl, ⟨hm', hv⟩, hb2⟩
        rw [HF2.out] at hv
        have hb3 := hbel.trans (hb2.mono hsz)
        obtain ⟨hkc', hkf'⟩ := cells_to hb3
        have hT := (BlkT.new w #[.int .i64 0, .slice none 0 0] 70).below hb3 (by omega)
        clear hkc hkf
        go_wp2_with fail
        refine bodyPost_ret (v := .agg #[.int .i64 s', .slice a m' c]) (by simp [results, Try.results107, go_sem, hkc', hkf']) rfl ⟨s', a, m', c, rfl, ⟨by omega, (hv.set hT (by decide)).set (hT.set _ _) (by decide)⟩, (((Below.refl _ _).alloc (Nat.le_refl _) _).trans (hb3.mono (by omega))).setCell (by simp) _ |>.setCell (by simp) _⟩
      · have hb : (p != 0) = true := by simpa using h0
        have hN := Lib.hid (hst.next h0)
        have hlen := hown.len
        have hst5 := hst.2.2.2.2
        have hm3 : m < 3 := by omega
        have h9 : (p.tdiv 1000000000).natAbs < p.natAbs := by rw [Int.natAbs_tdiv]; show p.natAbs / 1000000000 < _; omega
        clear hlen hst5
        go_wp2_with fail
        refine (size_any _ _ (tmod_bd (by decide) (by decide) (by decide)).1 (tmod_bd (by decide) (by decide) (by decide)).2).mono ?_
        rintro e w' ⟨rfl, rfl⟩
        go_wp2_with (at_builtin; refine appI rfl _ _ rfl hown rfl rfl (by omega) (by omega) ?_; intro a' c' w1 hown1 hb1 hlt1)
        go_roundw
        case rel => exact ⟨p.tdiv 1000000000, _, a', m + 1, c', rfl, rfl, hown1, by omega, hN.out, by omega, by omega, hbel.trans hb1⟩
        case measure => exact h9
end Go.Proofs.Ytmaidjankakppaa
