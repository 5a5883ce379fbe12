/- The reference's rest of samples, and its prices. Contracts of chapter 2: the lowest terms of any prices. -/
import Derived.Test.YtfjcfbmfpefabaaGreatK22
namespace Go.Proofs.YtfjcfbmfpefabaaGreat
open Go.RowKit Go.Wides
open Calmly (Kept)

theorem gcds_perm {l l' : List Int} (h : ∀ p, p ∈ l ↔ p ∈ l') : gcds l = gcds l' := by
  have key : ∀ a b : List Int, (∀ p, p ∈ b → p ∈ a) → gcds a ∣ gcds b := by
    intro a b hab
    have : gcds a ∣ gcds b * 1 := by
      rw [gcds_dvd]
      intro p hp
      have h2 := gcds_dvd_mem (hab p hp)
      have h3 : gcds a ∣ p.natAbs := by simpa using Int.natAbs_dvd_natAbs.2 h2
      rw [Nat.mul_one]
      exact h3
    rwa [Nat.mul_one] at this
  exact Nat.dvd_antisymm (key l l' (fun p hp => (h p).2 hp)) (key l' l (fun p hp => (h p).1 hp))
/-- A part of the rest as a rational number. -/
def rsQ (xs : List Int) (p q : Rat) (t : Nat) : Rat := ((xs[t]?.getD 0 : Int) : Rat) + (p + q * (((xs.length : Int) - (t : Int) : Int) : Rat))
def rsQs (xs : List Int) (p q : Rat) (k : Nat) : List Rat := (List.range k).map (rsQ xs p q)
theorem rsQs_succ (xs : List Int) (p q : Rat) (k : Nat) : rsQs xs p q (k + 1) = rsQs xs p q k ++ [rsQ xs p q k] := by
  unfold rsQs
  rw [List.range_succ, List.map_append]
  rfl
theorem rest_com {xs : List Int} (h1 : 2 ≤ xs.length) (h2 : xs.length ≤ 24) :
    (lcmQ (rsQs xs (Rat.divInt (prV xs) (denR xs.length)) (Rat.divInt (prD xs) (denR xs.length)) xs.length) : Int) = restD xs ∧ comQ (rsQs xs (Rat.divInt (prV xs) (denR xs.length)) (Rat.divInt (prD xs) (denR xs.length)) xs.length) = restP xs := by
  obtain ⟨g', hg', p1, p2, p3, _, _⟩ := prices_low h1 h2
  obtain ⟨g, hg, r1, r2, r3, r4, r5⟩ := rest_low h1 h2
  have hlow : lowG (restP xs) (restD xs) = 1 := by
    unfold lowG
    rw [← r4]
    exact gcds_perm (fun p => by simp [or_comm])
  have hq : rsQs xs (Rat.divInt (prV xs) (denR xs.length)) (Rat.divInt (prD xs) (denR xs.length)) xs.length = (restP xs).map (fun p => Rat.divInt p (restD xs)) := by
    unfold rsQs
    refine List.ext_getElem (by simp [r2]) fun t ht1 ht2 => ?_
    have ht : t < xs.length := by simpa using ht1
    have h3 := r3 t ht
    have hlt : t < (restP xs).length := by omega
    rw [List.getElem?_eq_getElem hlt] at h3
    simp only [Option.getD_some] at h3
    rw [List.getElem_map, List.getElem_map, List.getElem_range]
    generalize (restP xs)[t] = r at *
    unfold rsQ
    unfold rsT at h3
    have hd : denR xs.length ≠ 0 := by have := denR_bd xs.length h1 h2; omega
    have hd' : (denR xs.length : Rat) ≠ 0 := by simpa using hd
    have hr' : (restD xs : Rat) ≠ 0 := by simpa using (show restD xs ≠ 0 by omega)
    have hgq : (g : Rat) ≠ 0 := by simpa using (show g ≠ 0 by omega)
    have hgq' : (g' : Rat) ≠ 0 := by simpa using (show g' ≠ 0 by omega)
    rw [Rat.divInt_eq_div, Rat.divInt_eq_div, Rat.divInt_eq_div]
    have e1 : (denR xs.length : Rat) = (restD xs : Rat) * g * g' := by rw [← p1, ← r1]; push_cast; rfl
    have e2 : (prV xs : Rat) = (prVel xs : Rat) * g' := by rw [← p2]; push_cast; rfl
    have e3 : (prD xs : Rat) = (prDis xs : Rat) * g' := by rw [← p3]; push_cast; rfl
    have e4 : (r : Rat) * g = ((xs[t]?.getD 0 : Int) : Rat) * ((restD xs : Rat) * g) + ((prVel xs : Rat) + (prDis xs : Rat) * (((xs.length : Int) - (t : Int) : Int) : Rat)) := by
      have h5 : ((r * g : Int) : Rat) = ((xs[t]?.getD 0 * prDen xs + (prVel xs + prDis xs * ((xs.length : Int) - (t : Int))) : Int) : Rat) := by rw [h3]
      rw [← r1] at h5
      push_cast at h5 ⊢
      exact h5
    generalize (((xs.length : Int) - (t : Int) : Int) : Rat) = m at *
    generalize ((xs[t]?.getD 0 : Int) : Rat) = x at *
    have e5 : (prVel xs : Rat) + (prDis xs : Rat) * m = (r : Rat) * g - x * ((restD xs : Rat) * g) := by grind
    have e6 : (prV xs : Rat) / (denR xs.length : Rat) + (prD xs : Rat) / (denR xs.length : Rat) * m = ((prVel xs : Rat) + (prDis xs : Rat) * m) / ((restD xs : Rat) * g) := by
      rw [e1, e2, e3]
      grind
    rw [e6, e5]
    grind
  obtain ⟨k1, k2, _, _⟩ := common_low (restP xs) (restD xs) (by omega) _ hq
  rw [hlow] at k1 k2
  refine ⟨by rw [k1]; exact Int.tdiv_one _, ?_⟩
  rw [k2]
  have : (fun p : Int => p.tdiv ((1 : Nat) : Int)) = id := by funext p; exact Int.tdiv_one p
  rw [this, List.map_id]
theorem prices_com {xs : List Int} (h1 : 2 ≤ xs.length) (h2 : xs.length ≤ 24) :
    (lcmQ [Rat.divInt (prV xs) (denR xs.length), Rat.divInt (prD xs) (denR xs.length)] : Int) = prDen xs ∧ comQ [Rat.divInt (prV xs) (denR xs.length), Rat.divInt (prD xs) (denR xs.length)] = [prVel xs, prDis xs] := by
  have hd := denR_bd xs.length h1 h2
  obtain ⟨k1, k2, _, _⟩ := common_low [prV xs, prD xs] (denR xs.length) hd.1 [Rat.divInt (prV xs) (denR xs.length), Rat.divInt (prD xs) (denR xs.length)] rfl
  have hg : (lowG [prV xs, prD xs] (denR xs.length) : Int) = prG xs := by
    unfold lowG prG
    congr 1
    exact gcds_perm (fun p => by simp only [List.cons_append, List.nil_append, List.mem_cons, List.not_mem_nil, or_false]; grind)
  rw [hg] at k1 k2
  exact ⟨k1, k2⟩
theorem restP_bd {xs : List Int} (h : ∀ j : Nat, -1000 ≤ xs[j]?.getD 0 ∧ xs[j]?.getD 0 ≤ 1000) (h1 : 2 ≤ xs.length) (h2 : xs.length ≤ 24) (j : Nat) : -100000000000000000 ≤ (restP xs)[j]?.getD 0 ∧ (restP xs)[j]?.getD 0 ≤ 100000000000000000 := by
  obtain ⟨g, hg, r1, r2, r3, r4, r5⟩ := rest_low h1 h2
  by_cases hj : j < xs.length
  · have h3 := r3 j hj
    have h4 := (rsT_bd h h1 h2 j hj).2.2
    generalize (restP xs)[j]?.getD 0 = r at *
    generalize rsT xs j = s at *
    subst h3
    constructor
    · rcases Int.lt_or_le r 0 with h5 | h5
      · have := Int.mul_le_mul_of_nonpos_left (a := r) (b := g) (c := 1) (by omega) (by omega)
        omega
      · omega
    · rcases Int.lt_or_le 0 r with h5 | h5
      · have := Int.mul_le_mul_of_nonneg_left (a := 1) (b := g) (c := r) (by omega) (by omega)
        omega
      · omega
  · rw [List.getElem?_eq_none (by omega)]
    simp
theorem restD_bd {xs : List Int} (h : ∀ j : Nat, -1000 ≤ xs[j]?.getD 0 ∧ xs[j]?.getD 0 ≤ 1000) (h1 : 2 ≤ xs.length) (h2 : xs.length ≤ 24) : 1 ≤ restD xs ∧ restD xs ≤ 27600 := by
  obtain ⟨g, hg, r1, r2, r3, r4, r5⟩ := rest_low h1 h2
  obtain ⟨⟨a1, a2⟩, _⟩ := pr_nums h h1 h2
  have := Int.mul_le_mul_of_nonneg_left (a := 1) (b := g) (c := restD xs) (by omega) (by omega)
  omega
/-- A row of two fractions that is written out. -/
theorem RowQ.two {w : World} {B : Nat} (hB : B ≤ w.heap.size) {L : Nat} {p q : Rat} {s0 : Int} {a0 : Option Addr} {n0 c0 : Nat} {t0 : Int} {b0 : Option Addr} {m0 d0 : Nat} {s1 : Int} {a1 : Option Addr} {n1 c1 : Nat} {t1 : Int} {b1 : Option Addr} {m1 d1 : Nat}
    (h0 : RatV w s0 a0 n0 c0 t0 b0 m0 d0 p) (h1 : RatV w s1 a1 n1 c1 t1 b1 m1 d1 q) (e0 : n0 ≤ L) (e1 : m0 ≤ L) (e2 : n1 ≤ L) (e3 : m1 ≤ L) :
    RowQ (w.alloc (.cells #[.int .i64 s0, .slice a0 n0 c0, .int .i64 t0, .slice b0 m0 d0, .int .i64 s1, .slice a1 n1 c1, .int .i64 t1, .slice b1 m1 d1] 80)) B (some ⟨w.heap.size, 0, none⟩) 2 2 L [p, q] := by
  have hA : ∀ o, Below w.heap.size w (w.alloc o) := fun o => (Below.refl _ _).alloc (Nat.le_refl _) _
  refine ⟨[((s0, a0, n0, c0), (t0, b0, m0, d0)), ((s1, a1, n1, c1), (t1, b1, m1, d1))], ⟨by simp [rq, rq1], .inr ⟨w.heap.size, 2, _, rfl, hB, alloc_new _ _, by simp, by unfold maxLen; omega, by simp, by simp [rq, rq1]⟩⟩, rfl, fun k hk => ?_⟩
  have hk2 : k < 2 := hk
  rcases (by omega : k = 0 ∨ k = 1) with rfl | rfl
  · exact ⟨e0, e1, h0.keep (hA _)⟩
  · exact ⟨e2, e3, h1.keep (hA _)⟩
/-- A store of two cells into a block that is not an old one, and one of three. -/
theorem kept_st2 {W w : World} {r : Nat} {x y u0 u1 : Value} {t : TypeId} {G : Prop} (h : Below W.heap.size W w) (hr : W.heap.size ≤ r) (p : w.heap[r]? = some (.cells #[u0, u1] t))
    (k : Below W.heap.size W ((w.setCell ⟨r, 0, none⟩ x).setCell ⟨r, 1, none⟩ y) → (∀ b, b ≠ r → ((w.setCell ⟨r, 0, none⟩ x).setCell ⟨r, 1, none⟩ y).heap[b]? = w.heap[b]?) →
      ((w.setCell ⟨r, 0, none⟩ x).setCell ⟨r, 1, none⟩ y).heap[r]? = some (.cells #[x, y] t) → G) : Kept W ((w.setCell ⟨r, 0, none⟩ x).setCell ⟨r, 1, none⟩ y) ∧ G := by
  have h1 := (h.setCell (p := ⟨r, 0, none⟩) hr x).setCell (p := ⟨r, 1, none⟩) hr y
  refine ⟨kept_of h1, k h1 (fun b hb => ?_) ?_⟩
  · rw [Below.heap_setCell _ _ _ _ hb, Below.heap_setCell _ _ _ _ hb]
  · have := blkSet (blkSet p 0 x) 1 y
    simpa using this
theorem kept_st3 {W w : World} {r : Nat} {x y z u0 u1 u2 : Value} {t : TypeId} {G : Prop} (h : Below W.heap.size W w) (hr : W.heap.size ≤ r) (p : w.heap[r]? = some (.cells #[u0, u1, u2] t))
    (k : Below W.heap.size W (((w.setCell ⟨r, 0, none⟩ x).setCell ⟨r, 1, none⟩ y).setCell ⟨r, 2, none⟩ z) → (∀ b, b ≠ r → (((w.setCell ⟨r, 0, none⟩ x).setCell ⟨r, 1, none⟩ y).setCell ⟨r, 2, none⟩ z).heap[b]? = w.heap[b]?) →
      (((w.setCell ⟨r, 0, none⟩ x).setCell ⟨r, 1, none⟩ y).setCell ⟨r, 2, none⟩ z).heap[r]? = some (.cells #[x, y, z] t) → G) : Kept W (((w.setCell ⟨r, 0, none⟩ x).setCell ⟨r, 1, none⟩ y).setCell ⟨r, 2, none⟩ z) ∧ G := by
  have h1 := ((h.setCell (p := ⟨r, 0, none⟩) hr x).setCell (p := ⟨r, 1, none⟩) hr y).setCell (p := ⟨r, 2, none⟩) hr z
  refine ⟨kept_of h1, k h1 (fun b hb => ?_) ?_⟩
  · rw [Below.heap_setCell _ _ _ _ hb, Below.heap_setCell _ _ _ _ hb, Below.heap_setCell _ _ _ _ hb]
  · have := blkSet (blkSet (blkSet p 0 x) 1 y) 2 z
    simpa using this

theorem OwI.apart {w w' : World} {B r : Nat} {a : Option Addr} {n c : Nat} {xs : List Int} (h : OwI w B a n c xs) (ho : ∀ b, b ≠ r → w'.heap[b]? = w.heap[b]?) (hr : r < B) : OwI w' B a n c xs := by
  obtain ⟨h1, h2⟩ := h
  refine ⟨h1, ?_⟩
  rcases h2 with h2 | ⟨g, cap, cur, hv, hg, hh, r'⟩
  · exact .inl h2
  · exact .inr ⟨g, cap, cur, hv, hg, (ho g (by omega)).trans hh, r'⟩

set_option maxRecDepth 100000 in
set_option maxHeartbeats 8000000 in
theorem rRest_any (a : Option Addr) (n c : Nat) (xs : List Int) (w : World) (h1 : SI w a n c xs) (hn2 : 2 ≤ n) (hn : n ≤ 24) (hb : ∀ j : Nat, -1000 ≤ xs[j]?.getD 0 ∧ xs[j]?.getD 0 ≤ 1000) (D d v u : Int) (P : List Int) (hD : restD xs = D) (hP : restP xs = P) (hd : prDen xs = d) (hv : prVel xs = v) (hu : prDis xs = u) :
    Calls Tryz.prog 13 #[.slice a n c] w fun e w' => ∃ a' c', e = .returned (.tuple #[.agg #[.int .i64 D, .slice a' n c'], .agg #[.int .i64 d, .int .i64 v, .int .i64 u]]) ∧ SI w' a' n c' P ∧ Below w.heap.size w w' := by
  have hb2 : Below w.heap.size w ((w.alloc (.cells #[.int .i64 0, .slice none 0 0] 26)).alloc (.cells #[.int .i64 0, .int .i64 0, .int .i64 0] 28)) := ((Below.refl _ _).alloc (Nat.le_refl _) _).alloc (by simp) _
  have y1 := alloc_new (w.alloc (.cells #[.int .i64 0, .slice none 0 0] 26)) (.cells #[.int .i64 0, .int .i64 0, .int .i64 0] 28)
  have y0 := blk_keep (alloc_new w (.cells #[.int .i64 0, .slice none 0 0] 26)) ((Below.refl _ _).alloc (Nat.le_refl _) (.cells #[.int .i64 0, .int .i64 0, .int .i64 0] 28))
  simp only [World.size_alloc] at y1
  obtain ⟨l1, l2⟩ : n ≤ xs.length ∧ xs.length ≤ n := by have := h1.len; omega
  have HL := Lib.hid (show xs.length = n by omega)
  have hrc := rest_com (xs := xs) (by omega) (by omega)
  have hpc := prices_com (xs := xs) (by omega) (by omega)
  have hrb := restP_bd hb (by omega) (by omega)
  have hdb := restD_bd hb (by omega) (by omega)
  obtain ⟨p, hp⟩ : ∃ z, Rat.divInt (prV xs) (denR xs.length) = z := ⟨_, rfl⟩
  obtain ⟨q, hq⟩ : ∃ z, Rat.divInt (prD xs) (denR xs.length) = z := ⟨_, rfl⟩
  have hnb := pr_nums hb (by omega) (by omega)
  rw [hp, hq, hD, hP] at hrc
  rw [hp, hq, hd, hv, hu] at hpc
  rw [hP] at hrb
  rw [hD] at hdb
  rw [hd, hv, hu] at hnb
  have HRC := Lib.hid hrc
  have HPC := Lib.hid hpc
  have HRB := Lib.hid hrb
  have HB := Lib.hid hb
  have HP := Lib.hid hp
  have HQ := Lib.hid hq
  have HPL := Lib.hid (show P.length = n by rw [← hP]; unfold restP; rw [List.length_map, rsTo_len]; omega)
  clear hrc hpc hrb hb hD hP hd hv hu hp hq
  go_enter Tryz.func13, Tryz.ntmps13
  go_wp2_with fail
  generalize hW : ((w.alloc (.cells #[.int .i64 0, .slice none 0 0] 26)).alloc (.cells #[.int .i64 0, .int .i64 0, .int .i64 0] 28)) = W0 at hb2 y0 y1 ⊢
  clear hW
  refine (Prices_any a n c xs W0 (h1.keep hb2) hn2 hn HB.out p q HP.out HQ.out).mono ?_
  rintro e w1 ⟨ps, pa, pn, pc, ps', pa', pn', pc', qs, qa, qn, qc, qs', qa', qn', qc', rfl, pl1, pl2, ql1, ql2, pR, qR, hs⟩
  replace y0 := blk_keep y0 hs
  replace y1 := blk_keep y1 hs
  replace hb2 := hb2.trans (hs.mono hb2.size)
  have hl1 := blk_lt y1
  clear hs
  go_wp2_with fail
  have hA : ∀ (A : World) (o : Obj), Below A.heap.size A (A.alloc o) := fun A o => (Below.refl _ _).alloc (Nat.le_refl _) _
  have x3 := alloc_new (w1.alloc (.cells #[.int .i64 ps, .slice pa pn pc, .int .i64 ps', .slice pa' pn' pc'] 80)) (.cells #[.int .i64 qs, .slice qa qn qc, .int .i64 qs', .slice qa' qn' qc'] 80)
  have x2 := blk_keep (alloc_new w1 (.cells #[.int .i64 ps, .slice pa pn pc, .int .i64 ps', .slice pa' pn' pc'] 80)) (hA _ (.cells #[.int .i64 qs, .slice qa qn qc, .int .i64 qs', .slice qa' qn' qc'] 80))
  have hB := (hA w1 (.cells #[.int .i64 ps, .slice pa pn pc, .int .i64 ps', .slice pa' pn' pc'] 80)).trans ((hA (w1.alloc (.cells #[.int .i64 ps, .slice pa pn pc, .int .i64 ps', .slice pa' pn' pc'] 80)) (.cells #[.int .i64 qs, .slice qa qn qc, .int .i64 qs', .slice qa' qn' qc'] 80)).mono (by simp))
  simp only [World.size_alloc] at x3
  generalize hW : (w1.alloc (.cells #[.int .i64 ps, .slice pa pn pc, .int .i64 ps', .slice pa' pn' pc'] 80)).alloc (.cells #[.int .i64 qs, .slice qa qn qc, .int .i64 qs', .slice qa' qn' qc'] 80) = w2 at x3 x2 hB ⊢
  clear hW hA
  replace y0 := blk_keep y0 hB
  replace y1 := blk_keep y1 hB
  replace hb2 := hb2.trans (hB.mono hb2.size)
  replace pR := pR.keep hB
  replace qR := qR.keep hB
  obtain ⟨bp, hbp⟩ : ∃ v, w1.heap.size = v := ⟨_, rfl⟩
  rw [hbp] at x2 x3 hl1 ⊢
  clear hbp hB
  have hl2 := blk_lt x2
  have hl3 := blk_lt x3
  go_loopw [7, 6] (fun z l wr => ∃ (k c' : Nat) (a' : Option Addr), z = .int .i64 (k : Int) ∧ l = .slice a' k c' ∧ k ≤ n ∧ RowQ wr w2.heap.size a' k c' 400000 (rsQs xs p q k) ∧ Below w2.heap.size w2 wr) (fun z _ _ => n - (intOf z).toNat)
  case atStart => exact ⟨0, 0, none, rfl, rfl, by omega, RowQ.nil _ _ _, Below.refl _ _⟩
  case round =>
    obtain ⟨k, c', a', rfl, rfl, hk0, hrow, hbe⟩ := hrel
    by_cases hlt : k < n
    · have hk1 : (k : Int) < (n : Int) := by omega
      have hk2 : (0 : Int) ≤ (k : Int) := by omega
      have hsz := hbe.size
      obtain ⟨ba, oa, rfl, hca⟩ := (h1.keep (hb2.trans (hbe.mono hb2.size))).at_ (by omega)
      have ea := hca k hlt
      have hxb := HB.out k
      have hqt : rsQ xs p q k = ((xs[k]?.getD 0 : Int) : Rat) + (p + q * (((n : Int) - (k : Int) : Int) : Rat)) := by unfold rsQ; rw [HL.out]
      obtain ⟨x, hx⟩ : ∃ v, xs[k]?.getD 0 = v := ⟨_, rfl⟩
      rw [hx] at ea hxb hqt
      have HQT := Lib.hid hqt
      clear hca hx hqt
      have v0 := cell_block (blk_keep x2 hbe) 0
      have v1 := cell_block (blk_keep x2 hbe) 1
      have v2 := cell_block (blk_keep x2 hbe) 2
      have v3 := cell_block (blk_keep x2 hbe) 3
      have t0 := cell_block (blk_keep x3 hbe) 0
      have t1 := cell_block (blk_keep x3 hbe) 1
      have t2 := cell_block (blk_keep x3 hbe) 2
      have t3 := cell_block (blk_keep x3 hbe) 3
      have pW := pR.keep hbe
      have qW := qR.keep hbe
      go_wp2_with fail
      refine Calmly.wp_region_mix 17 (.fl 0 <| .fl 1 <| .fl 2 <| .fl 3 <| .fl 4 <| .fl 6 <| .fl 7 <| .fl 8 <| .fl 9 <| .fl 10 <| .fl 11 <| .eff 5 <| .eff 12 <| .eff 13 <| .eff 14 <| .eff 15 <| .eff 16 <| .tail [17, 18]) (by kernel_rfl) (by kernel_rfl) ?_
      replace ea := cell_keep ea (Below.refl _ _).drew
      replace v0 := cell_keep v0 (Below.refl _ _).drew
      replace v1 := cell_keep v1 (Below.refl _ _).drew
      replace v2 := cell_keep v2 (Below.refl _ _).drew
      replace v3 := cell_keep v3 (Below.refl _ _).drew
      replace t0 := cell_keep t0 (Below.refl _ _).drew
      replace t1 := cell_keep t1 (Below.refl _ _).drew
      replace t2 := cell_keep t2 (Below.refl _ _).drew
      replace t3 := cell_keep t3 (Below.refl _ _).drew
      replace pW := pW.keep (Below.refl _ _).drew
      replace qW := qW.keep (Below.refl _ _).drew
      replace hrow := hrow.drew
      replace hbe := hbe.drew
      have hsz2 : w2.heap.size ≤ wr.drew.heap.size := hsz
      clear hsz
      generalize wr.drew = V at *
      have hk := Below.refl V.heap.size V
      go_wp2_with (first | ((with_reducible refine Calmly.is_fl ?_); refine Calmly.mix_fl rfl ?_ (fun _ _ => ?_); (first | exact .move _ | exact .load _ _ | exact .fieldAddr _ _ _ (by kernel_rfl) | exact .assign _ | exact .binOp _ _ _ _ _ rfl | exact .indexAddr _ _ _ | exact .len _ _ (by kernel_rfl) | exact .field _ _ _ | exact .extract _ _ | exact .pick _ _ _ | exact .build _ _ | exact .slice _ _ _ _ _ | exact .unOp _ _ _ rfl | exact .index _ _ _ | exact .max _ _ _ rfl rfl | exact .min _ _ _ rfl rfl)) | ((with_reducible refine Calmly.is_gl ?_); refine Calmly.mix_gl rfl rfl rfl ?_; first | ((first | with_reducible refine Calmly.gl_tt ?_ (fun _ _ => ?_) | with_reducible refine Calmly.gl_ff ?_ (fun _ _ => ?_)); (first | exact .move _ | exact .load _ _ | exact .fieldAddr _ _ _ (by kernel_rfl) | exact .assign _ | exact .binOp _ _ _ _ _ rfl | exact .indexAddr _ _ _ | exact .len _ _ (by kernel_rfl) | exact .field _ _ _ | exact .extract _ _ | exact .pick _ _ _ | exact .build _ _ | exact .slice _ _ _ _ _ | exact .unOp _ _ _ rfl | exact .index _ _ _ | exact .max _ _ _ rfl rfl | exact .min _ _ _ rfl rfl)) | with_reducible refine Calmly.gl_tf (fun _ _ => ?_) | with_reducible refine Calmly.gl_ft (fun _ _ => ?_)) | ((with_reducible refine Calmly.is_eff ?_); refine Calmly.mix_eff rfl (fun _ _ => ?_)) | ((with_reducible refine Calmly.is_gf ?_); refine Calmly.mix_gf rfl rfl rfl ?_; first | with_reducible refine Calmly.gf_tt (fun _ _ => ?_) | with_reducible refine Calmly.gf_ff (fun _ _ => ?_) | with_reducible refine Calmly.gf_tf (kept_of hk) (fun _ _ => ?_) | with_reducible refine Calmly.gf_ft (kept_of hk) (fun _ _ => ?_)) | ((with_reducible refine Calmly.is_tail ?_); first | refine Calmly.mix_tail_nil ?_ | refine Calmly.mix_tail rfl (fun _ _ => ?_)) | ((with_reducible refine Calmly.is_kept ?_); refine ⟨kept_of hk, ?_⟩) | (with_reducible refine Calmly.mix_alt ?_ ?_))
      refine (RatioInt_any x V (by omega) (by omega)).mono ?_
      rintro e w3 ⟨⟨r1, r2, r3, r4, r5, r6, r7, r8, rfl, rh, rh', rR⟩, hs⟩
      replace hk := step_of hk hs
      replace pW := pW.keep hs
      replace qW := qW.keep hs
      replace hrow := hrow.keep hs
      replace hbe := hbe.trans (hs.mono hbe.size)
      clear hs
      go_wp2_with (first | ((with_reducible refine Calmly.is_fl ?_); refine Calmly.mix_fl rfl ?_ (fun _ _ => ?_); (first | exact .move _ | exact .load _ _ | exact .fieldAddr _ _ _ (by kernel_rfl) | exact .assign _ | exact .binOp _ _ _ _ _ rfl | exact .indexAddr _ _ _ | exact .len _ _ (by kernel_rfl) | exact .field _ _ _ | exact .extract _ _ | exact .pick _ _ _ | exact .build _ _ | exact .slice _ _ _ _ _ | exact .unOp _ _ _ rfl | exact .index _ _ _ | exact .max _ _ _ rfl rfl | exact .min _ _ _ rfl rfl)) | ((with_reducible refine Calmly.is_gl ?_); refine Calmly.mix_gl rfl rfl rfl ?_; first | ((first | with_reducible refine Calmly.gl_tt ?_ (fun _ _ => ?_) | with_reducible refine Calmly.gl_ff ?_ (fun _ _ => ?_)); (first | exact .move _ | exact .load _ _ | exact .fieldAddr _ _ _ (by kernel_rfl) | exact .assign _ | exact .binOp _ _ _ _ _ rfl | exact .indexAddr _ _ _ | exact .len _ _ (by kernel_rfl) | exact .field _ _ _ | exact .extract _ _ | exact .pick _ _ _ | exact .build _ _ | exact .slice _ _ _ _ _ | exact .unOp _ _ _ rfl | exact .index _ _ _ | exact .max _ _ _ rfl rfl | exact .min _ _ _ rfl rfl)) | with_reducible refine Calmly.gl_tf (fun _ _ => ?_) | with_reducible refine Calmly.gl_ft (fun _ _ => ?_)) | ((with_reducible refine Calmly.is_eff ?_); refine Calmly.mix_eff rfl (fun _ _ => ?_)) | ((with_reducible refine Calmly.is_gf ?_); refine Calmly.mix_gf rfl rfl rfl ?_; first | with_reducible refine Calmly.gf_tt (fun _ _ => ?_) | with_reducible refine Calmly.gf_ff (fun _ _ => ?_) | with_reducible refine Calmly.gf_tf (kept_of hk) (fun _ _ => ?_) | with_reducible refine Calmly.gf_ft (kept_of hk) (fun _ _ => ?_)) | ((with_reducible refine Calmly.is_tail ?_); first | refine Calmly.mix_tail_nil ?_ | refine Calmly.mix_tail rfl (fun _ _ => ?_)) | ((with_reducible refine Calmly.is_kept ?_); refine ⟨kept_of hk, ?_⟩) | (with_reducible refine Calmly.mix_alt ?_ ?_))
      refine (RatioInt_any ((n : Int) - (k : Int)) w3 (by omega) (by omega)).mono ?_
      rintro e w4 ⟨⟨s1, s2, s3, s4, s5, s6, s7, s8, rfl, sh, sh', sR⟩, hs⟩
      replace hk := step_of hk hs
      replace pW := pW.keep hs
      replace qW := qW.keep hs
      replace rR := rR.keep hs
      replace hrow := hrow.keep hs
      replace hbe := hbe.trans (hs.mono hbe.size)
      clear hs
      go_wp2_with (first | ((with_reducible refine Calmly.is_fl ?_); refine Calmly.mix_fl rfl ?_ (fun _ _ => ?_); (first | exact .move _ | exact .load _ _ | exact .fieldAddr _ _ _ (by kernel_rfl) | exact .assign _ | exact .binOp _ _ _ _ _ rfl | exact .indexAddr _ _ _ | exact .len _ _ (by kernel_rfl) | exact .field _ _ _ | exact .extract _ _ | exact .pick _ _ _ | exact .build _ _ | exact .slice _ _ _ _ _ | exact .unOp _ _ _ rfl | exact .index _ _ _ | exact .max _ _ _ rfl rfl | exact .min _ _ _ rfl rfl)) | ((with_reducible refine Calmly.is_gl ?_); refine Calmly.mix_gl rfl rfl rfl ?_; first | ((first | with_reducible refine Calmly.gl_tt ?_ (fun _ _ => ?_) | with_reducible refine Calmly.gl_ff ?_ (fun _ _ => ?_)); (first | exact .move _ | exact .load _ _ | exact .fieldAddr _ _ _ (by kernel_rfl) | exact .assign _ | exact .binOp _ _ _ _ _ rfl | exact .indexAddr _ _ _ | exact .len _ _ (by kernel_rfl) | exact .field _ _ _ | exact .extract _ _ | exact .pick _ _ _ | exact .build _ _ | exact .slice _ _ _ _ _ | exact .unOp _ _ _ rfl | exact .index _ _ _ | exact .max _ _ _ rfl rfl | exact .min _ _ _ rfl rfl)) | with_reducible refine Calmly.gl_tf (fun _ _ => ?_) | with_reducible refine Calmly.gl_ft (fun _ _ => ?_)) | ((with_reducible refine Calmly.is_eff ?_); refine Calmly.mix_eff rfl (fun _ _ => ?_)) | ((with_reducible refine Calmly.is_gf ?_); refine Calmly.mix_gf rfl rfl rfl ?_; first | with_reducible refine Calmly.gf_tt (fun _ _ => ?_) | with_reducible refine Calmly.gf_ff (fun _ _ => ?_) | with_reducible refine Calmly.gf_tf (kept_of hk) (fun _ _ => ?_) | with_reducible refine Calmly.gf_ft (kept_of hk) (fun _ _ => ?_)) | ((with_reducible refine Calmly.is_tail ?_); first | refine Calmly.mix_tail_nil ?_ | refine Calmly.mix_tail rfl (fun _ _ => ?_)) | ((with_reducible refine Calmly.is_kept ?_); refine ⟨kept_of hk, ?_⟩) | (with_reducible refine Calmly.mix_alt ?_ ?_))
      refine (RatioMul_any _ _ _ _ _ _ _ _ _ _ _ _ _ _ _ _ 40000 _ _ w4 qW sR ql1 ql2 (by omega) (by omega) (by omega)).mono ?_
      rintro e w5 ⟨⟨m1, m2, m3, m4, m5, m6, m7, m8, rfl, mh, mh', mR⟩, hs⟩
      replace hk := step_of hk hs
      replace pW := pW.keep hs
      replace rR := rR.keep hs
      replace hrow := hrow.keep hs
      replace hbe := hbe.trans (hs.mono hbe.size)
      clear hs
      go_wp2_with (first | ((with_reducible refine Calmly.is_fl ?_); refine Calmly.mix_fl rfl ?_ (fun _ _ => ?_); (first | exact .move _ | exact .load _ _ | exact .fieldAddr _ _ _ (by kernel_rfl) | exact .assign _ | exact .binOp _ _ _ _ _ rfl | exact .indexAddr _ _ _ | exact .len _ _ (by kernel_rfl) | exact .field _ _ _ | exact .extract _ _ | exact .pick _ _ _ | exact .build _ _ | exact .slice _ _ _ _ _ | exact .unOp _ _ _ rfl | exact .index _ _ _ | exact .max _ _ _ rfl rfl | exact .min _ _ _ rfl rfl)) | ((with_reducible refine Calmly.is_gl ?_); refine Calmly.mix_gl rfl rfl rfl ?_; first | ((first | with_reducible refine Calmly.gl_tt ?_ (fun _ _ => ?_) | with_reducible refine Calmly.gl_ff ?_ (fun _ _ => ?_)); (first | exact .move _ | exact .load _ _ | exact .fieldAddr _ _ _ (by kernel_rfl) | exact .assign _ | exact .binOp _ _ _ _ _ rfl | exact .indexAddr _ _ _ | exact .len _ _ (by kernel_rfl) | exact .field _ _ _ | exact .extract _ _ | exact .pick _ _ _ | exact .build _ _ | exact .slice _ _ _ _ _ | exact .unOp _ _ _ rfl | exact .index _ _ _ | exact .max _ _ _ rfl rfl | exact .min _ _ _ rfl rfl)) | with_reducible refine Calmly.gl_tf (fun _ _ => ?_) | with_reducible refine Calmly.gl_ft (fun _ _ => ?_)) | ((with_reducible refine Calmly.is_eff ?_); refine Calmly.mix_eff rfl (fun _ _ => ?_)) | ((with_reducible refine Calmly.is_gf ?_); refine Calmly.mix_gf rfl rfl rfl ?_; first | with_reducible refine Calmly.gf_tt (fun _ _ => ?_) | with_reducible refine Calmly.gf_ff (fun _ _ => ?_) | with_reducible refine Calmly.gf_tf (kept_of hk) (fun _ _ => ?_) | with_reducible refine Calmly.gf_ft (kept_of hk) (fun _ _ => ?_)) | ((with_reducible refine Calmly.is_tail ?_); first | refine Calmly.mix_tail_nil ?_ | refine Calmly.mix_tail rfl (fun _ _ => ?_)) | ((with_reducible refine Calmly.is_kept ?_); refine ⟨kept_of hk, ?_⟩) | (with_reducible refine Calmly.mix_alt ?_ ?_))
      refine (RatioAdd_any _ _ _ _ _ _ _ _ _ _ _ _ _ _ _ _ 80006 _ _ w5 pW mR (by omega) (by omega) (by omega) (by omega) (by omega)).mono ?_
      rintro e w6 ⟨⟨a1, a2, a3, a4, a5, a6, a7, a8, rfl, ah, ah', aR⟩, hs⟩
      replace hk := step_of hk hs
      replace rR := rR.keep hs
      replace hrow := hrow.keep hs
      replace hbe := hbe.trans (hs.mono hbe.size)
      clear hs
      go_wp2_with (first | ((with_reducible refine Calmly.is_fl ?_); refine Calmly.mix_fl rfl ?_ (fun _ _ => ?_); (first | exact .move _ | exact .load _ _ | exact .fieldAddr _ _ _ (by kernel_rfl) | exact .assign _ | exact .binOp _ _ _ _ _ rfl | exact .indexAddr _ _ _ | exact .len _ _ (by kernel_rfl) | exact .field _ _ _ | exact .extract _ _ | exact .pick _ _ _ | exact .build _ _ | exact .slice _ _ _ _ _ | exact .unOp _ _ _ rfl | exact .index _ _ _ | exact .max _ _ _ rfl rfl | exact .min _ _ _ rfl rfl)) | ((with_reducible refine Calmly.is_gl ?_); refine Calmly.mix_gl rfl rfl rfl ?_; first | ((first | with_reducible refine Calmly.gl_tt ?_ (fun _ _ => ?_) | with_reducible refine Calmly.gl_ff ?_ (fun _ _ => ?_)); (first | exact .move _ | exact .load _ _ | exact .fieldAddr _ _ _ (by kernel_rfl) | exact .assign _ | exact .binOp _ _ _ _ _ rfl | exact .indexAddr _ _ _ | exact .len _ _ (by kernel_rfl) | exact .field _ _ _ | exact .extract _ _ | exact .pick _ _ _ | exact .build _ _ | exact .slice _ _ _ _ _ | exact .unOp _ _ _ rfl | exact .index _ _ _ | exact .max _ _ _ rfl rfl | exact .min _ _ _ rfl rfl)) | with_reducible refine Calmly.gl_tf (fun _ _ => ?_) | with_reducible refine Calmly.gl_ft (fun _ _ => ?_)) | ((with_reducible refine Calmly.is_eff ?_); refine Calmly.mix_eff rfl (fun _ _ => ?_)) | ((with_reducible refine Calmly.is_gf ?_); refine Calmly.mix_gf rfl rfl rfl ?_; first | with_reducible refine Calmly.gf_tt (fun _ _ => ?_) | with_reducible refine Calmly.gf_ff (fun _ _ => ?_) | with_reducible refine Calmly.gf_tf (kept_of hk) (fun _ _ => ?_) | with_reducible refine Calmly.gf_ft (kept_of hk) (fun _ _ => ?_)) | ((with_reducible refine Calmly.is_tail ?_); first | refine Calmly.mix_tail_nil ?_ | refine Calmly.mix_tail rfl (fun _ _ => ?_)) | ((with_reducible refine Calmly.is_kept ?_); refine ⟨kept_of hk, ?_⟩) | (with_reducible refine Calmly.mix_alt ?_ ?_))
      refine (RatioAdd_any _ _ _ _ _ _ _ _ _ _ _ _ _ _ _ _ 160018 _ _ w6 rR aR (by omega) (by omega) (by omega) (by omega) (by omega)).mono ?_
      rintro e w7 ⟨⟨e1, e2, e3, e4, e5, e6, e7, e8, rfl, eh, eh', eR⟩, hs⟩
      rw [← HQT.out] at eR
      replace hk := step_of hk hs
      replace hrow := hrow.keep hs
      replace hbe := hbe.trans (hs.mono hbe.size)
      have hsz3 : w2.heap.size ≤ w7.heap.size := hbe.size
      have he1 : e3 ≤ 400000 := by omega
      have he2 : e7 ≤ 400000 := by omega
      clear hs v0 v1 v2 v3 t0 t1 t2 t3 aR rR mR ea eh eh'
      go_wp2_with (first | ((with_reducible refine Calmly.is_tail ?_); refine Calmly.mix_tail_app rfl (fun rest hrest => ?_); refine appQ w7 rfl rfl _ _ rfl hrow eR he1 he2 rfl rfl (by omega) hsz3 ?_; intro a9 c9 w9 hrow9 hb9 hlt9; refine hrest _ _ ?_) | ((with_reducible refine Calmly.is_fl ?_); refine Calmly.mix_fl rfl ?_ (fun _ _ => ?_); (first | exact .move _ | exact .load _ _ | exact .fieldAddr _ _ _ (by kernel_rfl) | exact .assign _ | exact .binOp _ _ _ _ _ rfl | exact .indexAddr _ _ _ | exact .len _ _ (by kernel_rfl) | exact .field _ _ _ | exact .extract _ _ | exact .pick _ _ _ | exact .build _ _ | exact .slice _ _ _ _ _ | exact .unOp _ _ _ rfl | exact .index _ _ _ | exact .max _ _ _ rfl rfl | exact .min _ _ _ rfl rfl)) | ((with_reducible refine Calmly.is_gl ?_); refine Calmly.mix_gl rfl rfl rfl ?_; first | ((first | with_reducible refine Calmly.gl_tt ?_ (fun _ _ => ?_) | with_reducible refine Calmly.gl_ff ?_ (fun _ _ => ?_)); (first | exact .move _ | exact .load _ _ | exact .fieldAddr _ _ _ (by kernel_rfl) | exact .assign _ | exact .binOp _ _ _ _ _ rfl | exact .indexAddr _ _ _ | exact .len _ _ (by kernel_rfl) | exact .field _ _ _ | exact .extract _ _ | exact .pick _ _ _ | exact .build _ _ | exact .slice _ _ _ _ _ | exact .unOp _ _ _ rfl | exact .index _ _ _ | exact .max _ _ _ rfl rfl | exact .min _ _ _ rfl rfl)) | with_reducible refine Calmly.gl_tf (fun _ _ => ?_) | with_reducible refine Calmly.gl_ft (fun _ _ => ?_)) | ((with_reducible refine Calmly.is_eff ?_); refine Calmly.mix_eff rfl (fun _ _ => ?_)) | ((with_reducible refine Calmly.is_gf ?_); refine Calmly.mix_gf rfl rfl rfl ?_; first | with_reducible refine Calmly.gf_tt (fun _ _ => ?_) | with_reducible refine Calmly.gf_ff (fun _ _ => ?_) | with_reducible refine Calmly.gf_tf (kept_of hk) (fun _ _ => ?_) | with_reducible refine Calmly.gf_ft (kept_of hk) (fun _ _ => ?_)) | ((with_reducible refine Calmly.is_tail ?_); first | refine Calmly.mix_tail_nil ?_ | refine Calmly.mix_tail rfl (fun _ _ => ?_)) | ((with_reducible refine Calmly.is_kept ?_); refine ⟨kept_of hk, ?_⟩) | (with_reducible refine Calmly.mix_alt ?_ ?_) | (refine kept_alloc hk (fun hk' hblk hge => ?_); replace hk := hk'; clear hk'))
      go_roundw
      case rel =>
        refine ⟨k + 1, c9, a9, by go_num, rfl, by omega, ?_, hbe.trans hb9⟩
        rw [rsQs_succ]
        exact hrow9
      case measure => simp [intOf]; omega
    · obtain rfl : k = n := by omega
      have hq1 : rsQs xs p q k = rsQs xs p q xs.length := by rw [HL.out]
      rw [hq1] at hrow
      clear hq1 hlt
      have hszr := hbe.size
      go_wp2_with fail
      refine (rCommon_any _ _ _ 400000 _ _ _ hrow hn (by omega) (by omega) D HRC.out.1 (by omega) P HRC.out.2 HRB.out).mono ?_
      rintro e w3 ⟨a3, c3, B3, rfl, o3, hB3, hs⟩
      replace hbe := hbe.trans (hs.mono hbe.size)
      have hB3' : w.heap.size + 1 < B3 := by omega
      clear hs hrow hB3 hszr
      replace y0 := blk_keep y0 hbe
      replace y1 := blk_keep y1 hbe
      replace x2 := blk_keep x2 hbe
      replace x3 := blk_keep x3 hbe
      replace pR := pR.keep hbe
      replace qR := qR.keep hbe
      replace hb2 := hb2.trans (hbe.mono hb2.size)
      clear hbe
      have v0 := cell_block x2 0
      have v1 := cell_block x2 1
      have v2 := cell_block x2 2
      have v3 := cell_block x2 3
      have t0 := cell_block x3 0
      have t1 := cell_block x3 1
      have t2 := cell_block x3 2
      have t3 := cell_block x3 3
      have R2 := RowQ.two (B := w3.heap.size) (Nat.le_refl _) pR qR pl1 pl2 ql1 ql2
      go_wp2_with fail
      refine (rCommon_any _ _ _ 40000 _ _ _ R2 (by omega) (by omega) (by omega) d HPC.out.1 (by omega) [v, u] HPC.out.2 (fun j => by
        rcases (by omega : j = 0 ∨ j = 1 ∨ 2 ≤ j) with rfl | rfl | hj
        · simp; omega
        · simp; omega
        · rw [List.getElem?_eq_none (by simpa using hj)]; simp)).mono ?_
      rintro e w5 ⟨a5, c5, B5, rfl, o5, hB5, hs⟩
      have hal := (Below.refl w3.heap.size w3).alloc (Nat.le_refl _) (.cells #[.int .i64 ps, .slice pa pn pc, .int .i64 ps', .slice pa' pn' pc', .int .i64 qs, .slice qa qn qc, .int .i64 qs', .slice qa' qn' qc'] 80)
      have hs2 := hal.trans (hs.mono (by simp))
      replace y0 := blk_keep y0 hs2
      replace y1 := blk_keep y1 hs2
      replace o3 := o3.keep hs2
      replace hb2 := hb2.trans (hs2.mono hb2.size)
      obtain ⟨g5, rfl, hg5, hg5'⟩ := o5.at_ (by omega)
      have k0 := o5.cell 0 (by omega)
      have k1 := o5.cell 1 (by omega)
      simp only [List.getElem?_cons_zero, List.getElem?_cons_succ, Option.getD_some] at k0 k1
      have hgl : w.heap.size + 1 < g5 := by
        have : w3.heap.size + 1 ≤ B5 := by simpa using hB5
        have := blk_lt x2
        omega
      clear hs hal hs2 o5 R2 pR qR x2 x3 v0 v1 v2 v3 t0 t1 t2 t3
      go_wp2_with fail
      refine Calmly.wp_region_mix_at w (kept_of hb2) 12 (.fl 0 <| .fl 1 <| .fl 2 <| .fl 3 <| .fl 4 <| .fl 5 <| .fl 7 <| .fl 8 <| .alt 6 (.alt 9 (.fl 10 <| .eff 11 <| .tail [12]) (.eff 11 (.eff 9 <| .fl 10 <| .tail [12]))) (.alt 9 (.alt 6 (.fl 10 <| .eff 11 <| .tail [12]) (.eff 11 (.eff 6 <| .fl 10 <| .tail [12]))) (.eff 11 (.alt 6 (.eff 9 <| .fl 10 <| .tail [12]) (.eff 9 (.eff 6 <| .fl 10 <| .tail [12])))))) (by kernel_rfl) (by kernel_rfl) ?_
      replace y0 := blk_keep y0 (Below.refl _ _).drew
      replace y1 := blk_keep y1 (Below.refl _ _).drew
      replace k0 := cell_keep k0 (Below.refl _ _).drew
      replace k1 := cell_keep k1 (Below.refl _ _).drew
      replace o3 := o3.keep (Below.refl _ _).drew
      have hk := hb2.drew
      clear hb2
      generalize w5.drew = X at *
      have z0 := cell_block y0 0
      have z1 := cell_block y0 1
      have z4 := frozen_block y0 0
      have z5 := frozen_block y0 1
      have hgr : g5 ≠ w.heap.size := by omega
      go_wp2_with (first | ((with_reducible refine Calmly.is_fl ?_); refine Calmly.mix_fl rfl ?_ (fun _ _ => ?_); (first | exact .move _ | exact .load _ _ | exact .fieldAddr _ _ _ (by kernel_rfl) | exact .assign _ | exact .binOp _ _ _ _ _ rfl | exact .indexAddr _ _ _ | exact .len _ _ (by kernel_rfl) | exact .field _ _ _ | exact .extract _ _ | exact .pick _ _ _ | exact .build _ _ | exact .slice _ _ _ _ _ | exact .unOp _ _ _ rfl | exact .index _ _ _ | exact .max _ _ _ rfl rfl | exact .min _ _ _ rfl rfl)) | ((with_reducible refine Calmly.is_gl ?_); refine Calmly.mix_gl rfl rfl rfl ?_; first | ((first | with_reducible refine Calmly.gl_tt ?_ (fun _ _ => ?_) | with_reducible refine Calmly.gl_ff ?_ (fun _ _ => ?_)); (first | exact .move _ | exact .load _ _ | exact .fieldAddr _ _ _ (by kernel_rfl) | exact .assign _ | exact .binOp _ _ _ _ _ rfl | exact .indexAddr _ _ _ | exact .len _ _ (by kernel_rfl) | exact .field _ _ _ | exact .extract _ _ | exact .pick _ _ _ | exact .build _ _ | exact .slice _ _ _ _ _ | exact .unOp _ _ _ rfl | exact .index _ _ _ | exact .max _ _ _ rfl rfl | exact .min _ _ _ rfl rfl)) | with_reducible refine Calmly.gl_tf (fun _ _ => ?_) | with_reducible refine Calmly.gl_ft (fun _ _ => ?_)) | ((with_reducible refine Calmly.is_eff ?_); refine Calmly.mix_eff rfl (fun _ _ => ?_)) | ((with_reducible refine Calmly.is_gf ?_); refine Calmly.mix_gf rfl rfl rfl ?_; first | with_reducible refine Calmly.gf_tt (fun _ _ => ?_) | with_reducible refine Calmly.gf_ff (fun _ _ => ?_) | with_reducible refine Calmly.gf_tf (kept_of hk) (fun _ _ => ?_) | with_reducible refine Calmly.gf_ft (kept_of hk) (fun _ _ => ?_)) | ((with_reducible refine Calmly.is_tail ?_); first | refine Calmly.mix_tail_nil ?_ | refine Calmly.mix_tail rfl (fun _ _ => ?_)) | ((with_reducible refine Calmly.is_kept ?_); refine ⟨kept_of hk, ?_⟩) | (with_reducible refine Calmly.mix_alt ?_ ?_) | (refine kept_st2 hk (Nat.le_refl _) y0 (fun hk' ho hn0 => ?_); generalize World.setCell (World.setCell X _ _) _ _ = X2 at *; replace hk := hk'; clear hk'; replace k0 := (cell_same (ho g5 hgr) _).trans k0; replace k1 := (cell_same (ho g5 hgr) _).trans k1; replace y1 := (ho (w.heap.size + 1) (by omega)).trans y1; replace o3 := o3.apart ho (by omega); clear z0 z1 z4 z5 ho; have z0 := cell_block y1 0; have z1 := cell_block y1 1; have z2 := cell_block y1 2; have z3 := frozen_block y1 0; have z4 := frozen_block y1 1; have z5 := frozen_block y1 2))
      all_goals
        obtain ⟨_, h3⟩ := kept_st3 (G := _ ∧ _ ∧ _) (x := .int .i64 d) (y := .int .i64 v) (z := .int .i64 u) hk (show w.heap.size ≤ w.heap.size + 1 by omega) y1 (fun h1 h2 h3 => ⟨h1, h2, h3⟩)
        generalize World.setCell (World.setCell (World.setCell X2 _ _) _ _) _ _ = X3 at *
        obtain ⟨hk3, ho3, hn1⟩ := h3
        have q0 := (ho3 w.heap.size (by omega)).trans hn0
        replace o3 := o3.apart ho3 (by omega)
        have e0 := cell_block q0 0
        have e1 := cell_block q0 1
        have e4 := cell_block hn1 0
        have e5 := cell_block hn1 1
        have e6 := cell_block hn1 2
        refine bodyPost_ret (v := .tuple #[.agg #[.int .i64 D, .slice a3 k c3], .agg #[.int .i64 d, .int .i64 v, .int .i64 u]]) (by simp [results, Tryz.results13, go_sem, e0, e1, e4, e5, e6]) rfl ⟨a3, c3, rfl, o3.si, hk3⟩
end Go.Proofs.YtfjcfbmfpefabaaGreat

namespace Go.Proofs.YtfjcfbmfpefabaaGreat
open Go.RowKit
open Calmly (Kept)

set_option maxHeartbeats 400000 in
theorem nSize_wild (p : Int) (w : World) (h0 : p ≠ 0) (h1 : -9223372036854775808 ≤ p) (h2 : p ≤ 9223372036854775807) :
    Calls Tryz.prog 63 #[.int .i64 p] w fun e w' => ∃ r : Int, e = .returned (.int .i64 r) ∧ r ≠ 0 ∧ r ≠ -1 ∧ -9223372036854775808 ≤ r ∧ r ≤ 9223372036854775807 ∧ w = w' := by
  by_cases hm : p = -9223372036854775808
  · subst hm
    have hw : wrap64 9223372036854775808 = -9223372036854775808 := by first | rfl | (unfold wrap64; decide) | (simp [wrap64])
    go_enter Tryz.func63, Tryz.ntmps63
    go_wp2
    go_ret
    exact ⟨-9223372036854775808, by first | rfl | (apply ret_int; rfl), by decide, by decide, by decide, by decide, rfl⟩
  · refine (nSize_any p w (by omega) h2).mono ?_
    rintro e w' ⟨rfl, rfl⟩
    exact ⟨_, rfl, by omega, by omega, by omega, by omega, rfl⟩

set_option maxRecDepth 100000 in
set_option maxHeartbeats 1000000 in
theorem nDivisor_wild (a : Option Addr) (c : Nat) (x y z : Int) (w : World) (hs : SI w a 3 c [x, y, z]) (h0 : x ≠ 0) (hb : ∀ t ∈ [x, y, z], -9223372036854775808 ≤ t ∧ t ≤ 9223372036854775807) :
    Calls Tryz.prog 32 #[.slice a 3 c] w fun e w' => ∃ r : Int, e = .returned (.int .i64 r) ∧ r ≠ 0 ∧ r ≠ -1 ∧ -9223372036854775808 ≤ r ∧ r ≤ 9223372036854775807 ∧ ∃ n, w' = w.drewN n := by
  have m1 := hs.max
  have c1 := hs.cap
  obtain ⟨b1, o1, rfl, hc1⟩ := hs.at_ (by omega)
  go_enter Tryz.func32, Tryz.ntmps32
  go_wp2
  go_loopw [3, 8] (fun g i wr => ∃ (k : Nat) (p : Int), k ≤ 3 ∧ i = .int .i64 k ∧ g = .int .i64 p ∧ (0 < k → p ≠ 0) ∧ -9223372036854775808 ≤ p ∧ p ≤ 9223372036854775807 ∧ ∃ n, wr = w.drewN n) (fun _ i _ => 3 - (intOf i).toNat)
  case atStart => exact ⟨0, 0, by omega, rfl, rfl, by omega, by omega, by omega, 0, rfl⟩
  case round =>
    obtain ⟨k, p, hk, rfl, rfl, hp0, hp1, hp2, q, rfl⟩ := hrel
    by_cases hlt : k < 3
    · have e1 := hc1 k hlt
      obtain ⟨v0, hv⟩ : ∃ v, [x, y, z][k]?.getD 0 = v := ⟨_, rfl⟩
      have hv0 : k = 0 → v0 ≠ 0 := by
        rintro rfl
        rw [← hv]
        exact h0
      have hvb : -9223372036854775808 ≤ v0 ∧ v0 ≤ 9223372036854775807 := by
        rw [← hv]
        refine hb _ ?_
        have : k < [x, y, z].length := hlt
        rw [List.getElem?_eq_getElem this]
        exact List.getElem_mem this
      rw [hv] at e1
      obtain ⟨hv1, hv2⟩ := hvb
      have hi : (k : Int) < 3 := by omega
      have hi0 : (0 : Int) ≤ (k : Int) := by omega
      have hne : ¬ (p = 0 ∧ v0 = 0) := by
        rintro ⟨h1, h2⟩
        rcases Nat.eq_zero_or_pos k with hk0 | hk0
        · exact hv0 hk0 h2
        · exact hp0 hk0 h1
      have HNE := Lib.hid hne
      clear hv hv0 hp0 hne hc1
      go_wp2_with fail
      go_loopw [3, 5] (fun g y wr => ∃ (u v : Int), g = .int .i64 u ∧ y = .int .i64 v ∧ ¬ (u = 0 ∧ v = 0) ∧ -9223372036854775808 ≤ u ∧ u ≤ 9223372036854775807 ∧ -9223372036854775808 ≤ v ∧ v ≤ 9223372036854775807 ∧ ∃ n, wr = w.drewN n) (fun _ y _ => (intOf y).natAbs)
      case atStart => exact ⟨p, v0, rfl, rfl, HNE.out, hp1, hp2, hv1, hv2, q, rfl⟩
      case round =>
        obtain ⟨u, v, rfl, rfl, huv, hu1, hu2, hv1', hv2', q', rfl⟩ := hrel
        have HUV := Lib.hid huv
        clear huv
        by_cases hz : v = 0
        · have hu0 : u ≠ 0 := fun h => HUV.out ⟨h, hz⟩
          have HU0 := Lib.hid hu0
          subst hz
          clear hu0
          go_wp2_with fail
          go_round
          case rel => exact ⟨k + 1, u, by omega, by go_num, rfl, fun _ => HU0.out, hu1, hu2, q', rfl⟩
          case measure => simp [intOf]; omega
        · have hb' : (v != 0) = true := by simpa using hz
          have h2 := tmod_lt (a := u) hz
          have h1 : -9223372036854775807 ≤ u.tmod v ∧ u.tmod v ≤ 9223372036854775807 := by omega
          obtain ⟨h11, h12⟩ := h1
          have hc : (v == 0) = false := by simpa using hz
          have HZ := Lib.hid hz
          clear hz
          go_wp2_with fail
          refine Calmly.wp_region_mix 5 (.fl 0 <| .fl 1 <| .fl 2 <| .fl 3 <| .fl 4 <| .tail [5]) (by kernel_rfl) (by kernel_rfl) ?_
          go_wp2_with (first | ((with_reducible refine Calmly.is_fl ?_); refine Calmly.mix_fl rfl ?_ (fun _ _ => ?_); (first | exact .move _ | exact .load _ _ | exact .fieldAddr _ _ _ (by kernel_rfl) | exact .assign _ | exact .binOp _ _ _ _ _ rfl | exact .indexAddr _ _ _ | exact .len _ _ (by kernel_rfl) | exact .field _ _ _ | exact .extract _ _ | exact .pick _ _ _ | exact .build _ _ | exact .slice _ _ _ _ _ | exact .unOp _ _ _ rfl | exact .index _ _ _ | exact .max _ _ _ rfl rfl | exact .min _ _ _ rfl rfl)) | ((with_reducible refine Calmly.is_gl ?_); refine Calmly.mix_gl rfl rfl rfl ?_; first | ((first | with_reducible refine Calmly.gl_tt ?_ (fun _ _ => ?_) | with_reducible refine Calmly.gl_ff ?_ (fun _ _ => ?_)); (first | exact .move _ | exact .load _ _ | exact .fieldAddr _ _ _ (by kernel_rfl) | exact .assign _ | exact .binOp _ _ _ _ _ rfl | exact .indexAddr _ _ _ | exact .len _ _ (by kernel_rfl) | exact .field _ _ _ | exact .extract _ _ | exact .pick _ _ _ | exact .build _ _ | exact .slice _ _ _ _ _ | exact .unOp _ _ _ rfl | exact .index _ _ _ | exact .max _ _ _ rfl rfl | exact .min _ _ _ rfl rfl)) | with_reducible refine Calmly.gl_tf (fun _ _ => ?_) | with_reducible refine Calmly.gl_ft (fun _ _ => ?_)) | ((with_reducible refine Calmly.is_eff ?_); refine Calmly.mix_eff rfl (fun _ _ => ?_)) | ((with_reducible refine Calmly.is_gf ?_); refine Calmly.mix_gf rfl rfl rfl ?_; first | with_reducible refine Calmly.gf_tt (fun _ _ => ?_) | with_reducible refine Calmly.gf_ff (fun _ _ => ?_) | with_reducible refine Calmly.gf_tf (kept_of hk) (fun _ _ => ?_) | with_reducible refine Calmly.gf_ft (kept_of hk) (fun _ _ => ?_)) | ((with_reducible refine Calmly.is_tail ?_); first | refine Calmly.mix_tail_nil ?_ | refine Calmly.mix_tail rfl (fun _ _ => ?_)) | ((with_reducible refine Calmly.is_kept ?_); refine ⟨kept_of hk, ?_⟩) | (with_reducible refine Calmly.mix_alt ?_ ?_))
          go_roundw
          case rel => exact ⟨v, u.tmod v, rfl, rfl, fun h => HZ.out h.1, hv1', hv2', by omega, by omega, q' + 1, rfl⟩
          case measure => simpa [intOf] using h2
    · obtain rfl : k = 3 := by omega
      have hp := hp0 (by omega)
      go_wp2_with fail
      refine (nSize_wild p _ hp hp1 hp2).mono ?_
      rintro e w1 ⟨r, rfl, r1, r2, r3, r4, rfl⟩
      go_wp2_with fail
      go_ret
      exact ⟨r, rfl, r1, r2, r3, r4, q, rfl⟩

theorem tdiv_wild {x g : Int} (h1 : -9223372036854775808 ≤ x) (h2 : x ≤ 9223372036854775807) (hg : g ≠ 0) (hg1 : g ≠ -1) : -9223372036854775808 ≤ x.tdiv g ∧ x.tdiv g ≤ 9223372036854775807 := by
  have h3 : (x.tdiv g).natAbs = x.natAbs / g.natAbs := Int.natAbs_tdiv x g
  by_cases h : g = 1
  · subst h
    rw [Int.tdiv_one]
    exact ⟨h1, h2⟩
  · have h4 : x.natAbs / g.natAbs ≤ x.natAbs / 2 := Nat.div_le_div_left (by omega) (by omega)
    omega

set_option maxRecDepth 100000 in
set_option maxHeartbeats 1000000 in
theorem lowestP_wild (d v u : Int) (w : World) (h0 : d ≠ 0) (hd1 : -9223372036854775808 ≤ d) (hd2 : d ≤ 9223372036854775807) (hv1 : -9223372036854775808 ≤ v) (hv2 : v ≤ 9223372036854775807) (hu1 : -9223372036854775808 ≤ u) (hu2 : u ≤ 9223372036854775807) :
    Calls Tryz.prog 33 #[.agg #[.int .i64 d, .int .i64 v, .int .i64 u]] w fun e w' => (∃ D V U : Int, e = .returned (.agg #[.int .i64 D, .int .i64 V, .int .i64 U])) ∧ Below w.heap.size w w' := by
  have hb2 : Below w.heap.size w ((w.alloc (.cells #[.int .i64 d, .int .i64 v, .int .i64 u] 28)).alloc (.cells #[.int .i64 0, .int .i64 0, .int .i64 0] 28)) := ((Below.refl _ _).alloc (Nat.le_refl _) _).alloc (by simp) _
  have x1 := box1 (w := w) (o := .cells #[.int .i64 d, .int .i64 v, .int .i64 u] 28) (W := w.alloc (.cells #[.int .i64 d, .int .i64 v, .int .i64 u] 28)) (Below.alloc (Below.refl _ _) (Nat.le_refl _) (.cells #[.int .i64 0, .int .i64 0, .int .i64 0] 28))
  have x2 := alloc_new (w.alloc (.cells #[.int .i64 d, .int .i64 v, .int .i64 u] 28)) (.cells #[.int .i64 0, .int .i64 0, .int .i64 0] 28)
  simp only [World.size_alloc] at x2
  go_enter Tryz.func33, Tryz.ntmps33
  go_wp2_with fail
  obtain ⟨W, hW⟩ : ∃ W, (w.alloc (.cells #[.int .i64 d, .int .i64 v, .int .i64 u] 28)).alloc (.cells #[.int .i64 0, .int .i64 0, .int .i64 0] 28) = W := ⟨_, rfl⟩
  have hWs : w.heap.size + 1 + 1 = W.heap.size := by rw [← hW]; simp
  rw [hW] at hb2 x1 x2 ⊢
  clear hW
  refine (nDivisor_wild _ 3 d v u _ (SI.three _ _ _ _ _ hWs) h0 (by intro x hx; simp at hx; omega)).mono ?_
  rintro e w1 ⟨g, rfl, hg0, hg1, hg2, hg3, q, rfl⟩
  have hW2 : Below W.heap.size W ((W.alloc (.cells #[.int .i64 d, .int .i64 v, .int .i64 u] 3)).drewN q) := below_drewN ((Below.refl _ _).alloc (Nat.le_refl _) _) q
  generalize World.drewN _ q = W2 at hW2 ⊢
  have BW := hb2.trans (hW2.mono hb2.size)
  replace x1 := blk_keep x1 hW2
  replace x2 := blk_keep x2 hW2
  clear hb2 hW2
  have hgb : (g == 0) = false := by simpa using hg0
  obtain ⟨a1, a2⟩ := tdiv_wild hd1 hd2 hg0 hg1
  obtain ⟨a3, a4⟩ := tdiv_wild hv1 hv2 hg0 hg1
  obtain ⟨a5, a6⟩ := tdiv_wild hu1 hu2 hg0 hg1
  have hlt := blk_lt x2
  go_wp2_with fail
  refine Calmly.wp_region_mix 12 (.fl 0 <| .fl 1 <| .fl 2 <| .fl 3 <| .fl 4 <| .fl 5 <| .fl 6 <| .fl 7 <| .fl 8 <| .fl 9 <| .fl 10 <| .fl 11 <| .tail [12, 13]) (by kernel_rfl) (by kernel_rfl) ?_
  replace BW := BW.drew
  replace x1 := blk_keep x1 (Below.refl _ _).drew
  replace x2 := blk_keep x2 (Below.refl _ _).drew
  generalize World.drew _ = V2 at x1 x2 BW ⊢
  have f0 := cell_block x1 0
  have f1 := cell_block x1 1
  have f2 := cell_block x1 2
  have g0 := cell_block x2 0
  have g1 := cell_block x2 1
  have g2 := cell_block x2 2
  have g3 := frozen_block x2 0
  have g4 := frozen_block x2 1
  have g5 := frozen_block x2 2
  have hk := Below.refl V2.heap.size V2
  go_wp2_with (first | ((with_reducible refine Calmly.is_fl ?_); refine Calmly.mix_fl rfl ?_ (fun _ _ => ?_); (first | exact .move _ | exact .load _ _ | exact .fieldAddr _ _ _ (by kernel_rfl) | exact .assign _ | exact .binOp _ _ _ _ _ rfl | exact .indexAddr _ _ _ | exact .len _ _ (by kernel_rfl) | exact .field _ _ _ | exact .extract _ _ | exact .pick _ _ _ | exact .build _ _ | exact .slice _ _ _ _ _ | exact .unOp _ _ _ rfl | exact .index _ _ _ | exact .max _ _ _ rfl rfl | exact .min _ _ _ rfl rfl)) | ((with_reducible refine Calmly.is_gl ?_); refine Calmly.mix_gl rfl rfl rfl ?_; first | ((first | with_reducible refine Calmly.gl_tt ?_ (fun _ _ => ?_) | with_reducible refine Calmly.gl_ff ?_ (fun _ _ => ?_)); (first | exact .move _ | exact .load _ _ | exact .fieldAddr _ _ _ (by kernel_rfl) | exact .assign _ | exact .binOp _ _ _ _ _ rfl | exact .indexAddr _ _ _ | exact .len _ _ (by kernel_rfl) | exact .field _ _ _ | exact .extract _ _ | exact .pick _ _ _ | exact .build _ _ | exact .slice _ _ _ _ _ | exact .unOp _ _ _ rfl | exact .index _ _ _ | exact .max _ _ _ rfl rfl | exact .min _ _ _ rfl rfl)) | with_reducible refine Calmly.gl_tf (fun _ _ => ?_) | with_reducible refine Calmly.gl_ft (fun _ _ => ?_)) | ((with_reducible refine Calmly.is_eff ?_); refine Calmly.mix_eff rfl (fun _ _ => ?_)) | ((with_reducible refine Calmly.is_gf ?_); refine Calmly.mix_gf rfl rfl rfl ?_; first | with_reducible refine Calmly.gf_tt (fun _ _ => ?_) | with_reducible refine Calmly.gf_ff (fun _ _ => ?_) | with_reducible refine Calmly.gf_tf (kept_of hk) (fun _ _ => ?_) | with_reducible refine Calmly.gf_ft (kept_of hk) (fun _ _ => ?_)) | ((with_reducible refine Calmly.is_tail ?_); first | refine Calmly.mix_tail_nil ?_ | refine Calmly.mix_tail rfl (fun _ _ => ?_)) | ((with_reducible refine Calmly.is_kept ?_); refine ⟨kept_of hk, ?_⟩) | (with_reducible refine Calmly.mix_alt ?_ ?_))
  obtain ⟨s1, s2, s3⟩ := set3 (x := .int .i64 (d.tdiv g)) (y := .int .i64 (v.tdiv g)) (z := .int .i64 (u.tdiv g)) x2
  refine bodyPost_ret (v := .agg #[.int .i64 (d.tdiv g), .int .i64 (v.tdiv g), .int .i64 (u.tdiv g)]) (by simp [results, Tryz.results33, go_sem, s1, s2, s3]) rfl ⟨⟨_, _, _, rfl⟩, ?_⟩
  exact ((BW.setCell (by simp) _).setCell (by simp) _).setCell (by simp) _
end Go.Proofs.YtfjcfbmfpefabaaGreat
