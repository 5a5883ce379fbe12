/- The reference's product. Scales and factors are as specified: the law's walk. Printed by gen_m46.py. The arguments of a law of chapter 5, opened: numbers, fractions, arrays. The arguments of a law of chapter 5, opened: a pair of quantities, a number. -/
import Derived.Test.YtaiikekgckjdeaaK20
import Derived.ProofKit
import Derived.OpenShut
namespace Go.Proofs.Ytaiikekgckjdeaa
open Go.RowKit Go.Maps
open Calmly (Kept)
def fracF (x y : Int) : Int × Int := (x.tdiv (Int.gcd x y), y.tdiv (Int.gcd x y))
theorem gcd_split (x y : Int) (hy : 0 < y) : ∃ g : Int, 0 < g ∧ x = (fracF x y).1 * g ∧ y = (fracF x y).2 * g ∧ 0 < (fracF x y).2 ∧ Int.gcd (fracF x y).1 (fracF x y).2 = 1 := by
  have hg0 : 0 < Int.gcd x y := Int.gcd_pos_of_ne_zero_right x (by omega)
  have h1 : (Int.gcd x y : Int) ∣ x := Int.gcd_dvd_left x y
  have h2 : (Int.gcd x y : Int) ∣ y := Int.gcd_dvd_right x y
  have e1 : x = (fracF x y).1 * (Int.gcd x y : Int) := (Int.tdiv_mul_cancel h1).symm
  have e2 : y = (fracF x y).2 * (Int.gcd x y : Int) := (Int.tdiv_mul_cancel h2).symm
  refine ⟨(Int.gcd x y : Int), by omega, e1, e2, ?_, ?_⟩
  · rcases Int.lt_or_le 0 (fracF x y).2 with h | h
    · exact h
    · exfalso
      have := Int.mul_le_mul_of_nonneg_right h (show (0 : Int) ≤ (Int.gcd x y : Int) by omega)
      omega
  · have := Int.gcd_mul_right (fracF x y).1 (Int.gcd x y : Int) (fracF x y).2
    rw [← e1, ← e2] at this
    simp at this
    have h3 : Int.gcd (fracF x y).1 (fracF x y).2 * Int.gcd x y = 1 * Int.gcd x y := by omega
    exact Nat.eq_of_mul_eq_mul_right hg0 h3
/-- A fraction in lowest terms is its number's. -/
theorem rat_parts {n d : Int} (hd : 0 < d) (hg : Int.gcd n d = 1) {v : Rat} (hv : v = (n : Rat) / (d : Rat)) : v.num = n ∧ (v.den : Int) = d := by
  obtain ⟨D, rfl⟩ : ∃ D : Nat, d = (D : Int) := ⟨d.toNat, by omega⟩
  have h1 := rat_lowest (n := n) (d := D) (by omega) (by simpa [Int.gcd] using hg) hv
  exact ⟨h1.1, by rw [h1.2]⟩
/-- The product of fractions in lowest terms, cancelled crosswise. -/
theorem prod_parts {an ad bn bd : Int} (ha : 0 < ad) (hga : Int.gcd an ad = 1) (hb : 0 < bd) (hgb : Int.gcd bn bd = 1) {P : Rat} (hP : P = (an : Rat) / (ad : Rat) * ((bn : Rat) / (bd : Rat))) :
    P.num = (fracF an bd).1 * (fracF bn ad).1 ∧ (P.den : Int) = (fracF an bd).2 * (fracF bn ad).2 := by
  obtain ⟨g, hg0, e1, e2, h2, h3⟩ := gcd_split an bd hb
  obtain ⟨k, hk0, f1, f2, k2, k3⟩ := gcd_split bn ad ha
  generalize (fracF an bd).1 = x1 at *
  generalize (fracF an bd).2 = x2 at *
  generalize (fracF bn ad).1 = y1 at *
  generalize (fracF bn ad).2 = y2 at *
  have q1 : Int.gcd x1 y2 = 1 := by
    have h5 : Int.gcd x1 y2 ∣ Int.gcd an ad := Int.dvd_gcd (by
      rw [e1]
      exact Int.dvd_trans (Int.gcd_dvd_left x1 y2) (Int.dvd_mul_right _ _)) (by
      rw [f2]
      exact Int.dvd_trans (Int.gcd_dvd_right x1 y2) (Int.dvd_mul_right _ _))
    rw [hga] at h5
    exact Nat.dvd_one.1 h5
  have q2 : Int.gcd y1 x2 = 1 := by
    have h5 : Int.gcd y1 x2 ∣ Int.gcd bn bd := Int.dvd_gcd (by
      rw [f1]
      exact Int.dvd_trans (Int.gcd_dvd_left y1 x2) (Int.dvd_mul_right _ _)) (by
      rw [e2]
      exact Int.dvd_trans (Int.gcd_dvd_right y1 x2) (Int.dvd_mul_right _ _))
    rw [hgb] at h5
    exact Nat.dvd_one.1 h5
  have hg : Int.gcd (x1 * y1) (x2 * y2) = 1 := by
    unfold Int.gcd at *
    rw [Int.natAbs_mul, Int.natAbs_mul]
    exact Nat.Coprime.mul_left (Nat.Coprime.mul_right h3 q1) (Nat.Coprime.mul_right q2 k3)
  refine rat_parts (Int.mul_pos h2 k2) hg ?_
  rw [hP, e1, e2, f1, f2]
  have z1 : (x2 : Rat) ≠ 0 := by intro e; have : x2 = 0 := by exact_mod_cast e
                                 omega
  have z2 : (y2 : Rat) ≠ 0 := by intro e; have : y2 = 0 := by exact_mod_cast e
                                 omega
  have z3 : (g : Rat) ≠ 0 := by intro e; have : g = 0 := by exact_mod_cast e
                                omega
  have z4 : (k : Rat) ≠ 0 := by intro e; have : k = 0 := by exact_mod_cast e
                                omega
  simp only [Rat.intCast_mul]
  grind
set_option maxRecDepth 100000 in
set_option maxHeartbeats 4000000 in
theorem Lowest_c5 (x y : Int) (w : World) (hx1 : -9223372036854775807 ≤ x) (hx2 : x ≤ 9223372036854775807) (hy1 : 0 < y) (hy2 : y ≤ 9223372036854775807) :
    Calls Try.prog 75 #[.int .i64 x, .int .i64 y] w fun e w' => e = .returned (.agg #[.int .i64 (fracF x y).1, .int .i64 (fracF x y).2]) ∧ Below w.heap.size w w' := by
  have hb : ∀ o, Below w.heap.size w (w.alloc o) := fun o => (Below.refl _ _).alloc (Nat.le_refl _) _
  have hnew := alloc_new w (.cells #[.int .i64 0, .int .i64 0] 77)
  go_enter Try.func75, Try.ntmps75
  go_wp2_with fail
  refine (gcd_any x y _ (by omega) (by omega) (by omega) (by omega)).mono ?_
  rintro e w1 ⟨rfl, k, rfl⟩
  have hg0 : (0 : Int) < Int.gcd x y := by have := Int.gcd_pos_of_ne_zero_right (a := x) (b := y) (by omega); omega
  have hg1 : (Int.gcd x y : Int) ≤ 9223372036854775807 := by have := Int.gcd_le_right x hy1; omega
  obtain ⟨g, hgg⟩ : ∃ g : Int, (Int.gcd x y : Int) = g := ⟨_, rfl⟩
  have hf : fracF x y = (x.tdiv g, y.tdiv g) := by unfold fracF; rw [hgg]
  have HF := Lib.hid hf
  rw [hgg] at hg0 hg1 ⊢
  clear hf hgg
  have hg2 : (g == 0) = false := by simp; omega
  have b1 : -9223372036854775807 ≤ x.tdiv g ∧ x.tdiv g ≤ 9223372036854775807 := by
    have := Int.natAbs_tdiv_le_natAbs x g
    omega
  have b2 : -9223372036854775807 ≤ y.tdiv g ∧ y.tdiv g ≤ 9223372036854775807 := by
    have := Int.natAbs_tdiv_le_natAbs y g
    omega
  obtain ⟨b11, b12⟩ := b1
  obtain ⟨b21, b22⟩ := b2
  have hy0 : 0 ≤ y := by omega
  go_wp2_with fail
  refine Calmly.wp_region_mix 6 (.fl 0 <| .fl 1 <| .fl 2 <| .fl 3 <| .fl 4 <| .fl 5 <| .tail [6, 7]) (by kernel_rfl) (by kernel_rfl) ?_
  go_wp2_with (first | ((with_reducible refine Calmly.is_fl ?_); refine Calmly.mix_fl rfl ?_ (fun _ _ => ?_); (first | exact .move _ | exact .load _ _ | exact .fieldAddr _ _ _ (by kernel_rfl) | exact .assign _ | exact .binOp _ _ _ _ _ rfl | exact .indexAddr _ _ _ | exact .len _ _ (by kernel_rfl) | exact .field _ _ _ | exact .extract _ _ | exact .pick _ _ _ | exact .build _ _ | exact .slice _ _ _ _ _ | exact .unOp _ _ _ rfl | exact .index _ _ _ | exact .max _ _ _ rfl rfl | exact .min _ _ _ rfl rfl | exact .nilCheck _ _ rfl)) | ((with_reducible refine Calmly.is_gl ?_); refine Calmly.mix_gl rfl rfl rfl ?_; first | ((first | with_reducible refine Calmly.gl_tt ?_ (fun _ _ => ?_) | with_reducible refine Calmly.gl_ff ?_ (fun _ _ => ?_)); (first | exact .move _ | exact .load _ _ | exact .fieldAddr _ _ _ (by kernel_rfl) | exact .assign _ | exact .binOp _ _ _ _ _ rfl | exact .indexAddr _ _ _ | exact .len _ _ (by kernel_rfl) | exact .field _ _ _ | exact .extract _ _ | exact .pick _ _ _ | exact .build _ _ | exact .slice _ _ _ _ _ | exact .unOp _ _ _ rfl | exact .index _ _ _ | exact .max _ _ _ rfl rfl | exact .min _ _ _ rfl rfl | exact .nilCheck _ _ rfl)) | with_reducible refine Calmly.gl_tf (fun _ _ => ?_) | with_reducible refine Calmly.gl_ft (fun _ _ => ?_)) | ((with_reducible refine Calmly.is_eff ?_); refine Calmly.mix_eff rfl (fun _ _ => ?_)) | ((with_reducible refine Calmly.is_gf ?_); refine Calmly.mix_gf rfl rfl rfl ?_; first | with_reducible refine Calmly.gf_tt (fun _ _ => ?_) | with_reducible refine Calmly.gf_ff (fun _ _ => ?_) | with_reducible refine Calmly.gf_tf (kept_of hk) (fun _ _ => ?_) | with_reducible refine Calmly.gf_ft (kept_of hk) (fun _ _ => ?_)) | ((with_reducible refine Calmly.is_tail ?_); first | refine Calmly.mix_tail_nil ?_ | refine Calmly.mix_tail rfl (fun _ _ => ?_)) | ((with_reducible refine Calmly.is_kept ?_); refine ⟨kept_of hk, ?_⟩) | (with_reducible refine Calmly.mix_alt ?_ ?_))
  refine bodyPost_ret (v := .agg #[.int .i64 (x.tdiv g), .int .i64 (y.tdiv g)]) (by simp [results, Try.results75, go_sem]) rfl ⟨by rw [HF.out], ?_⟩
  exact ((below_drewN ((Below.refl _ _).alloc (Nat.le_refl _) _) k).drew.setCell (by simp) _).setCell (by simp) _
theorem two_set {w V W : World} {p q r : Nat} {u0 u1 v0 v1 : Value} {t t' : TypeId} {o : Obj} (zp : W.heap[p]? = some (.cells #[u0, u1] t)) (zq : W.heap[q]? = some (.cells #[v0, v1] t')) (hpq : p ≠ q) (hk : Below V.heap.size V W) (hp : V.heap.size ≤ p) (hq : V.heap.size ≤ q) (BW : Below w.heap.size w V) (yr : V.heap[r]? = some o) (a b c d : Value) :
    Below w.heap.size w ((((W.setCell ⟨p, 0, none⟩ a).setCell ⟨p, 1, none⟩ b).setCell ⟨q, 0, none⟩ c).setCell ⟨q, 1, none⟩ d) ∧ ((((W.setCell ⟨p, 0, none⟩ a).setCell ⟨p, 1, none⟩ b).setCell ⟨q, 0, none⟩ c).setCell ⟨q, 1, none⟩ d).heap[r]? = some o ∧
    ((((W.setCell ⟨p, 0, none⟩ a).setCell ⟨p, 1, none⟩ b).setCell ⟨q, 0, none⟩ c).setCell ⟨q, 1, none⟩ d).heap[p]? = some (.cells #[a, b] t) ∧ ((((W.setCell ⟨p, 0, none⟩ a).setCell ⟨p, 1, none⟩ b).setCell ⟨q, 0, none⟩ c).setCell ⟨q, 1, none⟩ d).heap[q]? = some (.cells #[c, d] t') := by
  have hw := BW.size
  have hr := blk_lt yr
  have h1 : ∀ k, k ≠ p → k ≠ q → ((((W.setCell ⟨p, 0, none⟩ a).setCell ⟨p, 1, none⟩ b).setCell ⟨q, 0, none⟩ c).setCell ⟨q, 1, none⟩ d).heap[k]? = W.heap[k]? := fun k k1 k2 => by
    rw [Below.heap_setCell _ _ _ _ k2, Below.heap_setCell _ _ _ _ k2, Below.heap_setCell _ _ _ _ k1, Below.heap_setCell _ _ _ _ k1]
  refine ⟨((((BW.trans (hk.mono hw)).setCell (by show w.heap.size ≤ p; omega) _).setCell (by show w.heap.size ≤ p; omega) _).setCell (by show w.heap.size ≤ q; omega) _).setCell (by show w.heap.size ≤ q; omega) _, (h1 r (by omega) (by omega)).trans (blk_keep yr hk), ?_, ?_⟩
  · rw [Below.heap_setCell _ _ _ _ hpq, Below.heap_setCell _ _ _ _ hpq]
    simpa using setBlk (setBlk zp 0 a) 1 b
  · have e : ((W.setCell ⟨p, 0, none⟩ a).setCell ⟨p, 1, none⟩ b).heap[q]? = some (.cells #[v0, v1] t') := by
      rw [Below.heap_setCell _ _ _ _ hpq.symm, Below.heap_setCell _ _ _ _ hpq.symm]
      exact zq
    simpa using setBlk (setBlk e 0 c) 1 d
set_option maxRecDepth 100000 in
set_option maxHeartbeats 4000000 in
theorem Product_any (an ad bn bd : Int) (w : World) (ha : 0 < ad) (hga : Int.gcd an ad = 1) (hb : 0 < bd) (hgb : Int.gcd bn bd = 1) (h1 : -1000000000 ≤ an ∧ an ≤ 1000000000) (h2 : ad ≤ 1000000000) (h3 : -1000000000 ≤ bn ∧ bn ≤ 1000000000) (h4 : bd ≤ 1000000000) (P : Rat) (hP : (an : Rat) / (ad : Rat) * ((bn : Rat) / (bd : Rat)) = P) :
    Calls Try.prog 53 #[.agg #[.int .i64 an, .int .i64 ad], .agg #[.int .i64 bn, .int .i64 bd]] w fun e w' => e = .returned (.tuple #[.agg #[.int .i64 (if smQ P then P.num else 0), .int .i64 (if smQ P then (P.den : Int) else 0)], .bool (smQ P)]) ∧ Below w.heap.size w w' := by
  obtain ⟨hn, hd⟩ := prod_parts ha hga hb hgb hP.symm
  obtain ⟨g, hg0, e1, e2, g2, g3⟩ := gcd_split an bd hb
  obtain ⟨k, hk0, f1, f2, k2, k3⟩ := gcd_split bn ad ha
  have hB1 := Int.natAbs_tdiv_le_natAbs an (Int.gcd an bd : Int)
  have hB2 := Int.natAbs_tdiv_le_natAbs bd (Int.gcd an bd : Int)
  have hB3 := Int.natAbs_tdiv_le_natAbs bn (Int.gcd bn ad : Int)
  have hB4 := Int.natAbs_tdiv_le_natAbs ad (Int.gcd bn ad : Int)
  obtain ⟨x1, hx1⟩ : ∃ t, (fracF an bd).1 = t := ⟨_, rfl⟩
  obtain ⟨x2, hx2⟩ : ∃ t, (fracF an bd).2 = t := ⟨_, rfl⟩
  obtain ⟨y1, hy1⟩ : ∃ t, (fracF bn ad).1 = t := ⟨_, rfl⟩
  obtain ⟨y2, hy2⟩ : ∃ t, (fracF bn ad).2 = t := ⟨_, rfl⟩
  replace hB1 : x1.natAbs ≤ an.natAbs := by rw [← hx1]; exact hB1
  replace hB2 : x2.natAbs ≤ bd.natAbs := by rw [← hx2]; exact hB2
  replace hB3 : y1.natAbs ≤ bn.natAbs := by rw [← hy1]; exact hB3
  replace hB4 : y2.natAbs ≤ ad.natAbs := by rw [← hy2]; exact hB4
  rw [hx1, hy1] at hn
  rw [hx2, hy2] at hd
  rw [hx2] at g2
  rw [hy2] at k2
  have HN := Lib.hid hn
  have HD := Lib.hid hd
  have HX1 := Lib.hid hx1
  have HX2 := Lib.hid hx2
  have HY1 := Lib.hid hy1
  have HY2 := Lib.hid hy2
  have b1 : -1000000000 ≤ x1 ∧ x1 ≤ 1000000000 := by omega
  have b2 : -1000000000 ≤ x2 ∧ x2 ≤ 1000000000 := by omega
  have b3 : -1000000000 ≤ y1 ∧ y1 ≤ 1000000000 := by omega
  have b4 : -1000000000 ≤ y2 ∧ y2 ≤ 1000000000 := by omega
  have m1 := mul_abs b1.1 b1.2 b3.1 b3.2
  have m2 := mul_abs b2.1 b2.2 b4.1 b4.2
  obtain ⟨FN, hFN⟩ : ∃ t, (if smQ P then P.num else 0) = t := ⟨_, rfl⟩
  obtain ⟨FD, hFD⟩ : ∃ t, (if smQ P then (P.den : Int) else 0) = t := ⟨_, rfl⟩
  obtain ⟨FO, hFO⟩ : ∃ t, smQ P = t := ⟨_, rfl⟩
  rw [hFN, hFD, hFO]
  have HFN := Lib.hid hFN
  have HFD := Lib.hid hFD
  have HFO := Lib.hid hFO
  clear hFN hFD hFO
  clear hn hd hP e1 e2 f1 f2 g3 k3 hx1 hx2 hy1 hy2 hB1 hB2 hB3 hB4
  have y0 := blk_keep (blk_keep (alloc_new w (.cells #[.int .i64 an, .int .i64 ad] 77)) ((Below.refl _ _).alloc (Nat.le_refl _) (.cells #[.int .i64 bn, .int .i64 bd] 77))) ((Below.refl _ _).alloc (Nat.le_refl _) (.cells #[.int .i64 0, .int .i64 0] 77))
  have y1' := blk_keep (alloc_new (w.alloc (.cells #[.int .i64 an, .int .i64 ad] 77)) (.cells #[.int .i64 bn, .int .i64 bd] 77)) ((Below.refl _ _).alloc (Nat.le_refl _) (.cells #[.int .i64 0, .int .i64 0] 77))
  have y2' := alloc_new ((w.alloc (.cells #[.int .i64 an, .int .i64 ad] 77)).alloc (.cells #[.int .i64 bn, .int .i64 bd] 77)) (.cells #[.int .i64 0, .int .i64 0] 77)
  have BW : Below w.heap.size w (((w.alloc (.cells #[.int .i64 an, .int .i64 ad] 77)).alloc (.cells #[.int .i64 bn, .int .i64 bd] 77)).alloc (.cells #[.int .i64 0, .int .i64 0] 77)) := (((Below.refl _ _).alloc (Nat.le_refl _) _).alloc (by simp) _).alloc (by simp; omega) _
  simp only [World.size_alloc] at y1' y2'
  go_enter Try.func53, Try.ntmps53
  go_wp2_with fail
  generalize ((w.alloc (.cells #[.int .i64 an, .int .i64 ad] 77)).alloc (.cells #[.int .i64 bn, .int .i64 bd] 77)).alloc (.cells #[.int .i64 0, .int .i64 0] 77) = W at *
  refine Calmly.wp_region_mix 12 (.fl 0 <| .fl 1 <| .fl 2 <| .fl 3 <| .fl 5 <| .fl 6 <| .fl 7 <| .fl 8 <| .alt 4 (.alt 9 (.alt 10 (.eff 11 <| .tail [12, 13]) (.eff 11 (.eff 10 <| .tail [12, 13]))) (.alt 10 (.alt 9 (.eff 11 <| .tail [12, 13]) (.eff 11 (.eff 9 <| .tail [12, 13]))) (.eff 11 (.alt 9 (.eff 10 <| .tail [12, 13]) (.eff 10 (.eff 9 <| .tail [12, 13])))))) (.alt 10 (.alt 4 (.alt 9 (.eff 11 <| .tail [12, 13]) (.eff 11 (.eff 9 <| .tail [12, 13]))) (.eff 11 (.eff 4 <| .eff 9 <| .tail [12, 13]))) (.eff 11 (.alt 4 (.alt 9 (.eff 10 <| .tail [12, 13]) (.eff 10 (.eff 9 <| .tail [12, 13]))) (.eff 10 (.eff 4 <| .eff 9 <| .tail [12, 13])))))) (by kernel_rfl) (by kernel_rfl) ?_
  replace y0 := blk_keep y0 (Below.refl _ _).drew
  replace y1' := blk_keep y1' (Below.refl _ _).drew
  replace y2' := blk_keep y2' (Below.refl _ _).drew
  replace BW := BW.drew
  generalize W.drew = V at *
  have r0 := cell_block y0 0
  have r1 := cell_block y0 1
  have r2 := cell_block y1' 0
  have r3 := cell_block y1' 1
  have hk := Below.refl V.heap.size V
  rename_i K hK
  have hK' := fun a w (h : Stop _) => hK a w h.out
  clear hK
  have HKK : ∀ (b6 b7 : Nat) (W4 : World), Below w.heap.size w W4 → W4.heap[w.heap.size + 1 + 1]? = some (.cells #[.int .i64 0, .int .i64 0] 77) → W4.heap[b6]? = some (.cells #[.int .i64 x1, .int .i64 x2] 77) → W4.heap[b7]? = some (.cells #[.int .i64 y1, .int .i64 y2] 77) → K { tmps := #[.agg #[.int .i64 an, .int .i64 ad], .agg #[.int .i64 bn, .int .i64 bd], .pointer (some ⟨w.heap.size, 0, none⟩), .pointer (some ⟨w.heap.size + 1, 0, none⟩), .pointer (some ⟨w.heap.size + 1 + 1, 0, none⟩), .bool false, .pointer (some ⟨b6, 0, none⟩), .pointer (some ⟨b7, 0, none⟩), undef, .pointer (some ⟨w.heap.size, 0, none⟩), .int .i64 an, .pointer (some ⟨w.heap.size + 1, 1, none⟩), .int .i64 bd, .agg #[.int .i64 x1, .int .i64 x2], .pointer (some ⟨w.heap.size + 1, 0, none⟩), .int .i64 bn, .pointer (some ⟨w.heap.size, 1, none⟩), .int .i64 ad, .agg #[.int .i64 y1, .int .i64 y2], undef, undef, undef, undef, undef, undef, undef, undef, undef, undef, undef, undef, undef, undef, undef, undef, undef, undef, undef, undef, undef, undef], defers := [] } W4 := by
    intro b6 b7 W4 hB4 q2 q6 q7
    apply hK'
    refine ⟨?_⟩
    clear r0 r1 r2 r3 hk y0 y1' y2' BW
    have c0 := cell_block q6 0
    have c1 := cell_block q6 1
    have c2 := cell_block q7 0
    have c3 := cell_block q7 1
    have r0 := cell_block q2 0
    have r1 := cell_block q2 1
    have r2 := frozen_block q2 0
    have r3 := frozen_block q2 1
    obtain ⟨N, hN⟩ : ∃ N, x1 * y1 = N := ⟨_, rfl⟩
    obtain ⟨D, hD⟩ : ∃ D, x2 * y2 = D := ⟨_, rfl⟩
    rw [hN] at m1
    rw [hD] at m2
    have hD0 : 0 < D := by rw [← hD]; exact Int.mul_pos g2 k2
    have hsm : smQ P = (decide (N.natAbs ≤ 1000000000) && decide (D ≤ 1000000000)) := by
      unfold smQ
      have hd : P.den = D.toNat := by have := HD.out; omega
      rw [HN.out, hN, hd]
      rw [Bool.eq_iff_iff]
      simp only [Bool.and_eq_true, decide_eq_true_eq]
      omega
    have hPN : P.num = N := by rw [HN.out, hN]
    have hPD : (P.den : Int) = D := by rw [HD.out, hD]
    have HSM := Lib.hid hsm
    have HPN := Lib.hid hPN
    have HPD := Lib.hid hPD
    have BF := (Below.refl W4.heap.size W4).alloc (Nat.le_refl _) (.cells #[.int .i64 N, .int .i64 D] 77)
    have q2' := blk_keep q2 BF
    have hB5 := hB4.trans (BF.mono hB4.size)
    have hw : w.heap.size ≤ w.heap.size + 1 + 1 := by omega
    have s0 := cell_block q2' 0
    have s1 := cell_block q2' 1
    have s2 := frozen_block q2' 0
    have s3 := frozen_block q2' 1
    clear hsm hPN hPD HN HD
    go_wp2_with fail
    refine (size_any N _ (by omega) (by omega)).mono ?_
    rintro e w5 ⟨rfl, rfl⟩
    by_cases hn9 : N.natAbs ≤ 1000000000
    · have v1 : ¬ (1000000000 : Int) < (N.natAbs : Int) := by omega
      by_cases hd9 : D ≤ 1000000000
      · have v2 : ¬ (1000000000 : Int) < D := by omega
        have hS : smQ P = true := by rw [HSM.out]; simp [hn9, hd9]
        have HS := Lib.hid hS
        clear hS
        go_wp2_with fail
        have z0 := setBlk (setBlk q2' 0 (.int .i64 N)) 1 (.int .i64 D)
        simp at z0
        have z1 := cell_block z0 0
        have z2 := cell_block z0 1
        refine bodyPost_ret (v := .tuple #[.agg #[.int .i64 N, .int .i64 D], .bool true]) (by simp [results, Try.results53, go_sem, z1, z2]) rfl ⟨by rw [← HFN.out, ← HFD.out, ← HFO.out, HS.out, if_pos rfl, if_pos rfl, HPN.out, HPD.out], (hB5.setCell (by exact hw) _).setCell (by exact hw) _⟩
      · have v2 : (1000000000 : Int) < D := by omega
        have hS : smQ P = false := by rw [HSM.out]; simp [hd9]
        have HS := Lib.hid hS
        clear hS
        go_wp2_with fail
        have z0 := setBlk (setBlk q2' 0 (.int .i64 0)) 1 (.int .i64 0)
        simp at z0
        have z1 := cell_block z0 0
        have z2 := cell_block z0 1
        refine bodyPost_ret (v := .tuple #[.agg #[.int .i64 0, .int .i64 0], .bool false]) (by simp [results, Try.results53, go_sem, z1, z2]) rfl ⟨by rw [← HFN.out, ← HFD.out, ← HFO.out, HS.out]; rfl, (hB5.setCell (by exact hw) _).setCell (by exact hw) _⟩
    · have v1 : (1000000000 : Int) < (N.natAbs : Int) := by omega
      have hS : smQ P = false := by rw [HSM.out]; simp [hn9]
      have HS := Lib.hid hS
      clear hS
      go_wp2_with fail
      have z0 := setBlk (setBlk q2' 0 (.int .i64 0)) 1 (.int .i64 0)
      simp at z0
      have z1 := cell_block z0 0
      have z2 := cell_block z0 1
      refine bodyPost_ret (v := .tuple #[.agg #[.int .i64 0, .int .i64 0], .bool false]) (by simp [results, Try.results53, go_sem, z1, z2]) rfl ⟨by rw [← HFN.out, ← HFD.out, ← HFO.out, HS.out]; rfl, (hB5.setCell (by exact hw) _).setCell (by exact hw) _⟩
  replace HKK := Lib.hid HKK
  clear hK'
  have S1 := Lib.hid True.intro
  go_wp2_with (first | (go_at_call 75; refine (Lowest_c5 _ _ _ (by omega) (by omega) (by omega) (by omega)).mono ?_; rintro e w' ⟨rfl, hb⟩; (first | rw [HX1.out, HX2.out] | rw [HY1.out, HY2.out]); (try replace za := blk_keep za hb); (try replace zb := blk_keep zb hb); replace hk := step_of hk hb; clear hb; (try have p0 := cell_block za 0); (try have p1 := cell_block za 1); (try have p2 := frozen_block za 0); (try have p3 := frozen_block za 1); (try have q0 := cell_block zb 0); (try have q1 := cell_block zb 1); (try have q2 := frozen_block zb 0); (try have q3 := frozen_block zb 1)) | (have _ := S1.out; clear S1; refine kept_allocR hk (fun hb hk2 za hga => ?_); replace hk := hk2; clear hb hk2; generalize World.alloc _ (.cells #[.int .i64 0, .int .i64 0] 77) = W' at *; have p0 := cell_block za 0; have p1 := cell_block za 1; have p2 := frozen_block za 0; have p3 := frozen_block za 1) | (refine kept_allocR hk (fun hb hk2 zb hgb => ?_); have hzab := blk_lt za; replace za := blk_keep za hb; replace hk := hk2; clear hb hk2; generalize World.alloc _ (.cells #[.int .i64 0, .int .i64 0] 77) = W' at *; have p0 := cell_block za 0; have p1 := cell_block za 1; have p2 := frozen_block za 0; have p3 := frozen_block za 1; have q0 := cell_block zb 0; have q1 := cell_block zb 1; have q2 := frozen_block zb 0; have q3 := frozen_block zb 1) | ((with_reducible refine Calmly.is_fl ?_); refine Calmly.mix_fl rfl ?_ (fun _ _ => ?_); (first | exact .move _ | exact .load _ _ | exact .fieldAddr _ _ _ (by kernel_rfl) | exact .assign _ | exact .binOp _ _ _ _ _ rfl | exact .indexAddr _ _ _ | exact .len _ _ (by kernel_rfl) | exact .field _ _ _ | exact .extract _ _ | exact .pick _ _ _ | exact .build _ _ | exact .slice _ _ _ _ _ | exact .unOp _ _ _ rfl | exact .index _ _ _ | exact .max _ _ _ rfl rfl | exact .min _ _ _ rfl rfl | exact .nilCheck _ _ rfl)) | ((with_reducible refine Calmly.is_gl ?_); refine Calmly.mix_gl rfl rfl rfl ?_; first | ((first | with_reducible refine Calmly.gl_tt ?_ (fun _ _ => ?_) | with_reducible refine Calmly.gl_ff ?_ (fun _ _ => ?_)); (first | exact .move _ | exact .load _ _ | exact .fieldAddr _ _ _ (by kernel_rfl) | exact .assign _ | exact .binOp _ _ _ _ _ rfl | exact .indexAddr _ _ _ | exact .len _ _ (by kernel_rfl) | exact .field _ _ _ | exact .extract _ _ | exact .pick _ _ _ | exact .build _ _ | exact .slice _ _ _ _ _ | exact .unOp _ _ _ rfl | exact .index _ _ _ | exact .max _ _ _ rfl rfl | exact .min _ _ _ rfl rfl | exact .nilCheck _ _ rfl)) | with_reducible refine Calmly.gl_tf (fun _ _ => ?_) | with_reducible refine Calmly.gl_ft (fun _ _ => ?_)) | ((with_reducible refine Calmly.is_eff ?_); refine Calmly.mix_eff rfl (fun _ _ => ?_)) | ((with_reducible refine Calmly.is_gf ?_); refine Calmly.mix_gf rfl rfl rfl ?_; first | with_reducible refine Calmly.gf_tt (fun _ _ => ?_) | with_reducible refine Calmly.gf_ff (fun _ _ => ?_) | with_reducible refine Calmly.gf_tf (kept_of hk) (fun _ _ => ?_) | with_reducible refine Calmly.gf_ft (kept_of hk) (fun _ _ => ?_)) | ((with_reducible refine Calmly.is_tail ?_); first | refine Calmly.mix_tail_nil ?_ | refine Calmly.mix_tail rfl (fun _ _ => ?_)) | ((with_reducible refine Calmly.is_kept ?_); refine ⟨kept_of hk, ?_⟩) | (with_reducible refine Calmly.mix_alt ?_ ?_))
  all_goals
    first
    | (obtain ⟨t1, t2, t3, t4⟩ := two_set za zb (by omega) hk (by omega) (by omega) BW y2' (.int .i64 x1) (.int .i64 x2) (.int .i64 y1) (.int .i64 y2); exact HKK.out _ _ _ t1 t2 t3 t4)
    | (obtain ⟨t1, t2, t3, t4⟩ := two_set zb za (by omega) hk (by omega) (by omega) BW y2' (.int .i64 x1) (.int .i64 x2) (.int .i64 y1) (.int .i64 y2); exact HKK.out _ _ _ t1 t2 t3 t4)
end Go.Proofs.Ytaiikekgckjdeaa

namespace Go.Proofs.Ytaiikekgckjdeaa
open Go.RowKit Go.Maps
open Calmly (Kept)
theorem ratInt_pos {n : Int} (h : 1 ≤ n) : (0 : Rat) < (n : Rat) := by
  have h2 : ((0 : Int) : Rat) < (n : Rat) := Rat.intCast_lt_intCast.2 (by omega)
  simpa using h2
theorem facV_pos {n1 d1 n2 d2 n3 d3 a b c : Int} (h : FacOk n1 d1 n2 d2 n3 d3 a b c) : 0 < facV n1 d1 n2 d2 n3 d3 a b c := by
  have z1 : (0 : Rat) < 1 := by decide
  have k : ∀ {n c : Int}, 1 ≤ n → (0 : Rat) < (n : Rat) ^ c := fun h => Rat.zpow_pos (ratInt_pos h)
  exact Rat.mul_pos (Rat.mul_pos (Rat.mul_pos (Rat.mul_pos (Rat.mul_pos (Rat.mul_pos z1 (k h.s1.1.1)) (k h.s1.2.1.1)) (k h.s2.1.1)) (k h.s2.2.1.1)) (k h.s3.1.1)) (k h.s3.2.1.1)
theorem rat_frac (V : Rat) : (V.num : Rat) / ((V.den : Int) : Rat) = V := by
  rw [← Rat.divInt_eq_div]
  exact Rat.num_divInt_den V
theorem rat_num_pos {V : Rat} (h : 0 < V) : 0 < V.num := by
  rcases Int.lt_or_le 0 V.num with h1 | h1
  · exact h1
  · exfalso
    have h2 : V ≤ 0 := by
      have h3 := Rat.num_nonneg (q := -V)
      have h4 : 0 ≤ -V := h3.1 (by simp; omega)
      grind
    grind
theorem sc_up (x y : Int) (V : Rat) : (x : Rat) / (y : Rat) * ((V.num : Rat) / ((V.den : Int) : Rat)) = scR x y V 1 := by
  rw [rat_frac, scR, Rat.zpow_one]
theorem sc_dn (x y : Int) (V : Rat) (hV : 0 < V) : (x : Rat) / (y : Rat) * (((V.den : Int) : Rat) / (V.num : Rat)) = scR x y V (-1) := by
  have h1 := rat_frac V
  have h2 := ratInt_pos (n := V.num) (by have := rat_num_pos hV; omega)
  have h3 := ratInt_pos (n := (V.den : Int)) (by have := V.den_pos; omega)
  have h4 : V ^ (-1 : Int) = ((V.den : Int) : Rat) / (V.num : Rat) := by
    rw [Rat.zpow_neg, Rat.zpow_one]
    generalize (V.num : Rat) = p at *
    generalize ((V.den : Int) : Rat) = q at *
    rw [← h1]
    grind
  rw [scR, h4]
theorem scH_zero (x y : Int) : scH 0 x y = valE x y := by simp [scH, valE, firstE]
theorem scE_zero {x y : Int} {R : Rat} : scE 0 x y R = if valE x y = 0 then unlessE (smQ R) 8 else valE x y := by
  rw [scE, scH_zero]
theorem valE_ok {x y : Int} (h : valE x y = 0) : 0 < y ∧ Int.gcd x y = 1 ∧ (-1000000000 ≤ x ∧ x ≤ 1000000000) ∧ y ≤ 1000000000 := by
  have h1 : scH 0 x y = 0 := (scH_zero x y).trans h
  have h2 := scH_ok h1
  exact ⟨h2.2.1.1, h2.2.1.2, h2.2.2.1, h2.2.2.2⟩
theorem fcOk_ok {V : Rat} (h : fcOk V = true) (hV : 0 < V) : V.num ≤ 1000000000 ∧ (V.den : Int) ≤ 1000000000 ∧ 0 < V.num ∧ 0 < (V.den : Int) ∧ Int.gcd V.num (V.den : Int) = 1 ∧ Int.gcd (V.den : Int) V.num = 1 := by
  rw [fcOk, Bool.and_eq_true, decide_eq_true_eq, decide_eq_true_eq] at h
  have hr := V.reduced
  have h3 : Int.gcd V.num (V.den : Int) = 1 := by simpa [Int.gcd] using hr
  exact ⟨h.1, by omega, rat_num_pos hV, by have := V.den_pos; omega, h3, by rw [Int.gcd_comm]; exact h3⟩
/-- What a scaled value's number says: small, or not. -/
theorem sm_two {E a b p q : Int} {R : Rat} (hE : unlessE (smQ R) 8 = E) (ha : qN E R = a) (hb : qD E R = b) (hp : (if smQ R then R.num else 0) = p) (hq : (if smQ R then (R.den : Int) else 0) = q) :
    (smQ R = true ∧ E = 0 ∧ p = a ∧ q = b) ∨ (smQ R = false ∧ E = 8 ∧ a = 0 ∧ b = 0) := by
  cases h : smQ R
  · right
    rw [h, unlessE] at hE
    have hE' : E = 8 := by rw [← hE]; rfl
    subst hE'
    exact ⟨rfl, rfl, by rw [← ha]; rfl, by rw [← hb]; rfl⟩
  · left
    rw [h, unlessE] at hE
    have hE' : E = 0 := by rw [← hE]; rfl
    subst hE'
    rw [h] at hp hq
    exact ⟨rfl, rfl, by rw [← ha, ← hp]; rfl, by rw [← hb, ← hq]; rfl⟩
set_option maxRecDepth 100000 in
set_option maxHeartbeats 8000000 in
theorem ModelScales_walk (n1 d1 n2 d2 n3 d3 a b c x y : Int) (w : World) (h1 : F64 n1 d1) (h2 : F64 n2 d2) (h3 : F64 n3 d3) (hxy : F64 x y) :
    Calls Try.prog 6 #[.agg #[.int .i64 n1, .int .i64 d1, .int .i64 n2, .int .i64 d2, .int .i64 n3, .int .i64 d3], .agg #[.int .i64 a, .int .i64 b, .int .i64 c], .agg #[.int .i64 x, .int .i64 y]] w fun e w' => e = .returned (.bool true) ∧ Below w.heap.size w w' := by
  obtain ⟨V, hV⟩ : ∃ V, facV n1 d1 n2 d2 n3 d3 a b c = V := ⟨_, rfl⟩
  obtain ⟨F, hF⟩ : ∃ F, facE n1 d1 n2 d2 n3 d3 a b c = F := ⟨_, rfl⟩
  obtain ⟨R1, hR1⟩ : ∃ R, scR x y V 1 = R := ⟨_, rfl⟩
  obtain ⟨R2, hR2⟩ : ∃ R, scR x y V (-1) = R := ⟨_, rfl⟩
  obtain ⟨SI, hSI⟩ : ∃ S, (sclE (fs3 n1 d1 n2 d2 n3 d3)).1 = S := ⟨_, rfl⟩
  obtain ⟨SE, hSE⟩ : ∃ S, (sclE (fs3 n1 d1 n2 d2 n3 d3)).2 = S := ⟨_, rfl⟩
  have HV := Lib.hid hV
  have HF := Lib.hid hF
  have HR1 := Lib.hid hR1
  have HR2 := Lib.hid hR2
  have HSI := Lib.hid hSI
  have HSE := Lib.hid hSE
  have hbadS : ∀ R, F ≠ 0 → scE F x y R = F := fun R h => by
    have h5 : scH F x y = F := by
      show (if F = 0 then _ else F) = F
      rw [if_neg h]
    rw [scE, h5, if_neg h]
  obtain ⟨E1, hE1⟩ : ∃ E, scE F x y R1 = E := ⟨_, rfl⟩
  obtain ⟨E2, hE2⟩ : ∃ E, scE F x y R2 = E := ⟨_, rfl⟩
  obtain ⟨fn, hfn⟩ : ∃ t, qN F V = t := ⟨_, rfl⟩
  obtain ⟨fd, hfd⟩ : ∃ t, qD F V = t := ⟨_, rfl⟩
  obtain ⟨a1, ha1⟩ : ∃ t, qN E1 R1 = t := ⟨_, rfl⟩
  obtain ⟨a2, ha2⟩ : ∃ t, qD E1 R1 = t := ⟨_, rfl⟩
  obtain ⟨b1, hb1⟩ : ∃ t, qN E2 R2 = t := ⟨_, rfl⟩
  obtain ⟨b2, hb2⟩ : ∃ t, qD E2 R2 = t := ⟨_, rfl⟩
  have hbad : F ≠ 0 → (E1 = F ∧ a1 = 0 ∧ a2 = 0) ∧ (E2 = F ∧ b1 = 0 ∧ b2 = 0) := fun h => by
    have k1 := hE1.symm.trans (hbadS R1 h)
    have k2 := hE2.symm.trans (hbadS R2 h)
    have k3 : E1 ≠ 0 := by rw [k1]; exact h
    have k4 : E2 ≠ 0 := by rw [k2]; exact h
    exact ⟨⟨k1, by rw [← ha1, qN, if_neg k3], by rw [← ha2, qD, if_neg k3]⟩, ⟨k2, by rw [← hb1, qN, if_neg k4], by rw [← hb2, qD, if_neg k4]⟩⟩
  have hbadF : F ≠ 0 → fn = 0 ∧ fd = 0 := fun h => ⟨by rw [← hfn, qN, if_neg h], by rw [← hfd, qD, if_neg h]⟩
  have HE1 := Lib.hid hE1
  have HE2 := Lib.hid hE2
  have HFN := Lib.hid hfn
  have HFD := Lib.hid hfd
  have HA1 := Lib.hid ha1
  have HA2 := Lib.hid ha2
  have HB1 := Lib.hid hb1
  have HB2 := Lib.hid hb2
  clear hV hF hR1 hR2 hSI hSE hbadS hE1 hE2 hfn hfd ha1 ha2 hb1 hb2
  have y3 := blk_keep (blk_keep (alloc_new w (.cells #[.int .i64 n1, .int .i64 d1, .int .i64 n2, .int .i64 d2, .int .i64 n3, .int .i64 d3] 78)) ((Below.refl _ _).alloc (Nat.le_refl _) (.cells #[.int .i64 a, .int .i64 b, .int .i64 c] 79))) ((Below.refl _ _).alloc (Nat.le_refl _) (.cells #[.int .i64 x, .int .i64 y] 77))
  have y4 := blk_keep (alloc_new (w.alloc (.cells #[.int .i64 n1, .int .i64 d1, .int .i64 n2, .int .i64 d2, .int .i64 n3, .int .i64 d3] 78)) (.cells #[.int .i64 a, .int .i64 b, .int .i64 c] 79)) ((Below.refl _ _).alloc (Nat.le_refl _) (.cells #[.int .i64 x, .int .i64 y] 77))
  have y5 := alloc_new ((w.alloc (.cells #[.int .i64 n1, .int .i64 d1, .int .i64 n2, .int .i64 d2, .int .i64 n3, .int .i64 d3] 78)).alloc (.cells #[.int .i64 a, .int .i64 b, .int .i64 c] 79)) (.cells #[.int .i64 x, .int .i64 y] 77)
  have BW : Below w.heap.size w (((w.alloc (.cells #[.int .i64 n1, .int .i64 d1, .int .i64 n2, .int .i64 d2, .int .i64 n3, .int .i64 d3] 78)).alloc (.cells #[.int .i64 a, .int .i64 b, .int .i64 c] 79)).alloc (.cells #[.int .i64 x, .int .i64 y] 77)) := (((Below.refl _ _).alloc (Nat.le_refl _) _).alloc (by simp) _).alloc (by simp; omega) _
  simp only [World.size_alloc] at y4 y5
  go_enter Try.func6, Try.ntmps6
  have y3_0 := cell_block y3 0
  have y3_1 := cell_block y3 1
  have y3_2 := cell_block y3 2
  have y3_3 := cell_block y3 3
  have y3_4 := cell_block y3 4
  have y3_5 := cell_block y3 5
  have y4_0 := cell_block y4 0
  have y4_1 := cell_block y4 1
  have y4_2 := cell_block y4 2
  have y5_0 := cell_block y5 0
  have y5_1 := cell_block y5 1
  go_wp2_with fail
  clear y3_0 y3_1 y3_2 y3_3 y3_4 y3_5 y4_0 y4_1 y4_2 y5_0 y5_1
  refine (awake_any _).mono ?_
  rintro e w1 ⟨rfl, hs⟩
  replace y3 := blk_keep y3 hs
  replace y4 := blk_keep y4 hs
  replace y5 := blk_keep y5 hs
  replace BW := BW.trans (hs.mono BW.size)
  clear hs
  have y3_0 := cell_block y3 0
  have y3_1 := cell_block y3 1
  have y3_2 := cell_block y3 2
  have y3_3 := cell_block y3 3
  have y3_4 := cell_block y3 4
  have y3_5 := cell_block y3 5
  have y4_0 := cell_block y4 0
  have y4_1 := cell_block y4 1
  have y4_2 := cell_block y4 2
  have y5_0 := cell_block y5 0
  have y5_1 := cell_block y5 1
  go_wp2_with fail
  clear y3_0 y3_1 y3_2 y3_3 y3_4 y3_5 y4_0 y4_1 y4_2 y5_0 y5_1
  refine (CheckScales_any n1 d1 n2 d2 n3 d3 _ h1 h2 h3).mono ?_
  rintro e w2 ⟨rfl, hs⟩
  replace y3 := blk_keep y3 hs
  replace y4 := blk_keep y4 hs
  replace y5 := blk_keep y5 hs
  replace BW := BW.trans (hs.mono BW.size)
  clear hs
  rw [HSI.out, HSE.out]
  have y3_0 := cell_block y3 0
  have y3_1 := cell_block y3 1
  have y3_2 := cell_block y3 2
  have y3_3 := cell_block y3 3
  have y3_4 := cell_block y3 4
  have y3_5 := cell_block y3 5
  have y4_0 := cell_block y4 0
  have y4_1 := cell_block y4 1
  have y4_2 := cell_block y4 2
  have y5_0 := cell_block y5 0
  have y5_1 := cell_block y5 1
  go_wp2_with fail
  clear y3_0 y3_1 y3_2 y3_3 y3_4 y3_5 y4_0 y4_1 y4_2 y5_0 y5_1
  refine (FactorOf_any n1 d1 n2 d2 n3 d3 a b c _ h1 h2 h3).mono ?_
  rintro e w3 ⟨rfl, hs⟩
  replace y3 := blk_keep y3 hs
  replace y4 := blk_keep y4 hs
  replace y5 := blk_keep y5 hs
  replace BW := BW.trans (hs.mono BW.size)
  clear hs
  rw [HF.out, HV.out, HFN.out, HFD.out]
  have z9 := alloc_new w3 (.cells #[.int .i64 fn, .int .i64 fd] 77)
  have hk := (Below.refl w3.heap.size w3).alloc (Nat.le_refl _) (.cells #[.int .i64 fn, .int .i64 fd] 77)
  replace y3 := blk_keep y3 hk
  replace y4 := blk_keep y4 hk
  replace y5 := blk_keep y5 hk
  replace BW := BW.trans (hk.mono BW.size)
  clear hk
  have y3_0 := cell_block y3 0
  have y3_1 := cell_block y3 1
  have y3_2 := cell_block y3 2
  have y3_3 := cell_block y3 3
  have y3_4 := cell_block y3 4
  have y3_5 := cell_block y3 5
  have y4_0 := cell_block y4 0
  have y4_1 := cell_block y4 1
  have y4_2 := cell_block y4 2
  have y5_0 := cell_block y5 0
  have y5_1 := cell_block y5 1
  go_wp2_with fail
  obtain ⟨q1, hq1⟩ : ∃ q, w3.heap.size = q := ⟨_, rfl⟩
  rw [hq1] at z9 ⊢
  generalize w3.alloc (.cells #[.int .i64 fn, .int .i64 fd] 77) = W1 at *
  clear y3_0 y3_1 y3_2 y3_3 y3_4 y3_5 y4_0 y4_1 y4_2 y5_0 y5_1
  refine (ToModel_any n1 d1 n2 d2 n3 d3 a b c x y _ h1 h2 h3 hxy F V R1 HF.out HV.out HR1.out).mono ?_
  rintro e w4 ⟨rfl, hs⟩
  replace y3 := blk_keep y3 hs
  replace y4 := blk_keep y4 hs
  replace y5 := blk_keep y5 hs
  replace z9 := blk_keep z9 hs
  replace BW := BW.trans (hs.mono BW.size)
  clear hs
  rw [HE1.out, HA1.out, HA2.out]
  have z11 := alloc_new w4 (.cells #[.int .i64 a1, .int .i64 a2] 77)
  have hk := (Below.refl w4.heap.size w4).alloc (Nat.le_refl _) (.cells #[.int .i64 a1, .int .i64 a2] 77)
  replace y3 := blk_keep y3 hk
  replace y4 := blk_keep y4 hk
  replace y5 := blk_keep y5 hk
  replace z9 := blk_keep z9 hk
  replace BW := BW.trans (hk.mono BW.size)
  clear hk
  have y3_0 := cell_block y3 0
  have y3_1 := cell_block y3 1
  have y3_2 := cell_block y3 2
  have y3_3 := cell_block y3 3
  have y3_4 := cell_block y3 4
  have y3_5 := cell_block y3 5
  have y4_0 := cell_block y4 0
  have y4_1 := cell_block y4 1
  have y4_2 := cell_block y4 2
  have y5_0 := cell_block y5 0
  have y5_1 := cell_block y5 1
  go_wp2_with fail
  obtain ⟨q2, hq2⟩ : ∃ q, w4.heap.size = q := ⟨_, rfl⟩
  rw [hq2] at z11 ⊢
  generalize w4.alloc (.cells #[.int .i64 a1, .int .i64 a2] 77) = W2 at *
  clear y3_0 y3_1 y3_2 y3_3 y3_4 y3_5 y4_0 y4_1 y4_2 y5_0 y5_1
  refine (ToFull_any n1 d1 n2 d2 n3 d3 a b c x y _ h1 h2 h3 hxy F V R2 HF.out HV.out HR2.out).mono ?_
  rintro e w5 ⟨rfl, hs⟩
  replace y3 := blk_keep y3 hs
  replace y4 := blk_keep y4 hs
  replace y5 := blk_keep y5 hs
  replace z9 := blk_keep z9 hs
  replace z11 := blk_keep z11 hs
  replace BW := BW.trans (hs.mono BW.size)
  clear hs
  rw [HE2.out, HB1.out, HB2.out]
  have z13 := alloc_new w5 (.cells #[.int .i64 b1, .int .i64 b2] 77)
  have hk := (Below.refl w5.heap.size w5).alloc (Nat.le_refl _) (.cells #[.int .i64 b1, .int .i64 b2] 77)
  replace y3 := blk_keep y3 hk
  replace y4 := blk_keep y4 hk
  replace y5 := blk_keep y5 hk
  replace z9 := blk_keep z9 hk
  replace z11 := blk_keep z11 hk
  replace BW := BW.trans (hk.mono BW.size)
  clear hk
  have y3_0 := cell_block y3 0
  have y3_1 := cell_block y3 1
  have y3_2 := cell_block y3 2
  have y3_3 := cell_block y3 3
  have y3_4 := cell_block y3 4
  have y3_5 := cell_block y3 5
  have y4_0 := cell_block y4 0
  have y4_1 := cell_block y4 1
  have y4_2 := cell_block y4 2
  have y5_0 := cell_block y5 0
  have y5_1 := cell_block y5 1
  go_wp2_with fail
  obtain ⟨q3, hq3⟩ : ∃ q, w5.heap.size = q := ⟨_, rfl⟩
  rw [hq3] at z13 ⊢
  generalize w5.alloc (.cells #[.int .i64 b1, .int .i64 b2] 77) = W3 at *
  clear y3_0 y3_1 y3_2 y3_3 y3_4 y3_5 y4_0 y4_1 y4_2 y5_0 y5_1
  refine (rCheckScales_any n1 d1 n2 d2 n3 d3 _ h1 h2 h3).mono ?_
  rintro e w6 ⟨rfl, hs⟩
  replace y3 := blk_keep y3 hs
  replace y4 := blk_keep y4 hs
  replace y5 := blk_keep y5 hs
  replace z9 := blk_keep z9 hs
  replace z11 := blk_keep z11 hs
  replace z13 := blk_keep z13 hs
  replace BW := BW.trans (hs.mono BW.size)
  clear hs
  rw [HSI.out, HSE.out]
  have z17 := alloc_new w6 (.cells #[.int .i64 0, .int .i64 0] 77)
  have hk := (Below.refl w6.heap.size w6).alloc (Nat.le_refl _) (.cells #[.int .i64 0, .int .i64 0] 77)
  replace y3 := blk_keep y3 hk
  replace y4 := blk_keep y4 hk
  replace y5 := blk_keep y5 hk
  replace z9 := blk_keep z9 hk
  replace z11 := blk_keep z11 hk
  replace z13 := blk_keep z13 hk
  replace BW := BW.trans (hk.mono BW.size)
  clear hk
  have y3_0 := cell_block y3 0
  have y3_1 := cell_block y3 1
  have y3_2 := cell_block y3 2
  have y3_3 := cell_block y3 3
  have y3_4 := cell_block y3 4
  have y3_5 := cell_block y3 5
  have y4_0 := cell_block y4 0
  have y4_1 := cell_block y4 1
  have y4_2 := cell_block y4 2
  have y5_0 := cell_block y5 0
  have y5_1 := cell_block y5 1
  have c1 : (SE != SE) = false := by simp
  have c2 : (SI != SI) = false := by simp
  go_wp2_with fail
  obtain ⟨q4, hq4⟩ : ∃ q, w6.heap.size = q := ⟨_, rfl⟩
  rw [hq4] at z17 ⊢
  generalize w6.alloc (.cells #[.int .i64 0, .int .i64 0] 77) = W4 at *
  clear y3_0 y3_1 y3_2 y3_3 y3_4 y3_5 y4_0 y4_1 y4_2 y5_0 y5_1
  refine (rFactorErr_any n1 d1 n2 d2 n3 d3 a b c _ h1 h2 h3).mono ?_
  rintro e w7 ⟨rfl, hs⟩
  replace y3 := blk_keep y3 hs
  replace y4 := blk_keep y4 hs
  replace y5 := blk_keep y5 hs
  replace z9 := blk_keep z9 hs
  replace z11 := blk_keep z11 hs
  replace z13 := blk_keep z13 hs
  replace z17 := blk_keep z17 hs
  replace BW := BW.trans (hs.mono BW.size)
  clear hs
  rw [HF.out]
  by_cases hz : F = 0
  case neg =>
    obtain ⟨hm1, hm2⟩ := hbad hz
    have hfn : fn = 0 ∧ fd = 0 := hbadF hz
    have g1 : (F != 0) = true := by simpa using hz
    obtain ⟨rfl, rfl⟩ := hfn
    obtain ⟨rfl, rfl, rfl⟩ := hm1
    obtain ⟨rfl, rfl, rfl⟩ := hm2
    have z9_0 := cell_block z9 0
    have z9_1 := cell_block z9 1
    have z11_0 := cell_block z11 0
    have z11_1 := cell_block z11 1
    have z13_0 := cell_block z13 0
    have z13_1 := cell_block z13 1
    have z17_0 := cell_block z17 0
    have z17_1 := cell_block z17 1
    go_wp2_with fail
    go_ret
    exact ⟨ret_bool (by simp), BW⟩
  case pos =>
    subst hz
    have hfo := facE_ok HF.out
    have hFO := facH_ok hfo.1
    have hV0 := facV_pos hFO
    have hfc := hfo.2
    rw [HV.out] at hfc hV0
    have e18 : fcN V = fn ∧ fcD V = fd := ⟨by rw [← HFN.out, fcN, hfc]; rfl, by rw [← HFD.out, fcD, hfc]; rfl⟩
    obtain ⟨f1, f2, f3, f4, f5, f6⟩ := fcOk_ok hfc hV0
    have n1' : V.num = fn := HFN.out
    have n2' : (V.den : Int) = fd := HFD.out
    have r1 := sc_up x y V
    have r2 := sc_dn x y V hV0
    rw [HR1.out] at r1
    rw [HR2.out] at r2
    rw [n1', n2'] at r1 r2
    rw [n1'] at f1 f3 f5 f6
    rw [n2'] at f2 f4 f5 f6
    clear n1' n2' hfo
    have HC := Lib.hid hfc
    have H18 := Lib.hid e18
    have HR1' := Lib.hid r1
    have HR2' := Lib.hid r2
    clear hfc e18 r1 r2 hV0 hbad hbadF
    have y3_0 := cell_block y3 0
    have y3_1 := cell_block y3 1
    have y3_2 := cell_block y3 2
    have y3_3 := cell_block y3 3
    have y3_4 := cell_block y3 4
    have y3_5 := cell_block y3 5
    have y4_0 := cell_block y4 0
    have y4_1 := cell_block y4 1
    have y4_2 := cell_block y4 2
    go_wp2_with fail
    clear y3_0 y3_1 y3_2 y3_3 y3_4 y3_5 y4_0 y4_1 y4_2
    refine (rFactor_any n1 d1 n2 d2 n3 d3 a b c _ hFO).mono ?_
    rintro e w8 ⟨rfl, hs⟩
    replace y3 := blk_keep y3 hs
    replace y4 := blk_keep y4 hs
    replace y5 := blk_keep y5 hs
    replace z9 := blk_keep z9 hs
    replace z11 := blk_keep z11 hs
    replace z13 := blk_keep z13 hs
    replace z17 := blk_keep z17 hs
    replace BW := BW.trans (hs.mono BW.size)
    clear hs
    rw [HV.out, HC.out, H18.out.1, H18.out.2]
    have z18 := alloc_new w8 (.cells #[.int .i64 fn, .int .i64 fd] 77)
    have hk := (Below.refl w8.heap.size w8).alloc (Nat.le_refl _) (.cells #[.int .i64 fn, .int .i64 fd] 77)
    replace y3 := blk_keep y3 hk
    replace y4 := blk_keep y4 hk
    replace y5 := blk_keep y5 hk
    replace z9 := blk_keep z9 hk
    replace z11 := blk_keep z11 hk
    replace z13 := blk_keep z13 hk
    replace z17 := blk_keep z17 hk
    replace BW := BW.trans (hk.mono BW.size)
    clear hk
    have z9_0 := cell_block z9 0
    have z9_1 := cell_block z9 1
    have y5_0 := cell_block y5 0
    have y5_1 := cell_block y5 1
    have z18_0 := cell_block z18 0
    have z18_1 := cell_block z18 1
    have c3 : (fn != fn) = false := by simp
    have c4 : (fd != fd) = false := by simp
    go_wp2_with fail
    clear z18_0 z18_1
    obtain ⟨q5, hq5⟩ : ∃ q, w8.heap.size = q := ⟨_, rfl⟩
    rw [hq5] at z18 ⊢
    generalize w8.alloc (.cells #[.int .i64 fn, .int .i64 fd] 77) = W5 at *
    clear z9_0 z9_1 y5_0 y5_1
    refine (rValueErr_any x y _ hxy).mono ?_
    rintro e w9 ⟨rfl, hs⟩
    replace y3 := blk_keep y3 hs
    replace y4 := blk_keep y4 hs
    replace y5 := blk_keep y5 hs
    replace z9 := blk_keep z9 hs
    replace z11 := blk_keep z11 hs
    replace z13 := blk_keep z13 hs
    replace z17 := blk_keep z17 hs
    replace z18 := blk_keep z18 hs
    replace BW := BW.trans (hs.mono BW.size)
    clear hs
    obtain ⟨VE, hVE⟩ : ∃ E, valE x y = E := ⟨_, rfl⟩
    rw [hVE]
    have HVE := Lib.hid hVE
    clear hVE
    by_cases hz : VE = 0
    case neg =>
      have u1 : E1 = VE := by rw [← HE1.out, scE_zero, HVE.out, if_neg hz]
      have u2 : E2 = VE := by rw [← HE2.out, scE_zero, HVE.out, if_neg hz]
      have u3 : a1 = 0 ∧ a2 = 0 := ⟨by rw [← HA1.out, qN, if_neg (by rw [u1]; exact hz)], by rw [← HA2.out, qD, if_neg (by rw [u1]; exact hz)]⟩
      have u4 : b1 = 0 ∧ b2 = 0 := ⟨by rw [← HB1.out, qN, if_neg (by rw [u2]; exact hz)], by rw [← HB2.out, qD, if_neg (by rw [u2]; exact hz)]⟩
      obtain ⟨rfl, rfl⟩ := u3
      obtain ⟨rfl, rfl⟩ := u4
      have g1 : (VE != 0) = true := by simpa using hz
      clear HVE HE1 HE2 hz
      subst u1
      subst u2
      have z11_0 := cell_block z11 0
      have z11_1 := cell_block z11 1
      have z13_0 := cell_block z13 0
      have z13_1 := cell_block z13 1
      have z17_0 := cell_block z17 0
      have z17_1 := cell_block z17 1
      go_wp2_with fail
      go_ret
      exact ⟨ret_bool (by simp), BW⟩
    case pos =>
      subst hz
      obtain ⟨v1, v2, v3, v4⟩ := valE_ok HVE.out
      have u1 : unlessE (smQ R1) 8 = E1 := by rw [← HE1.out, scE_zero, HVE.out]; rfl
      have u2 : unlessE (smQ R2) 8 = E2 := by rw [← HE2.out, scE_zero, HVE.out]; rfl
      obtain ⟨s1, hs1⟩ : ∃ t, smQ R1 = t := ⟨_, rfl⟩
      obtain ⟨p1, hp1⟩ : ∃ t, (if smQ R1 then R1.num else 0) = t := ⟨_, rfl⟩
      obtain ⟨o1, ho1⟩ : ∃ t, (if smQ R1 then (R1.den : Int) else 0) = t := ⟨_, rfl⟩
      have m1 := sm_two u1 HA1.out HA2.out hp1 ho1
      rw [hs1] at m1
      have M1 := Lib.hid m1
      have P1 := Lib.hid hp1
      have O1 := Lib.hid ho1
      have S1 := Lib.hid hs1
      clear hp1 ho1 hs1 m1 u1
      obtain ⟨s2, hs2⟩ : ∃ t, smQ R2 = t := ⟨_, rfl⟩
      obtain ⟨p2, hp2⟩ : ∃ t, (if smQ R2 then R2.num else 0) = t := ⟨_, rfl⟩
      obtain ⟨o2, ho2⟩ : ∃ t, (if smQ R2 then (R2.den : Int) else 0) = t := ⟨_, rfl⟩
      have m2 := sm_two u2 HB1.out HB2.out hp2 ho2
      rw [hs2] at m2
      have M2 := Lib.hid m2
      have P2 := Lib.hid hp2
      have O2 := Lib.hid ho2
      have S2 := Lib.hid hs2
      clear hp2 ho2 hs2 m2 u2
      have y5_0 := cell_block y5 0
      have y5_1 := cell_block y5 1
      have z18_0 := cell_block z18 0
      have z18_1 := cell_block z18 1
      go_wp2_with fail
      clear y5_0 y5_1 z18_0 z18_1
      refine (Product_any x y fn fd _ v1 v2 f4 f5 v3 v4 ⟨by omega, f1⟩ f2 R1 HR1'.out).mono ?_
      rintro e w10 ⟨rfl, hs⟩
      replace y3 := blk_keep y3 hs
      replace y4 := blk_keep y4 hs
      replace y5 := blk_keep y5 hs
      replace z9 := blk_keep z9 hs
      replace z11 := blk_keep z11 hs
      replace z13 := blk_keep z13 hs
      replace z17 := blk_keep z17 hs
      replace z18 := blk_keep z18 hs
      replace BW := BW.trans (hs.mono BW.size)
      clear hs
      rw [P1.out, O1.out, S1.out]
      have z20 := alloc_new w10 (.cells #[.int .i64 p1, .int .i64 o1] 77)
      have hk := (Below.refl w10.heap.size w10).alloc (Nat.le_refl _) (.cells #[.int .i64 p1, .int .i64 o1] 77)
      replace y3 := blk_keep y3 hk
      replace y4 := blk_keep y4 hk
      replace y5 := blk_keep y5 hk
      replace z9 := blk_keep z9 hk
      replace z11 := blk_keep z11 hk
      replace z13 := blk_keep z13 hk
      replace z17 := blk_keep z17 hk
      replace z18 := blk_keep z18 hk
      replace BW := BW.trans (hk.mono BW.size)
      clear hk
      have y5_0 := cell_block y5 0
      have y5_1 := cell_block y5 1
      have z18_0 := cell_block z18 0
      have z18_1 := cell_block z18 1
      go_wp2_with fail
      obtain ⟨q6, hq6⟩ : ∃ q, w10.heap.size = q := ⟨_, rfl⟩
      rw [hq6] at z20 ⊢
      generalize w10.alloc (.cells #[.int .i64 p1, .int .i64 o1] 77) = W6 at *
      clear y5_0 y5_1 z18_0 z18_1
      refine (Product_any x y fd fn _ v1 v2 f3 f6 v3 v4 ⟨by omega, f2⟩ f1 R2 HR2'.out).mono ?_
      rintro e w11 ⟨rfl, hs⟩
      replace y3 := blk_keep y3 hs
      replace y4 := blk_keep y4 hs
      replace y5 := blk_keep y5 hs
      replace z9 := blk_keep z9 hs
      replace z11 := blk_keep z11 hs
      replace z13 := blk_keep z13 hs
      replace z17 := blk_keep z17 hs
      replace z18 := blk_keep z18 hs
      replace z20 := blk_keep z20 hs
      replace BW := BW.trans (hs.mono BW.size)
      clear hs
      rw [P2.out, O2.out, S2.out]
      have z22 := alloc_new w11 (.cells #[.int .i64 p2, .int .i64 o2] 77)
      have hk := (Below.refl w11.heap.size w11).alloc (Nat.le_refl _) (.cells #[.int .i64 p2, .int .i64 o2] 77)
      replace y3 := blk_keep y3 hk
      replace y4 := blk_keep y4 hk
      replace y5 := blk_keep y5 hk
      replace z9 := blk_keep z9 hk
      replace z11 := blk_keep z11 hk
      replace z13 := blk_keep z13 hk
      replace z17 := blk_keep z17 hk
      replace z18 := blk_keep z18 hk
      replace z20 := blk_keep z20 hk
      replace BW := BW.trans (hk.mono BW.size)
      clear hk
      have z11_0 := cell_block z11 0
      have z11_1 := cell_block z11 1
      have z13_0 := cell_block z13 0
      have z13_1 := cell_block z13 1
      have z17_0 := cell_block z17 0
      have z17_1 := cell_block z17 1
      have z20_0 := cell_block z20 0
      have z20_1 := cell_block z20 1
      have z22_0 := cell_block z22 0
      have z22_1 := cell_block z22 1
      have M1' := M1.out
      have M2' := M2.out
      clear M1 M2 HE1 HE2 HVE HA1 HA2 HB1 HB2 S1 S2 P1 P2 O1 O2 v1 v2 v3 v4 f1 f2 f3 f4 f5 f6 HR1' HR2' HR1 HR2 HC H18
      rcases M1' with ⟨rfl, rfl, rfl, rfl⟩ | ⟨rfl, rfl, rfl, rfl⟩ <;> rcases M2' with ⟨rfl, rfl, rfl, rfl⟩ | ⟨rfl, rfl, rfl, rfl⟩
      all_goals as_aux_lemma =>
        go_wp2_with fail
        go_ret
        exact ⟨ret_bool (by simp), BW⟩
end Go.Proofs.Ytaiikekgckjdeaa

namespace Go.Proofs.Ytaiikekgckjdeaa
set_option maxRecDepth 100000
open Go.ChangeShapes Go.WideShapes Go.ChangeAt Go.RowKit

theorem okWide_spot {P : Program} {w : World} {base : Nat} {t e : TypeId} {a : Addr} {n c : Nat} (ht : P.underlying t = some (.slice e)) (h : Value.okWide P w .any base t (.slice (some a) n c)) : a.spot = none := by
  simp only [Value.okWide, ht, Cell.okWide, Cell.ok, World.has] at h
  exact h.2.2.2.1
theorem add_none (b off i : Nat) : Addr.add ⟨b, off, none⟩ i = ⟨b, off + i, none⟩ := by
  unfold Addr.add
  split
  · simp_all
  · rfl
theorem Try.own' : ownKnob Try.prog.godebug = none := by kernel_rfl
theorem Try.laidOut' : laidOutB Try.prog = true := by kernel_rfl
theorem open_nums {H : Type} {enc : TypeId × Value → H} {w : World} {base : Nat} {v : Value} {d : DataW H} {p : List MemPlace}
    (hok : Value.okWide Try.prog w .any base 25 v) (h : DataW.Trod enc Try.prog w 0 (fun _ => true) true 25 v d p) :
    ∃ a n c l, v = .slice a n c ∧ SI w a n c l ∧ ∀ q ∈ l, (Lit.int .i64 q).wf = true := by
  obtain ⟨a, n, c, rfl⟩ := okWide_slice Try.underlying25 hok
  obtain ⟨fuel, hf⟩ := h
  rcases open_ints Try.underlying25 Try.underlying3 (by kernel_rfl) hf with ⟨hcs, _⟩ | ⟨x, l, c', zs, hcs, _, hl, hm, hz, _, hcell, hwz⟩
  · simp [Value.cells] at hcs
    obtain ⟨rfl, rfl, rfl⟩ := hcs
    exact ⟨none, 0, 0, [], rfl, Sl.nil w 1, by simp⟩
  · simp [Value.cells] at hcs
    obtain ⟨rfl, rfl, rfl⟩ := hcs
    have hs : x.spot = none := okWide_spot Try.underlying25 hok
    have hz' : zs.length = c := by simpa using hz
    refine ⟨some x, n, c, zs.take n, rfl, ⟨by simp; omega, hl, hm, .inr ?_⟩, fun q hq => hwz q (List.mem_of_mem_take hq)⟩
    obtain ⟨b, off, spot⟩ := x
    cases hs
    refine ⟨b, off, rfl, fun i hi => ?_⟩
    have := hcell i (by omega)
    rw [add_none] at this
    rw [this, List.getElem?_map, List.getElem?_take_of_lt (by omega), List.getElem?_eq_getElem (by omega)]
    simp [List.getD_eq_getElem?_getD, List.getElem?_eq_getElem (show i < zs.length by omega)]
theorem open_struct {H : Type} {enc : TypeId × Value → H} {P : Program} {w : World} {base : Nat} {t : TypeId} {fs : Array Field} {ts : List TypeId} {v : Value} {d : DataW H} {p : List MemPlace}
    (ht : P.underlying t = some (.struct fs)) (hts : P.cellTypes P.depth t = some ts) (hok : Value.okWide P w .any base t v) (h : DataW.Trod enc P w 0 (fun _ => true) true t v d p) :
    ∃ cs : Array Value, v = .agg cs ∧ cs.size = P.cellsOf t ∧ (∀ (i : Nat) (u : Value), cs[i]? = some u → ∃ ty, ts[i % ts.length]? = some ty ∧ Cell.okWide P w .any base ty u) ∧
      ∀ (i : Nat) (f : Field), fs[i]? = some f → ∃ fuel x, DataW.trod enc P w 0 (fun _ => true) true fuel f.type ((cs.toList.drop f.offset).take (P.cellsOf f.type)) = some x := by
  simp only [Value.okWide, ht] at hok
  obtain ⟨cs, rfl, hsz, ts', hts', _, hall⟩ := hok
  rw [hts] at hts'
  cases hts'
  obtain ⟨fuel, hf⟩ := h
  obtain ⟨xs, n, _, _, _, hxl, hx⟩ := DataW.trod_struct ht hf
  refine ⟨cs, rfl, hsz, hall, fun i f hfi => ?_⟩
  have := hx i f hfi
  have hlt : i < xs.length := by
    have := (Array.getElem?_eq_some_iff.1 hfi).1
    omega
  rw [List.getElem?_eq_getElem hlt] at this
  exact ⟨n, _, this⟩
theorem cell_of_int {H : Type} {enc : TypeId × Value → H} {P : Program} {w : World} {fuel : Nat} {t : TypeId} {k : IntKind} {u : Value} {x : DataW H × List MemPlace} (ht : P.underlying t = some (.int k))
    (h : DataW.trod enc P w 0 (fun _ => true) true fuel t [u] = some x) : ∃ n, u = .int k n ∧ (Lit.int k n).wf = true := by
  obtain ⟨n, hn, _, hw⟩ := DataW.trod_int ht h
  cases hn
  exact ⟨n, rfl, hw⟩
theorem cell_of_slice {H : Type} {enc : TypeId × Value → H} {P : Program} {w : World} {base fuel : Nat} {t e : TypeId} {u : Value} {x : DataW H × List MemPlace} (ht : P.underlying t = some (.slice e)) (hok : Cell.okWide P w .any base t u)
    (h : DataW.trod enc P w 0 (fun _ => true) true fuel t [u] = some x) : Value.okWide P w .any base t u ∧ ∃ d p, DataW.Trod enc P w 0 (fun _ => true) true t u d p := by
  have h1 : Value.okWide P w .any base t u := by
    simp only [Value.okWide, ht]
    exact hok
  obtain ⟨a, n, c, rfl⟩ := okWide_slice ht h1
  exact ⟨h1, x.1, x.2, fuel, by simpa [Value.cells] using h⟩
theorem two_cells {cs : Array Value} (h : cs.size = 2) : ∃ x y, cs = #[x, y] := by
  obtain ⟨l⟩ := cs
  match l, h with
  | [x, y], _ => exact ⟨x, y, rfl⟩
theorem open_frac {H : Type} {enc : TypeId × Value → H} {w : World} {base : Nat} {v : Value} {d : DataW H} {p : List MemPlace}
    (hok : Value.okWide Try.prog w .any base 77 v) (h : DataW.Trod enc Try.prog w 0 (fun _ => true) true 77 v d p) :
    ∃ x y, v = .agg #[.int .i64 x, .int .i64 y] ∧ (Lit.int .i64 x).wf = true ∧ (Lit.int .i64 y).wf = true := by
  obtain ⟨cs, rfl, hsz, hall, hf⟩ := open_struct (ts := [3, 3]) Try.underlying77 (by kernel_rfl) hok h
  obtain ⟨x, y, rfl⟩ := two_cells (hsz.trans (by kernel_rfl))
  obtain ⟨m0, x0, h0⟩ := hf 0 _ rfl
  obtain ⟨m1, x1, h1⟩ := hf 1 _ rfl
  simp only at h0 h1
  obtain ⟨n, rfl, hw⟩ := cell_of_int Try.underlying3 h0
  obtain ⟨m, rfl, hw'⟩ := cell_of_int Try.underlying3 h1
  exact ⟨n, m, rfl, hw, hw'⟩
theorem wf_i64 {x : Int} (h : (Lit.int .i64 x).wf = true) : -9223372036854775808 ≤ x ∧ x ≤ 9223372036854775807 := by
  unfold Lit.wf at h
  rw [Bool.and_eq_true] at h
  exact ⟨of_decide_eq_true h.1, of_decide_eq_true h.2⟩

theorem trod_frac {H : Type} {enc : TypeId × Value → H} {w : World} {fuel : Nat} {cs : List Value} {x : DataW H × List MemPlace} (h : DataW.trod enc Try.prog w 0 (fun _ => true) true fuel 77 cs = some x) :
    ∃ a b, cs = [.int .i64 a, .int .i64 b] ∧ F64 a b := by
  obtain ⟨xs, n, _, _, hl, hxl, hx⟩ := DataW.trod_struct Try.underlying77 h
  have c2 : Try.prog.cellsOf 77 = 2 := by kernel_rfl
  rw [c2] at hl
  match cs, hl with
  | [p, q], _ =>
    have h0 := hx 0 _ rfl
    have h1 := hx 1 _ rfl
    rw [List.getElem?_eq_getElem (by simp at hxl; omega)] at h0 h1
    obtain ⟨n, rfl, hw⟩ := cell_of_int Try.underlying3 h0
    obtain ⟨m, rfl, hw'⟩ := cell_of_int Try.underlying3 h1
    exact ⟨n, m, rfl, wf_i64 hw, wf_i64 hw'⟩
/-- Three fractions that came in. -/
theorem open_fracs3 {H : Type} {enc : TypeId × Value → H} {w : World} {base : Nat} {v : Value} {d : DataW H} {p : List MemPlace}
    (hok : Value.okWide Try.prog w .any base 78 v) (h : DataW.Trod enc Try.prog w 0 (fun _ => true) true 78 v d p) :
    ∃ n1 d1 n2 d2 n3 d3, v = .agg #[.int .i64 n1, .int .i64 d1, .int .i64 n2, .int .i64 d2, .int .i64 n3, .int .i64 d3] ∧ F64 n1 d1 ∧ F64 n2 d2 ∧ F64 n3 d3 := by
  simp only [Value.okWide, Try.underlying78] at hok
  obtain ⟨cs, rfl, hsz, _⟩ := hok
  obtain ⟨fuel, hf⟩ := h
  obtain ⟨xs, n, _, _, _, hxl, hx⟩ := DataW.trod_array Try.underlying78 hf
  have c2 : Try.prog.cellsOf 77 = 2 := by kernel_rfl
  have c6 : cs.size = 6 := hsz.trans (by kernel_rfl)
  have h0 := hx 0 (by omega)
  have h1 := hx 1 (by omega)
  have h2 := hx 2 (by omega)
  simp only [c2] at h0 h1 h2
  rw [List.getElem?_eq_getElem (by omega)] at h0 h1 h2
  obtain ⟨n1, d1, e1, f1⟩ := trod_frac h0
  obtain ⟨n2, d2, e2, f2⟩ := trod_frac h1
  obtain ⟨n3, d3, e3, f3⟩ := trod_frac h2
  obtain ⟨l⟩ := cs
  match l, c6 with
  | [a, b, c, d, e, f], _ =>
    simp [Value.cells] at e1 e2 e3
    obtain ⟨rfl, rfl⟩ := e1
    obtain ⟨rfl, rfl⟩ := e2
    obtain ⟨rfl, rfl⟩ := e3
    exact ⟨n1, d1, n2, d2, n3, d3, rfl, f1, f2, f3⟩
theorem trod_ints3 {H : Type} {enc : TypeId × Value → H} {w : World} {fuel : Nat} {cs : List Value} {x : DataW H × List MemPlace} (h : DataW.trod enc Try.prog w 0 (fun _ => true) true fuel 79 cs = some x) :
    ∃ a b c, cs = [.int .i64 a, .int .i64 b, .int .i64 c] ∧ ((Lit.int .i64 a).wf = true ∧ (Lit.int .i64 b).wf = true ∧ (Lit.int .i64 c).wf = true) := by
  obtain ⟨xs, n, _, _, hl, hxl, hx⟩ := DataW.trod_array Try.underlying79 h
  have c2 : Try.prog.cellsOf 79 = 3 := by kernel_rfl
  have c3 : Try.prog.cellsOf 3 = 1 := by kernel_rfl
  rw [c2] at hl
  match cs, hl with
  | [p, q, r], _ =>
    have h0 := hx 0 (by omega)
    have h1 := hx 1 (by omega)
    have h2 := hx 2 (by omega)
    simp only [c3] at h0 h1 h2
    rw [List.getElem?_eq_getElem (by omega)] at h0 h1 h2
    obtain ⟨n, rfl, hw⟩ := cell_of_int Try.underlying3 h0
    obtain ⟨m, rfl, hw'⟩ := cell_of_int Try.underlying3 h1
    obtain ⟨k, rfl, hw''⟩ := cell_of_int Try.underlying3 h2
    exact ⟨n, m, k, rfl, hw, hw', hw''⟩
/-- Three exponents that came in. -/
theorem open_ints3 {H : Type} {enc : TypeId × Value → H} {w : World} {base : Nat} {v : Value} {d : DataW H} {p : List MemPlace}
    (hok : Value.okWide Try.prog w .any base 79 v) (h : DataW.Trod enc Try.prog w 0 (fun _ => true) true 79 v d p) :
    ∃ a b c, v = .agg #[.int .i64 a, .int .i64 b, .int .i64 c] ∧ (Lit.int .i64 a).wf = true ∧ (Lit.int .i64 b).wf = true ∧ (Lit.int .i64 c).wf = true := by
  simp only [Value.okWide, Try.underlying79] at hok
  obtain ⟨cs, rfl, hsz, _⟩ := hok
  obtain ⟨fuel, hf⟩ := h
  obtain ⟨a, b, c, e, hw⟩ := trod_ints3 hf
  obtain ⟨l⟩ := cs
  have e' : l = [.int .i64 a, .int .i64 b, .int .i64 c] := by simpa [Value.cells] using e
  subst e'
  exact ⟨a, b, c, rfl, hw⟩
end Go.Proofs.Ytaiikekgckjdeaa

namespace Go.Proofs.Ytaiikekgckjdeaa
set_option maxRecDepth 100000
open Go.ChangeShapes Go.WideShapes Go.ChangeAt Go.RowKit

/-- A number that came in. -/
theorem open_num {H : Type} {enc : TypeId × Value → H} {w : World} {base : Nat} {v : Value} {d : DataW H} {p : List MemPlace}
    (hok : Value.okWide Try.prog w .any base 3 v) (h : DataW.Trod enc Try.prog w 0 (fun _ => true) true 3 v d p) : ∃ x, v = .int .i64 x ∧ (Lit.int .i64 x).wf = true := by
  obtain ⟨n, rfl⟩ := okWide_int Try.underlying3 hok
  obtain ⟨fuel, hf⟩ := h
  obtain ⟨z, hz, hw⟩ := cell_of_int (u := .int .i64 n) Try.underlying3 (by simpa [Value.cells] using hf)
  cases hz
  exact ⟨n, rfl, hw⟩
/-- Two quantities that came in. -/
theorem open_qpair {H : Type} {enc : TypeId × Value → H} {w : World} {base : Nat} {v : Value} {d : DataW H} {p : List MemPlace}
    (hok : Value.okWide Try.prog w .any base 92 v) (h : DataW.Trod enc Try.prog w 0 (fun _ => true) true 92 v d p) :
    ∃ a b c x y z, v = .agg #[.int .i64 a, .int .i64 b, .int .i64 c, .int .i64 x, .int .i64 y, .int .i64 z] ∧ ((Lit.int .i64 a).wf = true ∧ (Lit.int .i64 b).wf = true ∧ (Lit.int .i64 c).wf = true) ∧ ((Lit.int .i64 x).wf = true ∧ (Lit.int .i64 y).wf = true ∧ (Lit.int .i64 z).wf = true) := by
  simp only [Value.okWide, Try.underlying92] at hok
  obtain ⟨cs, rfl, hsz, _⟩ := hok
  obtain ⟨fuel, hf⟩ := h
  obtain ⟨xs, n, _, _, _, hxl, hx⟩ := DataW.trod_struct Try.underlying92 hf
  have c2 : Try.prog.cellsOf 79 = 3 := by kernel_rfl
  have c6 : cs.size = 6 := hsz.trans (by kernel_rfl)
  have h0 := hx 0 _ rfl
  have h1 := hx 1 _ rfl
  rw [List.getElem?_eq_getElem (by simp at hxl; omega)] at h0 h1
  obtain ⟨a, b, c, e1, f1⟩ := trod_ints3 h0
  obtain ⟨x, y, z, e2, f2⟩ := trod_ints3 h1
  obtain ⟨l⟩ := cs
  match l, c6 with
  | [a', b', c', d', e', f'], _ =>
    simp [Value.cells, c2] at e1 e2
    obtain ⟨rfl, rfl, rfl⟩ := e1
    obtain ⟨rfl, rfl, rfl⟩ := e2
    exact ⟨_, _, _, _, _, _, rfl, f1, f2⟩
end Go.Proofs.Ytaiikekgckjdeaa
