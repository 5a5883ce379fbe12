/- Contracts of numbers of any size: the opposite, the sign, sums, differences, comparing. Contracts of numbers of any size: products. -/
import Derived.Test.YtfjcfbmfpefabaaGreatK04
namespace Go.Proofs.YtfjcfbmfpefabaaGreat
open Go.RowKit Go.Wides
open Calmly (Kept)

theorem field_wide0 (x y : Value) (w : World) : (Instr.field 78 (.agg #[x, y]) 0).run Tryz.prog w = .ok x w := by kernel_rfl
theorem field_wide1 (x y : Value) (w : World) : (Instr.field 78 (.agg #[x, y]) 1).run Tryz.prog w = .ok y w := by kernel_rfl
attribute [local go_sem] field_wide0 field_wide1
theorem WideV.val {w : World} {s : Int} {a : Option Addr} {n c : Nat} {z : Int} (h : WideV w s a n c z) : ∃ ds, SI w a n c ds ∧ In w 3 a ∧ Dg ds ∧ Nz ds ∧ dv ds = z.natAbs ∧ s * dv ds = z ∧ s = z.sign := by
  obtain ⟨ds, h1, h2, h3, h4, h5, h6⟩ := h
  exact ⟨ds, h1, h2, h3, h4, h5, by rw [h5, h6]; exact Int.sign_mul_natAbs z, h6⟩
theorem WideV.z0 {w : World} {s : Int} {a : Option Addr} {n c : Nat} {z : Int} (h : WideV w s a n c z) : s = 0 ↔ z = 0 := by
  obtain ⟨ds, _, _, _, _, _, rfl⟩ := h
  exact Int.sign_eq_zero_iff_zero
theorem WideV.mx {w : World} {s : Int} {a : Option Addr} {n c : Nat} {z : Int} (h : WideV w s a n c z) : n ≤ c ∧ c ≤ 9223372036854775807 := by
  obtain ⟨ds, h1, _⟩ := h
  exact ⟨h1.cap, h1.max⟩
theorem len_le_of_dv {xs ys : List Int} {n m : Nat} (h1 : Dg xs) (h2 : Dg ys) (hz : Nz ys) (hm : m = ys.length) (hn : n = xs.length) (h : dv ys ≤ dv xs) : m ≤ n := by
  rcases Nat.lt_or_ge n m with h' | h'
  · have := dv_lt_of_len h1 h2 hz (by omega)
    omega
  · exact h'
theorem sign_cases (z : Int) : (z.sign = -1 ∧ z < 0) ∨ (z.sign = 0 ∧ z = 0) ∨ (z.sign = 1 ∧ 0 < z) := by
  rcases Int.lt_trichotomy z 0 with h | h | h
  · exact .inl ⟨Int.sign_eq_neg_one_of_neg h, h⟩
  · exact .inr (.inl ⟨by rw [h]; rfl, h⟩)
  · exact .inr (.inr ⟨Int.sign_eq_one_of_pos h, h⟩)

set_option maxRecDepth 100000 in
set_option maxHeartbeats 400000 in
theorem WideSign_any (s : Int) (a : Option Addr) (n c : Nat) (w : World) :
    Calls Tryz.prog 90 #[.agg #[.int .i64 s, .slice a n c]] w fun e w' => e = .returned (.int .i64 s) ∧ Below w.heap.size w w' := by
  go_enter Tryz.func90, Tryz.ntmps90
  go_wp2_with fail
  go_ret
  exact ⟨rfl, (Below.refl _ _).alloc (Nat.le_refl _) _⟩

set_option maxRecDepth 100000 in
set_option maxHeartbeats 400000 in
theorem WideNeg_any (s : Int) (a : Option Addr) (n c : Nat) (z : Int) (w : World) (h : WideV w s a n c z) :
    Calls Tryz.prog 91 #[.agg #[.int .i64 s, .slice a n c]] w fun e w' => e = .returned (.agg #[.int .i64 (-s), .slice a n c]) ∧ WideV w' (-s) a n c (-z) ∧ Below w.heap.size w w' := by
  obtain ⟨hs1, hs2⟩ := h.s_bd
  go_enter Tryz.func91, Tryz.ntmps91
  go_wp2_with fail
  have hb : ∀ o1 o2, Below w.heap.size w ((w.alloc o1).alloc o2) := fun o1 o2 => ((Below.refl _ _).alloc (Nat.le_refl _) _).alloc (by simp) _
  refine bodyPost_ret (v := .agg #[.int .i64 (-s), .slice a n c]) (by simp [results, Tryz.results91, go_sem]) rfl ⟨rfl, ?_, hb _ _⟩
  obtain ⟨ds, h1, h2, h3, h4, h5, h6⟩ := h.keep (hb _ _)
  exact ⟨ds, h1, h2, h3, h4, by rw [Int.natAbs_neg]; exact h5, by rw [h6, Int.sign_neg]⟩

set_option maxRecDepth 100000 in
set_option maxHeartbeats 1000000 in
theorem WideAdd_any (s1 s2 : Int) (a1 a2 : Option Addr) (n1 n2 c1 c2 : Nat) (z1 z2 : Int) (w : World) (h1 : WideV w s1 a1 n1 c1 z1) (h2 : WideV w s2 a2 n2 c2 z2) (hn1 : n1 ≤ 1099511627776) (hn2 : n2 ≤ 1099511627776) :
    Calls Tryz.prog 68 #[.agg #[.int .i64 s1, .slice a1 n1 c1], .agg #[.int .i64 s2, .slice a2 n2 c2]] w fun e w' => ∃ s a m c, e = .returned (.agg #[.int .i64 s, .slice a m c]) ∧ (m ≤ max n1 n2 + 1 ∧ WideV w' s a m c (z1 + z2)) ∧ Below w.heap.size w w' := by
  have hb : ∀ o1 o2 o3, Below w.heap.size w (((w.alloc o1).alloc o2).alloc o3) := fun o1 o2 o3 => (((Below.refl _ _).alloc (Nat.le_refl _) _).alloc (by simp) _).alloc (by simp; omega) _
  obtain ⟨p1, p2⟩ := h1.s_bd
  obtain ⟨q1, q2⟩ := h2.s_bd
  have hz1 := h1.z0
  have hz2 := h2.z0
  by_cases e1 : s1 = 0
  · have t1 : (s1 == 0) = true := by simp [e1]
    have E := Lib.hid (hz1.1 e1)
    clear hz1 hz2 e1
    go_enter Tryz.func68, Tryz.ntmps68
    go_wp2_with fail
    refine bodyPost_ret (v := .agg #[.int .i64 s2, .slice a2 n2 c2]) (by simp [results, Tryz.results68, go_sem]) rfl ⟨s2, a2, n2, c2, rfl, ⟨by omega, ?_⟩, hb _ _ _⟩
    rw [E.out, Int.zero_add]
    exact h2.keep (hb _ _ _)
  have t1 : (s1 == 0) = false := by simp [e1]
  by_cases e2 : s2 = 0
  · have t2 : (s2 == 0) = true := by simp [e2]
    have E := Lib.hid (hz2.1 e2)
    clear hz1 hz2 e2
    go_enter Tryz.func68, Tryz.ntmps68
    go_wp2_with fail
    refine bodyPost_ret (v := .agg #[.int .i64 s1, .slice a1 n1 c1]) (by simp [results, Tryz.results68, go_sem]) rfl ⟨s1, a1, n1, c1, rfl, ⟨by omega, ?_⟩, hb _ _ _⟩
    rw [E.out, Int.add_zero]
    exact h1.keep (hb _ _ _)
  have t2 : (s2 == 0) = false := by simp [e2]
  clear hz1 hz2
  obtain ⟨d1, hs1, hi1, hd1, hz1, hv1, hm1, hg1⟩ := h1.val
  obtain ⟨d2, hs2, hi2, hd2, hz2, hv2, hm2, hg2⟩ := h2.val
  have r1 := sign_cases z1
  have r2 := sign_cases z2
  rw [← hg1] at r1
  rw [← hg2] at r2
  have HV1 := Lib.hid hv1
  have HV2 := Lib.hid hv2
  have HM1 := Lib.hid hm1
  have HM2 := Lib.hid hm2
  have R1 := Lib.hid r1
  have R2 := Lib.hid r2
  have n1' := hd1
  clear hv1 hv2 hm1 hm2 hg1 hg2 r1 r2 h1 h2
  by_cases e3 : s1 = s2
  · have t3 : (s1 == s2) = true := by simp [e3]
    have E3 := Lib.hid e3
    clear e3
    go_enter Tryz.func68, Tryz.ntmps68
    go_wp2_with fail
    refine Calmly.wp_region_mix 8 (.fl 0 <| .fl 1 <| .fl 2 <| .fl 3 <| .fl 4 <| .fl 5 <| .eff 6 <| .eff 7 <| .tail [8]) (by kernel_rfl) (by kernel_rfl) ?_
    have hB := (hb (.cells #[.int .i64 s1, .slice a1 n1 c1] 78) (.cells #[.int .i64 s2, .slice a2 n2 c2] 78) (.cells #[.int .i64 0, .slice none 0 0] 78)).drew
    have hT := (BlkT.new ((w.alloc (.cells #[.int .i64 s1, .slice a1 n1 c1] 78)).alloc (.cells #[.int .i64 s2, .slice a2 n2 c2] 78)) #[.int .i64 0, .slice none 0 0] 78).drew
    simp only [World.size_alloc] at hT
    generalize hW : (((w.alloc _).alloc _).alloc _).drew = W at hB hT
    have hk : Below W.heap.size W W := Below.refl _ W
    have k1 := hs1.keep hB
    have k2 := hs2.keep hB
    subst hW
    go_wp2_with (first | ((with_reducible refine Calmly.is_fl ?_); refine Calmly.mix_fl rfl ?_ (fun _ _ => ?_); (first | exact .move _ | exact .load _ _ | exact .fieldAddr _ _ _ (by kernel_rfl) | exact .assign _ | exact .binOp _ _ _ _ _ rfl | exact .indexAddr _ _ _ | exact .len _ _ (by kernel_rfl) | exact .field _ _ _ | exact .extract _ _ | exact .pick _ _ _ | exact .build _ _ | exact .slice _ _ _ _ _ | exact .unOp _ _ _ rfl | exact .index _ _ _ | exact .max _ _ _ rfl rfl | exact .min _ _ _ rfl rfl)) | ((with_reducible refine Calmly.is_gl ?_); refine Calmly.mix_gl rfl rfl rfl ?_; first | ((first | with_reducible refine Calmly.gl_tt ?_ (fun _ _ => ?_) | with_reducible refine Calmly.gl_ff ?_ (fun _ _ => ?_)); (first | exact .move _ | exact .load _ _ | exact .fieldAddr _ _ _ (by kernel_rfl) | exact .assign _ | exact .binOp _ _ _ _ _ rfl | exact .indexAddr _ _ _ | exact .len _ _ (by kernel_rfl) | exact .field _ _ _ | exact .extract _ _ | exact .pick _ _ _ | exact .build _ _ | exact .slice _ _ _ _ _ | exact .unOp _ _ _ rfl | exact .index _ _ _ | exact .max _ _ _ rfl rfl | exact .min _ _ _ rfl rfl)) | with_reducible refine Calmly.gl_tf (fun _ _ => ?_) | with_reducible refine Calmly.gl_ft (fun _ _ => ?_)) | ((with_reducible refine Calmly.is_eff ?_); refine Calmly.mix_eff rfl (fun _ _ => ?_)) | ((with_reducible refine Calmly.is_gf ?_); refine Calmly.mix_gf rfl rfl rfl ?_; first | with_reducible refine Calmly.gf_tt (fun _ _ => ?_) | with_reducible refine Calmly.gf_ff (fun _ _ => ?_) | with_reducible refine Calmly.gf_tf (kept_of hk) (fun _ _ => ?_) | with_reducible refine Calmly.gf_ft (kept_of hk) (fun _ _ => ?_)) | ((with_reducible refine Calmly.is_tail ?_); first | refine Calmly.mix_tail_nil ?_ | refine Calmly.mix_tail rfl (fun _ _ => ?_)) | ((with_reducible refine Calmly.is_kept ?_); refine ⟨kept_of hk, ?_⟩) | (with_reducible refine Calmly.mix_alt ?_ ?_))
    refine (addDigits_any a1 a2 n1 n2 c1 c2 d1 d2 _ k1 k2 hd1 hd2 hn1 hn2).mono ?_
    rintro e w1 ⟨a', m', c', rfl, ⟨ds, ho, hd, hdv, hm'⟩, hb1⟩
    replace hk := step_of hk hb1
    have HDV := Lib.hid hdv
    clear hdv
    have E3' := E3.out
    have hsg : SgOk s1 ds := by
      rcases R1.out with ⟨h, _⟩ | ⟨h, _⟩ | ⟨h, _⟩
      · exact .inr (.inl h)
      · exact absurd h e1
      · exact .inl h
    clear E3'
    go_wp2_with (first | ((with_reducible refine Calmly.is_fl ?_); refine Calmly.mix_fl rfl ?_ (fun _ _ => ?_); (first | exact .move _ | exact .load _ _ | exact .fieldAddr _ _ _ (by kernel_rfl) | exact .assign _ | exact .binOp _ _ _ _ _ rfl | exact .indexAddr _ _ _ | exact .len _ _ (by kernel_rfl) | exact .field _ _ _ | exact .extract _ _ | exact .pick _ _ _ | exact .build _ _ | exact .slice _ _ _ _ _ | exact .unOp _ _ _ rfl | exact .index _ _ _ | exact .max _ _ _ rfl rfl | exact .min _ _ _ rfl rfl)) | ((with_reducible refine Calmly.is_gl ?_); refine Calmly.mix_gl rfl rfl rfl ?_; first | ((first | with_reducible refine Calmly.gl_tt ?_ (fun _ _ => ?_) | with_reducible refine Calmly.gl_ff ?_ (fun _ _ => ?_)); (first | exact .move _ | exact .load _ _ | exact .fieldAddr _ _ _ (by kernel_rfl) | exact .assign _ | exact .binOp _ _ _ _ _ rfl | exact .indexAddr _ _ _ | exact .len _ _ (by kernel_rfl) | exact .field _ _ _ | exact .extract _ _ | exact .pick _ _ _ | exact .build _ _ | exact .slice _ _ _ _ _ | exact .unOp _ _ _ rfl | exact .index _ _ _ | exact .max _ _ _ rfl rfl | exact .min _ _ _ rfl rfl)) | with_reducible refine Calmly.gl_tf (fun _ _ => ?_) | with_reducible refine Calmly.gl_ft (fun _ _ => ?_)) | ((with_reducible refine Calmly.is_eff ?_); refine Calmly.mix_eff rfl (fun _ _ => ?_)) | ((with_reducible refine Calmly.is_gf ?_); refine Calmly.mix_gf rfl rfl rfl ?_; first | with_reducible refine Calmly.gf_tt (fun _ _ => ?_) | with_reducible refine Calmly.gf_ff (fun _ _ => ?_) | with_reducible refine Calmly.gf_tf (kept_of hk) (fun _ _ => ?_) | with_reducible refine Calmly.gf_ft (kept_of hk) (fun _ _ => ?_)) | ((with_reducible refine Calmly.is_tail ?_); first | refine Calmly.mix_tail_nil ?_ | refine Calmly.mix_tail rfl (fun _ _ => ?_)) | ((with_reducible refine Calmly.is_kept ?_); refine ⟨kept_of hk, ?_⟩) | (with_reducible refine Calmly.mix_alt ?_ ?_))
    refine (wideOf_any s1 a' m' c' ds _ ho.si (In.of_owns ho) hd hsg).mono ?_
    rintro e w2 ⟨s', m2, rfl, ⟨hm2, hv⟩, hb2⟩
    replace hk := step_of hk hb2
    obtain ⟨hkc, hkf⟩ := cells_of hk
    have hT2 := hT.keep hk
    go_wp2_with (first | ((with_reducible refine Calmly.is_fl ?_); refine Calmly.mix_fl rfl ?_ (fun _ _ => ?_); (first | exact .move _ | exact .load _ _ | exact .fieldAddr _ _ _ (by kernel_rfl) | exact .assign _ | exact .binOp _ _ _ _ _ rfl | exact .indexAddr _ _ _ | exact .len _ _ (by kernel_rfl) | exact .field _ _ _ | exact .extract _ _ | exact .pick _ _ _ | exact .build _ _ | exact .slice _ _ _ _ _ | exact .unOp _ _ _ rfl | exact .index _ _ _ | exact .max _ _ _ rfl rfl | exact .min _ _ _ rfl rfl)) | ((with_reducible refine Calmly.is_gl ?_); refine Calmly.mix_gl rfl rfl rfl ?_; first | ((first | with_reducible refine Calmly.gl_tt ?_ (fun _ _ => ?_) | with_reducible refine Calmly.gl_ff ?_ (fun _ _ => ?_)); (first | exact .move _ | exact .load _ _ | exact .fieldAddr _ _ _ (by kernel_rfl) | exact .assign _ | exact .binOp _ _ _ _ _ rfl | exact .indexAddr _ _ _ | exact .len _ _ (by kernel_rfl) | exact .field _ _ _ | exact .extract _ _ | exact .pick _ _ _ | exact .build _ _ | exact .slice _ _ _ _ _ | exact .unOp _ _ _ rfl | exact .index _ _ _ | exact .max _ _ _ rfl rfl | exact .min _ _ _ rfl rfl)) | with_reducible refine Calmly.gl_tf (fun _ _ => ?_) | with_reducible refine Calmly.gl_ft (fun _ _ => ?_)) | ((with_reducible refine Calmly.is_eff ?_); refine Calmly.mix_eff rfl (fun _ _ => ?_)) | ((with_reducible refine Calmly.is_gf ?_); refine Calmly.mix_gf rfl rfl rfl ?_; first | with_reducible refine Calmly.gf_tt (fun _ _ => ?_) | with_reducible refine Calmly.gf_ff (fun _ _ => ?_) | with_reducible refine Calmly.gf_tf (kept_of hk) (fun _ _ => ?_) | with_reducible refine Calmly.gf_ft (kept_of hk) (fun _ _ => ?_)) | ((with_reducible refine Calmly.is_tail ?_); first | refine Calmly.mix_tail_nil ?_ | refine Calmly.mix_tail rfl (fun _ _ => ?_)) | ((with_reducible refine Calmly.is_kept ?_); refine ⟨kept_of hk, ?_⟩) | (with_reducible refine Calmly.mix_alt ?_ ?_))
    refine bodyPost_ret (v := .agg #[.int .i64 s', .slice a' m2 c']) (by simp [results, Tryz.results68, go_sem, hkc]) rfl ⟨s', a', m2, c', rfl, ⟨by omega, ?_⟩, ?_⟩
    · have : s1 * dv ds = z1 + z2 := by rw [HDV.out, ← HM1.out, ← HM2.out, ← E3.out]; grind
      rw [this] at hv
      exact (hv.set hT2 (by decide)).set (hT2.set _ _) (by decide)
    · exact ((hB.trans (hk.mono (by simp; omega))).setCell (by simp; omega) _).setCell (by simp; omega) _
  have t3 : (s1 == s2) = false := by simp [e3]
  have hopp : Hid (s1 = -s2) := by
    show s1 = -s2
    rcases R1.out with ⟨h, _⟩ | ⟨h, _⟩ | ⟨h, _⟩ <;> rcases R2.out with ⟨h', _⟩ | ⟨h', _⟩ | ⟨h', _⟩ <;> omega
  have HL1 := Lib.hid hs1.len
  have HL2 := Lib.hid hs2.len
  rcases Int.lt_trichotomy (dv d1) (dv d2) with hlt | heq | hgt
  · have hc := cmpI_lt hlt
    have HC := Lib.hid hc
    clear hc
    go_enter Tryz.func68, Tryz.ntmps68
    go_wp2_with fail
    have hb3 := hb (.cells #[.int .i64 s1, .slice a1 n1 c1] 78) (.cells #[.int .i64 s2, .slice a2 n2 c2] 78) (.cells #[.int .i64 0, .slice none 0 0] 78)
    refine (cmpDigits_any a1 a2 n1 n2 c1 c2 d1 d2 _ (hs1.keep hb3) (hs2.keep hb3) hd1 hd2 hz1 hz2).mono ?_
    rintro e w' ⟨rfl, q, rfl⟩
    rw [HC.out]
    go_wp2_with fail
    refine Calmly.wp_region_mix 8 (.fl 0 <| .fl 1 <| .fl 2 <| .fl 3 <| .fl 4 <| .fl 5 <| .eff 6 <| .eff 7 <| .tail [8]) (by kernel_rfl) (by kernel_rfl) ?_
    have hB := (below_drewN hb3 q).drew
    have hT := (BlkT.new ((w.alloc (.cells #[.int .i64 s1, .slice a1 n1 c1] 78)).alloc (.cells #[.int .i64 s2, .slice a2 n2 c2] 78)) #[.int .i64 0, .slice none 0 0] 78)
    simp only [World.size_alloc] at hT
    have hTd := hT.drewN q
    have hTd2 := hTd.drew
    generalize hW : ((((w.alloc _).alloc _).alloc _).drewN q).drew = W at hB hTd2
    have hk : Below W.heap.size W W := Below.refl _ W
    have k1 := hs1.keep hB
    have k2 := hs2.keep hB
    subst hW
    go_wp2_with (first | ((with_reducible refine Calmly.is_fl ?_); refine Calmly.mix_fl rfl ?_ (fun _ _ => ?_); (first | exact .move _ | exact .load _ _ | exact .fieldAddr _ _ _ (by kernel_rfl) | exact .assign _ | exact .binOp _ _ _ _ _ rfl | exact .indexAddr _ _ _ | exact .len _ _ (by kernel_rfl) | exact .field _ _ _ | exact .extract _ _ | exact .pick _ _ _ | exact .build _ _ | exact .slice _ _ _ _ _ | exact .unOp _ _ _ rfl | exact .index _ _ _ | exact .max _ _ _ rfl rfl | exact .min _ _ _ rfl rfl)) | ((with_reducible refine Calmly.is_gl ?_); refine Calmly.mix_gl rfl rfl rfl ?_; first | ((first | with_reducible refine Calmly.gl_tt ?_ (fun _ _ => ?_) | with_reducible refine Calmly.gl_ff ?_ (fun _ _ => ?_)); (first | exact .move _ | exact .load _ _ | exact .fieldAddr _ _ _ (by kernel_rfl) | exact .assign _ | exact .binOp _ _ _ _ _ rfl | exact .indexAddr _ _ _ | exact .len _ _ (by kernel_rfl) | exact .field _ _ _ | exact .extract _ _ | exact .pick _ _ _ | exact .build _ _ | exact .slice _ _ _ _ _ | exact .unOp _ _ _ rfl | exact .index _ _ _ | exact .max _ _ _ rfl rfl | exact .min _ _ _ rfl rfl)) | with_reducible refine Calmly.gl_tf (fun _ _ => ?_) | with_reducible refine Calmly.gl_ft (fun _ _ => ?_)) | ((with_reducible refine Calmly.is_eff ?_); refine Calmly.mix_eff rfl (fun _ _ => ?_)) | ((with_reducible refine Calmly.is_gf ?_); refine Calmly.mix_gf rfl rfl rfl ?_; first | with_reducible refine Calmly.gf_tt (fun _ _ => ?_) | with_reducible refine Calmly.gf_ff (fun _ _ => ?_) | with_reducible refine Calmly.gf_tf (kept_of hk) (fun _ _ => ?_) | with_reducible refine Calmly.gf_ft (kept_of hk) (fun _ _ => ?_)) | ((with_reducible refine Calmly.is_tail ?_); first | refine Calmly.mix_tail_nil ?_ | refine Calmly.mix_tail rfl (fun _ _ => ?_)) | ((with_reducible refine Calmly.is_kept ?_); refine ⟨kept_of hk, ?_⟩) | (with_reducible refine Calmly.mix_alt ?_ ?_))
    refine (subDigits_any a2 a1 n2 n1 c2 c1 d2 d1 _ k2 k1 hd2 hd1 (by omega) (len_le_of_dv hd2 hd1 hz1 HL1.out HL2.out (by omega)) hn2).mono ?_
    rintro e w1 ⟨a', m', c', rfl, ⟨ds, ho, hoi, hd, hz, hdv, hm'⟩, hb1⟩
    replace hk := step_of hk hb1
    have HDV := Lib.hid hdv
    clear hdv
    have hsg : SgOk s2 ds := by
      rcases R2.out with ⟨h, _⟩ | ⟨h, _⟩ | ⟨h, _⟩
      · exact .inr (.inl h)
      · exact absurd h e2
      · exact .inl h
    go_wp2_with (first | ((with_reducible refine Calmly.is_fl ?_); refine Calmly.mix_fl rfl ?_ (fun _ _ => ?_); (first | exact .move _ | exact .load _ _ | exact .fieldAddr _ _ _ (by kernel_rfl) | exact .assign _ | exact .binOp _ _ _ _ _ rfl | exact .indexAddr _ _ _ | exact .len _ _ (by kernel_rfl) | exact .field _ _ _ | exact .extract _ _ | exact .pick _ _ _ | exact .build _ _ | exact .slice _ _ _ _ _ | exact .unOp _ _ _ rfl | exact .index _ _ _ | exact .max _ _ _ rfl rfl | exact .min _ _ _ rfl rfl)) | ((with_reducible refine Calmly.is_gl ?_); refine Calmly.mix_gl rfl rfl rfl ?_; first | ((first | with_reducible refine Calmly.gl_tt ?_ (fun _ _ => ?_) | with_reducible refine Calmly.gl_ff ?_ (fun _ _ => ?_)); (first | exact .move _ | exact .load _ _ | exact .fieldAddr _ _ _ (by kernel_rfl) | exact .assign _ | exact .binOp _ _ _ _ _ rfl | exact .indexAddr _ _ _ | exact .len _ _ (by kernel_rfl) | exact .field _ _ _ | exact .extract _ _ | exact .pick _ _ _ | exact .build _ _ | exact .slice _ _ _ _ _ | exact .unOp _ _ _ rfl | exact .index _ _ _ | exact .max _ _ _ rfl rfl | exact .min _ _ _ rfl rfl)) | with_reducible refine Calmly.gl_tf (fun _ _ => ?_) | with_reducible refine Calmly.gl_ft (fun _ _ => ?_)) | ((with_reducible refine Calmly.is_eff ?_); refine Calmly.mix_eff rfl (fun _ _ => ?_)) | ((with_reducible refine Calmly.is_gf ?_); refine Calmly.mix_gf rfl rfl rfl ?_; first | with_reducible refine Calmly.gf_tt (fun _ _ => ?_) | with_reducible refine Calmly.gf_ff (fun _ _ => ?_) | with_reducible refine Calmly.gf_tf (kept_of hk) (fun _ _ => ?_) | with_reducible refine Calmly.gf_ft (kept_of hk) (fun _ _ => ?_)) | ((with_reducible refine Calmly.is_tail ?_); first | refine Calmly.mix_tail_nil ?_ | refine Calmly.mix_tail rfl (fun _ _ => ?_)) | ((with_reducible refine Calmly.is_kept ?_); refine ⟨kept_of hk, ?_⟩) | (with_reducible refine Calmly.mix_alt ?_ ?_))
    refine (wideOf_any s2 a' m' c' ds _ ho hoi hd hsg).mono ?_
    rintro e w2 ⟨s', m2, rfl, ⟨hm2, hv⟩, hb2⟩
    replace hk := step_of hk hb2
    obtain ⟨hkc, hkf⟩ := cells_of hk
    have hT2 := hTd2.keep hk
    go_wp2_with (first | ((with_reducible refine Calmly.is_fl ?_); refine Calmly.mix_fl rfl ?_ (fun _ _ => ?_); (first | exact .move _ | exact .load _ _ | exact .fieldAddr _ _ _ (by kernel_rfl) | exact .assign _ | exact .binOp _ _ _ _ _ rfl | exact .indexAddr _ _ _ | exact .len _ _ (by kernel_rfl) | exact .field _ _ _ | exact .extract _ _ | exact .pick _ _ _ | exact .build _ _ | exact .slice _ _ _ _ _ | exact .unOp _ _ _ rfl | exact .index _ _ _ | exact .max _ _ _ rfl rfl | exact .min _ _ _ rfl rfl)) | ((with_reducible refine Calmly.is_gl ?_); refine Calmly.mix_gl rfl rfl rfl ?_; first | ((first | with_reducible refine Calmly.gl_tt ?_ (fun _ _ => ?_) | with_reducible refine Calmly.gl_ff ?_ (fun _ _ => ?_)); (first | exact .move _ | exact .load _ _ | exact .fieldAddr _ _ _ (by kernel_rfl) | exact .assign _ | exact .binOp _ _ _ _ _ rfl | exact .indexAddr _ _ _ | exact .len _ _ (by kernel_rfl) | exact .field _ _ _ | exact .extract _ _ | exact .pick _ _ _ | exact .build _ _ | exact .slice _ _ _ _ _ | exact .unOp _ _ _ rfl | exact .index _ _ _ | exact .max _ _ _ rfl rfl | exact .min _ _ _ rfl rfl)) | with_reducible refine Calmly.gl_tf (fun _ _ => ?_) | with_reducible refine Calmly.gl_ft (fun _ _ => ?_)) | ((with_reducible refine Calmly.is_eff ?_); refine Calmly.mix_eff rfl (fun _ _ => ?_)) | ((with_reducible refine Calmly.is_gf ?_); refine Calmly.mix_gf rfl rfl rfl ?_; first | with_reducible refine Calmly.gf_tt (fun _ _ => ?_) | with_reducible refine Calmly.gf_ff (fun _ _ => ?_) | with_reducible refine Calmly.gf_tf (kept_of hk) (fun _ _ => ?_) | with_reducible refine Calmly.gf_ft (kept_of hk) (fun _ _ => ?_)) | ((with_reducible refine Calmly.is_tail ?_); first | refine Calmly.mix_tail_nil ?_ | refine Calmly.mix_tail rfl (fun _ _ => ?_)) | ((with_reducible refine Calmly.is_kept ?_); refine ⟨kept_of hk, ?_⟩) | (with_reducible refine Calmly.mix_alt ?_ ?_))
    refine bodyPost_ret (v := .agg #[.int .i64 s', .slice a' m2 c']) (by simp [results, Tryz.results68, go_sem, hkc]) rfl ⟨s', a', m2, c', rfl, ⟨by omega, ?_⟩, ?_⟩
    · have : s2 * dv ds = z1 + z2 := by
        rw [HDV.out, ← HM1.out, ← HM2.out]
        have := hopp.out
        rw [show s1 = -s2 from this]; grind
      rw [this] at hv
      exact (hv.set hT2 (by decide)).set (hT2.set _ _) (by decide)
    · exact ((hB.trans (hk.mono (by simp; omega))).setCell (by simp; omega) _).setCell (by simp; omega) _
  · have hc := cmpI_eq heq
    have HC := Lib.hid hc
    have HEQ := Lib.hid heq
    clear hc heq
    go_enter Tryz.func68, Tryz.ntmps68
    go_wp2_with fail
    have hb3 := hb (.cells #[.int .i64 s1, .slice a1 n1 c1] 78) (.cells #[.int .i64 s2, .slice a2 n2 c2] 78) (.cells #[.int .i64 0, .slice none 0 0] 78)
    refine (cmpDigits_any a1 a2 n1 n2 c1 c2 d1 d2 _ (hs1.keep hb3) (hs2.keep hb3) hd1 hd2 hz1 hz2).mono ?_
    rintro e w' ⟨rfl, q, rfl⟩
    rw [HC.out]
    go_wp2_with fail
    refine bodyPost_ret (v := .agg #[.int .i64 0, .slice none 0 0]) (by simp [results, Tryz.results68, go_sem]) rfl ⟨0, none, 0, 0, rfl, ⟨by omega, ?_⟩, ((below_drewN (hb _ _ _) q).setCell (by simp; omega) _).setCell (by simp; omega) _⟩
    have : z1 + z2 = 0 := by
      rw [← HM1.out, ← HM2.out, HEQ.out, show s1 = -s2 from hopp.out]; grind
    rw [this]
    exact WideV.zero _
  · have hc := cmpI_gt hgt
    have HC := Lib.hid hc
    clear hc
    go_enter Tryz.func68, Tryz.ntmps68
    go_wp2_with fail
    have hb3 := hb (.cells #[.int .i64 s1, .slice a1 n1 c1] 78) (.cells #[.int .i64 s2, .slice a2 n2 c2] 78) (.cells #[.int .i64 0, .slice none 0 0] 78)
    refine (cmpDigits_any a1 a2 n1 n2 c1 c2 d1 d2 _ (hs1.keep hb3) (hs2.keep hb3) hd1 hd2 hz1 hz2).mono ?_
    rintro e w' ⟨rfl, q, rfl⟩
    rw [HC.out]
    go_wp2_with fail
    refine Calmly.wp_region_mix 8 (.fl 0 <| .fl 1 <| .fl 2 <| .fl 3 <| .fl 4 <| .fl 5 <| .eff 6 <| .eff 7 <| .tail [8]) (by kernel_rfl) (by kernel_rfl) ?_
    have hB := (below_drewN hb3 q).drew
    have hT := (BlkT.new ((w.alloc (.cells #[.int .i64 s1, .slice a1 n1 c1] 78)).alloc (.cells #[.int .i64 s2, .slice a2 n2 c2] 78)) #[.int .i64 0, .slice none 0 0] 78)
    simp only [World.size_alloc] at hT
    have hTd := hT.drewN q
    have hTd2 := hTd.drew
    generalize hW : ((((w.alloc _).alloc _).alloc _).drewN q).drew = W at hB hTd2
    have hk : Below W.heap.size W W := Below.refl _ W
    have k1 := hs1.keep hB
    have k2 := hs2.keep hB
    subst hW
    go_wp2_with (first | ((with_reducible refine Calmly.is_fl ?_); refine Calmly.mix_fl rfl ?_ (fun _ _ => ?_); (first | exact .move _ | exact .load _ _ | exact .fieldAddr _ _ _ (by kernel_rfl) | exact .assign _ | exact .binOp _ _ _ _ _ rfl | exact .indexAddr _ _ _ | exact .len _ _ (by kernel_rfl) | exact .field _ _ _ | exact .extract _ _ | exact .pick _ _ _ | exact .build _ _ | exact .slice _ _ _ _ _ | exact .unOp _ _ _ rfl | exact .index _ _ _ | exact .max _ _ _ rfl rfl | exact .min _ _ _ rfl rfl)) | ((with_reducible refine Calmly.is_gl ?_); refine Calmly.mix_gl rfl rfl rfl ?_; first | ((first | with_reducible refine Calmly.gl_tt ?_ (fun _ _ => ?_) | with_reducible refine Calmly.gl_ff ?_ (fun _ _ => ?_)); (first | exact .move _ | exact .load _ _ | exact .fieldAddr _ _ _ (by kernel_rfl) | exact .assign _ | exact .binOp _ _ _ _ _ rfl | exact .indexAddr _ _ _ | exact .len _ _ (by kernel_rfl) | exact .field _ _ _ | exact .extract _ _ | exact .pick _ _ _ | exact .build _ _ | exact .slice _ _ _ _ _ | exact .unOp _ _ _ rfl | exact .index _ _ _ | exact .max _ _ _ rfl rfl | exact .min _ _ _ rfl rfl)) | with_reducible refine Calmly.gl_tf (fun _ _ => ?_) | with_reducible refine Calmly.gl_ft (fun _ _ => ?_)) | ((with_reducible refine Calmly.is_eff ?_); refine Calmly.mix_eff rfl (fun _ _ => ?_)) | ((with_reducible refine Calmly.is_gf ?_); refine Calmly.mix_gf rfl rfl rfl ?_; first | with_reducible refine Calmly.gf_tt (fun _ _ => ?_) | with_reducible refine Calmly.gf_ff (fun _ _ => ?_) | with_reducible refine Calmly.gf_tf (kept_of hk) (fun _ _ => ?_) | with_reducible refine Calmly.gf_ft (kept_of hk) (fun _ _ => ?_)) | ((with_reducible refine Calmly.is_tail ?_); first | refine Calmly.mix_tail_nil ?_ | refine Calmly.mix_tail rfl (fun _ _ => ?_)) | ((with_reducible refine Calmly.is_kept ?_); refine ⟨kept_of hk, ?_⟩) | (with_reducible refine Calmly.mix_alt ?_ ?_))
    refine (subDigits_any a1 a2 n1 n2 c1 c2 d1 d2 _ k1 k2 hd1 hd2 (by omega) (len_le_of_dv hd1 hd2 hz2 HL2.out HL1.out (by omega)) hn1).mono ?_
    rintro e w1 ⟨a', m', c', rfl, ⟨ds, ho, hoi, hd, hz, hdv, hm'⟩, hb1⟩
    replace hk := step_of hk hb1
    have HDV := Lib.hid hdv
    clear hdv
    have hsg : SgOk s1 ds := by
      rcases R1.out with ⟨h, _⟩ | ⟨h, _⟩ | ⟨h, _⟩
      · exact .inr (.inl h)
      · exact absurd h e1
      · exact .inl h
    go_wp2_with (first | ((with_reducible refine Calmly.is_fl ?_); refine Calmly.mix_fl rfl ?_ (fun _ _ => ?_); (first | exact .move _ | exact .load _ _ | exact .fieldAddr _ _ _ (by kernel_rfl) | exact .assign _ | exact .binOp _ _ _ _ _ rfl | exact .indexAddr _ _ _ | exact .len _ _ (by kernel_rfl) | exact .field _ _ _ | exact .extract _ _ | exact .pick _ _ _ | exact .build _ _ | exact .slice _ _ _ _ _ | exact .unOp _ _ _ rfl | exact .index _ _ _ | exact .max _ _ _ rfl rfl | exact .min _ _ _ rfl rfl)) | ((with_reducible refine Calmly.is_gl ?_); refine Calmly.mix_gl rfl rfl rfl ?_; first | ((first | with_reducible refine Calmly.gl_tt ?_ (fun _ _ => ?_) | with_reducible refine Calmly.gl_ff ?_ (fun _ _ => ?_)); (first | exact .move _ | exact .load _ _ | exact .fieldAddr _ _ _ (by kernel_rfl) | exact .assign _ | exact .binOp _ _ _ _ _ rfl | exact .indexAddr _ _ _ | exact .len _ _ (by kernel_rfl) | exact .field _ _ _ | exact .extract _ _ | exact .pick _ _ _ | exact .build _ _ | exact .slice _ _ _ _ _ | exact .unOp _ _ _ rfl | exact .index _ _ _ | exact .max _ _ _ rfl rfl | exact .min _ _ _ rfl rfl)) | with_reducible refine Calmly.gl_tf (fun _ _ => ?_) | with_reducible refine Calmly.gl_ft (fun _ _ => ?_)) | ((with_reducible refine Calmly.is_eff ?_); refine Calmly.mix_eff rfl (fun _ _ => ?_)) | ((with_reducible refine Calmly.is_gf ?_); refine Calmly.mix_gf rfl rfl rfl ?_; first | with_reducible refine Calmly.gf_tt (fun _ _ => ?_) | with_reducible refine Calmly.gf_ff (fun _ _ => ?_) | with_reducible refine Calmly.gf_tf (kept_of hk) (fun _ _ => ?_) | with_reducible refine Calmly.gf_ft (kept_of hk) (fun _ _ => ?_)) | ((with_reducible refine Calmly.is_tail ?_); first | refine Calmly.mix_tail_nil ?_ | refine Calmly.mix_tail rfl (fun _ _ => ?_)) | ((with_reducible refine Calmly.is_kept ?_); refine ⟨kept_of hk, ?_⟩) | (with_reducible refine Calmly.mix_alt ?_ ?_))
    refine (wideOf_any s1 a' m' c' ds _ ho hoi hd hsg).mono ?_
    rintro e w2 ⟨s', m2, rfl, ⟨hm2, hv⟩, hb2⟩
    replace hk := step_of hk hb2
    obtain ⟨hkc, hkf⟩ := cells_of hk
    have hT2 := hTd2.keep hk
    go_wp2_with (first | ((with_reducible refine Calmly.is_fl ?_); refine Calmly.mix_fl rfl ?_ (fun _ _ => ?_); (first | exact .move _ | exact .load _ _ | exact .fieldAddr _ _ _ (by kernel_rfl) | exact .assign _ | exact .binOp _ _ _ _ _ rfl | exact .indexAddr _ _ _ | exact .len _ _ (by kernel_rfl) | exact .field _ _ _ | exact .extract _ _ | exact .pick _ _ _ | exact .build _ _ | exact .slice _ _ _ _ _ | exact .unOp _ _ _ rfl | exact .index _ _ _ | exact .max _ _ _ rfl rfl | exact .min _ _ _ rfl rfl)) | ((with_reducible refine Calmly.is_gl ?_); refine Calmly.mix_gl rfl rfl rfl ?_; first | ((first | with_reducible refine Calmly.gl_tt ?_ (fun _ _ => ?_) | with_reducible refine Calmly.gl_ff ?_ (fun _ _ => ?_)); (first | exact .move _ | exact .load _ _ | exact .fieldAddr _ _ _ (by kernel_rfl) | exact .assign _ | exact .binOp _ _ _ _ _ rfl | exact .indexAddr _ _ _ | exact .len _ _ (by kernel_rfl) | exact .field _ _ _ | exact .extract _ _ | exact .pick _ _ _ | exact .build _ _ | exact .slice _ _ _ _ _ | exact .unOp _ _ _ rfl | exact .index _ _ _ | exact .max _ _ _ rfl rfl | exact .min _ _ _ rfl rfl)) | with_reducible refine Calmly.gl_tf (fun _ _ => ?_) | with_reducible refine Calmly.gl_ft (fun _ _ => ?_)) | ((with_reducible refine Calmly.is_eff ?_); refine Calmly.mix_eff rfl (fun _ _ => ?_)) | ((with_reducible refine Calmly.is_gf ?_); refine Calmly.mix_gf rfl rfl rfl ?_; first | with_reducible refine Calmly.gf_tt (fun _ _ => ?_) | with_reducible refine Calmly.gf_ff (fun _ _ => ?_) | with_reducible refine Calmly.gf_tf (kept_of hk) (fun _ _ => ?_) | with_reducible refine Calmly.gf_ft (kept_of hk) (fun _ _ => ?_)) | ((with_reducible refine Calmly.is_tail ?_); first | refine Calmly.mix_tail_nil ?_ | refine Calmly.mix_tail rfl (fun _ _ => ?_)) | ((with_reducible refine Calmly.is_kept ?_); refine ⟨kept_of hk, ?_⟩) | (with_reducible refine Calmly.mix_alt ?_ ?_))
    refine bodyPost_ret (v := .agg #[.int .i64 s', .slice a' m2 c']) (by simp [results, Tryz.results68, go_sem, hkc]) rfl ⟨s', a', m2, c', rfl, ⟨by omega, ?_⟩, ?_⟩
    · have : s1 * dv ds = z1 + z2 := by
        rw [HDV.out, ← HM1.out, ← HM2.out]
        have := hopp.out
        rw [show s2 = -s1 from by omega]; grind
      rw [this] at hv
      exact (hv.set hT2 (by decide)).set (hT2.set _ _) (by decide)
    · exact ((hB.trans (hk.mono (by simp; omega))).setCell (by simp; omega) _).setCell (by simp; omega) _

set_option maxRecDepth 100000 in
set_option maxHeartbeats 1000000 in
theorem WideSub_any (s1 s2 : Int) (a1 a2 : Option Addr) (n1 n2 c1 c2 : Nat) (z1 z2 : Int) (w : World) (h1 : WideV w s1 a1 n1 c1 z1) (h2 : WideV w s2 a2 n2 c2 z2) (hn1 : n1 ≤ 1099511627776) (hn2 : n2 ≤ 1099511627776) :
    Calls Tryz.prog 98 #[.agg #[.int .i64 s1, .slice a1 n1 c1], .agg #[.int .i64 s2, .slice a2 n2 c2]] w fun e w' => ∃ s a m c, e = .returned (.agg #[.int .i64 s, .slice a m c]) ∧ (m ≤ max n1 n2 + 1 ∧ WideV w' s a m c (z1 - z2)) ∧ Below w.heap.size w w' := by
  have hb : ∀ o1 o2 o3, Below w.heap.size w (((w.alloc o1).alloc o2).alloc o3) := fun o1 o2 o3 => (((Below.refl _ _).alloc (Nat.le_refl _) _).alloc (by simp) _).alloc (by simp; omega) _
  go_enter Tryz.func98, Tryz.ntmps98
  go_wp2_with fail
  refine Calmly.wp_region_mix 4 (.fl 0 <| .fl 1 <| .eff 2 <| .eff 3 <| .tail [4]) (by kernel_rfl) (by kernel_rfl) ?_
  have hB := (hb (.cells #[.int .i64 s1, .slice a1 n1 c1] 78) (.cells #[.int .i64 s2, .slice a2 n2 c2] 78) (.cells #[.int .i64 0, .slice none 0 0] 78)).drew
  have hT := (BlkT.new ((w.alloc (.cells #[.int .i64 s1, .slice a1 n1 c1] 78)).alloc (.cells #[.int .i64 s2, .slice a2 n2 c2] 78)) #[.int .i64 0, .slice none 0 0] 78).drew
  simp only [World.size_alloc] at hT
  generalize hW : (((w.alloc _).alloc _).alloc _).drew = W at hB hT
  have hk : Below W.heap.size W W := Below.refl _ W
  have k1 := h1.keep hB
  have k2 := h2.keep hB
  subst hW
  go_wp2_with (first | ((with_reducible refine Calmly.is_fl ?_); refine Calmly.mix_fl rfl ?_ (fun _ _ => ?_); (first | exact .move _ | exact .load _ _ | exact .fieldAddr _ _ _ (by kernel_rfl) | exact .assign _ | exact .binOp _ _ _ _ _ rfl | exact .indexAddr _ _ _ | exact .len _ _ (by kernel_rfl) | exact .field _ _ _ | exact .extract _ _ | exact .pick _ _ _ | exact .build _ _ | exact .slice _ _ _ _ _ | exact .unOp _ _ _ rfl | exact .index _ _ _ | exact .max _ _ _ rfl rfl | exact .min _ _ _ rfl rfl)) | ((with_reducible refine Calmly.is_gl ?_); refine Calmly.mix_gl rfl rfl rfl ?_; first | ((first | with_reducible refine Calmly.gl_tt ?_ (fun _ _ => ?_) | with_reducible refine Calmly.gl_ff ?_ (fun _ _ => ?_)); (first | exact .move _ | exact .load _ _ | exact .fieldAddr _ _ _ (by kernel_rfl) | exact .assign _ | exact .binOp _ _ _ _ _ rfl | exact .indexAddr _ _ _ | exact .len _ _ (by kernel_rfl) | exact .field _ _ _ | exact .extract _ _ | exact .pick _ _ _ | exact .build _ _ | exact .slice _ _ _ _ _ | exact .unOp _ _ _ rfl | exact .index _ _ _ | exact .max _ _ _ rfl rfl | exact .min _ _ _ rfl rfl)) | with_reducible refine Calmly.gl_tf (fun _ _ => ?_) | with_reducible refine Calmly.gl_ft (fun _ _ => ?_)) | ((with_reducible refine Calmly.is_eff ?_); refine Calmly.mix_eff rfl (fun _ _ => ?_)) | ((with_reducible refine Calmly.is_gf ?_); refine Calmly.mix_gf rfl rfl rfl ?_; first | with_reducible refine Calmly.gf_tt (fun _ _ => ?_) | with_reducible refine Calmly.gf_ff (fun _ _ => ?_) | with_reducible refine Calmly.gf_tf (kept_of hk) (fun _ _ => ?_) | with_reducible refine Calmly.gf_ft (kept_of hk) (fun _ _ => ?_)) | ((with_reducible refine Calmly.is_tail ?_); first | refine Calmly.mix_tail_nil ?_ | refine Calmly.mix_tail rfl (fun _ _ => ?_)) | ((with_reducible refine Calmly.is_kept ?_); refine ⟨kept_of hk, ?_⟩) | (with_reducible refine Calmly.mix_alt ?_ ?_))
  refine (WideNeg_any s2 a2 n2 c2 z2 _ k2).mono ?_
  rintro e w1 ⟨rfl, hv, hb1⟩
  replace hk := step_of hk hb1
  replace k1 := k1.keep hb1
  go_wp2_with (first | ((with_reducible refine Calmly.is_fl ?_); refine Calmly.mix_fl rfl ?_ (fun _ _ => ?_); (first | exact .move _ | exact .load _ _ | exact .fieldAddr _ _ _ (by kernel_rfl) | exact .assign _ | exact .binOp _ _ _ _ _ rfl | exact .indexAddr _ _ _ | exact .len _ _ (by kernel_rfl) | exact .field _ _ _ | exact .extract _ _ | exact .pick _ _ _ | exact .build _ _ | exact .slice _ _ _ _ _ | exact .unOp _ _ _ rfl | exact .index _ _ _ | exact .max _ _ _ rfl rfl | exact .min _ _ _ rfl rfl)) | ((with_reducible refine Calmly.is_gl ?_); refine Calmly.mix_gl rfl rfl rfl ?_; first | ((first | with_reducible refine Calmly.gl_tt ?_ (fun _ _ => ?_) | with_reducible refine Calmly.gl_ff ?_ (fun _ _ => ?_)); (first | exact .move _ | exact .load _ _ | exact .fieldAddr _ _ _ (by kernel_rfl) | exact .assign _ | exact .binOp _ _ _ _ _ rfl | exact .indexAddr _ _ _ | exact .len _ _ (by kernel_rfl) | exact .field _ _ _ | exact .extract _ _ | exact .pick _ _ _ | exact .build _ _ | exact .slice _ _ _ _ _ | exact .unOp _ _ _ rfl | exact .index _ _ _ | exact .max _ _ _ rfl rfl | exact .min _ _ _ rfl rfl)) | with_reducible refine Calmly.gl_tf (fun _ _ => ?_) | with_reducible refine Calmly.gl_ft (fun _ _ => ?_)) | ((with_reducible refine Calmly.is_eff ?_); refine Calmly.mix_eff rfl (fun _ _ => ?_)) | ((with_reducible refine Calmly.is_gf ?_); refine Calmly.mix_gf rfl rfl rfl ?_; first | with_reducible refine Calmly.gf_tt (fun _ _ => ?_) | with_reducible refine Calmly.gf_ff (fun _ _ => ?_) | with_reducible refine Calmly.gf_tf (kept_of hk) (fun _ _ => ?_) | with_reducible refine Calmly.gf_ft (kept_of hk) (fun _ _ => ?_)) | ((with_reducible refine Calmly.is_tail ?_); first | refine Calmly.mix_tail_nil ?_ | refine Calmly.mix_tail rfl (fun _ _ => ?_)) | ((with_reducible refine Calmly.is_kept ?_); refine ⟨kept_of hk, ?_⟩) | (with_reducible refine Calmly.mix_alt ?_ ?_))
  refine (WideAdd_any s1 (-s2) a1 a2 n1 n2 c1 c2 z1 (-z2) _ k1 hv hn1 hn2).mono ?_
  rintro e w2 ⟨s', a', m', c', rfl, ⟨hm, hv2⟩, hb2⟩
  replace hk := step_of hk hb2
  obtain ⟨hkc, hkf⟩ := cells_of hk
  have hT2 := hT.keep hk
  go_wp2_with (first | ((with_reducible refine Calmly.is_fl ?_); refine Calmly.mix_fl rfl ?_ (fun _ _ => ?_); (first | exact .move _ | exact .load _ _ | exact .fieldAddr _ _ _ (by kernel_rfl) | exact .assign _ | exact .binOp _ _ _ _ _ rfl | exact .indexAddr _ _ _ | exact .len _ _ (by kernel_rfl) | exact .field _ _ _ | exact .extract _ _ | exact .pick _ _ _ | exact .build _ _ | exact .slice _ _ _ _ _ | exact .unOp _ _ _ rfl | exact .index _ _ _ | exact .max _ _ _ rfl rfl | exact .min _ _ _ rfl rfl)) | ((with_reducible refine Calmly.is_gl ?_); refine Calmly.mix_gl rfl rfl rfl ?_; first | ((first | with_reducible refine Calmly.gl_tt ?_ (fun _ _ => ?_) | with_reducible refine Calmly.gl_ff ?_ (fun _ _ => ?_)); (first | exact .move _ | exact .load _ _ | exact .fieldAddr _ _ _ (by kernel_rfl) | exact .assign _ | exact .binOp _ _ _ _ _ rfl | exact .indexAddr _ _ _ | exact .len _ _ (by kernel_rfl) | exact .field _ _ _ | exact .extract _ _ | exact .pick _ _ _ | exact .build _ _ | exact .slice _ _ _ _ _ | exact .unOp _ _ _ rfl | exact .index _ _ _ | exact .max _ _ _ rfl rfl | exact .min _ _ _ rfl rfl)) | with_reducible refine Calmly.gl_tf (fun _ _ => ?_) | with_reducible refine Calmly.gl_ft (fun _ _ => ?_)) | ((with_reducible refine Calmly.is_eff ?_); refine Calmly.mix_eff rfl (fun _ _ => ?_)) | ((with_reducible refine Calmly.is_gf ?_); refine Calmly.mix_gf rfl rfl rfl ?_; first | with_reducible refine Calmly.gf_tt (fun _ _ => ?_) | with_reducible refine Calmly.gf_ff (fun _ _ => ?_) | with_reducible refine Calmly.gf_tf (kept_of hk) (fun _ _ => ?_) | with_reducible refine Calmly.gf_ft (kept_of hk) (fun _ _ => ?_)) | ((with_reducible refine Calmly.is_tail ?_); first | refine Calmly.mix_tail_nil ?_ | refine Calmly.mix_tail rfl (fun _ _ => ?_)) | ((with_reducible refine Calmly.is_kept ?_); refine ⟨kept_of hk, ?_⟩) | (with_reducible refine Calmly.mix_alt ?_ ?_))
  refine bodyPost_ret (v := .agg #[.int .i64 s', .slice a' m' c']) (by simp [results, Tryz.results98, go_sem, hkc]) rfl ⟨s', a', m', c', rfl, ⟨by omega, ?_⟩, ?_⟩
  · rw [show z1 + -z2 = z1 - z2 from by omega] at hv2
    exact (hv2.set hT2 (by decide)).set (hT2.set _ _) (by decide)
  · exact ((hB.trans (hk.mono (by simp; omega))).setCell (by simp; omega) _).setCell (by simp; omega) _

theorem sign_cmpI (x y : Int) : (x - y).sign = cmpI x y := by
  rcases sign_cases (x - y) with ⟨h, h'⟩ | ⟨h, h'⟩ | ⟨h, h'⟩
  · rw [h, cmpI_lt (by omega)]
  · rw [h, cmpI_eq (by omega)]
  · rw [h, cmpI_gt (by omega)]

set_option maxRecDepth 100000 in
set_option maxHeartbeats 1000000 in
theorem WideCmp_any (s1 s2 : Int) (a1 a2 : Option Addr) (n1 n2 c1 c2 : Nat) (z1 z2 : Int) (w : World) (h1 : WideV w s1 a1 n1 c1 z1) (h2 : WideV w s2 a2 n2 c2 z2) (hn1 : n1 ≤ 1099511627776) (hn2 : n2 ≤ 1099511627776) :
    Calls Tryz.prog 76 #[.agg #[.int .i64 s1, .slice a1 n1 c1], .agg #[.int .i64 s2, .slice a2 n2 c2]] w fun e w' => e = .returned (.int .i64 (cmpI z1 z2)) ∧ Below w.heap.size w w' := by
  have hb : ∀ o1 o2, Below w.heap.size w ((w.alloc o1).alloc o2) := fun o1 o2 => ((Below.refl _ _).alloc (Nat.le_refl _) _).alloc (by simp) _
  go_enter Tryz.func76, Tryz.ntmps76
  go_wp2_with fail
  refine (WideSub_any s1 s2 a1 a2 n1 n2 c1 c2 z1 z2 _ (h1.keep (hb _ _)) (h2.keep (hb _ _)) hn1 hn2).mono ?_
  rintro e w1 ⟨s', a', m', c', rfl, ⟨hm, hv⟩, hb1⟩
  go_wp2_with fail
  go_ret
  refine ⟨ret_int ?_, (hb _ _).trans (hb1.mono (by simp; omega))⟩
  obtain ⟨_, _, _, _, _, _, rfl⟩ := hv
  exact sign_cmpI z1 z2
end Go.Proofs.YtfjcfbmfpefabaaGreat

namespace Go.Proofs.YtfjcfbmfpefabaaGreat
open Go.RowKit Go.Wides
open Calmly (Kept)

theorem sign_mul_bd {s1 s2 : Int} (h1 : -1 ≤ s1) (h2 : s1 ≤ 1) (h3 : -1 ≤ s2) (h4 : s2 ≤ 1) : -1 ≤ s1 * s2 ∧ s1 * s2 ≤ 1 := by
  have : s1 = -1 ∨ s1 = 0 ∨ s1 = 1 := by omega
  rcases this with rfl | rfl | rfl <;> omega

theorem sgn3 {s z : Int} {xs : List Int} (h : (s = -1 ∧ z < 0) ∨ (s = 0 ∧ z = 0) ∨ (s = 1 ∧ 0 < z)) (hv : dv xs = z.natAbs) : s = -1 ∨ (s = 0 ∧ dv xs = 0) ∨ s = 1 := by
  rcases h with ⟨h, _⟩ | ⟨h, h'⟩ | ⟨h, _⟩
  · exact .inl h
  · exact .inr (.inl ⟨h, by rw [hv, h']; rfl⟩)
  · exact .inr (.inr h)
theorem sgok_mul {s1 s2 : Int} {xs ys out : List Int} (h1 : s1 = -1 ∨ (s1 = 0 ∧ dv xs = 0) ∨ s1 = 1) (h2 : s2 = -1 ∨ (s2 = 0 ∧ dv ys = 0) ∨ s2 = 1) (hd : dv out = dv xs * dv ys) : SgOk (s1 * s2) out := by
  rcases h1 with rfl | ⟨rfl, h⟩ | rfl <;> rcases h2 with rfl | ⟨rfl, h'⟩ | rfl
  · exact .inl rfl
  · exact .inr (.inr (by rw [hd, h']; simp))
  · exact .inr (.inl rfl)
  · exact .inr (.inr (by rw [hd, h]; simp))
  · exact .inr (.inr (by rw [hd, h]; simp))
  · exact .inr (.inr (by rw [hd, h]; simp))
  · exact .inr (.inl rfl)
  · exact .inr (.inr (by rw [hd, h']; simp))
  · exact .inl rfl

set_option maxRecDepth 100000 in
set_option maxHeartbeats 2000000 in
theorem WideMul_any (s1 s2 : Int) (a1 a2 : Option Addr) (n1 n2 c1 c2 : Nat) (z1 z2 : Int) (w : World) (h1 : WideV w s1 a1 n1 c1 z1) (h2 : WideV w s2 a2 n2 c2 z2) (hn1 : n1 ≤ 1099511627776) (hn2 : n2 ≤ 1099511627776) :
    Calls Tryz.prog 69 #[.agg #[.int .i64 s1, .slice a1 n1 c1], .agg #[.int .i64 s2, .slice a2 n2 c2]] w fun e w' => ∃ s a m c, e = .returned (.agg #[.int .i64 s, .slice a m c]) ∧ (m ≤ n1 + n2 + 1 ∧ WideV w' s a m c (z1 * z2)) ∧ Below w.heap.size w w' := by
  obtain ⟨p1, p2⟩ := h1.s_bd
  obtain ⟨q1, q2⟩ := h2.s_bd
  obtain ⟨sm1, sm2⟩ := sign_mul_bd p1 p2 q1 q2
  obtain ⟨xs, hs1, hi1, d1, hz1, hv1, hm1, hg1⟩ := h1.val
  obtain ⟨ys, hs2, hi2, d2, hz2, hv2, hm2, hg2⟩ := h2.val
  have HM1 := Lib.hid hm1
  have HM2 := Lib.hid hm2
  have r1 := sign_cases z1
  have r2 := sign_cases z2
  rw [← hg1] at r1
  rw [← hg2] at r2
  have S1 := Lib.hid (sgn3 r1 hv1)
  have S2 := Lib.hid (sgn3 r2 hv2)
  have HL1 := Lib.hid hs1.len
  have HL2 := Lib.hid hs2.len
  have hc1 := hs1.cap
  have hc2 := hs2.cap
  have hx1 := hs1.max
  have hx2 := hs2.max
  clear hv1 hv2 hm1 hm2 hg1 hg2 r1 r2 h1 h2
  have hN : Hid (xs.length + ys.length + 1 = n1 + n2 + 1) := by
    have := HL1.out
    have := HL2.out
    show _ = _
    omega
  obtain ⟨W3, hW3⟩ : ∃ W, W = ((w.alloc (.cells #[.int .i64 s1, .slice a1 n1 c1] 78)).alloc (.cells #[.int .i64 s2, .slice a2 n2 c2] 78)).alloc (.cells #[.int .i64 0, .slice none 0 0] 78) := ⟨_, rfl⟩
  have hB3 : Below w.heap.size w W3 := by rw [hW3]; exact (((Below.refl _ _).alloc (Nat.le_refl _) _).alloc (by simp) _).alloc (by simp; omega) _
  have hT3 : BlkT W3 (w.heap.size + 1 + 1) 78 := by rw [hW3]; have := BlkT.new ((w.alloc (.cells #[.int .i64 s1, .slice a1 n1 c1] 78)).alloc (.cells #[.int .i64 s2, .slice a2 n2 c2] 78)) #[.int .i64 0, .slice none 0 0] 78; simpa using this
  have hS3 : W3.heap.size = w.heap.size + 1 + 1 + 1 := by rw [hW3]; simp
  have HS3 := Lib.hid hS3
  subst hW3
  clear hS3
  have hk1 := hs1.keep hB3
  have hk2 := hs2.keep hB3
  go_enter Tryz.func69, Tryz.ntmps69
  go_wp2_with (refine makeI (B := w.heap.size + 1 + 1 + 1) (n := n1 + n2 + 1) rfl _ _ rfl rfl rfl (by simp) (by omega) (by simp) ?_; intro w4 ho4 hb4 hlt4)
  have hst0 : MulOut xs ys (List.replicate (n1 + n2 + 1) 0) 0 := by rw [← hN.out]; exact MulOut.start xs ys
  have HST := Lib.hid hst0
  clear hst0
  have hb4' := hb4.mono (Nat.le_of_eq HS3.out.symm)
  have hz4 : Below w.heap.size w w4 := hB3.trans (hb4'.mono (by omega))
  go_loopw [6] (fun i wr => ∃ (k : Nat) (out : List Int), i = .int .i64 k ∧ k ≤ n1 ∧ OwI wr (w.heap.size + 1 + 1 + 1) (some ⟨w.heap.size + 1 + 1 + 1, 0, none⟩) (n1 + n2 + 1) (n1 + n2 + 1) out ∧ Hid (MulOut xs ys out k) ∧ Below (w.heap.size + 1 + 1 + 1) (((w.alloc (.cells #[.int .i64 s1, .slice a1 n1 c1] 78)).alloc (.cells #[.int .i64 s2, .slice a2 n2 c2] 78)).alloc (.cells #[.int .i64 0, .slice none 0 0] 78)) wr) (fun i _ => n1 - (intOf i).toNat)
  case atStart => exact ⟨0, _, rfl, by omega, by simpa using ho4, HST, by simpa using hb4⟩
  case round =>
    obtain ⟨i, out, rfl, hi, hown, hst, hbel⟩ := hrel
    obtain ⟨hkc, hkf⟩ := cells_to hbel
    have hBw : Below w.heap.size w wr := hB3.trans (hbel.mono (by omega))
    clear ho4 hb4 hlt4 hb4' hz4
    by_cases hlt : i < n1
    · obtain ⟨b1, o1, rfl, hce1⟩ := (hs1.keep hBw).at_ (by omega)
      have hI0 : (0 : Int) ≤ (i : Int) := by omega
      have hI1 : (i : Int) < (n1 : Int) := by omega
      have hin : MulIn xs ys out i 0 0 := hst.out.enter
      have HIN := Lib.hid hin
      clear hin
      go_wp2_with fail
      obtain ⟨wo, hwo⟩ : ∃ wo : World, wo = wr := ⟨_, rfl⟩
      subst hwo
      go_loopw [7, 8] (fun cy kk wr => ∃ (k : Nat) (cv : Int) (ot : List Int), kk = .int .i64 k ∧ cy = .int .i64 cv ∧ k ≤ n2 ∧ 0 ≤ cv ∧ cv < 1000000000 ∧ OwI wr (w.heap.size + 1 + 1 + 1) (some ⟨w.heap.size + 1 + 1 + 1, 0, none⟩) (n1 + n2 + 1) (n1 + n2 + 1) ot ∧ Hid (MulIn xs ys ot i k cv) ∧ Below (w.heap.size + 1 + 1 + 1) (((w.alloc (.cells #[.int .i64 s1, .slice (some ⟨b1, o1, none⟩) n1 c1] 78)).alloc (.cells #[.int .i64 s2, .slice a2 n2 c2] 78)).alloc (.cells #[.int .i64 0, .slice none 0 0] 78)) wr) (fun _ kk _ => n2 - (intOf kk).toNat)
      case atStart => exact ⟨0, 0, out, rfl, rfl, by omega, by omega, by omega, hown, HIN, hbel⟩
      case round =>
        clear hkc hkf hBw hown hce1 hst HIN hbel
        obtain ⟨k, cv, ot, rfl, rfl, hk, hcv0, hcv1, hown, hst, hbel⟩ := hrel
        obtain ⟨hkc, hkf⟩ := cells_to hbel
        have hBw : Below w.heap.size w wr := hB3.trans (hbel.mono (by omega))
        obtain ⟨b1', o1', hb1', hce1⟩ := (hs1.keep hBw).at_ (by omega)
        cases hb1'
        have e1 := hce1 i hlt
        clear hce1
        have hK0 : (0 : Int) ≤ (k : Int) := by omega
        by_cases hlt2 : k < n2
        · obtain ⟨b2, o2, rfl, hce2⟩ := (hs2.keep hBw).at_ (by omega)
          have e2 := hce2 k hlt2
          clear hce2
          have e3 := hown.cell (i + k) (by omega)
          have hf3 := hown.free (i + k)
          have hK1 : (k : Int) < (n2 : Int) := by omega
          have hIK : (i : Int) + (k : Int) < (n1 : Int) + (n2 : Int) + 1 := by omega
          have hIK0 : (0 : Int) ≤ (i : Int) + (k : Int) := by omega
          have hx9 := d1.get i
          have hy9 := d2.get k
          have hp9 := hst.out.1.get (i + k)
          obtain ⟨m1, m2, m3, m4⟩ := Go.Wides.mul_bd hx9.1 hx9.2 hy9.1 hy9.2 hp9.1 hp9.2 hcv0 hcv1
          have hN1 := Lib.hid (hst.out.next d1 d2 (by have := HL1.out; omega) (by have := HL2.out; omega))
          go_wp2_with fail
          refine Calmly.wp_region_mix 19 (.fl 0 <| .fl 1 <| .fl 2 <| .fl 3 <| .fl 4 <| .fl 5 <| .fl 6 <| .fl 7 <| .fl 8 <| .fl 9 <| .fl 10 <| .fl 11 <| .fl 12 <| .fl 13 <| .fl 14 <| .fl 15 <| .fl 16 <| .fl 17 <| .fl 18 <| .tail [19, 20]) (by kernel_rfl) (by kernel_rfl) ?_
          go_wp2_with (first | ((with_reducible refine Calmly.is_fl ?_); refine Calmly.mix_fl rfl ?_ (fun _ _ => ?_); (first | exact .move _ | exact .load _ _ | exact .fieldAddr _ _ _ (by kernel_rfl) | exact .assign _ | exact .binOp _ _ _ _ _ rfl | exact .indexAddr _ _ _ | exact .len _ _ (by kernel_rfl) | exact .field _ _ _ | exact .extract _ _ | exact .pick _ _ _ | exact .build _ _ | exact .slice _ _ _ _ _ | exact .unOp _ _ _ rfl | exact .index _ _ _ | exact .max _ _ _ rfl rfl | exact .min _ _ _ rfl rfl)) | ((with_reducible refine Calmly.is_gl ?_); refine Calmly.mix_gl rfl rfl rfl ?_; first | ((first | with_reducible refine Calmly.gl_tt ?_ (fun _ _ => ?_) | with_reducible refine Calmly.gl_ff ?_ (fun _ _ => ?_)); (first | exact .move _ | exact .load _ _ | exact .fieldAddr _ _ _ (by kernel_rfl) | exact .assign _ | exact .binOp _ _ _ _ _ rfl | exact .indexAddr _ _ _ | exact .len _ _ (by kernel_rfl) | exact .field _ _ _ | exact .extract _ _ | exact .pick _ _ _ | exact .build _ _ | exact .slice _ _ _ _ _ | exact .unOp _ _ _ rfl | exact .index _ _ _ | exact .max _ _ _ rfl rfl | exact .min _ _ _ rfl rfl)) | with_reducible refine Calmly.gl_tf (fun _ _ => ?_) | with_reducible refine Calmly.gl_ft (fun _ _ => ?_)) | ((with_reducible refine Calmly.is_eff ?_); refine Calmly.mix_eff rfl (fun _ _ => ?_)) | ((with_reducible refine Calmly.is_gf ?_); refine Calmly.mix_gf rfl rfl rfl ?_; first | with_reducible refine Calmly.gf_tt (fun _ _ => ?_) | with_reducible refine Calmly.gf_ff (fun _ _ => ?_) | with_reducible refine Calmly.gf_tf (kept_of hk) (fun _ _ => ?_) | with_reducible refine Calmly.gf_ft (kept_of hk) (fun _ _ => ?_)) | ((with_reducible refine Calmly.is_tail ?_); first | refine Calmly.mix_tail_nil ?_ | refine Calmly.mix_tail rfl (fun _ _ => ?_)) | ((with_reducible refine Calmly.is_kept ?_); refine ⟨kept_of hk, ?_⟩) | (with_reducible refine Calmly.mix_alt ?_ ?_))
          go_roundw
          case rel => exact ⟨k + 1, _, _, by go_num, rfl, by omega, by omega, by omega, (hown.drew.stored (i + k) _).1, hN1, (Below.drew hbel).trans (hown.drew.stored (i + k) _).2⟩
          case measure => simp [intOf]; omega
        · have hkn : k = n2 := by omega
          have hlv := hst.out
          rw [hkn, HL2.out] at hlv
          obtain ⟨hv1, hv2⟩ := hlv.leave (by have := HL1.out; omega)
          rw [← HL2.out] at hv1 hv2
          have HV1 := Lib.hid hv1
          have HV2 := Lib.hid hv2
          clear hv1 hv2 hlv hkn
          have e3 := hown.cell (i + n2) (by omega)
          have hf3 := hown.free (i + n2)
          have hIK : (i : Int) + (n2 : Int) < (n1 : Int) + (n2 : Int) + 1 := by omega
          have hIK0 : (0 : Int) ≤ (i : Int) + (n2 : Int) := by omega
          have hp9 := hst.out.1.get (i + n2)
          go_wp2_with fail
          refine Calmly.wp_region_mix 16 (.fl 0 <| .fl 1 <| .fl 2 <| .fl 3 <| .fl 4 <| .fl 5 <| .fl 6 <| .fl 7 <| .fl 8 <| .fl 9 <| .fl 10 <| .fl 11 <| .fl 12 <| .fl 13 <| .fl 14 <| .fl 15 <| .tail [16, 17]) (by kernel_rfl) (by kernel_rfl) ?_
          go_wp2_with (first | ((with_reducible refine Calmly.is_fl ?_); refine Calmly.mix_fl rfl ?_ (fun _ _ => ?_); (first | exact .move _ | exact .load _ _ | exact .fieldAddr _ _ _ (by kernel_rfl) | exact .assign _ | exact .binOp _ _ _ _ _ rfl | exact .indexAddr _ _ _ | exact .len _ _ (by kernel_rfl) | exact .field _ _ _ | exact .extract _ _ | exact .pick _ _ _ | exact .build _ _ | exact .slice _ _ _ _ _ | exact .unOp _ _ _ rfl | exact .index _ _ _ | exact .max _ _ _ rfl rfl | exact .min _ _ _ rfl rfl)) | ((with_reducible refine Calmly.is_gl ?_); refine Calmly.mix_gl rfl rfl rfl ?_; first | ((first | with_reducible refine Calmly.gl_tt ?_ (fun _ _ => ?_) | with_reducible refine Calmly.gl_ff ?_ (fun _ _ => ?_)); (first | exact .move _ | exact .load _ _ | exact .fieldAddr _ _ _ (by kernel_rfl) | exact .assign _ | exact .binOp _ _ _ _ _ rfl | exact .indexAddr _ _ _ | exact .len _ _ (by kernel_rfl) | exact .field _ _ _ | exact .extract _ _ | exact .pick _ _ _ | exact .build _ _ | exact .slice _ _ _ _ _ | exact .unOp _ _ _ rfl | exact .index _ _ _ | exact .max _ _ _ rfl rfl | exact .min _ _ _ rfl rfl)) | with_reducible refine Calmly.gl_tf (fun _ _ => ?_) | with_reducible refine Calmly.gl_ft (fun _ _ => ?_)) | ((with_reducible refine Calmly.is_eff ?_); refine Calmly.mix_eff rfl (fun _ _ => ?_)) | ((with_reducible refine Calmly.is_gf ?_); refine Calmly.mix_gf rfl rfl rfl ?_; first | with_reducible refine Calmly.gf_tt (fun _ _ => ?_) | with_reducible refine Calmly.gf_ff (fun _ _ => ?_) | with_reducible refine Calmly.gf_tf (kept_of hk) (fun _ _ => ?_) | with_reducible refine Calmly.gf_ft (kept_of hk) (fun _ _ => ?_)) | ((with_reducible refine Calmly.is_tail ?_); first | refine Calmly.mix_tail_nil ?_ | refine Calmly.mix_tail rfl (fun _ _ => ?_)) | ((with_reducible refine Calmly.is_kept ?_); refine ⟨kept_of hk, ?_⟩) | (with_reducible refine Calmly.mix_alt ?_ ?_))
          go_roundw
          case rel => exact ⟨i + 1, _, by go_num, by omega, by rw [HV1.out]; exact (hown.drew.stored (i + n2) cv).1, HV2, (Below.drew hbel).trans (by rw [HV1.out]; exact (hown.drew.stored (i + n2) cv).2)⟩
          case measure => simp [intOf]; omega
    · have hfin := hst.out.fin (by have := HL1.out; omega)
      have hdg := hst.out.1
      have HF := Lib.hid hfin
      clear hfin
      have hsg : SgOk (s1 * s2) out := sgok_mul S1.out S2.out HF.out
      go_wp2_with fail
      refine (wideOf_any (s1 * s2) _ _ _ out _ hown.si (In.of_owns hown) hdg hsg).mono ?_
      rintro e w5 ⟨s', m', rfl, ⟨hm', hv⟩, hb5⟩
      have hb6 := hbel.trans (hb5.mono (by have := hbel.size; simp at this; omega))
      obtain ⟨hkc6, hkf6⟩ := cells_to hb6
      have hT6 := hT3.below hb6 (by omega)
      clear hkc hkf
      go_wp2_with fail
      refine bodyPost_ret (v := .agg #[.int .i64 s', .slice (some ⟨w.heap.size + 1 + 1 + 1, 0, none⟩) m' (n1 + n2 + 1)]) (by simp [results, Tryz.results69, go_sem, hkc6]) rfl ⟨s', _, m', _, rfl, ⟨by omega, ?_⟩, ?_⟩
      · have : s1 * s2 * dv out = z1 * z2 := by rw [HF.out, ← HM1.out, ← HM2.out]; grind
        rw [this] at hv
        exact (hv.set hT6 (by decide)).set (hT6.set _ _) (by decide)
      · exact ((hB3.trans (hb6.mono (by omega))).setCell (by simp; omega) _).setCell (by simp; omega) _
end Go.Proofs.YtfjcfbmfpefabaaGreat
