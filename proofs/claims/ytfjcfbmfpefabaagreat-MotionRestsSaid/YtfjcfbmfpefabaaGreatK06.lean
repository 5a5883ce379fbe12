/- Contracts of numbers of any size: quotients, rounded down. -/
import Derived.Test.YtfjcfbmfpefabaaGreatK05
namespace Go.Proofs.YtfjcfbmfpefabaaGreat
open Go.RowKit Go.Wides
open Calmly (Kept)
attribute [local go_sem] field_wide0 field_wide1

theorem SI.bound {w : World} {a : Option Addr} {n c : Nat} {xs ys : List Int} {D : Int} (h : SI w a n c xs) (h1 : Dg xs) (h2 : Nz xs) (h3 : Dg ys) (hlt : dv xs < dv ys) : n ≤ ys.length := by
  rcases Nat.lt_or_ge ys.length n with h' | h'
  · have := dv_lt_of_len h3 h1 h2 (by have := h.len; omega)
    omega
  · exact h'

set_option maxRecDepth 100000 in
set_option maxHeartbeats 4000000 in
theorem WideFloor_any (s1 s2 : Int) (a1 a2 : Option Addr) (n1 n2 c1 c2 : Nat) (z1 z2 : Int) (w : World) (h1 : WideV w s1 a1 n1 c1 z1) (h2 : WideV w s2 a2 n2 c2 z2) (hz2p : 0 < z2) (hn1 : n1 ≤ 1099511627776) (hn2 : n2 ≤ 549755813888) :
    Calls Tryz.prog 93 #[.agg #[.int .i64 s1, .slice a1 n1 c1], .agg #[.int .i64 s2, .slice a2 n2 c2]] w fun e w' => ∃ s a m c, e = .returned (.agg #[.int .i64 s, .slice a m c]) ∧ (m ≤ n1 + 4 ∧ WideV w' s a m c (z1 / z2)) ∧ Below w.heap.size w w' := by
  obtain ⟨p1, p2⟩ := h1.s_bd
  have hz1 := h1.z0
  obtain ⟨W3, hW3⟩ : ∃ W, W = ((w.alloc (.cells #[.int .i64 s1, .slice a1 n1 c1] 78)).alloc (.cells #[.int .i64 s2, .slice a2 n2 c2] 78)).alloc (.cells #[.int .i64 0, .slice none 0 0] 78) := ⟨_, rfl⟩
  have hB3 : Below w.heap.size w W3 := by rw [hW3]; exact (((Below.refl _ _).alloc (Nat.le_refl _) _).alloc (by simp) _).alloc (by simp; omega) _
  have hT3 : BlkT W3 (w.heap.size + 1 + 1) 78 := by rw [hW3]; have := BlkT.new ((w.alloc (.cells #[.int .i64 s1, .slice a1 n1 c1] 78)).alloc (.cells #[.int .i64 s2, .slice a2 n2 c2] 78)) #[.int .i64 0, .slice none 0 0] 78; simpa using this
  have hS3 : W3.heap.size = w.heap.size + 1 + 1 + 1 := by rw [hW3]; simp
  have HS3 := Lib.hid hS3
  subst hW3
  clear hS3
  by_cases e1 : s1 = 0
  · have t1 : (s1 == 0) = true := by simp [e1]
    have E := Lib.hid (hz1.1 e1)
    clear hz1 e1
    go_enter Tryz.func93, Tryz.ntmps93
    go_wp2_with fail
    refine bodyPost_ret (v := .agg #[.int .i64 0, .slice none 0 0]) (by simp [results, Tryz.results93, go_sem]) rfl ⟨0, none, 0, 0, rfl, ⟨by omega, ?_⟩, hB3⟩
    rw [E.out, Int.zero_ediv]
    exact WideV.zero _
  have t1 : (s1 == 0) = false := by simp [e1]
  clear hz1
  obtain ⟨xs, hs1, hi1, d1, hz1, hv1, hm1, hg1⟩ := h1.val
  obtain ⟨ys, hs2, hi2, d2, hz2, hv2, hm2, hg2⟩ := h2.val
  have hD : dv ys = z2 := by omega
  have HDD := Lib.hid hD
  have HV1 := Lib.hid hv1
  have HM1 := Lib.hid hm1
  have r1 := sign_cases z1
  rw [← hg1] at r1
  have R1 := Lib.hid r1
  have HL1 := Lib.hid hs1.len
  have HL2 := Lib.hid hs2.len
  have hc1 := hs1.cap
  have hx1 := hs1.max
  have hst : DivOut xs (List.replicate xs.length 0) z2 xs.length 0 := DivOut.start xs hz2p
  rw [← HL1.out] at hst
  have HST := Lib.hid hst
  clear hv1 hv2 hm1 hm2 hg1 hg2 r1 h1 h2 hD hst
  go_enter Tryz.func93, Tryz.ntmps93
  go_wp2_with (refine makeI (B := w.heap.size + 1 + 1 + 1) (n := n1) rfl _ _ rfl rfl rfl rfl (by omega) (by simp) ?_; intro w4 ho4 hb4 hlt4; obtain ⟨hkc4, hkf4⟩ := cells_of hb4; simp only [World.size_alloc] at hlt4; have hq1 : w.heap.size < w4.heap.size := (by omega); have hq2 : w.heap.size + 1 < w4.heap.size := (by omega); have hq3 : w.heap.size + 1 + 1 < w4.heap.size := (by omega))
  clear hkc4 hkf4 hq1 hq2 hq3
  have hb4' := hb4.mono (Nat.le_of_eq HS3.out.symm)
  replace ho4 : OwI w4 (w.heap.size + 1 + 1 + 1) (some ⟨w.heap.size + 1 + 1 + 1, 0, none⟩) n1 n1 (List.replicate n1 0) := by simpa using ho4
  go_loopw [6, 7] (fun l i wr => ∃ (k : Nat) (L : Int) (q ls : List Int) (la : Option Addr) (lm lc : Nat), i = .int .i64 ((k : Int) - 1) ∧ l = .slice la lm lc ∧ k ≤ n1 ∧ OwI wr (w.heap.size + 1 + 1 + 1) (some ⟨w.heap.size + 1 + 1 + 1, 0, none⟩) n1 n1 q ∧ SI wr la lm lc ls ∧ In wr 3 la ∧ Dg ls ∧ Nz ls ∧ Hid (dv ls = L) ∧ Hid (DivOut xs q z2 k L) ∧ Below (w.heap.size + 1 + 1 + 1) (((w.alloc (.cells #[.int .i64 s1, .slice a1 n1 c1] 78)).alloc (.cells #[.int .i64 s2, .slice a2 n2 c2] 78)).alloc (.cells #[.int .i64 0, .slice none 0 0] 78)) wr) (fun _ i _ => (intOf i + 1).toNat)
  case atStart => exact ⟨n1, 0, _, [], _, 0, 0, rfl, rfl, by omega, ho4.keep ((Below.refl _ _).alloc (Nat.le_refl _) _), (OwI.empty w4 (Nat.le_refl _)).si, In.of_owns (OwI.empty w4 (Nat.le_refl _)), Dg.nil, nz_nil, rfl, HST, hb4'.alloc (by omega) _⟩
  case round =>
    obtain ⟨k, L, q, ls, la, lm, lc, rfl, rfl, hk, hown, hsl, hil, hdl, hzl, hvl, hdo, hbel⟩ := hrel
    obtain ⟨hkc, hkf⟩ := cells_to hbel
    have hBw : Below w.heap.size w wr := hB3.trans (hbel.mono (by omega))
    have hszr := hbel.size
    simp only [World.size_alloc] at hszr
    have hq1 : w.heap.size < wr.heap.size := by omega
    have hq2 : w.heap.size + 1 < wr.heap.size := by omega
    have hq3 : w.heap.size + 1 + 1 < wr.heap.size := by omega
    clear ho4 hb4 hlt4 hb4'
    by_cases hlt : 0 < k
    · obtain ⟨b1, o1, rfl, hce1⟩ := (hs1.keep hBw).at_ (by omega)
      have ex := hce1 (k - 1) (by omega)
      clear hce1
      have hI0 : (0 : Int) ≤ (k : Int) - 1 := by omega
      have hI1 : (k : Int) - 1 < (n1 : Int) := by omega
      have hI2 : ((k : Int) - 1).toNat = k - 1 := by omega
      have hI3 : (1 : Int) ≤ (k : Int) := by omega
      have hlm : lm ≤ n2 := by
        rw [HL2.out]
        exact hsl.bound (D := z2) hdl hzl d2 (by rw [hvl.out, HDD.out]; exact hdo.out.2.2.2.1)
      have hB5 : Below wr.heap.size wr (wr.alloc (.cells #[.int .i64 (xs[k - 1]?.getD 0)] 3)) := (Below.refl _ _).alloc (Nat.le_refl _) _
      go_wp2_with (at_builtin; refine appL rfl _ _ rfl (OwI.one wr (Nat.le_refl _) (xs[k - 1]?.getD 0)) (hsl.keep hB5) rfl rfl (by omega) (by simp) ?_; intro a5 c5 w5 ho5 hb5)
      have hk5 := hbel.trans ((hB5.trans hb5).mono hszr)
      obtain ⟨hkc5, hkf5⟩ := cells_to hk5
      clear hkc hkf
      refine (trimmed_any a5 _ c5 _ _ ho5.si).mono ?_
      rintro e w' ⟨m5, rfl, ⟨hm5, hv5, hz5⟩, rfl⟩
      have hsl5 := ho5.si.take hm5
      have hil5 := In.of_owns ho5
      have hdl5 : Dg (([xs[k - 1]?.getD 0] ++ ls).take m5) := ((Dg.one (d1.get (k - 1)).1 (d1.get (k - 1)).2).append hdl).take m5
      generalize hl5 : ([xs[k - 1]?.getD 0] ++ ls).take m5 = l5 at *
      have HL5 := Lib.hid hl5
      clear hl5
      obtain ⟨S5, hS5, hoS⟩ : ∃ S, w.heap.size + 1 + 1 + 1 < S ∧ OwI w5 S a5 (1 + lm) c5 ([xs[k - 1]?.getD 0] ++ ls) := ⟨wr.heap.size, by have := hown.lt; omega, ho5⟩
      go_wp2_with fail
      have hR : Hid (dv l5 = xs[k - 1]?.getD 0 + 1000000000 * L) := by
        show dv l5 = _
        rw [hv5, ← hvl.out]; rfl
      clear hv5
      have hx9 := d1.get (k - 1)
      have hsk : Hid (Seek z2 (xs[k - 1]?.getD 0 + 1000000000 * L) 0 999999999) := Seek.start (by have := hdo.out.2.2.1; omega) (by have := hdo.out.2.2.2.1; omega)
      have hq4 : w.heap.size + 1 + 1 + 1 ≤ w5.heap.size := by have := hb5.size; simp only [World.size_alloc] at this; omega
      have hB0 : Below w.heap.size w w5 := hB3.trans (hk5.mono (by omega))
      have hown5 := hown.keep (hB5.trans hb5)
      go_loopw [8, 9] (fun x y wr => ∃ lo hi : Int, x = .int .i64 lo ∧ y = .int .i64 hi ∧ 0 ≤ lo ∧ lo ≤ hi ∧ hi ≤ 999999999 ∧ Hid (Seek z2 (xs[k - 1]?.getD 0 + 1000000000 * L) lo hi) ∧ Below w5.heap.size w5 wr) (fun x y _ => (intOf y - intOf x).toNat)
      case atStart => exact ⟨0, 999999999, rfl, rfl, by omega, by omega, by omega, hsk, Below.refl _ _⟩
      case round =>
        obtain ⟨lo, hi, rfl, rfl, hlo, hlh, hhi, hse, hb6⟩ := hrel
        clear hkc5 hkf5
        have hq6 : w.heap.size + 1 + 1 + 1 ≤ wr.heap.size := by have := hb6.size; omega
        have hk6 := hk5.trans (hb6.mono hq4)
        obtain ⟨hkc6, hkf6⟩ := cells_to hk6
        have hw6 : Below w.heap.size w wr := hB0.trans (hb6.mono (by omega))
        have ks2 := hs2.keep hw6
        have ki2 := hi2.keep hw6
        have kl5 := hsl5.keep hb6
        by_cases hlt : lo < hi
        · have hm1 : lo < (lo + hi + 1) / 2 := by omega
          have hm2 : (lo + hi + 1) / 2 ≤ hi := by omega
          go_wp2_with fail
          refine (wideOf_any 1 a2 n2 c2 ys _ ks2 ki2 d2 (.inl rfl)).mono ?_
          rintro e w7 ⟨s7, m7, rfl, ⟨hm7, hv7⟩, hb7⟩
          replace kl5 := kl5.keep hb7
          rw [Int.one_mul, HDD.out] at hv7
          go_wp2_with fail
          refine (WideOf_any ((lo + hi + 1) / 2) _ (by omega) (by omega)).mono ?_
          rintro e w8 ⟨s8, a8, m8, c8, rfl, ⟨hm8, hv8⟩, hb8⟩
          replace kl5 := kl5.keep hb8
          replace hv7 := hv7.keep hb8
          go_wp2_with fail
          refine (WideMul_any s7 s8 a2 a8 m7 m8 c2 c8 z2 ((lo + hi + 1) / 2) _ hv7 hv8 (by omega) (by omega)).mono ?_
          rintro e w9 ⟨s9, a9, m9, c9, rfl, ⟨hm9, hv9⟩, hb9⟩
          replace kl5 := kl5.keep hb9
          obtain ⟨l9, hs9, hi9, hd9, hz9, hdv9, _, _⟩ := hv9.val
          go_wp2_with fail
          refine (cmpDigits_any a9 a5 m9 m5 c9 c5 l9 l5 _ hs9 kl5 hd9 hdl5 hz9 hz5).mono ?_
          rintro e w' ⟨rfl, q9, rfl⟩
          have hmp : 0 ≤ z2 * ((lo + hi + 1) / 2) := Int.mul_nonneg (by omega) (by omega)
          have hdv : dv l9 = z2 * ((lo + hi + 1) / 2) := by omega
          rw [hdv, hR.out]
          have hb10 := below_drewN (hb6.trans (((hb7.trans (hb8.mono hb7.size)).trans (hb9.mono (Nat.le_trans hb7.size hb8.size))).mono hb6.size)) q9
          by_cases hle : z2 * ((lo + hi + 1) / 2) ≤ xs[k - 1]?.getD 0 + 1000000000 * L
          · have hc : cmpI (z2 * ((lo + hi + 1) / 2)) (xs[k - 1]?.getD 0 + 1000000000 * L) ≤ 0 := by
              unfold cmpI; repeat' split
              all_goals omega
            have hN := Lib.hid (hse.out.up hm1 hm2 hle)
            clear hle hmp hdv hdv9
            go_wp2_with fail
            go_roundw
            case rel => exact ⟨_, hi, rfl, rfl, by omega, by omega, by omega, hN, hb10⟩
            case measure => simp [intOf]; omega
          · have hc : 0 < cmpI (z2 * ((lo + hi + 1) / 2)) (xs[k - 1]?.getD 0 + 1000000000 * L) := by
              unfold cmpI; repeat' split
              all_goals omega
            have hN := Lib.hid (hse.out.down hm1 hm2 (by omega))
            clear hle hmp hdv hdv9
            go_wp2_with fail
            go_roundw
            case rel => exact ⟨lo, _, rfl, rfl, by omega, by omega, by omega, hN, hb10⟩
            case measure => simp [intOf]; omega
        · have hlo9 : lo = hi := by omega
          have hse9 := hse.out
          rw [← hlo9] at hse9
          have hdn := hdo.out
          rw [show k = k - 1 + 1 from by omega] at hdn
          have hnx := Lib.hid (hdn.next (by have := HL1.out; omega) hlo (by omega) hse9.2.2.2.1 hse9.2.2.2.2)
          have hle9 := Lib.hid hse9.2.2.2.1
          have hown6 := hown5.keep hb6
          have ec := hown6.cell (k - 1) (by omega)
          have ef := hown6.free (k - 1)
          obtain ⟨hown7, hb7⟩ := hown6.stored (k - 1) lo
          have hk7 := hk6.trans hb7
          have hw7 : Below w.heap.size w (wr.setCell ⟨w.heap.size + 1 + 1 + 1, k - 1, none⟩ (.int .i64 lo)) := hB3.trans (hk7.mono (by omega))
          have kl7 := hsl5.keep hb6
          have hne5 : Hid (SI (wr.setCell ⟨w.heap.size + 1 + 1 + 1, k - 1, none⟩ (.int .i64 lo)) a5 m5 c5 l5) := by
            rw [← HL5.out]
            exact SI.take (OwI.si (B := S5) (ownsRow_setCell_below (hoS.keep hb6) (a := ⟨w.heap.size + 1 + 1 + 1, k - 1, none⟩) (show w.heap.size + 1 + 1 + 1 < S5 by omega) (.int .i64 lo))) hm5
          have ks7 := hs2.keep hw7
          have ki7 := hi2.keep hw7
          clear hlo9 hse9 hdn
          go_wp2_with fail
          refine (wideOf_any 1 a2 n2 c2 ys _ ks7 ki7 d2 (.inl rfl)).mono ?_
          rintro e w8 ⟨s8, m8, rfl, ⟨hm8, hv8⟩, hb8⟩
          rw [Int.one_mul, HDD.out] at hv8
          obtain ⟨hkc8, hkf8⟩ := cells_to (hk7.trans (hb8.mono (by simp; omega)))
          have kl8 := hne5.out.keep hb8
          have hb8' : Below (w.heap.size + 1 + 1 + 1) wr w8 := hb7.trans (hb8.mono (by simp; omega))
          have hwb8 : w8.heap.size ≥ w.heap.size + 1 + 1 + 1 := by have := hb8'.size; omega
          go_wp2_with fail
          refine (WideOf_any lo _ (by omega) (by omega)).mono ?_
          rintro e w9 ⟨s9, a9, m9, c9, rfl, ⟨hm9, hv9⟩, hb9⟩
          replace kl8 := kl8.keep hb9
          replace hv8 := hv8.keep hb9
          go_wp2_with fail
          refine (WideMul_any s8 s9 a2 a9 m8 m9 c2 c9 z2 lo _ hv8 hv9 (by omega) (by omega)).mono ?_
          rintro e w10 ⟨s10, a10, m10, c10, rfl, ⟨hm10, hv10⟩, hb10⟩
          replace kl8 := kl8.keep hb10
          obtain ⟨l10, hs10, hi10, hd10, hz10, hdv10, _, _⟩ := hv10.val
          have hmp : 0 ≤ z2 * lo := Int.mul_nonneg (by omega) (by omega)
          have hdv : dv l10 = z2 * lo := by omega
          have hle10 : dv l10 ≤ dv l5 := by rw [hdv, hR.out]; exact hle9.out
          have hll := len_le_of_dv hdl5 hd10 hz10 hs10.len kl8.len hle10
          go_wp2_with fail
          refine (subDigits_any a5 a10 m5 m10 c5 c10 l5 l10 _ kl8 hs10 hdl5 hd10 hle10 hll (by omega)).mono ?_
          rintro e w11 ⟨a11, m11, c11, rfl, ⟨l11, hs11, hi11, hd11, hz11, hdv11, hm11⟩, hb11⟩
          have hfin : Hid (dv l11 = xs[k - 1]?.getD 0 + 1000000000 * L - z2 * lo) := by
            show dv l11 = _
            rw [hdv11, hR.out, hdv]
          have hb12 : Below (w.heap.size + 1 + 1 + 1) w8 w11 := ((hb9.trans (hb10.mono hb9.size)).trans (hb11.mono (Nat.le_trans hb9.size hb10.size))).mono hwb8
          have hB12 : Below (wr.setCell ⟨w.heap.size + 1 + 1 + 1, k - 1, none⟩ (.int .i64 lo)).heap.size (wr.setCell ⟨w.heap.size + 1 + 1 + 1, k - 1, none⟩ (.int .i64 lo)) w11 := hb8.trans (((hb9.trans (hb10.mono hb9.size)).trans (hb11.mono (Nat.le_trans hb9.size hb10.size))).mono hb8.size)
          clear hdv hdv10 hdv11 hmp hle10
          go_wp2_with fail
          go_roundw
          case rel => exact ⟨k - 1, _, _, l11, a11, m11, c11, by congr 1; omega, rfl, by omega, hown7.keep hB12, hs11, hi11, hd11, hz11, hfin, hnx, (hk6.trans hb8').trans hb12⟩
          case measure => simp [intOf]; omega
    · have hk0 : k = 0 := by omega
      have hdn := hdo.out
      rw [hk0] at hdn
      have hf := hdn.fin
      rw [HV1.out] at hf
      have hL0 := hdn.2.2.1
      have hLD := hdn.2.2.2.1
      have HF := Lib.hid hf
      have hqd := hdn.1
      clear hdn hf hk0
      have hsg : SgOk s1 q := by
        rcases R1.out with ⟨h, _⟩ | ⟨h, _⟩ | ⟨h, _⟩
        · exact .inr (.inl h)
        · exact absurd h e1
        · exact .inl h
      go_wp2_with fail
      refine (wideOf_any s1 _ _ _ q _ hown.si (In.of_owns hown) hqd hsg).mono ?_
      rintro e w5 ⟨s5, m5, rfl, ⟨hm5, hv5⟩, hb5⟩
      have hb6 := hbel.trans (hb5.mono hszr)
      obtain ⟨hkc6, hkf6⟩ := cells_to hb6
      have hT6 := hT3.below hb6 (by omega)
      clear hkc hkf
      have hq5 := hb5.size
      have hr1 : w.heap.size < w5.heap.size := by omega
      have hr2 : w.heap.size + 1 < w5.heap.size := by omega
      have hr3 : w.heap.size + 1 + 1 < w5.heap.size := by omega
      have hmath : (0 ≤ s1 → s1 * dv q = z1 / z2) ∧ (s1 < 0 → lm ≤ 0 → s1 * dv q = z1 / z2) ∧ (s1 < 0 → 0 < lm → s1 * dv q - 1 = z1 / z2) := by
        have hlen := hsl.len
        have h0 := (nz_zero hdl hzl)
        rw [hvl.out] at h0
        have hf := HF.out
        rcases R1.out with ⟨h, hz⟩ | ⟨h, _⟩ | ⟨h, hz⟩
        · have hfn := floor_neg hz hf hz2p hL0 hLD
          refine ⟨fun hc => by omega, fun _ hl => ?_, fun _ hl => ?_⟩
          · have : ls = [] := by cases ls with | nil => rfl | cons _ _ => simp at hlen; omega
            rw [hfn, if_neg (by rw [h0.2 this]; omega), h]; omega
          · have : ¬ ls = [] := by intro hc; rw [hc] at hlen; simp at hlen; omega
            have : L ≠ 0 := fun hc => this (h0.1 hc)
            rw [hfn, if_pos (by omega), h]; omega
        · exact absurd h e1
        · refine ⟨fun _ => ?_, fun hc => by omega, fun hc => by omega⟩
          rw [floor_pos (z := z1) (Q := dv q) (by omega) hL0 hLD, h]; omega
      have HMA := Lib.hid hmath
      clear hmath
      have hsl5 := hsl.keep hb5
      go_wp2_with fail
      · refine Calmly.wp_region_mix 3 (.fl 0 <| .eff 1 <| .eff 2 <| .tail [3]) (by kernel_rfl) (by kernel_rfl) ?_
        have hB7 : Below w5.heap.size w5 (w5.alloc (.cells #[.int .i64 s5, .slice (some ⟨w.heap.size + 1 + 1 + 1, 0, none⟩) m5 n1] 78)).drew := ((Below.refl _ _).alloc (Nat.le_refl _) _).drew
        have hT7 := (BlkT.new w5 #[.int .i64 s5, .slice (some ⟨w.heap.size + 1 + 1 + 1, 0, none⟩) m5 n1] 78).drew
        have hT6' := hT6.keep hB7
        have hv7 := hv5.keep hB7
        have hk : Below (w5.alloc (.cells #[.int .i64 s5, .slice (some ⟨w.heap.size + 1 + 1 + 1, 0, none⟩) m5 n1] 78)).drew.heap.size (w5.alloc (.cells #[.int .i64 s5, .slice (some ⟨w.heap.size + 1 + 1 + 1, 0, none⟩) m5 n1] 78)).drew (w5.alloc (.cells #[.int .i64 s5, .slice (some ⟨w.heap.size + 1 + 1 + 1, 0, none⟩) m5 n1] 78)).drew := Below.refl _ _
        go_wp2_with (first | ((with_reducible refine Calmly.is_fl ?_); refine Calmly.mix_fl rfl ?_ (fun _ _ => ?_); (first | exact .move _ | exact .load _ _ | exact .fieldAddr _ _ _ (by kernel_rfl) | exact .assign _ | exact .binOp _ _ _ _ _ rfl | exact .indexAddr _ _ _ | exact .len _ _ (by kernel_rfl) | exact .field _ _ _ | exact .extract _ _ | exact .pick _ _ _ | exact .build _ _ | exact .slice _ _ _ _ _ | exact .unOp _ _ _ rfl | exact .index _ _ _ | exact .max _ _ _ rfl rfl | exact .min _ _ _ rfl rfl)) | ((with_reducible refine Calmly.is_gl ?_); refine Calmly.mix_gl rfl rfl rfl ?_; first | ((first | with_reducible refine Calmly.gl_tt ?_ (fun _ _ => ?_) | with_reducible refine Calmly.gl_ff ?_ (fun _ _ => ?_)); (first | exact .move _ | exact .load _ _ | exact .fieldAddr _ _ _ (by kernel_rfl) | exact .assign _ | exact .binOp _ _ _ _ _ rfl | exact .indexAddr _ _ _ | exact .len _ _ (by kernel_rfl) | exact .field _ _ _ | exact .extract _ _ | exact .pick _ _ _ | exact .build _ _ | exact .slice _ _ _ _ _ | exact .unOp _ _ _ rfl | exact .index _ _ _ | exact .max _ _ _ rfl rfl | exact .min _ _ _ rfl rfl)) | with_reducible refine Calmly.gl_tf (fun _ _ => ?_) | with_reducible refine Calmly.gl_ft (fun _ _ => ?_)) | ((with_reducible refine Calmly.is_eff ?_); refine Calmly.mix_eff rfl (fun _ _ => ?_)) | ((with_reducible refine Calmly.is_gf ?_); refine Calmly.mix_gf rfl rfl rfl ?_; first | with_reducible refine Calmly.gf_tt (fun _ _ => ?_) | with_reducible refine Calmly.gf_ff (fun _ _ => ?_) | with_reducible refine Calmly.gf_tf (kept_of hk) (fun _ _ => ?_) | with_reducible refine Calmly.gf_ft (kept_of hk) (fun _ _ => ?_)) | ((with_reducible refine Calmly.is_tail ?_); first | refine Calmly.mix_tail_nil ?_ | refine Calmly.mix_tail rfl (fun _ _ => ?_)) | ((with_reducible refine Calmly.is_kept ?_); refine ⟨kept_of hk, ?_⟩) | (with_reducible refine Calmly.mix_alt ?_ ?_))
        refine (WideOf_any 1 _ (by omega) (by omega)).mono ?_
        rintro e w8 ⟨s8, a8, m8, c8, rfl, ⟨hm8, hv8⟩, hb8⟩
        replace hk := step_of hk hb8
        replace hv7 := hv7.keep hb8
        go_wp2_with (first | ((with_reducible refine Calmly.is_fl ?_); refine Calmly.mix_fl rfl ?_ (fun _ _ => ?_); (first | exact .move _ | exact .load _ _ | exact .fieldAddr _ _ _ (by kernel_rfl) | exact .assign _ | exact .binOp _ _ _ _ _ rfl | exact .indexAddr _ _ _ | exact .len _ _ (by kernel_rfl) | exact .field _ _ _ | exact .extract _ _ | exact .pick _ _ _ | exact .build _ _ | exact .slice _ _ _ _ _ | exact .unOp _ _ _ rfl | exact .index _ _ _ | exact .max _ _ _ rfl rfl | exact .min _ _ _ rfl rfl)) | ((with_reducible refine Calmly.is_gl ?_); refine Calmly.mix_gl rfl rfl rfl ?_; first | ((first | with_reducible refine Calmly.gl_tt ?_ (fun _ _ => ?_) | with_reducible refine Calmly.gl_ff ?_ (fun _ _ => ?_)); (first | exact .move _ | exact .load _ _ | exact .fieldAddr _ _ _ (by kernel_rfl) | exact .assign _ | exact .binOp _ _ _ _ _ rfl | exact .indexAddr _ _ _ | exact .len _ _ (by kernel_rfl) | exact .field _ _ _ | exact .extract _ _ | exact .pick _ _ _ | exact .build _ _ | exact .slice _ _ _ _ _ | exact .unOp _ _ _ rfl | exact .index _ _ _ | exact .max _ _ _ rfl rfl | exact .min _ _ _ rfl rfl)) | with_reducible refine Calmly.gl_tf (fun _ _ => ?_) | with_reducible refine Calmly.gl_ft (fun _ _ => ?_)) | ((with_reducible refine Calmly.is_eff ?_); refine Calmly.mix_eff rfl (fun _ _ => ?_)) | ((with_reducible refine Calmly.is_gf ?_); refine Calmly.mix_gf rfl rfl rfl ?_; first | with_reducible refine Calmly.gf_tt (fun _ _ => ?_) | with_reducible refine Calmly.gf_ff (fun _ _ => ?_) | with_reducible refine Calmly.gf_tf (kept_of hk) (fun _ _ => ?_) | with_reducible refine Calmly.gf_ft (kept_of hk) (fun _ _ => ?_)) | ((with_reducible refine Calmly.is_tail ?_); first | refine Calmly.mix_tail_nil ?_ | refine Calmly.mix_tail rfl (fun _ _ => ?_)) | ((with_reducible refine Calmly.is_kept ?_); refine ⟨kept_of hk, ?_⟩) | (with_reducible refine Calmly.mix_alt ?_ ?_))
        refine (WideSub_any s5 s8 _ a8 m5 m8 n1 c8 _ 1 _ hv7 hv8 (by omega) (by omega)).mono ?_
        rintro e w9 ⟨s9, a9, m9, c9, rfl, ⟨hm9, hv9⟩, hb9⟩
        replace hk := step_of hk hb9
        obtain ⟨hkc9, hkf9⟩ := cells_of hk
        have hT9 := hT6'.keep hk
        have hT10 := hT7.keep hk
        have hs1 : s1 < 0 := by assumption
        have hlp : 0 < lm := by assumption
        rw [HMA.out.2.2 hs1 hlp] at hv9
        have hne : w.heap.size + 1 + 1 ≠ w5.heap.size := by omega
        go_wp2_with (first | ((with_reducible refine Calmly.is_fl ?_); refine Calmly.mix_fl rfl ?_ (fun _ _ => ?_); (first | exact .move _ | exact .load _ _ | exact .fieldAddr _ _ _ (by kernel_rfl) | exact .assign _ | exact .binOp _ _ _ _ _ rfl | exact .indexAddr _ _ _ | exact .len _ _ (by kernel_rfl) | exact .field _ _ _ | exact .extract _ _ | exact .pick _ _ _ | exact .build _ _ | exact .slice _ _ _ _ _ | exact .unOp _ _ _ rfl | exact .index _ _ _ | exact .max _ _ _ rfl rfl | exact .min _ _ _ rfl rfl)) | ((with_reducible refine Calmly.is_gl ?_); refine Calmly.mix_gl rfl rfl rfl ?_; first | ((first | with_reducible refine Calmly.gl_tt ?_ (fun _ _ => ?_) | with_reducible refine Calmly.gl_ff ?_ (fun _ _ => ?_)); (first | exact .move _ | exact .load _ _ | exact .fieldAddr _ _ _ (by kernel_rfl) | exact .assign _ | exact .binOp _ _ _ _ _ rfl | exact .indexAddr _ _ _ | exact .len _ _ (by kernel_rfl) | exact .field _ _ _ | exact .extract _ _ | exact .pick _ _ _ | exact .build _ _ | exact .slice _ _ _ _ _ | exact .unOp _ _ _ rfl | exact .index _ _ _ | exact .max _ _ _ rfl rfl | exact .min _ _ _ rfl rfl)) | with_reducible refine Calmly.gl_tf (fun _ _ => ?_) | with_reducible refine Calmly.gl_ft (fun _ _ => ?_)) | ((with_reducible refine Calmly.is_eff ?_); refine Calmly.mix_eff rfl (fun _ _ => ?_)) | ((with_reducible refine Calmly.is_gf ?_); refine Calmly.mix_gf rfl rfl rfl ?_; first | with_reducible refine Calmly.gf_tt (fun _ _ => ?_) | with_reducible refine Calmly.gf_ff (fun _ _ => ?_) | with_reducible refine Calmly.gf_tf (kept_of hk) (fun _ _ => ?_) | with_reducible refine Calmly.gf_ft (kept_of hk) (fun _ _ => ?_)) | ((with_reducible refine Calmly.is_tail ?_); first | refine Calmly.mix_tail_nil ?_ | refine Calmly.mix_tail rfl (fun _ _ => ?_)) | ((with_reducible refine Calmly.is_kept ?_); refine ⟨kept_of hk, ?_⟩) | (with_reducible refine Calmly.mix_alt ?_ ?_))
        have qa : ∀ o, ((w9.setCell ⟨w5.heap.size, 0, none⟩ (.int .i64 s9)).setCell ⟨w5.heap.size, 1, none⟩ (.slice a9 m9 c9)).cell? ⟨w.heap.size + 1 + 1, o, none⟩ = (#[Value.int .i64 0, .slice none 0 0] : Array Value)[o]? := fun o => by
          rw [cell_set_ne hne, cell_set_ne hne, hkc9 _ _ (by simp; omega)]
          have := (hB7.cell (p := ⟨w.heap.size + 1 + 1, o, none⟩) hr3)
          rw [this, hkc6 _ _ (by omega)]
          have := cell_block (alloc_new ((w.alloc (.cells #[.int .i64 s1, .slice a1 n1 c1] 78)).alloc (.cells #[.int .i64 s2, .slice a2 n2 c2] 78)) (.cells #[.int .i64 0, .slice none 0 0] 78)) o
          simpa using this
        have qa0 := qa 0
        have qa1 := qa 1
        refine bodyPost_ret (v := .agg #[.int .i64 s9, .slice a9 m9 c9]) (by simp [results, Tryz.results93, go_sem, qa0, qa1]) rfl ⟨s9, a9, m9, c9, rfl, ⟨by omega, ?_⟩, ?_⟩
        · exact (((hv9.set hT10 (by decide)).set (hT10.set _ _) (by decide)).set ((hT9.set _ _).set _ _) (by decide)).set (((hT9.set _ _).set _ _).set _ _) (by decide)
        · have hbb : Below w.heap.size w w5 := hB3.trans (hb6.mono (by omega))
          exact (((((hbb.trans (hB7.mono (by omega))).trans (hk.mono (by simp; omega))).setCell (by simp; omega) _).setCell (by simp; omega) _).setCell (by simp; omega) _).setCell (by simp; omega) _
      · have hs1 : s1 < 0 := by assumption
        have hlp : ¬ 0 < lm := by assumption
        have hM := HMA.out.2.1 hs1 (by omega)
        rw [hM] at hv5
        have qa : ∀ o, w5.cell? ⟨w.heap.size + 1 + 1, o, none⟩ = (#[Value.int .i64 0, .slice none 0 0] : Array Value)[o]? := fun o => by
          rw [hkc6 _ _ (by omega)]
          have := cell_block (alloc_new ((w.alloc (.cells #[.int .i64 s1, .slice a1 n1 c1] 78)).alloc (.cells #[.int .i64 s2, .slice a2 n2 c2] 78)) (.cells #[.int .i64 0, .slice none 0 0] 78)) o
          simpa using this
        have qa0 := qa 0
        have qa1 := qa 1
        have hbb : Below w.heap.size w w5 := hB3.trans (hb6.mono (by omega))
        refine bodyPost_ret (v := .agg #[.int .i64 s5, .slice (some ⟨w.heap.size + 1 + 1 + 1, 0, none⟩) m5 n1]) (by simp [results, Tryz.results93, go_sem, qa0, qa1, hr3]) rfl ⟨s5, _, m5, n1, rfl, ⟨by omega, ?_⟩, ?_⟩
        · exact ((hv5.set hT6 (by decide)).set (hT6.set _ _) (by decide)).keep ((Below.refl _ _).alloc (Nat.le_refl _) _)
        · exact ((hbb.setCell (by simp; omega) _).setCell (by simp; omega) _).alloc (by simp; omega) _
      · have hs1 : 0 ≤ s1 := by assumption
        have hM := HMA.out.1 hs1
        rw [hM] at hv5
        have qa : ∀ o, w5.cell? ⟨w.heap.size + 1 + 1, o, none⟩ = (#[Value.int .i64 0, .slice none 0 0] : Array Value)[o]? := fun o => by
          rw [hkc6 _ _ (by omega)]
          have := cell_block (alloc_new ((w.alloc (.cells #[.int .i64 s1, .slice a1 n1 c1] 78)).alloc (.cells #[.int .i64 s2, .slice a2 n2 c2] 78)) (.cells #[.int .i64 0, .slice none 0 0] 78)) o
          simpa using this
        have qa0 := qa 0
        have qa1 := qa 1
        have hbb : Below w.heap.size w w5 := hB3.trans (hb6.mono (by omega))
        refine bodyPost_ret (v := .agg #[.int .i64 s5, .slice (some ⟨w.heap.size + 1 + 1 + 1, 0, none⟩) m5 n1]) (by simp [results, Tryz.results93, go_sem, qa0, qa1, hr3]) rfl ⟨s5, _, m5, n1, rfl, ⟨by omega, ?_⟩, ?_⟩
        · exact ((hv5.set hT6 (by decide)).set (hT6.set _ _) (by decide)).keep ((Below.refl _ _).alloc (Nat.le_refl _) _)
        · exact ((hbb.setCell (by simp; omega) _).setCell (by simp; omega) _).alloc (by simp; omega) _
end Go.Proofs.YtfjcfbmfpefabaaGreat
