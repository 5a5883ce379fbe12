/- Contracts of chapter 2: the reference's responses, spectra, added samples and sums of sizes. Rows of slices of integers of the call's own. The law MotionRecords, walked. -/
import Derived.Test.YtiibdndchkbefaaK10
import Derived.Maps.AppendAt
namespace Go.Proofs.Ytiibdndchkbefaa
open Go.RowKit
open Calmly (Kept)

theorem toZero_any (n : Int) (w : World) (h1 : -9000000000000000000 ≤ n) (h2 : n ≤ 9000000000000000000) :
    Calls Try.prog 105 #[.int .i64 n, .int .i64 1000] w fun e w' => e = .returned (.int .i64 (n.tdiv 1000)) ∧ w = w' := by
  by_cases h : n < 0
  · have e1 : -((-n) / 1000) = n.tdiv 1000 := by
      rw [← Int.tdiv_eq_ediv_of_nonneg (by omega), Int.neg_tdiv, Int.neg_neg]
    have h5 : -9000000000000000000 ≤ (-n) / 1000 ∧ (-n) / 1000 ≤ 9000000000000000000 := by omega
    obtain ⟨h5, h6⟩ := h5
    have HE := Lib.hid e1
    clear e1
    go_enter Try.func105, Try.ntmps105
    go_wp2_with fail
    refine (floor_any (-n) 1000 _ (by omega) (by omega) (by omega) (by omega)).mono ?_
    rintro e w1 ⟨rfl, rfl⟩
    go_wp2_with fail
    go_ret
    exact ⟨ret_int HE.out, rfl⟩
  · have e1 : n / 1000 = n.tdiv 1000 := by rw [Int.tdiv_eq_ediv_of_nonneg (by omega)]
    have hn : 0 ≤ n := by omega
    have HE := Lib.hid e1
    clear e1 h
    go_enter Try.func105, Try.ntmps105
    go_wp2_with fail
    refine (floor_any n 1000 _ (by omega) (by omega) (by omega) (by omega)).mono ?_
    rintro e w1 ⟨rfl, rfl⟩
    go_wp2_with fail
    go_ret
    exact ⟨ret_int HE.out, rfl⟩

set_option maxRecDepth 100000 in
set_option maxHeartbeats 1000000 in
theorem rResponse_any (a : Option Addr) (n c : Nat) (xs : List Int) (st dm : Int) (w : World) (h1 : SI w a n c xs) (hn : n ≤ 26) (ho : oscE (st, dm) = 0) (hb : ∀ j : Nat, -1000 ≤ xs[j]?.getD 0 ∧ xs[j]?.getD 0 ≤ 1000) :
    Calls Try.prog 42 #[.slice a n c, .agg #[.int .i64 st, .int .i64 dm]] w fun e w' => ∃ a' c', e = .returned (.slice a' n c') ∧ SI w' a' n c' (rspTo xs st dm n) ∧ Below w.heap.size w w' := by
  have m1 := h1.max
  have c1 := h1.cap
  have HO := Lib.hid ho
  have HB := Lib.hid hb
  clear ho hb
  have hA : Below w.heap.size w (w.alloc (.cells #[.int .i64 st, .int .i64 dm] 49)) := (Below.refl _ _).alloc (Nat.le_refl _) _
  have x1 := alloc_new w (.cells #[.int .i64 st, .int .i64 dm] 49)
  go_enter Try.func42, Try.ntmps42
  go_wp2_with fail
  obtain ⟨V, hV⟩ : ∃ V, w.alloc (.cells #[.int .i64 st, .int .i64 dm] 49) = V := ⟨_, rfl⟩
  have hVs : V.heap.size = w.heap.size + 1 := by rw [← hV]; simp
  rw [hV] at hA x1 ⊢
  clear hV
  go_loopw [5, 6, 7, 8] (fun o l s i wr => ∃ (k c' : Nat) (a' : Option Addr), i = .int .i64 (k : Int) ∧ k ≤ n ∧ l = .int .i64 (rspT xs st dm k).1 ∧ s = .int .i64 (rspT xs st dm k).2 ∧ o = .slice a' k c' ∧ OwI wr (w.heap.size + 1) a' k c' (rspTo xs st dm k) ∧ Below V.heap.size V wr) (fun _ _ _ i _ => n - (intOf i).toNat)
  case atStart => exact ⟨0, 0, none, rfl, by omega, rfl, rfl, rfl, OwI.nil _ _, Below.refl _ _⟩
  case round =>
    obtain ⟨k, c', a', rfl, hk, rfl, rfl, rfl, hown, hbr⟩ := hrel
    have hs := hbr.size
    have hbw := hA.trans (hbr.mono hA.size)
    have x2 := blk_keep x1 hbr
    have f0 := cell_block x2 0
    have f1 := cell_block x2 1
    by_cases hlt : k < n
    · obtain ⟨ba, oa, rfl, hca⟩ := (h1.keep hbw).at_ (by omega)
      have ea := hca k hlt
      have hx := HB.out k
      obtain ⟨b1, b2⟩ := rspT_num HO.out HB.out k (by omega)
      have hn1 : rspT xs st dm (k + 1) = (2 * (rspT xs st dm k).1 - (rspT xs st dm k).2 - (st * (rspT xs st dm k).1 + dm * ((rspT xs st dm k).1 - (rspT xs st dm k).2)).tdiv 1000 - xs[k]?.getD 0, (rspT xs st dm k).1) := rfl
      have hn2 := rspTo_succ xs st dm k
      obtain ⟨x, hxx⟩ : ∃ x, xs[k]?.getD 0 = x := ⟨_, rfl⟩
      obtain ⟨p, hpp⟩ : ∃ p, rspT xs st dm k = p := ⟨_, rfl⟩
      obtain ⟨u, v⟩ := p
      rw [hxx] at ea hx hn1
      rw [hpp] at b1 b2 hn1 ⊢
      dsimp only at b1 b2 hn1 ⊢
      obtain ⟨⟨g1, g2⟩, ⟨g3, g4⟩, g5, g6⟩ := rsp_nums HO.out b1 b2 hx
      rw [hn1] at hn2
      obtain ⟨q, hq⟩ : ∃ q, (st * u + dm * (u - v)).tdiv 1000 = q := ⟨_, rfl⟩
      rw [hq] at hn1 hn2 g5 g6
      have HN1 := Lib.hid hn1
      have HN2 := Lib.hid hn2
      have HQ := Lib.hid hq
      clear hca hn1 hn2 hxx hpp hq
      obtain ⟨hx1, hx2⟩ := hx
      obtain ⟨b1, b1'⟩ := b1
      obtain ⟨b2, b2'⟩ := b2
      have hi : (k : Int) < (n : Int) := by omega
      have hi0 : (0 : Int) ≤ (k : Int) := by omega
      go_wp2_with fail
      refine (toZero_any _ _ (by omega) (by omega)).mono ?_
      rintro e w4 ⟨rfl, rfl⟩
      rw [HQ.out]
      go_wp2_with (first | (at_builtin; refine appI rfl _ _ rfl hown rfl rfl (by omega) (by omega) ?_; intro a2' c2' w5 ho5 hb5 hs5))
      go_roundw
      case rel => exact ⟨k + 1, c2', a2', by go_num, by omega, by rw [HN1.out], by rw [HN1.out], rfl, by rw [HN2.out]; exact ho5, hbr.trans (hb5.mono (by omega))⟩
      case measure => simp [intOf]; omega
    · have hle : (n : Int) ≤ (k : Int) := by omega
      obtain rfl : n = k := by omega
      go_wp2_with fail
      go_ret
      exact ⟨a', c', rfl, hown.si, hbw⟩

set_option maxRecDepth 100000 in
set_option maxHeartbeats 1000000 in
theorem rOutside_any (a : Option Addr) (n c : Nat) (xs : List Int) (b : Option Addr) (m d : Nat) (l : List Four) (w : World) (h1 : SI w a n c xs) (h2 : SB w b m d l) (hn : n ≤ 26) (hb : ∀ j : Nat, -1000 ≤ xs[j]?.getD 0 ∧ xs[j]?.getD 0 ≤ 1000) (hm : m ≤ 1000) (ho : ∀ k, k < l.length → oscE (l[k]?.getD four0).1 = 0) :
    Calls Try.prog 27 #[.slice a n c, .slice b m d] w fun e w' => ∃ a' n' c', e = .returned (.slice a' n' c') ∧ SI w' a' n' c' (outT xs l m) ∧ Below w.heap.size w w' := by
  obtain ⟨l1, l2⟩ : n ≤ xs.length ∧ xs.length ≤ n := by have := h1.len; omega
  obtain ⟨k1, k2⟩ : m ≤ l.length ∧ l.length ≤ m := by have := h2.len; omega
  have m1 := h1.max
  have c1 := h1.cap
  have m2 := h2.max
  have c2 := h2.cap
  have HB := Lib.hid hb
  have HO := Lib.hid ho
  clear hb ho
  go_enter Try.func27, Try.ntmps27
  go_wp2_with fail
  go_loopw [5, 6] (fun o i wr => ∃ (k n' c' : Nat) (a' : Option Addr), i = .int .i64 (k : Int) ∧ k ≤ m ∧ o = .slice a' n' c' ∧ n' ≤ k ∧ OwI wr w.heap.size a' n' c' (outT xs l k) ∧ Below w.heap.size w wr) (fun _ i _ => m - (intOf i).toNat)
  case atStart => exact ⟨0, 0, 0, none, rfl, by omega, rfl, by omega, OwI.nil _ _, Below.refl _ _⟩
  case round =>
    obtain ⟨k, n', c', a', rfl, hk, rfl, hnk, hown, hbr⟩ := hrel
    have hrs := hbr.size
    by_cases hlt : k < m
    · obtain ⟨cb, co, rfl, hcc⟩ := h2.at_ (by omega)
      obtain ⟨z0, z1, z2, z3⟩ := hcc k hlt
      have hoo := HO.out k (by omega)
      have hns := outT_succ xs l k
      obtain ⟨rr, hrr⟩ : ∃ rr, l[k]?.getD four0 = rr := ⟨_, rfl⟩
      obtain ⟨⟨st, dm⟩, ⟨lo, hi⟩⟩ := rr
      rw [hrr] at z0 z1 z2 z3 hoo hns
      dsimp only at z0 z1 z2 z3 hoo
      clear hrr hcc
      obtain ⟨P, hP⟩ : ∃ P, gsT (rspTo xs st dm n) n = P := ⟨_, rfl⟩
      have hob : outB xs ((st, dm), (lo, hi)) = !(wIn P lo hi) := by
        unfold outB pkO
        rw [show xs.length = n by omega, hP]
      rw [hob] at hns
      have hPb : ∀ j : Nat, -9000000000000000000 ≤ (rspTo xs st dm n)[j]?.getD 0 ∧ (rspTo xs st dm n)[j]?.getD 0 ≤ 9000000000000000000 := by
        intro j
        rcases Nat.lt_or_ge j n with hj | hj
        · rw [rspTo_get xs st dm n j hj]
          have := rspT_num hoo HB.out (j + 1) (by omega)
          omega
        · rw [List.getElem?_eq_none (by rw [rspTo_len]; exact hj)]
          simp
      have HP := Lib.hid hP
      have HPB := Lib.hid hPb
      have HOO := Lib.hid hoo
      clear hP hPb hob hoo
      have y0 := cell_keep z0 hbr
      have y1 := cell_keep z1 hbr
      have hi1 : (k : Int) < (m : Int) := by omega
      have hi0 : (0 : Int) ≤ (k : Int) := by omega
      go_wp2_with fail
      refine (rResponse_any a n c xs st dm _ (h1.keep hbr) hn HOO.out HB.out).mono ?_
      rintro e w3 ⟨a3, c3, rfl, s3, hs3⟩
      replace hown := hown.keep hs3
      replace hbr := hbr.trans (hs3.mono hrs)
      clear y0 y1 hs3 hrs
      have hrs := hbr.size
      go_wp2_with fail
      refine (rGreatest_any a3 n c3 _ _ s3 HPB.out).mono ?_
      rintro e w4 ⟨rfl, q, rfl⟩
      rw [HP.out]
      replace hown := hown.below (below_drewN (Below.refl w3.heap.size w3) q) (Nat.le_refl _)
      replace hbr := below_drewN hbr q
      clear s3
      have hrs4 : w.heap.size ≤ (w3.drewN q).heap.size := hrs
      generalize w3.drewN q = w4 at hown hbr hrs4 ⊢
      cases hwb : wIn P lo hi
      · have hns2 : outT xs l (k + 1) = outT xs l k ++ [(k : Int)] := by rw [hns, hwb]; rfl
        have HNS := Lib.hid hns2
        have HWB := Lib.hid hwb
        clear hns hns2 hwb
        go_wp2_with fail
        refine Calmly.wp_region_mix 14 (.fl 0 <| .fl 1 <| .fl 2 <| .fl 3 <| .fl 4 <| .fl 5 <| .fl 6 <| .fl 7 <| .fl 8 <| .fl 9 <| .fl 10 <| .fl 11 <| .fl 12 <| .eff 13 <| .tail [14]) (by kernel_rfl) (by kernel_rfl) ?_
        have BV : Below w4.heap.size w4 w4.drew := (Below.refl _ _).drew
        generalize w4.drew = V at BV ⊢
        replace hown := hown.keep BV
        replace hbr := hbr.trans (BV.mono hrs4)
        have y2 := cell_keep z2 hbr
        have y3 := cell_keep z3 hbr
        have hk := Below.refl V.heap.size V
        have hVs := hbr.size
        go_wp2_with (first | ((with_reducible refine Calmly.is_fl ?_); refine Calmly.mix_fl rfl ?_ (fun _ _ => ?_); (first | exact .move _ | exact .load _ _ | exact .fieldAddr _ _ _ (by kernel_rfl) | exact .assign _ | exact .binOp _ _ _ _ _ rfl | exact .indexAddr _ _ _ | exact .len _ _ (by kernel_rfl) | exact .field _ _ _ | exact .extract _ _ | exact .pick _ _ _ | exact .build _ _ | exact .slice _ _ _ _ _ | exact .unOp _ _ _ rfl | exact .index _ _ _ | exact .max _ _ _ rfl rfl | exact .min _ _ _ rfl rfl)) | ((with_reducible refine Calmly.is_gl ?_); refine Calmly.mix_gl rfl rfl rfl ?_; first | ((first | with_reducible refine Calmly.gl_tt ?_ (fun _ _ => ?_) | with_reducible refine Calmly.gl_ff ?_ (fun _ _ => ?_)); (first | exact .move _ | exact .load _ _ | exact .fieldAddr _ _ _ (by kernel_rfl) | exact .assign _ | exact .binOp _ _ _ _ _ rfl | exact .indexAddr _ _ _ | exact .len _ _ (by kernel_rfl) | exact .field _ _ _ | exact .extract _ _ | exact .pick _ _ _ | exact .build _ _ | exact .slice _ _ _ _ _ | exact .unOp _ _ _ rfl | exact .index _ _ _ | exact .max _ _ _ rfl rfl | exact .min _ _ _ rfl rfl)) | with_reducible refine Calmly.gl_tf (fun _ _ => ?_) | with_reducible refine Calmly.gl_ft (fun _ _ => ?_)) | ((with_reducible refine Calmly.is_eff ?_); refine Calmly.mix_eff rfl (fun _ _ => ?_)) | ((with_reducible refine Calmly.is_gf ?_); refine Calmly.mix_gf rfl rfl rfl ?_; first | with_reducible refine Calmly.gf_tt (fun _ _ => ?_) | with_reducible refine Calmly.gf_ff (fun _ _ => ?_) | with_reducible refine Calmly.gf_tf (kept_of hk) (fun _ _ => ?_) | with_reducible refine Calmly.gf_ft (kept_of hk) (fun _ _ => ?_)) | ((with_reducible refine Calmly.is_tail ?_); first | refine Calmly.mix_tail_nil ?_ | refine Calmly.mix_tail rfl (fun _ _ => ?_)) | ((with_reducible refine Calmly.is_kept ?_); refine ⟨kept_of hk, ?_⟩) | (with_reducible refine Calmly.mix_alt ?_ ?_) | (go_at_call 28; refine (within_any _ _ _ _).mono ?_; rintro e w5 ⟨rfl, rfl⟩; rw [HWB.out]) | (at_builtin; refine appI rfl _ _ rfl hown rfl rfl (by omega) (by omega) ?_; intro a2' c2' w6 ho6 hb6 hs6))
        go_roundw
        case rel => exact ⟨k + 1, n' + 1, c2', a2', by go_num, by omega, rfl, by omega, by rw [HNS.out]; exact ho6, hbr.trans hb6⟩
        case measure => simp [intOf]; omega
      · have hns2 : outT xs l (k + 1) = outT xs l k := by rw [hns, hwb]; rfl
        have HNS := Lib.hid hns2
        have HWB := Lib.hid hwb
        clear hns hns2 hwb
        go_wp2_with fail
        refine Calmly.wp_region_mix 14 (.fl 0 <| .fl 1 <| .fl 2 <| .fl 3 <| .fl 4 <| .fl 5 <| .fl 6 <| .fl 7 <| .fl 8 <| .fl 9 <| .fl 10 <| .fl 11 <| .fl 12 <| .eff 13 <| .tail [14]) (by kernel_rfl) (by kernel_rfl) ?_
        have BV : Below w4.heap.size w4 w4.drew := (Below.refl _ _).drew
        generalize w4.drew = V at BV ⊢
        replace hown := hown.keep BV
        replace hbr := hbr.trans (BV.mono hrs4)
        have y2 := cell_keep z2 hbr
        have y3 := cell_keep z3 hbr
        have hk := Below.refl V.heap.size V
        go_wp2_with (first | ((with_reducible refine Calmly.is_fl ?_); refine Calmly.mix_fl rfl ?_ (fun _ _ => ?_); (first | exact .move _ | exact .load _ _ | exact .fieldAddr _ _ _ (by kernel_rfl) | exact .assign _ | exact .binOp _ _ _ _ _ rfl | exact .indexAddr _ _ _ | exact .len _ _ (by kernel_rfl) | exact .field _ _ _ | exact .extract _ _ | exact .pick _ _ _ | exact .build _ _ | exact .slice _ _ _ _ _ | exact .unOp _ _ _ rfl | exact .index _ _ _ | exact .max _ _ _ rfl rfl | exact .min _ _ _ rfl rfl)) | ((with_reducible refine Calmly.is_gl ?_); refine Calmly.mix_gl rfl rfl rfl ?_; first | ((first | with_reducible refine Calmly.gl_tt ?_ (fun _ _ => ?_) | with_reducible refine Calmly.gl_ff ?_ (fun _ _ => ?_)); (first | exact .move _ | exact .load _ _ | exact .fieldAddr _ _ _ (by kernel_rfl) | exact .assign _ | exact .binOp _ _ _ _ _ rfl | exact .indexAddr _ _ _ | exact .len _ _ (by kernel_rfl) | exact .field _ _ _ | exact .extract _ _ | exact .pick _ _ _ | exact .build _ _ | exact .slice _ _ _ _ _ | exact .unOp _ _ _ rfl | exact .index _ _ _ | exact .max _ _ _ rfl rfl | exact .min _ _ _ rfl rfl)) | with_reducible refine Calmly.gl_tf (fun _ _ => ?_) | with_reducible refine Calmly.gl_ft (fun _ _ => ?_)) | ((with_reducible refine Calmly.is_eff ?_); refine Calmly.mix_eff rfl (fun _ _ => ?_)) | ((with_reducible refine Calmly.is_gf ?_); refine Calmly.mix_gf rfl rfl rfl ?_; first | with_reducible refine Calmly.gf_tt (fun _ _ => ?_) | with_reducible refine Calmly.gf_ff (fun _ _ => ?_) | with_reducible refine Calmly.gf_tf (kept_of hk) (fun _ _ => ?_) | with_reducible refine Calmly.gf_ft (kept_of hk) (fun _ _ => ?_)) | ((with_reducible refine Calmly.is_tail ?_); first | refine Calmly.mix_tail_nil ?_ | refine Calmly.mix_tail rfl (fun _ _ => ?_)) | ((with_reducible refine Calmly.is_kept ?_); refine ⟨kept_of hk, ?_⟩) | (with_reducible refine Calmly.mix_alt ?_ ?_) | (go_at_call 28; refine (within_any _ _ _ _).mono ?_; rintro e w5 ⟨rfl, rfl⟩; rw [HWB.out]))
        go_roundw
        case rel => exact ⟨k + 1, n', c', a', by go_num, by omega, rfl, by omega, by rw [HNS.out]; exact hown, hbr⟩
        case measure => simp [intOf]; omega
    · have hle : (m : Int) ≤ (k : Int) := by omega
      obtain rfl : m = k := by omega
      go_wp2_with fail
      go_ret
      exact ⟨a', n', c', rfl, hown.si, hbr⟩

set_option maxRecDepth 100000 in
set_option maxHeartbeats 1000000 in
theorem rSizes_any (a : Option Addr) (n c : Nat) (xs : List Int) (w : World) (h1 : SI w a n c xs) (hn : n ≤ 1000000) (hb : ∀ j : Nat, -1000000000 ≤ xs[j]?.getD 0 ∧ xs[j]?.getD 0 ≤ 1000000000) :
    Calls Try.prog 62 #[.slice a n c] w fun e w' => e = .returned (.int .i64 (szT xs n)) ∧ w = w' := by
  have m1 := h1.max
  have c1 := h1.cap
  have hsb : ∀ k : Nat, 0 ≤ szT xs k ∧ szT xs k ≤ 1000000000 * (k : Int) := by
    intro k
    induction k with
    | zero => simp [szT]
    | succ k ih =>
      have := hb k
      rw [szT, sizeOf_abs]
      omega
  have HB := Lib.hid hb
  have HS := Lib.hid hsb
  clear hb hsb
  go_enter Try.func62, Try.ntmps62
  go_wp2_with fail
  go_loop [3, 4] (fun s i => ∃ k : Nat, k ≤ n ∧ i = .int .i64 k ∧ s = .int .i64 (szT xs k)) (fun _ i => n - (intOf i).toNat)
  case atStart => exact ⟨0, by omega, rfl, rfl⟩
  case round =>
    obtain ⟨k, hk, rfl, rfl⟩ := hrel
    obtain ⟨s1, s2⟩ := HS.out k
    by_cases hlt : k < n
    · obtain ⟨b1, o1, rfl, hc1⟩ := h1.at_ (by omega)
      have e1 := hc1 k hlt
      clear hc1
      have hd : szT xs (k + 1) = szT xs k + ((xs[k]?.getD 0).natAbs : Nat) := by rw [szT, sizeOf_abs]
      have hx := HB.out k
      obtain ⟨x, hxx⟩ : ∃ x, xs[k]?.getD 0 = x := ⟨_, rfl⟩
      obtain ⟨m, hm⟩ : ∃ m, szT xs k = m := ⟨_, rfl⟩
      rw [hxx] at e1 hx hd
      rw [hm] at hd s1 s2 ⊢
      have HD := Lib.hid hd
      clear hxx hm hd
      obtain ⟨hx1, hx2⟩ := hx
      have hxa : ((x.natAbs : Nat) : Int) ≤ 1000000000 := by omega
      have hi : (k : Int) < (n : Int) := by omega
      have hi0 : (0 : Int) ≤ (k : Int) := by omega
      go_wp2_with fail
      refine (size_any _ _ (by omega) (by omega)).mono ?_
      rintro e w1 ⟨rfl, rfl⟩
      go_wp2_with fail
      go_round
      case rel => exact ⟨k + 1, by omega, by go_num, by rw [HD.out]⟩
      case measure => simp [intOf]; omega
    · have hle : (n : Int) ≤ (k : Int) := by omega
      obtain rfl : k = n := by omega
      go_wp2_with fail
      go_ret
      exact ⟨rfl, rfl⟩
end Go.Proofs.Ytiibdndchkbefaa

namespace Go.Proofs.Ytiibdndchkbefaa
open Go.RowKit
open Calmly (Kept)

theorem SI.same {w w' : World} {a : Option Addr} {n c : Nat} {xs : List Int} (h : SI w a n c xs) (hs : ∀ b o, a = some ⟨b, o, none⟩ → w'.heap[b]? = w.heap[b]?) : SI w' a n c xs := by
  obtain ⟨h1, h2, h3, h4⟩ := h
  refine ⟨h1, h2, h3, ?_⟩
  rcases h4 with h4 | ⟨b, off, ha, hc⟩
  · exact .inl h4
  · refine .inr ⟨b, off, ha, fun i hi => ?_⟩
    rw [World.cell?_of_block (hs b off ha)]
    exact hc i hi
abbrev Hd := Option Addr × Nat × Nat
def hd0 : Hd := (none, 0, 0)
def hv (h : Hd) : Value := .slice h.1 h.2.1 h.2.2
/-- A row of slices of the call's own; each of them reads as its list, and lies in a row of integers. -/
def OwW (w : World) (B : Nat) (a : Option Addr) (n c : Nat) (ls : List (List Int)) : Prop :=
  ∃ hs : List Hd, w.ownsRow B 22 1 (.slice a n c) n (hs.map hv) ∧ hs.length = n ∧ ls.length = n ∧ ∀ i, i < n → SI w (hs[i]?.getD hd0).1 (hs[i]?.getD hd0).2.1 (hs[i]?.getD hd0).2.2 (ls[i]?.getD []) ∧ In w 3 (hs[i]?.getD hd0).1
theorem OwW.nil (w : World) (B : Nat) : OwW w B none 0 0 [] := ⟨[], World.ownsRow_nil w B _ 1, rfl, rfl, fun i hi => by omega⟩
theorem OwW.len {w : World} {B : Nat} {a : Option Addr} {n c : Nat} {ls : List (List Int)} (h : OwW w B a n c ls) : n = ls.length := by
  obtain ⟨_, _, _, h3, _⟩ := h
  exact h3.symm
theorem OwW.sw {w : World} {B : Nat} {a : Option Addr} {n c : Nat} {ls : List (List Int)} (h : OwW w B a n c ls) : SW w a n c ls := by
  obtain ⟨hs, h1, h2, h3, h4⟩ := h
  have h5 := h1.2
  obtain ⟨a', c', he, hl, hn, hm, hp⟩ := Sl.of_owns h1
  cases he
  refine ⟨h3.symm, hn, hm, ?_⟩
  rcases hp with hp | ⟨b, off, ha, hc⟩
  · rcases h5 with ⟨he, _⟩ | ⟨g, cap, cur, he, _⟩
    · cases he
      exact .inl ⟨rfl, rfl⟩
    · cases he
      exact .inr ⟨g, 0, rfl, fun i hi => by omega⟩
  · refine .inr ⟨b, off, ha, fun i hi => ?_⟩
    have := hc i (by omega)
    have hi2 : i < hs.length := by omega
    rw [List.getElem?_map, List.getElem?_eq_getElem hi2] at this
    refine ⟨_, _, _, this, ?_⟩
    have h5 := (h4 i hi).1
    rw [List.getElem?_eq_getElem hi2] at h5
    exact h5
theorem owns_below {w w' : World} {B B' : Nat} {e : TypeId} {k : Nat} {v : Value} {n : Nat} {xs : List Value} (h : w.ownsRow B e k v n xs) (hb : Below B' w w') (hB : w.heap.size ≤ B') : w'.ownsRow B e k v n xs := by
  obtain ⟨h1, h2⟩ := h
  refine ⟨h1, ?_⟩
  rcases h2 with h2 | ⟨g, cap, cur, hv, hg, hh, r⟩
  · exact .inl h2
  · refine .inr ⟨g, cap, cur, hv, hg, ?_, r⟩
    rw [hb.block g (by have := (Array.getElem?_eq_some_iff.1 hh).1; omega)]
    exact hh
theorem OwW.keep {w w' : World} {B : Nat} {a : Option Addr} {n c : Nat} {ls : List (List Int)} (h : OwW w B a n c ls) (hb : Below w.heap.size w w') : OwW w' B a n c ls := by
  obtain ⟨hs, h1, h2, h3, h4⟩ := h
  exact ⟨hs, owns_below h1 hb (Nat.le_refl _), h2, h3, fun i hi => ⟨(h4 i hi).1.keep hb, (h4 i hi).2.keep hb⟩⟩
theorem OwW.drew {w : World} {B : Nat} {a : Option Addr} {n c : Nat} {ls : List (List Int)} (h : OwW w B a n c ls) : OwW w.drew B a n c ls := h.keep (Below.refl _ _).drew
theorem OwI.in_ {w : World} {B : Nat} {a : Option Addr} {n c : Nat} {xs : List Int} (h : OwI w B a n c xs) : In w 3 a := In.of_owns h

theorem Try.info_ints : (Try.prog.info? 22).map (fun i => (i.zero, i.size, i.bytes)) = some (some (.slice none 0 0), 1, 24) := by kernel_rfl
/-- 'append' of a slice to a row of slices of the call's own. -/
theorem appW {ops : Array Oper} {rest : List Oper} {o : Oper} {a : Act} {Q : Exit → Act → World → Prop} {Wx : World} (w0 : World) {B : Nat} {av : Option Addr} {n c : Nat} {ls : List (List Int)} {h : Hd} {xs : List Int}
    (hW : Wx = w0.alloc (.cells #[.slice h.1 h.2.1 h.2.2] 22)) (hgd : o.guard = none) (s x : Operand)
    (ho : o.op = .call { callee := .builtin .append, args := #[s, x], argTypes := #[25, 25] })
    (hown : OwW w0 B av n c ls) (hsi : SI w0 h.1 h.2.1 h.2.2 xs) (hin : In w0 3 h.1) (hs : a.eval s = .slice av n c) (hx : a.eval x = .slice (some ⟨w0.heap.size, 0, none⟩) 1 1)
    (hb1 : n + 1 ≤ 1099511627776) (hB : B ≤ w0.heap.size)
    (hK : ∀ a' c' w', OwW w' B a' (n + 1) c' (ls ++ [xs]) → Below B w0 w' → w0.heap.size < w'.heap.size → wpList Try.prog ops Q rest (a.put o.dst (.slice a' (n + 1) c')) w') :
    wpList Try.prog ops Q (o :: rest) a Wx := by
  subst hW
  obtain ⟨hs', k1, k2, k3, k4⟩ := hown
  obtain ⟨i0, hi, hz0, hz1, hz2⟩ := info_parts Try.info_ints
  refine wpList_append_own_at _ hgd s x _ ho B _ i0 (.slice none 0 0) 1 24 Try.underlying25 hi hz0 hz1 hz2 rfl (by decide) _ n _ hs (World.ownsRow.alloc k1 _) ⟨w0.heap.size, 0, none⟩ 1 1 (#[Value.slice h.1 h.2.1 h.2.2]).toList hx (by simp) (cells_new w0 _ _) (by simp [Value.oneCell']) (by unfold maxLen; omega) (by omega) (by simp; omega) ?_
  intro v' w1 ho1 hg hn hat
  have hrow : ∀ j, (Value.slice av n c).ownBlock = some j → B ≤ j := fun j hj => (World.ownsRow.lt k1 j hj).1
  have hb0 : Below B w0 (w0.alloc (.cells #[.slice h.1 h.2.1 h.2.2] 22)) := (Below.refl _ _).alloc hB _
  have hb2 : Below B w0 w1 := hb0.trans (grown_below hg (by simp; omega) hrow)
  have hsz2 := hg.size
  -- what lies in a row of integers is as it was
  have same : ∀ (ad : Option Addr), In w0 3 ad → ∀ b o, ad = some ⟨b, o, none⟩ → w1.heap[b]? = w0.heap[b]? := by
    intro ad had b o he
    subst he
    rcases had with had | ⟨b', o', he, hbl⟩
    · cases had
    · cases he
      have hlt := hbl.lt
      rw [hg.block b (by simp; omega) ?_]
      · exact ((Below.refl w0.heap.size w0).alloc (Nat.le_refl _) _).block b hlt
      · intro hrw
        obtain ⟨_, k5⟩ := k1
        rcases k5 with ⟨k5, _⟩ | ⟨g, cap, cur, hv', _, hh, _⟩
        · cases k5
          simp [Value.ownBlock] at hrw
        · cases hv'
          simp [Value.ownBlock] at hrw
          subst hrw
          exact hbl.ne ⟨cur, hh⟩ (by decide) rfl
  have keepIn : ∀ (ad : Option Addr), In w0 3 ad → In w1 3 ad := by
    intro ad had
    rcases had with had | ⟨b', o', he, cs, hbl⟩
    · exact .inl had
    · exact .inr ⟨b', o', he, cs, (same ad (.inr ⟨b', o', he, cs, hbl⟩) b' o' he).trans hbl⟩
  obtain ⟨hlen, ho2⟩ := ho1
  rcases ho2 with ⟨_, h0⟩ | ⟨g, cap, cur, rfl, r⟩
  · omega
  · refine hK _ _ w1 ⟨hs' ++ [h], ?_, by simp; omega, by simp; omega, fun i hi' => ?_⟩ hb2 (by simp at hsz2; omega)
    · rw [List.map_append]
      exact ⟨hlen, .inr ⟨g, cap, cur, rfl, r⟩⟩
    · rcases Nat.lt_or_ge i n with hin' | hin'
      · rw [List.getElem?_append_left (by omega), List.getElem?_append_left (by omega)]
        obtain ⟨k5, k6⟩ := k4 i hin'
        exact ⟨k5.same (same _ k6), keepIn _ k6⟩
      · obtain rfl : i = n := by omega
        rw [List.getElem?_append_right (by omega), List.getElem?_append_right (by omega), k2, k3, Nat.sub_self]
        exact ⟨hsi.same (same _ hin), keepIn _ hin⟩
end Go.Proofs.Ytiibdndchkbefaa

namespace Go.Proofs.Ytiibdndchkbefaa
open Go.RowKit
open Calmly (Kept)

theorem decide_refl (l : List Int) : decide (l = l) = true := by simp

set_option maxRecDepth 100000 in
set_option maxHeartbeats 4000000 in
theorem MotionRecords_walk (step : Int) (a : Option Addr) (n c : Nat) (xs : List Int) (w : World) (h1 : SI w a n c xs) :
    Calls Try.prog 5 #[.agg #[.int .i64 step, .slice a n c]] w fun e w' => e = .returned (.bool true) ∧ Below w.heap.size w w' := by
  have hA : ∀ (A : World) (o : Obj), Below A.heap.size A (A.alloc o) := fun A o => (Below.refl _ _).alloc (Nat.le_refl _) _
  obtain ⟨l1, l2⟩ : n ≤ xs.length ∧ xs.length ≤ n := by have := h1.len; omega
  have m1 := h1.max
  have c1 := h1.cap
  have x1 := alloc_new w (.cells #[.int .i64 step, .slice a n c] 24)
  have BW := hA w (.cells #[.int .i64 step, .slice a n c] 24)
  go_enter Try.func5, Try.ntmps5
  go_wp2_with fail
  refine (awake_any _).mono ?_
  rintro e w1 ⟨rfl, hs⟩
  replace x1 := blk_keep x1 hs
  replace BW := BW.trans (hs.mono BW.size)
  clear hs
  have f0 := cell_block x1 0
  have f1 := cell_block x1 1
  go_wp2_with fail
  refine (few_any step a n c _ c1 m1).mono ?_
  rintro e w2 ⟨rfl, hs⟩
  replace x1 := blk_keep x1 hs
  replace BW := BW.trans (hs.mono BW.size)
  clear hs f0 f1
  have f0 := cell_block x1 0
  have f1 := cell_block x1 1
  by_cases hn : n ≤ 26
  case neg =>
    rw [show decide (n ≤ 26) = false from by simpa using hn]
    go_wp2_with fail
    go_ret
    exact ⟨rfl, BW⟩
  rw [show decide (n ≤ 26) = true from by simpa using hn]
  obtain ⟨I, E, hR⟩ : ∃ I E, recF step xs = (I, E) := ⟨_, _, rfl⟩
  obtain ⟨X1, hX1, hX1'⟩ : ∃ X : List Int, (E ≠ 0 → X = []) ∧ (E = 0 → X = sumsF xs) := by
    by_cases h : E = 0
    · exact ⟨_, fun hh => absurd h hh, fun _ => rfl⟩
    · exact ⟨_, fun _ => rfl, fun hh => absurd hh h⟩
  obtain ⟨X2, hX2, hX2'⟩ : ∃ X : List Int, (E ≠ 0 → X = []) ∧ (E = 0 → X = sumsF (sumsF xs)) := by
    by_cases h : E = 0
    · exact ⟨_, fun hh => absurd h hh, fun _ => rfl⟩
    · exact ⟨_, fun _ => rfl, fun hh => absurd hh h⟩
  obtain ⟨V, D, hV, hV'⟩ : ∃ V D : Int, (E ≠ 0 → V = 0 ∧ D = 0) ∧ (E = 0 → sumT xs n = V ∧ sumT (sumsF xs) n = D) := by
    by_cases h : E = 0
    · exact ⟨_, _, fun hh => absurd h hh, fun _ => ⟨rfl, rfl⟩⟩
    · exact ⟨_, _, fun _ => ⟨rfl, rfl⟩, fun hh => absurd hh h⟩
  have HR := Lib.hid hR
  have HX1 := Lib.hid hX1
  have HX1' := Lib.hid hX1'
  have HX2 := Lib.hid hX2
  have HX2' := Lib.hid hX2'
  have HV := Lib.hid hV
  have HV' := Lib.hid hV'
  clear hR hX1 hX1' hX2 hX2' hV hV'
  go_wp2_with fail
  refine (copy_any step a n c xs _ (h1.keep BW) (by omega)).mono ?_
  rintro e w3 ⟨a3, c3, rfl, s3, hs⟩
  replace x1 := blk_keep x1 hs
  replace BW := BW.trans (hs.mono BW.size)
  clear hs f0 f1
  have f0 := cell_block x1 0
  have f1 := cell_block x1 1
  go_wp2_with fail
  refine (CheckRecord_any step a3 n c3 xs _ s3 I E HR.out).mono ?_
  rintro e w4 ⟨rfl, hs⟩
  replace x1 := blk_keep x1 hs
  replace BW := BW.trans (hs.mono BW.size)
  clear hs f0 f1 s3
  have f0 := cell_block x1 0
  have f1 := cell_block x1 1
  go_wp2_with fail
  refine (copy_any step a n c xs _ (h1.keep BW) (by omega)).mono ?_
  rintro e w5 ⟨a5, c5, rfl, s5, hs⟩
  replace x1 := blk_keep x1 hs
  replace BW := BW.trans (hs.mono BW.size)
  clear hs f0 f1
  have f0 := cell_block x1 0
  have f1 := cell_block x1 1
  go_wp2_with fail
  refine (VelocitiesOf_any step a5 n c5 xs _ s5 E X1 (by rw [HR.out]) HX1.out HX1'.out).mono ?_
  rintro e w6 ⟨av, nv, cv, rfl, sv, hs⟩
  replace x1 := blk_keep x1 hs
  replace BW := BW.trans (hs.mono BW.size)
  clear hs f0 f1 s5
  have f0 := cell_block x1 0
  have f1 := cell_block x1 1
  go_wp2_with fail
  refine (copy_any step a n c xs _ (h1.keep BW) (by omega)).mono ?_
  rintro e w7 ⟨a7, c7, rfl, s7, hs⟩
  replace x1 := blk_keep x1 hs
  replace BW := BW.trans (hs.mono BW.size)
  replace sv := sv.keep hs
  clear hs f0 f1
  have f0 := cell_block x1 0
  have f1 := cell_block x1 1
  go_wp2_with fail
  refine (DisplacementsOf_any step a7 n c7 xs _ s7 E X2 (by rw [HR.out]) HX2.out HX2'.out).mono ?_
  rintro e w8 ⟨ad, nd, cd, rfl, sd, hs⟩
  replace x1 := blk_keep x1 hs
  replace BW := BW.trans (hs.mono BW.size)
  replace sv := sv.keep hs
  clear hs f0 f1 s7
  have f0 := cell_block x1 0
  have f1 := cell_block x1 1
  go_wp2_with fail
  refine (copy_any step a n c xs _ (h1.keep BW) (by omega)).mono ?_
  rintro e w9 ⟨a9, c9, rfl, s9, hs⟩
  replace x1 := blk_keep x1 hs
  replace BW := BW.trans (hs.mono BW.size)
  replace sv := sv.keep hs
  replace sd := sd.keep hs
  clear hs f0 f1
  have f0 := cell_block x1 0
  have f1 := cell_block x1 1
  go_wp2_with fail
  refine (EndOf_any step a9 n c9 xs _ s9 E V D (by rw [HR.out]) HV.out HV'.out).mono ?_
  rintro e w10 ⟨rfl, hs⟩
  replace x1 := blk_keep x1 hs
  have hbl := blk_lt x1
  have hk := hA w10 (.cells #[.int .i64 V, .int .i64 D] 58)
  have y1 := alloc_new w10 (.cells #[.int .i64 V, .int .i64 D] 58)
  replace x1 := blk_keep x1 hk
  replace BW := BW.trans (hs.mono BW.size)
  replace BW := BW.trans (hk.mono BW.size)
  replace sv := (sv.keep hs).keep hk
  replace sd := (sd.keep hs).keep hk
  clear hs f0 f1 s9 hk
  have f0 := cell_block x1 0
  have f1 := cell_block x1 1
  go_wp2_with fail
  obtain ⟨bx, hbx⟩ : ∃ b, w10.heap.size = b := ⟨_, rfl⟩
  obtain ⟨W, hW⟩ : ∃ W, w10.alloc (.cells #[.int .i64 V, .int .i64 D] 58) = W := ⟨_, rfl⟩
  rw [hW] at x1 y1 BW sv sd f0 f1 ⊢
  rw [hbx] at y1 hbl ⊢
  clear hW hbx
  refine (rCheckRecord_any step a n c xs _ (h1.keep BW) I E HR.out).mono ?_
  rintro e w11 ⟨rfl, hs⟩
  replace x1 := blk_keep x1 hs
  replace y1 := blk_keep y1 hs
  replace BW := BW.trans (hs.mono BW.size)
  replace sv := sv.keep hs
  replace sd := sd.keep hs
  clear hs f0 f1
  have f0 := cell_block x1 0
  have f1 := cell_block x1 1
  have f2 := cell_block y1 0
  have f3 := cell_block y1 1
  by_cases hz : E = 0
  case neg =>
    obtain ⟨rfl, rfl⟩ := HV.out hz
    have e1 := sv.len
    have e2 := sd.len
    rw [HX1.out hz] at e1
    rw [HX2.out hz] at e2
    obtain rfl : nv = 0 := e1
    obtain rfl : nd = 0 := e2
    have b1 : (E != 0) = true := by simpa using hz
    clear hz
    go_wp2_with fail
    go_ret
    exact ⟨rfl, BW⟩
  subst hz
  have e1 := sv.len
  have e2 := sd.len
  have q1 := HX1'.out rfl
  have q2 := HX2'.out rfl
  obtain ⟨q3, q4⟩ := HV'.out rfl
  subst q1 q2
  rw [sumsF_len] at e1
  rw [sumsF_len, sumsF_len] at e2
  obtain rfl : n = nv := by omega
  obtain rfl : n = nd := by omega
  obtain ⟨g1, g2, g3, g4, g5⟩ := recF_ok (step := step) (xs := xs) (by rw [HR.out])
  have H5 := Lib.hid g5
  have Q3 := Lib.hid q3
  have Q4 := Lib.hid q4
  have hn0 : 0 < n := by omega
  have hlv : (sumsF xs)[n - 1]?.getD 0 = V := by rw [sumsF_get xs (n - 1) (by omega), ← q3]; congr 1; omega
  have hld : (sumsF (sumsF xs))[n - 1]?.getD 0 = D := by rw [sumsF_get (sumsF xs) (n - 1) (by rw [sumsF_len]; omega), ← q4]; congr 1; omega
  have HLV := Lib.hid hlv
  have HLD := Lib.hid hld
  clear g1 g2 g3 g4 g5 q3 q4 e1 e2 hlv hld
  go_wp2_with fail
  refine Calmly.wp_region_mix 33 (.fl 0 <| .fl 1 <| .fl 2 <| .gl 3 <| .gl 4 <| .gl 5 <| .gf 6 <| .gf 7 <| .gl 8 <| .fl 9 <| .fl 10 <| .gl 11 <| .gl 12 <| .fl 13 <| .fl 14 <| .gl 15 <| .gl 16 <| .gl 17 <| .gf 18 <| .gf 19 <| .gl 20 <| .fl 21 <| .fl 22 <| .gl 23 <| .gl 24 <| .fl 25 <| .fl 26 <| .gl 27 <| .gl 28 <| .gl 29 <| .gf 30 <| .gf 31 <| .fl 32 <| .tail []) (by kernel_rfl) (by kernel_rfl) ?_
  have hkd : Below w11.heap.size w11 w11.drew := (Below.refl _ _).drew
  generalize w11.drew = U at hkd ⊢
  replace x1 := blk_keep x1 hkd
  replace y1 := blk_keep y1 hkd
  replace BW := BW.trans (hkd.mono BW.size)
  replace sv := sv.keep hkd
  replace sd := sd.keep hkd
  clear f0 f1 f2 f3 hkd
  have f0 := cell_block x1 0
  have f1 := cell_block x1 1
  have f2 := cell_block y1 0
  have f3 := cell_block y1 1
  have hk := Below.refl U.heap.size U
  have S1 := Lib.hid True.intro
  go_wp2_with (first | ((with_reducible refine Calmly.is_fl ?_); refine Calmly.mix_fl rfl ?_ (fun _ _ => ?_); (first | exact .move _ | exact .load _ _ | exact .fieldAddr _ _ _ (by kernel_rfl) | exact .assign _ | exact .binOp _ _ _ _ _ rfl | exact .indexAddr _ _ _ | exact .len _ _ (by kernel_rfl) | exact .field _ _ _ | exact .extract _ _ | exact .pick _ _ _ | exact .build _ _ | exact .slice _ _ _ _ _ | exact .unOp _ _ _ rfl | exact .index _ _ _ | exact .max _ _ _ rfl rfl | exact .min _ _ _ rfl rfl)) | ((with_reducible refine Calmly.is_gl ?_); refine Calmly.mix_gl rfl rfl rfl ?_; first | ((first | with_reducible refine Calmly.gl_tt ?_ (fun _ _ => ?_) | with_reducible refine Calmly.gl_ff ?_ (fun _ _ => ?_)); (first | exact .move _ | exact .load _ _ | exact .fieldAddr _ _ _ (by kernel_rfl) | exact .assign _ | exact .binOp _ _ _ _ _ rfl | exact .indexAddr _ _ _ | exact .len _ _ (by kernel_rfl) | exact .field _ _ _ | exact .extract _ _ | exact .pick _ _ _ | exact .build _ _ | exact .slice _ _ _ _ _ | exact .unOp _ _ _ rfl | exact .index _ _ _ | exact .max _ _ _ rfl rfl | exact .min _ _ _ rfl rfl)) | with_reducible refine Calmly.gl_tf (fun _ _ => ?_) | with_reducible refine Calmly.gl_ft (fun _ _ => ?_)) | ((with_reducible refine Calmly.is_eff ?_); refine Calmly.mix_eff rfl (fun _ _ => ?_)) | ((with_reducible refine Calmly.is_gf ?_); refine Calmly.mix_gf rfl rfl rfl ?_; first | with_reducible refine Calmly.gf_tt (fun _ _ => ?_) | with_reducible refine Calmly.gf_ff (fun _ _ => ?_) | with_reducible refine Calmly.gf_tf (kept_of hk) (fun _ _ => ?_) | with_reducible refine Calmly.gf_ft (kept_of hk) (fun _ _ => ?_)) | ((with_reducible refine Calmly.is_tail ?_); first | refine Calmly.mix_tail_nil ?_ | refine Calmly.mix_tail rfl (fun _ _ => ?_)) | ((with_reducible refine Calmly.is_kept ?_); refine ⟨kept_of hk, ?_⟩) | (with_reducible refine Calmly.mix_alt ?_ ?_) | (go_at_call 35; refine (rVelocities_any a n c xs _ ((h1.keep BW).keep hk) (by omega) (fun j => by have := H5.out j; omega)).mono ?_; rintro e u1 ⟨a11, c11, rfl, s11, hs1⟩; replace hk := step_of hk hs1) | (go_at_call 25; have _ := S1.out; clear S1; refine (ints_any av a11 n n cv c11 _ _ _ (sv.keep hk) s11).mono ?_; rintro e u2 ⟨rfl, q2, rfl⟩; rw [decide_refl]; replace hk := below_drewN hk q2) | (go_at_call 36; refine (rDisplacements_any a n c xs _ ((h1.keep BW).keep hk) (by omega) H5.out).mono ?_; rintro e u3 ⟨a12, c12, rfl, s12, hs2⟩; replace hk := step_of hk hs2) | (go_at_call 25; refine (ints_any ad a12 n n cd c12 _ _ _ (sd.keep hk) s12).mono ?_; rintro e u2 ⟨rfl, q3, rfl⟩; rw [decide_refl]; replace hk := below_drewN hk q3) | (go_at_call 37; refine (rEnd_any a n c xs _ ((h1.keep BW).keep hk) hn (fun j => by have := H5.out j; omega) V D Q3.out Q4.out).mono ?_; rintro e u4 ⟨rfl, hs3⟩; replace hk := step_of hk hs3))
  have hkd : Below U.heap.size U u4.drew := hk.trans ((Below.refl _ _).drew.mono hk.size)
  replace y1 := blk_keep y1 hkd
  replace BW := BW.trans (hkd.mono BW.size)
  replace sv := sv.keep hkd
  replace sd := sd.keep hkd
  clear f0 f1 f2 f3 hk hs1 hs2 hs3 s11 s12 x1
  obtain ⟨bv, ov, rfl, hcv⟩ := sv.at_ hn0
  obtain ⟨bd, od, rfl, hcd⟩ := sd.at_ hn0
  have ev := hcv (n - 1) (by omega)
  have ed := hcd (n - 1) (by omega)
  rw [HLV.out] at ev
  rw [HLD.out] at ed
  have hn1 : ((n : Int) - 1).toNat = n - 1 := by omega
  have hn2 : (0 : Int) ≤ (n : Int) - 1 := by omega
  have hn3 : (n : Int) - 1 < (n : Int) := by omega
  clear hcv hcd
  refine Calmly.wp_region_mix 19 (.fl 0 <| .fl 1 <| .fl 2 <| .fl 3 <| .fl 4 <| .fl 5 <| .fl 6 <| .fl 7 <| .fl 8 <| .fl 9 <| .gl 10 <| .gl 11 <| .gl 12 <| .gl 13 <| .gl 14 <| .gl 15 <| .gl 16 <| .gl 17 <| .gl 18 <| .tail [19, 20]) (by kernel_rfl) (by kernel_rfl) ?_
  generalize u4.drew = Z at y1 BW sv sd ev ed ⊢
  have f2 := cell_block y1 0
  have f3 := cell_block y1 1
  have hk := Below.refl Z.heap.size Z
  go_wp2_with (first | ((with_reducible refine Calmly.is_fl ?_); refine Calmly.mix_fl rfl ?_ (fun _ _ => ?_); (first | exact .move _ | exact .load _ _ | exact .fieldAddr _ _ _ (by kernel_rfl) | exact .assign _ | exact .binOp _ _ _ _ _ rfl | exact .indexAddr _ _ _ | exact .len _ _ (by kernel_rfl) | exact .field _ _ _ | exact .extract _ _ | exact .pick _ _ _ | exact .build _ _ | exact .slice _ _ _ _ _ | exact .unOp _ _ _ rfl | exact .index _ _ _ | exact .max _ _ _ rfl rfl | exact .min _ _ _ rfl rfl)) | ((with_reducible refine Calmly.is_gl ?_); refine Calmly.mix_gl rfl rfl rfl ?_; first | ((first | with_reducible refine Calmly.gl_tt ?_ (fun _ _ => ?_) | with_reducible refine Calmly.gl_ff ?_ (fun _ _ => ?_)); (first | exact .move _ | exact .load _ _ | exact .fieldAddr _ _ _ (by kernel_rfl) | exact .assign _ | exact .binOp _ _ _ _ _ rfl | exact .indexAddr _ _ _ | exact .len _ _ (by kernel_rfl) | exact .field _ _ _ | exact .extract _ _ | exact .pick _ _ _ | exact .build _ _ | exact .slice _ _ _ _ _ | exact .unOp _ _ _ rfl | exact .index _ _ _ | exact .max _ _ _ rfl rfl | exact .min _ _ _ rfl rfl)) | with_reducible refine Calmly.gl_tf (fun _ _ => ?_) | with_reducible refine Calmly.gl_ft (fun _ _ => ?_)) | ((with_reducible refine Calmly.is_eff ?_); refine Calmly.mix_eff rfl (fun _ _ => ?_)) | ((with_reducible refine Calmly.is_gf ?_); refine Calmly.mix_gf rfl rfl rfl ?_; first | with_reducible refine Calmly.gf_tt (fun _ _ => ?_) | with_reducible refine Calmly.gf_ff (fun _ _ => ?_) | with_reducible refine Calmly.gf_tf (kept_of hk) (fun _ _ => ?_) | with_reducible refine Calmly.gf_ft (kept_of hk) (fun _ _ => ?_)) | ((with_reducible refine Calmly.is_tail ?_); first | refine Calmly.mix_tail_nil ?_ | refine Calmly.mix_tail rfl (fun _ _ => ?_)) | ((with_reducible refine Calmly.is_kept ?_); refine ⟨kept_of hk, ?_⟩) | (with_reducible refine Calmly.mix_alt ?_ ?_))
  go_ret
  exact ⟨rfl, BW⟩
end Go.Proofs.Ytiibdndchkbefaa
