/- Contracts of chapter 2: the reference's responses, spectra, added samples and sums of sizes. Rows of slices of integers of the call's own. Contracts of chapter 2: copies of lists and bands, all lists of times, the reference's added samples. -/
import Derived.Test.YtiibdndchkbefaaK10
import Derived.Maps.AppendAt
namespace Go.Proofs.Ytiibdndchkbefaa
open Go.RowKit
open Calmly (Kept)

theorem toZero_any (n : Int) (w : World) (h1 : -9000000000000000000 ≤ n) (h2 : n ≤ 9000000000000000000) :
    Calls Try.prog 105 #[.int .i64 n, .int .i64 1000] w fun e w' => e = .returned (.int .i64 (n.tdiv 1000)) ∧ w = w' := by
  by_cases h : n < 0
  · have e1 : -((-n) / 1000) = n.tdiv 1000 := by
      rw [← Int.tdiv_eq_ediv_of_nonneg (by omega), Int.neg_tdiv, Int.neg_neg]
    have h5 : -9000000000000000000 ≤ (-n) / 1000 ∧ (-n) / 1000 ≤ 9000000000000000000 := by omega
    obtain ⟨h5, h6⟩ := h5
    have HE := Lib.hid e1
    clear e1
    go_enter Try.func105, Try.ntmps105
    go_wp2_with fail
    refine (floor_any (-n) 1000 _ (by omega) (by omega) (by omega) (by omega)).mono ?_
    rintro e w1 ⟨rfl, rfl⟩
    go_wp2_with fail
    go_ret
    exact ⟨ret_int HE.out, rfl⟩
  · have e1 : n / 1000 = n.tdiv 1000 := by rw [Int.tdiv_eq_ediv_of_nonneg (by omega)]
    have hn : 0 ≤ n := by omega
    have HE := Lib.hid e1
    clear e1 h
    go_enter Try.func105, Try.ntmps105
    go_wp2_with fail
    refine (floor_any n 1000 _ (by omega) (by omega) (by omega) (by omega)).mono ?_
    rintro e w1 ⟨rfl, rfl⟩
    go_wp2_with fail
    go_ret
    exact ⟨ret_int HE.out, rfl⟩

set_option maxRecDepth 100000 in
set_option maxHeartbeats 1000000 in
theorem rResponse_any (a : Option Addr) (n c : Nat) (xs : List Int) (st dm : Int) (w : World) (h1 : SI w a n c xs) (hn : n ≤ 26) (ho : oscE (st, dm) = 0) (hb : ∀ j : Nat, -1000 ≤ xs[j]?.getD 0 ∧ xs[j]?.getD 0 ≤ 1000) :
    Calls Try.prog 42 #[.slice a n c, .agg #[.int .i64 st, .int .i64 dm]] w fun e w' => ∃ a' c', e = .returned (.slice a' n c') ∧ SI w' a' n c' (rspTo xs st dm n) ∧ Below w.heap.size w w' := by
  have m1 := h1.max
  have c1 := h1.cap
  have HO := Lib.hid ho
  have HB := Lib.hid hb
  clear ho hb
  have hA : Below w.heap.size w (w.alloc (.cells #[.int .i64 st, .int .i64 dm] 49)) := (Below.refl _ _).alloc (Nat.le_refl _) _
  have x1 := alloc_new w (.cells #[.int .i64 st, .int .i64 dm] 49)
  go_enter Try.func42, Try.ntmps42
  go_wp2_with fail
  obtain ⟨V, hV⟩ : ∃ V, w.alloc (.cells #[.int .i64 st, .int .i64 dm] 49) = V := ⟨_, rfl⟩
  have hVs : V.heap.size = w.heap.size + 1 := by rw [← hV]; simp
  rw [hV] at hA x1 ⊢
  clear hV
  go_loopw [5, 6, 7, 8] (fun o l s i wr => ∃ (k c' : Nat) (a' : Option Addr), i = .int .i64 (k : Int) ∧ k ≤ n ∧ l = .int .i64 (rspT xs st dm k).1 ∧ s = .int .i64 (rspT xs st dm k).2 ∧ o = .slice a' k c' ∧ OwI wr (w.heap.size + 1) a' k c' (rspTo xs st dm k) ∧ Below V.heap.size V wr) (fun _ _ _ i _ => n - (intOf i).toNat)
  case atStart => exact ⟨0, 0, none, rfl, by omega, rfl, rfl, rfl, OwI.nil _ _, Below.refl _ _⟩
  case round =>
    obtain ⟨k, c', a', rfl, hk, rfl, rfl, rfl, hown, hbr⟩ := hrel
    have hs := hbr.size
    have hbw := hA.trans (hbr.mono hA.size)
    have x2 := blk_keep x1 hbr
    have f0 := cell_block x2 0
    have f1 := cell_block x2 1
    by_cases hlt : k < n
    · obtain ⟨ba, oa, rfl, hca⟩ := (h1.keep hbw).at_ (by omega)
      have ea := hca k hlt
      have hx := HB.out k
      obtain ⟨b1, b2⟩ := rspT_num HO.out HB.out k (by omega)
      have hn1 : rspT xs st dm (k + 1) = (2 * (rspT xs st dm k).1 - (rspT xs st dm k).2 - (st * (rspT xs st dm k).1 + dm * ((rspT xs st dm k).1 - (rspT xs st dm k).2)).tdiv 1000 - xs[k]?.getD 0, (rspT xs st dm k).1) := rfl
      have hn2 := rspTo_succ xs st dm k
      obtain ⟨x, hxx⟩ : ∃ x, xs[k]?.getD 0 = x := ⟨_, rfl⟩
      obtain ⟨p, hpp⟩ : ∃ p, rspT xs st dm k = p := ⟨_, rfl⟩
      obtain ⟨u, v⟩ := p
      rw [hxx] at ea hx hn1
      rw [hpp] at b1 b2 hn1 ⊢
      dsimp only at b1 b2 hn1 ⊢
      obtain ⟨⟨g1, g2⟩, ⟨g3, g4⟩, g5, g6⟩ := rsp_nums HO.out b1 b2 hx
      rw [hn1] at hn2
      obtain ⟨q, hq⟩ : ∃ q, (st * u + dm * (u - v)).tdiv 1000 = q := ⟨_, rfl⟩
      rw [hq] at hn1 hn2 g5 g6
      have HN1 := Lib.hid hn1
      have HN2 := Lib.hid hn2
      have HQ := Lib.hid hq
      clear hca hn1 hn2 hxx hpp hq
      obtain ⟨hx1, hx2⟩ := hx
      obtain ⟨b1, b1'⟩ := b1
      obtain ⟨b2, b2'⟩ := b2
      have hi : (k : Int) < (n : Int) := by omega
      have hi0 : (0 : Int) ≤ (k : Int) := by omega
      go_wp2_with fail
      refine (toZero_any _ _ (by omega) (by omega)).mono ?_
      rintro e w4 ⟨rfl, rfl⟩
      rw [HQ.out]
      go_wp2_with (first | (at_builtin; refine appI rfl _ _ rfl hown rfl rfl (by omega) (by omega) ?_; intro a2' c2' w5 ho5 hb5 hs5))
      go_roundw
      case rel => exact ⟨k + 1, c2', a2', by go_num, by omega, by rw [HN1.out], by rw [HN1.out], rfl, by rw [HN2.out]; exact ho5, hbr.trans (hb5.mono (by omega))⟩
      case measure => simp [intOf]; omega
    · have hle : (n : Int) ≤ (k : Int) := by omega
      obtain rfl : n = k := by omega
      go_wp2_with fail
      go_ret
      exact ⟨a', c', rfl, hown.si, hbw⟩

set_option maxRecDepth 100000 in
set_option maxHeartbeats 1000000 in
theorem rOutside_any (a : Option Addr) (n c : Nat) (xs : List Int) (b : Option Addr) (m d : Nat) (l : List Four) (w : World) (h1 : SI w a n c xs) (h2 : SB w b m d l) (hn : n ≤ 26) (hb : ∀ j : Nat, -1000 ≤ xs[j]?.getD 0 ∧ xs[j]?.getD 0 ≤ 1000) (hm : m ≤ 1000) (ho : ∀ k, k < l.length → oscE (l[k]?.getD four0).1 = 0) :
    Calls Try.prog 27 #[.slice a n c, .slice b m d] w fun e w' => ∃ a' n' c', e = .returned (.slice a' n' c') ∧ SI w' a' n' c' (outT xs l m) ∧ Below w.heap.size w w' := by
  obtain ⟨l1, l2⟩ : n ≤ xs.length ∧ xs.length ≤ n := by have := h1.len; omega
  obtain ⟨k1, k2⟩ : m ≤ l.length ∧ l.length ≤ m := by have := h2.len; omega
  have m1 := h1.max
  have c1 := h1.cap
  have m2 := h2.max
  have c2 := h2.cap
  have HB := Lib.hid hb
  have HO := Lib.hid ho
  clear hb ho
  go_enter Try.func27, Try.ntmps27
  go_wp2_with fail
  go_loopw [5, 6] (fun o i wr => ∃ (k n' c' : Nat) (a' : Option Addr), i = .int .i64 (k : Int) ∧ k ≤ m ∧ o = .slice a' n' c' ∧ n' ≤ k ∧ OwI wr w.heap.size a' n' c' (outT xs l k) ∧ Below w.heap.size w wr) (fun _ i _ => m - (intOf i).toNat)
  case atStart => exact ⟨0, 0, 0, none, rfl, by omega, rfl, by omega, OwI.nil _ _, Below.refl _ _⟩
  case round =>
    obtain ⟨k, n', c', a', rfl, hk, rfl, hnk, hown, hbr⟩ := hrel
    have hrs := hbr.size
    by_cases hlt : k < m
    · obtain ⟨cb, co, rfl, hcc⟩ := h2.at_ (by omega)
      obtain ⟨z0, z1, z2, z3⟩ := hcc k hlt
      have hoo := HO.out k (by omega)
      have hns := outT_succ xs l k
      obtain ⟨rr, hrr⟩ : ∃ rr, l[k]?.getD four0 = rr := ⟨_, rfl⟩
      obtain ⟨⟨st, dm⟩, ⟨lo, hi⟩⟩ := rr
      rw [hrr] at z0 z1 z2 z3 hoo hns
      dsimp only at z0 z1 z2 z3 hoo
      clear hrr hcc
      obtain ⟨P, hP⟩ : ∃ P, gsT (rspTo xs st dm n) n = P := ⟨_, rfl⟩
      have hob : outB xs ((st, dm), (lo, hi)) = !(wIn P lo hi) := by
        unfold outB pkO
        rw [show xs.length = n by omega, hP]
      rw [hob] at hns
      have hPb : ∀ j : Nat, -9000000000000000000 ≤ (rspTo xs st dm n)[j]?.getD 0 ∧ (rspTo xs st dm n)[j]?.getD 0 ≤ 9000000000000000000 := by
        intro j
        rcases Nat.lt_or_ge j n with hj | hj
        · rw [rspTo_get xs st dm n j hj]
          have := rspT_num hoo HB.out (j + 1) (by omega)
          omega
        · rw [List.getElem?_eq_none (by rw [rspTo_len]; exact hj)]
          simp
      have HP := Lib.hid hP
      have HPB := Lib.hid hPb
      have HOO := Lib.hid hoo
      clear hP hPb hob hoo
      have y0 := cell_keep z0 hbr
      have y1 := cell_keep z1 hbr
      have hi1 : (k : Int) < (m : Int) := by omega
      have hi0 : (0 : Int) ≤ (k : Int) := by omega
      go_wp2_with fail
      refine (rResponse_any a n c xs st dm _ (h1.keep hbr) hn HOO.out HB.out).mono ?_
      rintro e w3 ⟨a3, c3, rfl, s3, hs3⟩
      replace hown := hown.keep hs3
      replace hbr := hbr.trans (hs3.mono hrs)
      clear y0 y1 hs3 hrs
      have hrs := hbr.size
      go_wp2_with fail
      refine (rGreatest_any a3 n c3 _ _ s3 HPB.out).mono ?_
      rintro e w4 ⟨rfl, q, rfl⟩
      rw [HP.out]
      replace hown := hown.below (below_drewN (Below.refl w3.heap.size w3) q) (Nat.le_refl _)
      replace hbr := below_drewN hbr q
      clear s3
      have hrs4 : w.heap.size ≤ (w3.drewN q).heap.size := hrs
      generalize w3.drewN q = w4 at hown hbr hrs4 ⊢
      cases hwb : wIn P lo hi
      · have hns2 : outT xs l (k + 1) = outT xs l k ++ [(k : Int)] := by rw [hns, hwb]; rfl
        have HNS := Lib.hid hns2
        have HWB := Lib.hid hwb
        clear hns hns2 hwb
        go_wp2_with fail
        refine Calmly.wp_region_mix 14 (.fl 0 <| .fl 1 <| .fl 2 <| .fl 3 <| .fl 4 <| .fl 5 <| .fl 6 <| .fl 7 <| .fl 8 <| .fl 9 <| .fl 10 <| .fl 11 <| .fl 12 <| .eff 13 <| .tail [14]) (by kernel_rfl) (by kernel_rfl) ?_
        have BV : Below w4.heap.size w4 w4.drew := (Below.refl _ _).drew
        generalize w4.drew = V at BV ⊢
        replace hown := hown.keep BV
        replace hbr := hbr.trans (BV.mono hrs4)
        have y2 := cell_keep z2 hbr
        have y3 := cell_keep z3 hbr
        have hk := Below.refl V.heap.size V
        have hVs := hbr.size
        go_wp2_with (first | ((with_reducible refine Calmly.is_fl ?_); refine Calmly.mix_fl rfl ?_ (fun _ _ => ?_); (first | exact .move _ | exact .load _ _ | exact .fieldAddr _ _ _ (by kernel_rfl) | exact .assign _ | exact .binOp _ _ _ _ _ rfl | exact .indexAddr _ _ _ | exact .len _ _ (by kernel_rfl) | exact .field _ _ _ | exact .extract _ _ | exact .pick _ _ _ | exact .build _ _ | exact .slice _ _ _ _ _ | exact .unOp _ _ _ rfl | exact .index _ _ _ | exact .max _ _ _ rfl rfl | exact .min _ _ _ rfl rfl)) | ((with_reducible refine Calmly.is_gl ?_); refine Calmly.mix_gl rfl rfl rfl ?_; first | ((first | with_reducible refine Calmly.gl_tt ?_ (fun _ _ => ?_) | with_reducible refine Calmly.gl_ff ?_ (fun _ _ => ?_)); (first | exact .move _ | exact .load _ _ | exact .fieldAddr _ _ _ (by kernel_rfl) | exact .assign _ | exact .binOp _ _ _ _ _ rfl | exact .indexAddr _ _ _ | exact .len _ _ (by kernel_rfl) | exact .field _ _ _ | exact .extract _ _ | exact .pick _ _ _ | exact .build _ _ | exact .slice _ _ _ _ _ | exact .unOp _ _ _ rfl | exact .index _ _ _ | exact .max _ _ _ rfl rfl | exact .min _ _ _ rfl rfl)) | with_reducible refine Calmly.gl_tf (fun _ _ => ?_) | with_reducible refine Calmly.gl_ft (fun _ _ => ?_)) | ((with_reducible refine Calmly.is_eff ?_); refine Calmly.mix_eff rfl (fun _ _ => ?_)) | ((with_reducible refine Calmly.is_gf ?_); refine Calmly.mix_gf rfl rfl rfl ?_; first | with_reducible refine Calmly.gf_tt (fun _ _ => ?_) | with_reducible refine Calmly.gf_ff (fun _ _ => ?_) | with_reducible refine Calmly.gf_tf (kept_of hk) (fun _ _ => ?_) | with_reducible refine Calmly.gf_ft (kept_of hk) (fun _ _ => ?_)) | ((with_reducible refine Calmly.is_tail ?_); first | refine Calmly.mix_tail_nil ?_ | refine Calmly.mix_tail rfl (fun _ _ => ?_)) | ((with_reducible refine Calmly.is_kept ?_); refine ⟨kept_of hk, ?_⟩) | (with_reducible refine Calmly.mix_alt ?_ ?_) | (go_at_call 28; refine (within_any _ _ _ _).mono ?_; rintro e w5 ⟨rfl, rfl⟩; rw [HWB.out]) | (at_builtin; refine appI rfl _ _ rfl hown rfl rfl (by omega) (by omega) ?_; intro a2' c2' w6 ho6 hb6 hs6))
        go_roundw
        case rel => exact ⟨k + 1, n' + 1, c2', a2', by go_num, by omega, rfl, by omega, by rw [HNS.out]; exact ho6, hbr.trans hb6⟩
        case measure => simp [intOf]; omega
      · have hns2 : outT xs l (k + 1) = outT xs l k := by rw [hns, hwb]; rfl
        have HNS := Lib.hid hns2
        have HWB := Lib.hid hwb
        clear hns hns2 hwb
        go_wp2_with fail
        refine Calmly.wp_region_mix 14 (.fl 0 <| .fl 1 <| .fl 2 <| .fl 3 <| .fl 4 <| .fl 5 <| .fl 6 <| .fl 7 <| .fl 8 <| .fl 9 <| .fl 10 <| .fl 11 <| .fl 12 <| .eff 13 <| .tail [14]) (by kernel_rfl) (by kernel_rfl) ?_
        have BV : Below w4.heap.size w4 w4.drew := (Below.refl _ _).drew
        generalize w4.drew = V at BV ⊢
        replace hown := hown.keep BV
        replace hbr := hbr.trans (BV.mono hrs4)
        have y2 := cell_keep z2 hbr
        have y3 := cell_keep z3 hbr
        have hk := Below.refl V.heap.size V
        go_wp2_with (first | ((with_reducible refine Calmly.is_fl ?_); refine Calmly.mix_fl rfl ?_ (fun _ _ => ?_); (first | exact .move _ | exact .load _ _ | exact .fieldAddr _ _ _ (by kernel_rfl) | exact .assign _ | exact .binOp _ _ _ _ _ rfl | exact .indexAddr _ _ _ | exact .len _ _ (by kernel_rfl) | exact .field _ _ _ | exact .extract _ _ | exact .pick _ _ _ | exact .build _ _ | exact .slice _ _ _ _ _ | exact .unOp _ _ _ rfl | exact .index _ _ _ | exact .max _ _ _ rfl rfl | exact .min _ _ _ rfl rfl)) | ((with_reducible refine Calmly.is_gl ?_); refine Calmly.mix_gl rfl rfl rfl ?_; first | ((first | with_reducible refine Calmly.gl_tt ?_ (fun _ _ => ?_) | with_reducible refine Calmly.gl_ff ?_ (fun _ _ => ?_)); (first | exact .move _ | exact .load _ _ | exact .fieldAddr _ _ _ (by kernel_rfl) | exact .assign _ | exact .binOp _ _ _ _ _ rfl | exact .indexAddr _ _ _ | exact .len _ _ (by kernel_rfl) | exact .field _ _ _ | exact .extract _ _ | exact .pick _ _ _ | exact .build _ _ | exact .slice _ _ _ _ _ | exact .unOp _ _ _ rfl | exact .index _ _ _ | exact .max _ _ _ rfl rfl | exact .min _ _ _ rfl rfl)) | with_reducible refine Calmly.gl_tf (fun _ _ => ?_) | with_reducible refine Calmly.gl_ft (fun _ _ => ?_)) | ((with_reducible refine Calmly.is_eff ?_); refine Calmly.mix_eff rfl (fun _ _ => ?_)) | ((with_reducible refine Calmly.is_gf ?_); refine Calmly.mix_gf rfl rfl rfl ?_; first | with_reducible refine Calmly.gf_tt (fun _ _ => ?_) | with_reducible refine Calmly.gf_ff (fun _ _ => ?_) | with_reducible refine Calmly.gf_tf (kept_of hk) (fun _ _ => ?_) | with_reducible refine Calmly.gf_ft (kept_of hk) (fun _ _ => ?_)) | ((with_reducible refine Calmly.is_tail ?_); first | refine Calmly.mix_tail_nil ?_ | refine Calmly.mix_tail rfl (fun _ _ => ?_)) | ((with_reducible refine Calmly.is_kept ?_); refine ⟨kept_of hk, ?_⟩) | (with_reducible refine Calmly.mix_alt ?_ ?_) | (go_at_call 28; refine (within_any _ _ _ _).mono ?_; rintro e w5 ⟨rfl, rfl⟩; rw [HWB.out]))
        go_roundw
        case rel => exact ⟨k + 1, n', c', a', by go_num, by omega, rfl, by omega, by rw [HNS.out]; exact hown, hbr⟩
        case measure => simp [intOf]; omega
    · have hle : (m : Int) ≤ (k : Int) := by omega
      obtain rfl : m = k := by omega
      go_wp2_with fail
      go_ret
      exact ⟨a', n', c', rfl, hown.si, hbr⟩

set_option maxRecDepth 100000 in
set_option maxHeartbeats 1000000 in
theorem rSizes_any (a : Option Addr) (n c : Nat) (xs : List Int) (w : World) (h1 : SI w a n c xs) (hn : n ≤ 1000000) (hb : ∀ j : Nat, -1000000000 ≤ xs[j]?.getD 0 ∧ xs[j]?.getD 0 ≤ 1000000000) :
    Calls Try.prog 62 #[.slice a n c] w fun e w' => e = .returned (.int .i64 (szT xs n)) ∧ w = w' := by
  have m1 := h1.max
  have c1 := h1.cap
  have hsb : ∀ k : Nat, 0 ≤ szT xs k ∧ szT xs k ≤ 1000000000 * (k : Int) := by
    intro k
    induction k with
    | zero => simp [szT]
    | succ k ih =>
      have := hb k
      rw [szT, sizeOf_abs]
      omega
  have HB := Lib.hid hb
  have HS := Lib.hid hsb
  clear hb hsb
  go_enter Try.func62, Try.ntmps62
  go_wp2_with fail
  go_loop [3, 4] (fun s i => ∃ k : Nat, k ≤ n ∧ i = .int .i64 k ∧ s = .int .i64 (szT xs k)) (fun _ i => n - (intOf i).toNat)
  case atStart => exact ⟨0, by omega, rfl, rfl⟩
  case round =>
    obtain ⟨k, hk, rfl, rfl⟩ := hrel
    obtain ⟨s1, s2⟩ := HS.out k
    by_cases hlt : k < n
    · obtain ⟨b1, o1, rfl, hc1⟩ := h1.at_ (by omega)
      have e1 := hc1 k hlt
      clear hc1
      have hd : szT xs (k + 1) = szT xs k + ((xs[k]?.getD 0).natAbs : Nat) := by rw [szT, sizeOf_abs]
      have hx := HB.out k
      obtain ⟨x, hxx⟩ : ∃ x, xs[k]?.getD 0 = x := ⟨_, rfl⟩
      obtain ⟨m, hm⟩ : ∃ m, szT xs k = m := ⟨_, rfl⟩
      rw [hxx] at e1 hx hd
      rw [hm] at hd s1 s2 ⊢
      have HD := Lib.hid hd
      clear hxx hm hd
      obtain ⟨hx1, hx2⟩ := hx
      have hxa : ((x.natAbs : Nat) : Int) ≤ 1000000000 := by omega
      have hi : (k : Int) < (n : Int) := by omega
      have hi0 : (0 : Int) ≤ (k : Int) := by omega
      go_wp2_with fail
      refine (size_any _ _ (by omega) (by omega)).mono ?_
      rintro e w1 ⟨rfl, rfl⟩
      go_wp2_with fail
      go_round
      case rel => exact ⟨k + 1, by omega, by go_num, by rw [HD.out]⟩
      case measure => simp [intOf]; omega
    · have hle : (n : Int) ≤ (k : Int) := by omega
      obtain rfl : k = n := by omega
      go_wp2_with fail
      go_ret
      exact ⟨rfl, rfl⟩
end Go.Proofs.Ytiibdndchkbefaa

namespace Go.Proofs.Ytiibdndchkbefaa
open Go.RowKit
open Calmly (Kept)

theorem SI.same {w w' : World} {a : Option Addr} {n c : Nat} {xs : List Int} (h : SI w a n c xs) (hs : ∀ b o, a = some ⟨b, o, none⟩ → w'.heap[b]? = w.heap[b]?) : SI w' a n c xs := by
  obtain ⟨h1, h2, h3, h4⟩ := h
  refine ⟨h1, h2, h3, ?_⟩
  rcases h4 with h4 | ⟨b, off, ha, hc⟩
  · exact .inl h4
  · refine .inr ⟨b, off, ha, fun i hi => ?_⟩
    rw [World.cell?_of_block (hs b off ha)]
    exact hc i hi
abbrev Hd := Option Addr × Nat × Nat
def hd0 : Hd := (none, 0, 0)
def hv (h : Hd) : Value := .slice h.1 h.2.1 h.2.2
/-- A row of slices of the call's own; each of them reads as its list, and lies in a row of integers. -/
def OwW (w : World) (B : Nat) (a : Option Addr) (n c : Nat) (ls : List (List Int)) : Prop :=
  ∃ hs : List Hd, w.ownsRow B 22 1 (.slice a n c) n (hs.map hv) ∧ hs.length = n ∧ ls.length = n ∧ ∀ i, i < n → SI w (hs[i]?.getD hd0).1 (hs[i]?.getD hd0).2.1 (hs[i]?.getD hd0).2.2 (ls[i]?.getD []) ∧ In w 3 (hs[i]?.getD hd0).1
theorem OwW.nil (w : World) (B : Nat) : OwW w B none 0 0 [] := ⟨[], World.ownsRow_nil w B _ 1, rfl, rfl, fun i hi => by omega⟩
theorem OwW.len {w : World} {B : Nat} {a : Option Addr} {n c : Nat} {ls : List (List Int)} (h : OwW w B a n c ls) : n = ls.length := by
  obtain ⟨_, _, _, h3, _⟩ := h
  exact h3.symm
theorem OwW.sw {w : World} {B : Nat} {a : Option Addr} {n c : Nat} {ls : List (List Int)} (h : OwW w B a n c ls) : SW w a n c ls := by
  obtain ⟨hs, h1, h2, h3, h4⟩ := h
  have h5 := h1.2
  obtain ⟨a', c', he, hl, hn, hm, hp⟩ := Sl.of_owns h1
  cases he
  refine ⟨h3.symm, hn, hm, ?_⟩
  rcases hp with hp | ⟨b, off, ha, hc⟩
  · rcases h5 with ⟨he, _⟩ | ⟨g, cap, cur, he, _⟩
    · cases he
      exact .inl ⟨rfl, rfl⟩
    · cases he
      exact .inr ⟨g, 0, rfl, fun i hi => by omega⟩
  · refine .inr ⟨b, off, ha, fun i hi => ?_⟩
    have := hc i (by omega)
    have hi2 : i < hs.length := by omega
    rw [List.getElem?_map, List.getElem?_eq_getElem hi2] at this
    refine ⟨_, _, _, this, ?_⟩
    have h5 := (h4 i hi).1
    rw [List.getElem?_eq_getElem hi2] at h5
    exact h5
theorem owns_below {w w' : World} {B B' : Nat} {e : TypeId} {k : Nat} {v : Value} {n : Nat} {xs : List Value} (h : w.ownsRow B e k v n xs) (hb : Below B' w w') (hB : w.heap.size ≤ B') : w'.ownsRow B e k v n xs := by
  obtain ⟨h1, h2⟩ := h
  refine ⟨h1, ?_⟩
  rcases h2 with h2 | ⟨g, cap, cur, hv, hg, hh, r⟩
  · exact .inl h2
  · refine .inr ⟨g, cap, cur, hv, hg, ?_, r⟩
    rw [hb.block g (by have := (Array.getElem?_eq_some_iff.1 hh).1; omega)]
    exact hh
theorem OwW.keep {w w' : World} {B : Nat} {a : Option Addr} {n c : Nat} {ls : List (List Int)} (h : OwW w B a n c ls) (hb : Below w.heap.size w w') : OwW w' B a n c ls := by
  obtain ⟨hs, h1, h2, h3, h4⟩ := h
  exact ⟨hs, owns_below h1 hb (Nat.le_refl _), h2, h3, fun i hi => ⟨(h4 i hi).1.keep hb, (h4 i hi).2.keep hb⟩⟩
theorem OwW.drew {w : World} {B : Nat} {a : Option Addr} {n c : Nat} {ls : List (List Int)} (h : OwW w B a n c ls) : OwW w.drew B a n c ls := h.keep (Below.refl _ _).drew
theorem OwI.in_ {w : World} {B : Nat} {a : Option Addr} {n c : Nat} {xs : List Int} (h : OwI w B a n c xs) : In w 3 a := In.of_owns h

theorem Try.info_ints : (Try.prog.info? 22).map (fun i => (i.zero, i.size, i.bytes)) = some (some (.slice none 0 0), 1, 24) := by kernel_rfl
/-- 'append' of a slice to a row of slices of the call's own. -/
theorem appW {ops : Array Oper} {rest : List Oper} {o : Oper} {a : Act} {Q : Exit → Act → World → Prop} {Wx : World} (w0 : World) {B : Nat} {av : Option Addr} {n c : Nat} {ls : List (List Int)} {h : Hd} {xs : List Int}
    (hW : Wx = w0.alloc (.cells #[.slice h.1 h.2.1 h.2.2] 22)) (hgd : o.guard = none) (s x : Operand)
    (ho : o.op = .call { callee := .builtin .append, args := #[s, x], argTypes := #[25, 25] })
    (hown : OwW w0 B av n c ls) (hsi : SI w0 h.1 h.2.1 h.2.2 xs) (hin : In w0 3 h.1) (hs : a.eval s = .slice av n c) (hx : a.eval x = .slice (some ⟨w0.heap.size, 0, none⟩) 1 1)
    (hb1 : n + 1 ≤ 1099511627776) (hB : B ≤ w0.heap.size)
    (hK : ∀ a' c' w', OwW w' B a' (n + 1) c' (ls ++ [xs]) → Below B w0 w' → w0.heap.size < w'.heap.size → wpList Try.prog ops Q rest (a.put o.dst (.slice a' (n + 1) c')) w') :
    wpList Try.prog ops Q (o :: rest) a Wx := by
  subst hW
  obtain ⟨hs', k1, k2, k3, k4⟩ := hown
  obtain ⟨i0, hi, hz0, hz1, hz2⟩ := info_parts Try.info_ints
  refine wpList_append_own_at _ hgd s x _ ho B _ i0 (.slice none 0 0) 1 24 Try.underlying25 hi hz0 hz1 hz2 rfl (by decide) _ n _ hs (World.ownsRow.alloc k1 _) ⟨w0.heap.size, 0, none⟩ 1 1 (#[Value.slice h.1 h.2.1 h.2.2]).toList hx (by simp) (cells_new w0 _ _) (by simp [Value.oneCell']) (by unfold maxLen; omega) (by omega) (by simp; omega) ?_
  intro v' w1 ho1 hg hn hat
  have hrow : ∀ j, (Value.slice av n c).ownBlock = some j → B ≤ j := fun j hj => (World.ownsRow.lt k1 j hj).1
  have hb0 : Below B w0 (w0.alloc (.cells #[.slice h.1 h.2.1 h.2.2] 22)) := (Below.refl _ _).alloc hB _
  have hb2 : Below B w0 w1 := hb0.trans (grown_below hg (by simp; omega) hrow)
  have hsz2 := hg.size
  -- what lies in a row of integers is as it was
  have same : ∀ (ad : Option Addr), In w0 3 ad → ∀ b o, ad = some ⟨b, o, none⟩ → w1.heap[b]? = w0.heap[b]? := by
    intro ad had b o he
    subst he
    rcases had with had | ⟨b', o', he, hbl⟩
    · cases had
    · cases he
      have hlt := hbl.lt
      rw [hg.block b (by simp; omega) ?_]
      · exact ((Below.refl w0.heap.size w0).alloc (Nat.le_refl _) _).block b hlt
      · intro hrw
        obtain ⟨_, k5⟩ := k1
        rcases k5 with ⟨k5, _⟩ | ⟨g, cap, cur, hv', _, hh, _⟩
        · cases k5
          simp [Value.ownBlock] at hrw
        · cases hv'
          simp [Value.ownBlock] at hrw
          subst hrw
          exact hbl.ne ⟨cur, hh⟩ (by decide) rfl
  have keepIn : ∀ (ad : Option Addr), In w0 3 ad → In w1 3 ad := by
    intro ad had
    rcases had with had | ⟨b', o', he, cs, hbl⟩
    · exact .inl had
    · exact .inr ⟨b', o', he, cs, (same ad (.inr ⟨b', o', he, cs, hbl⟩) b' o' he).trans hbl⟩
  obtain ⟨hlen, ho2⟩ := ho1
  rcases ho2 with ⟨_, h0⟩ | ⟨g, cap, cur, rfl, r⟩
  · omega
  · refine hK _ _ w1 ⟨hs' ++ [h], ?_, by simp; omega, by simp; omega, fun i hi' => ?_⟩ hb2 (by simp at hsz2; omega)
    · rw [List.map_append]
      exact ⟨hlen, .inr ⟨g, cap, cur, rfl, r⟩⟩
    · rcases Nat.lt_or_ge i n with hin' | hin'
      · rw [List.getElem?_append_left (by omega), List.getElem?_append_left (by omega)]
        obtain ⟨k5, k6⟩ := k4 i hin'
        exact ⟨k5.same (same _ k6), keepIn _ k6⟩
      · obtain rfl : i = n := by omega
        rw [List.getElem?_append_right (by omega), List.getElem?_append_right (by omega), k2, k3, Nat.sub_self]
        exact ⟨hsi.same (same _ hin), keepIn _ hin⟩
end Go.Proofs.Ytiibdndchkbefaa

namespace Go.Proofs.Ytiibdndchkbefaa
open Go.RowKit
open Calmly (Kept)

set_option maxRecDepth 100000 in
set_option maxHeartbeats 1000000 in
theorem copyLists_any (a : Option Addr) (n c : Nat) (ls : List (List Int)) (w : World) (h1 : SW w a n c ls) (hn : n ≤ 1000000) (hl : ∀ i, i < n → (ls[i]?.getD []).length ≤ 1000000) :
    Calls Try.prog 19 #[.slice a n c] w fun e w' => ∃ a' c', e = .returned (.slice a' n c') ∧ SW w' a' n c' ls ∧ Below w.heap.size w w' := by
  obtain ⟨l1, l2⟩ : n ≤ ls.length ∧ ls.length ≤ n := by have := h1.len; omega
  have m1 := h1.max
  have c1 := h1.cap
  have HL := Lib.hid hl
  clear hl
  go_enter Try.func19, Try.ntmps19
  go_wp2_with fail
  go_loopw [3, 4] (fun o i wr => ∃ (k c' : Nat) (a' : Option Addr), i = .int .i64 (k : Int) ∧ k ≤ n ∧ o = .slice a' k c' ∧ OwW wr w.heap.size a' k c' (ls.take k) ∧ Below w.heap.size w wr) (fun _ i _ => n - (intOf i).toNat)
  case atStart => exact ⟨0, 0, none, rfl, by omega, rfl, OwW.nil _ _, Below.refl _ _⟩
  case round =>
    obtain ⟨k, c', a', rfl, hk, rfl, hown, hbr⟩ := hrel
    have hrs := hbr.size
    by_cases hlt : k < n
    · obtain ⟨cb, co, rfl, hcc⟩ := (h1.keep hbr).at_ (by omega)
      obtain ⟨ya, yn, yc, y0, s0⟩ := hcc k hlt
      clear hcc
      have hyl := HL.out k hlt
      have htk : ls.take (k + 1) = ls.take k ++ [ls[k]?.getD []] := by
        have : k < ls.length := by omega
        rw [List.take_succ_eq_append_getElem this, List.getElem?_eq_getElem this]
        rfl
      obtain ⟨x, hxx⟩ : ∃ x, ls[k]?.getD [] = x := ⟨_, rfl⟩
      rw [hxx] at s0 hyl htk
      have HT := Lib.hid htk
      have hyn : yn ≤ 1000000 := by have := s0.len; omega
      clear hxx htk
      have hi1 : (k : Int) < (n : Int) := by omega
      have hi0 : (0 : Int) ≤ (k : Int) := by omega
      go_wp2_with fail
      refine (copyInts_any ya yn yc x _ s0 (by omega)).mono ?_
      rintro e w2 ⟨a2, c2, rfl, o2, hs⟩
      replace hown := hown.keep hs
      replace hbr := hbr.trans (hs.mono hrs)
      clear hs hrs
      have hrs := hbr.size
      go_wp2_with (first | (at_builtin; refine appW w2 (h := (a2, yn, c2)) rfl rfl _ _ rfl hown o2.si o2.in_ rfl rfl (by omega) (by omega) ?_; intro a3 c3 w5 ho5 hb5 hs5))
      go_roundw
      case rel => exact ⟨k + 1, c3, a3, by go_num, by omega, rfl, by rw [HT.out]; exact ho5, hbr.trans hb5⟩
      case measure => simp [intOf]; omega
    · have hle : (n : Int) ≤ (k : Int) := by omega
      obtain rfl : n = k := by omega
      go_wp2_with fail
      go_ret
      rw [List.take_of_length_le (by omega)] at hown
      exact ⟨a', c', rfl, hown.sw, hbr⟩

theorem Try.info_band : (Try.prog.info? 51).map (fun i => (i.zero, i.size, i.bytes)) = some (some (.agg #[.int .i64 0, .int .i64 0, .int .i64 0, .int .i64 0]), 4, 32) := by kernel_rfl
theorem oneCell_bv (l : List Four) : ∀ u ∈ bv l, u.oneCell' = true := by
  intro u hu
  unfold bv at hu
  obtain ⟨p, _, hp⟩ := List.mem_flatMap.1 hu
  simp at hp
  rcases hp with rfl | rfl | rfl | rfl <;> rfl

set_option maxRecDepth 100000 in
set_option maxHeartbeats 1000000 in
theorem copyBand_any (a : Option Addr) (n c : Nat) (l : List Four) (w : World) (h1 : SB w a n c l) (hn : n ≤ 1000000) :
    Calls Try.prog 20 #[.slice a n c] w fun e w' => ∃ a' c', e = .returned (.slice a' n c') ∧ SB w' a' n c' l ∧ Below w.heap.size w w' := by
  have hb : Below w.heap.size w (w.alloc (.cells #[] 51)) := (Below.refl _ _).alloc (Nat.le_refl _) _
  have hc := h1.cap
  have hm := h1.max
  obtain ⟨i0, hi, hz0, hz1, hz2⟩ := info_parts Try.info_band
  have hown : (w.alloc (.cells #[] 51)).ownsRow w.heap.size 51 4 (.slice (some ⟨w.heap.size, 0, none⟩) 0 0) 0 [] := ⟨by simp, .inr ⟨w.heap.size, 0, #[], rfl, Nat.le_refl _, alloc_new _ _, by simp, by simp, by simp, by simp⟩⟩
  go_enter Try.func20, Try.ntmps20
  go_wp2_with (at_builtin; refine appS rfl _ _ _ rfl w.heap.size 51 i0 (.agg #[.int .i64 0, .int .i64 0, .int .i64 0, .int .i64 0]) 4 32 Try.underlying26 hi hz0 hz1 hz2 rfl (by decide) (some ⟨w.heap.size, 0, none⟩) 0 0 [] hown a n c (bv l) (h1.keep hb) (oneCell_bv l) rfl rfl (by omega) (by omega) (by simp) ?_; intro a' c' w1 ho hb1)
  go_ret
  obtain ⟨a2, c2, he, hs⟩ := Sl.of_owns ho
  cases he
  refine ⟨a', c', by simp, ?_, hb.trans hb1⟩
  show Sl w1 4 a' n c' (bv l)
  simpa using hs

set_option maxRecDepth 100000 in
set_option maxHeartbeats 1000000 in
theorem fewWaves_any (a : Option Addr) (n c : Nat) (ls : List (List Int)) (w : World) (h1 : SW w a n c ls) (R : Bool) (hR : (decide (n ≤ 5) && ls.all (fun x => decide (x.length ≤ 26))) = R) :
    Calls Try.prog 16 #[.slice a n c] w fun e w' => e = .returned (.bool R) ∧ w = w' := by
  obtain ⟨l1, l2⟩ : n ≤ ls.length ∧ ls.length ≤ n := by have := h1.len; omega
  have m1 := h1.max
  have c1 := h1.cap
  by_cases hn : n ≤ 5
  case neg =>
    have hn2 : (5 : Int) < (n : Int) := by omega
    have hR2 : R = false := by rw [← hR, show decide (n ≤ 5) = false from by simpa using hn]; rfl
    subst hR2
    go_enter Try.func16, Try.ntmps16
    go_wp2_with fail
    go_ret
    exact ⟨rfl, rfl⟩
  have hn2 : (n : Int) ≤ 5 := by omega
  rw [show decide (n ≤ 5) = true from by simpa using hn, Bool.true_and] at hR
  have HR := Lib.hid hR
  clear hR
  go_enter Try.func16, Try.ntmps16
  go_wp2_with fail
  go_loop [3] (fun i => ∃ k : Nat, k ≤ n ∧ i = .int .i64 k ∧ (ls.drop k).all (fun x => decide (x.length ≤ 26)) = R) (fun i => n - (intOf i).toNat)
  case atStart => exact ⟨0, by omega, rfl, HR.out⟩
  case round =>
    obtain ⟨k, hk, rfl, ht⟩ := hrel
    have HT := Lib.hid ht
    clear ht
    by_cases hlt : k < n
    · obtain ⟨cb, co, rfl, hcc⟩ := h1.at_ (by omega)
      obtain ⟨ya, yn, yc, y0, s0⟩ := hcc k hlt
      clear hcc
      have hd : (ls.drop k).all (fun x => decide (x.length ≤ 26)) = (decide (yn ≤ 26) && (ls.drop (k + 1)).all (fun x => decide (x.length ≤ 26))) := by
        have : k < ls.length := by omega
        have hl := s0.len
        rw [List.getElem?_eq_getElem this] at hl
        simp only [Option.getD_some] at hl
        rw [List.drop_eq_getElem_cons this, List.all_cons, hl]
      rw [HT.out] at hd
      have HD := Lib.hid hd
      have ym := s0.max
      have yc1 := s0.cap
      clear hd
      have hi1 : (k : Int) < (n : Int) := by omega
      have hi0 : (0 : Int) ≤ (k : Int) := by omega
      by_cases hy : yn ≤ 26
      · have hy2 : (yn : Int) ≤ 26 := by omega
        have hRE : (ls.drop (k + 1)).all (fun x => decide (x.length ≤ 26)) = R := by rw [HD.out, show decide (yn ≤ 26) = true from by simpa using hy, Bool.true_and]
        have HRE := Lib.hid hRE
        clear hRE hy
        go_wp2_with fail
        go_round
        case rel => exact ⟨k + 1, by omega, by go_num, HRE.out⟩
        case measure => simp [intOf]; omega
      · have hy2 : (26 : Int) < (yn : Int) := by omega
        have hRE : R = false := by rw [HD.out, show decide (yn ≤ 26) = false from by simpa using hy]; rfl
        have HRE := Lib.hid hRE
        clear hRE hy
        go_wp2_with fail
        go_ret
        exact ⟨ret_bool HRE.out.symm, rfl⟩
    · have hle : (n : Int) ≤ (k : Int) := by omega
      have hR0 : R = true := by rw [← HT.out, List.drop_eq_nil_of_le (by omega)]; rfl
      have HR0 := Lib.hid hR0
      clear hR0
      go_wp2_with fail
      go_ret
      exact ⟨ret_bool HR0.out.symm, rfl⟩

/-- The first lists of one number more. -/
def chTo (m : Nat) (j p : Nat) : List (List Int) := (five.take j).flatMap (fun t => (allC m).map (fun c => t :: c)) ++ ((allC m).take p).map (fun c => ((j : Int) - 2) :: c)
theorem chTo_zero (m j : Nat) : chTo m j 0 = (five.take j).flatMap (fun t => (allC m).map (fun c => t :: c)) := by simp [chTo]
theorem chTo_all (m j : Nat) (h : j < 5) : chTo m j (allC m).length = chTo m (j + 1) 0 := by
  rw [chTo_zero, five_take j h, List.flatMap_append]
  simp [chTo]
theorem chTo_succ (m j p : Nat) (h : p < (allC m).length) : chTo m j (p + 1) = chTo m j p ++ [((j : Int) - 2) :: (allC m)[p]?.getD []] := by
  unfold chTo
  rw [List.take_succ_eq_append_getElem h, List.map_append, List.getElem?_eq_getElem h, List.append_assoc]
  rfl
theorem allC_count (m : Nat) : (allC m).length = 5 ^ m := by
  induction m with
  | zero => rfl
  | succ m ih =>
    rw [allC, Nat.pow_succ]
    simp [five, ih]
    omega
theorem five_take_len (m j : Nat) (h : j ≤ 5) : ((five.take j).flatMap (fun t => (allC m).map (fun c => t :: c))).length = j * (allC m).length := by
  have : j = 0 ∨ j = 1 ∨ j = 2 ∨ j = 3 ∨ j = 4 ∨ j = 5 := by omega
  rcases this with rfl | rfl | rfl | rfl | rfl | rfl <;> simp [five] <;> omega
theorem chTo_len (m j p : Nat) (h : j ≤ 5) (hp : p ≤ (allC m).length) : (chTo m j p).length = j * (allC m).length + p := by
  unfold chTo
  rw [List.length_append, five_take_len m j h]
  simp
  omega

set_option maxRecDepth 100000 in
set_option maxHeartbeats 2000000 in
theorem choices_any (m : Nat) (hm : m ≤ 5) : ∀ w : World,
    Calls Try.prog 91 #[.int .i64 (m : Int)] w fun e w' => ∃ a n c, e = .returned (.slice a n c) ∧ SW w' a n c (allC m) ∧ Below w.heap.size w w' := by
  have hA : ∀ (A : World) (o : Obj), Below A.heap.size A (A.alloc o) := fun A o => (Below.refl _ _).alloc (Nat.le_refl _) _
  induction m with
  | zero =>
    intro w
    go_enter Try.func91, Try.ntmps91
    go_wp2_with fail
    go_ret
    refine ⟨_, 1, 1, rfl, SW.one (w.alloc (.cells #[] 3)) (OwI.empty w (Nat.le_refl _)).si 22 (by simp), ?_⟩
    exact (hA w _).trans ((hA _ _).mono (by simp))
  | succ m ih =>
    intro w
    have IH := Lib.hid (ih (by omega))
    clear ih
    have hmm : ((m + 1 : Nat) : Int) - 1 = (m : Int) := by omega
    have hm0 : (((m + 1 : Nat) : Int) == 0) = false := by simp; omega
    have HM := Lib.hid hmm
    obtain ⟨M, hM⟩ : ∃ M : Int, ((m + 1 : Nat) : Int) = M := ⟨_, rfl⟩
    rw [hM] at hm0 ⊢
    have hM1 : M - 1 = (m : Int) := by omega
    have hM2 : 1 ≤ M ∧ M ≤ 6 := by omega
    obtain ⟨hM3, hM4⟩ := hM2
    have HM1 := Lib.hid hM1
    clear hmm HM hM hM1
    have hcl : (allC m).length ≤ 3125 := by
      rw [allC_count]
      have : 5 ^ m ≤ 5 ^ 5 := Nat.pow_le_pow_right (by omega) (by omega)
      omega
    go_enter Try.func91, Try.ntmps91
    go_wp2_with fail
    rw [HM1.out]
    refine (IH.out _).mono ?_
    rintro e w1 ⟨ar, nr, cr, rfl, sr, hb1⟩
    have hnr := sr.len
    have HNR := Lib.hid hnr
    have hnr2 : nr ≤ 3125 := by omega
    have mr := sr.max
    have cr' := sr.cap
    clear hnr
    go_wp2_with fail
    go_loopw [3, 5] (fun o i wr => ∃ (j c' : Nat) (a' : Option Addr) (n' : Nat), i = .int .i64 ((j : Int) - 2) ∧ j ≤ 5 ∧ o = .slice a' n' c' ∧ OwW wr w1.heap.size a' n' c' (chTo m j 0) ∧ Below w1.heap.size w1 wr) (fun _ i _ => 5 - (intOf i + 2).toNat)
    case atStart => exact ⟨0, 0, none, 0, rfl, by omega, rfl, OwW.nil _ _, Below.refl _ _⟩
    case round =>
      obtain ⟨j, c', a', n', rfl, hj, rfl, hown, hbr⟩ := hrel
      by_cases hlt : j < 5
      · have hi : (j : Int) - 2 ≤ 2 := by omega
        go_wp2_with fail
        go_loopw [3, 6] (fun o i wz => ∃ (p c2 : Nat) (a2 : Option Addr) (n2 : Nat), i = .int .i64 (p : Int) ∧ p ≤ nr ∧ o = .slice a2 n2 c2 ∧ OwW wz w1.heap.size a2 n2 c2 (chTo m j p) ∧ Below w1.heap.size w1 wz) (fun _ i _ => nr - (intOf i).toNat)
        case atStart => exact ⟨0, c', a', n', rfl, by omega, rfl, hown, hbr⟩
        case round =>
          clear hown hbr
          obtain ⟨p, c2, a2, n2, rfl, hp, rfl, hown, hbr⟩ := hrel
          have hrs := hbr.size
          by_cases hpl : p < nr
          · obtain ⟨cb, co, rfl, hcc⟩ := (sr.keep hbr).at_ (by omega)
            obtain ⟨ya, yn, yc, y00, s0⟩ := hcc p hpl
            have y0 := cell_keep y00 (hA wr (.cells #[.int .i64 ((j : Int) - 2)] 3))
            clear hcc y00
            have hpl2 : p < (allC m).length := by rw [← HNR.out]; exact hpl
            have hch := chTo_succ m j p hpl2
            have hclen := chTo_len m j p (by omega) (by omega)
            have hn2 : n2 ≤ 20000 := by
              have h1 := hown.len
              rw [hclen] at h1
              have : j * (allC m).length ≤ 5 * 3125 := Nat.mul_le_mul (by omega) hcl
              omega
            obtain ⟨x, hxx⟩ : ∃ x, (allC m)[p]?.getD [] = x := ⟨_, rfl⟩
            have hxl : x.length ≤ 5 := by
              have : (allC m)[p]?.getD [] ∈ allC m := by
                rw [List.getElem?_eq_getElem hpl2]
                exact List.getElem_mem hpl2
              rw [hxx] at this
              have := (allC_len this).1
              omega
            rw [hxx] at s0 hch
            have hyn : yn ≤ 5 := by have := s0.len; omega
            have HCH := Lib.hid hch
            clear hch hclen hxx hxl hpl2
            have hi1 : (p : Int) < (nr : Int) := by omega
            have hi0 : (0 : Int) ≤ (p : Int) := by omega
            have S1 := Lib.hid True.intro
            go_wp2_with (first | (at_builtin; have _ := S1.out; clear S1; refine appL rfl _ _ rfl (OwI.one wr (Nat.le_refl _) ((j : Int) - 2)) (s0.keep (hA _ _)) rfl rfl (by omega) (by simp) ?_; intro a3 c3 w4 ho4 hb4; have hb5 := (hA wr (.cells #[.int .i64 ((j : Int) - 2)] 3)).trans hb4; have hb5s := hb5.size) | (at_builtin; refine appW w4 (h := (a3, 1 + yn, c3)) rfl rfl _ _ rfl (hown.keep hb5) ho4.si ho4.in_ rfl rfl (by omega) (by omega) ?_; intro a5 c5 w6 ho6 hb6 hs6))
            go_roundw
            case rel => exact ⟨p + 1, c5, a5, n2 + 1, by go_num, by omega, rfl, by rw [HCH.out]; exact ho6, hbr.trans ((hb5.mono hrs).trans hb6)⟩
            case measure => simp [intOf]; omega
          · have hle : (nr : Int) ≤ (p : Int) := by omega
            obtain rfl : p = nr := by omega
            go_wp2_with fail
            go_roundw
            case rel =>
              refine ⟨j + 1, c2, a2, n2, by go_num, by omega, rfl, ?_, hbr⟩
              rw [← chTo_all m j hlt, ← HNR.out]
              exact hown
            case measure => simp [intOf]; omega
      · have hi : (2 : Int) < (j : Int) - 2 := by omega
        obtain rfl : j = 5 := by omega
        go_wp2_with fail
        go_ret
        refine ⟨a', n', c', rfl, ?_, hb1.trans (hbr.mono hb1.size)⟩
        have e : allC (m + 1) = chTo m 5 0 := by rw [chTo_zero]; rfl
        rw [e]
        exact hown.sw
end Go.Proofs.Ytiibdndchkbefaa
