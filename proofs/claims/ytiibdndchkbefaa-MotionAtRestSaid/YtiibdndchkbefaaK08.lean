/- Contracts of chapter 2: the rest of a record, and its prices. Small functions of the helpers' package: modulo, floors, comparisons of fractions of any size. Plain law of chapter 2: fractions in lowest terms, and the greatest scale. Contracts of chapter 2: the reference's error of a record. A region that draws its order, walked by a plan within a round of a range over a function. -/
import Derived.Test.YtiibdndchkbefaaK07
namespace Go.Proofs.Ytiibdndchkbefaa
open Go.RowKit
open Calmly (Kept)

theorem natAbs_tdiv_le (a b : Int) : (a.tdiv b).natAbs ≤ a.natAbs := by
  rw [Int.natAbs_tdiv]
  exact Nat.div_le_self _ _
theorem pr_nums {xs : List Int} (h : ∀ j : Nat, -1000 ≤ xs[j]?.getD 0 ∧ xs[j]?.getD 0 ≤ 1000) (h2 : 2 ≤ xs.length) (hn : xs.length ≤ 24) :
    (1 ≤ prDen xs ∧ prDen xs ≤ 27600) ∧ (-300000000 ≤ prVel xs ∧ prVel xs ≤ 300000000) ∧ (-30000000 ≤ prDis xs ∧ prDis xs ≤ 30000000) := by
  have hd := denR_bd xs.length h2 hn
  obtain ⟨hv, hu⟩ := prVD_bd h hn
  have h3 := natAbs_tdiv_le (prV xs) (prG xs)
  have h4 := natAbs_tdiv_le (prD xs) (prG xs)
  have hm : denR xs.length ∈ [denR xs.length, prV xs, prD xs] := by simp
  have hgp := gcds_pos hm (by omega)
  have hgd := gcds_dvd_mem hm
  have hg2 := Int.le_of_dvd (by omega) hgd
  have e : prG xs = ((gcds [denR xs.length, prV xs, prD xs] : Nat) : Int) := rfl
  have h5 : prDen xs = denR xs.length / prG xs := by
    unfold prDen
    rw [Int.tdiv_eq_ediv_of_nonneg (by omega)]
  have h6 : prG xs * (denR xs.length / prG xs) = denR xs.length := Int.mul_ediv_cancel' (by rw [e]; exact hgd)
  have h7 : 1 ≤ denR xs.length / prG xs := by
    rcases Int.lt_or_le 0 (denR xs.length / prG xs) with h | h
    · omega
    · have := Int.mul_nonpos_of_nonneg_of_nonpos (a := prG xs) (b := denR xs.length / prG xs) (by omega) h
      omega
  have h8 : denR xs.length / prG xs ≤ denR xs.length := by
    have := Int.ediv_le_self (b := prG xs) (a := denR xs.length) (by omega)
    exact this
  unfold prVel prDis
  refine ⟨by rw [h5]; omega, by omega, by omega⟩
theorem rsT_bd {xs : List Int} (h : ∀ j : Nat, -1000 ≤ xs[j]?.getD 0 ∧ xs[j]?.getD 0 ≤ 1000) (h2 : 2 ≤ xs.length) (hn : xs.length ≤ 24) (t : Nat) (ht : t < xs.length) :
    (-27600000 ≤ xs[t]?.getD 0 * prDen xs ∧ xs[t]?.getD 0 * prDen xs ≤ 27600000) ∧ (-2000000000 ≤ prVel xs + prDis xs * ((xs.length : Int) - (t : Int)) ∧ prVel xs + prDis xs * ((xs.length : Int) - (t : Int)) ≤ 2000000000) ∧ -3000000000 ≤ rsT xs t ∧ rsT xs t ≤ 3000000000 := by
  obtain ⟨⟨a1, a2⟩, ⟨a3, a4⟩, a5, a6⟩ := pr_nums h h2 hn
  have h3 := h t
  have p1 := pr_bd (c := xs[t]?.getD 0) (a := prDen xs) (C := 1000) (A := 27600) h3.1 h3.2 (by omega) (by omega)
  have p2 := pr_bd (c := prDis xs) (a := (xs.length : Int) - (t : Int)) (C := 30000000) (A := 24) a5 a6 (by omega) (by omega)
  unfold rsT
  omega

set_option maxRecDepth 100000 in
set_option maxHeartbeats 2000000 in
theorem RestOf_any (step : Int) (a : Option Addr) (n c : Nat) (xs : List Int) (w : World) (h1 : SI w a n c xs) (E D : Int) (P : List Int) (hE : (recF step xs).2 = E) (hno : E ≠ 0 → D = 0 ∧ P = []) (hok : E = 0 → restD xs = D ∧ restP xs = P) :
    Calls Try.prog 63 #[.agg #[.int .i64 step, .slice a n c]] w fun e w' => ∃ a' n' c', e = .returned (.tuple #[.agg #[.int .i64 D, .slice a' n' c'], .int .i64 E]) ∧ SI w' a' n' c' P ∧ Below w.heap.size w w' := by
  have hA : ∀ (A : World) (o : Obj), Below A.heap.size A (A.alloc o) := fun A o => (Below.refl _ _).alloc (Nat.le_refl _) _
  have hb2 : Below w.heap.size w ((w.alloc (.cells #[.int .i64 step, .slice a n c] 24)).alloc (.cells #[.int .i64 0, .slice none 0 0] 106)) := ((Below.refl _ _).alloc (Nat.le_refl _) _).alloc (by simp) _
  have HE := Lib.hid hE
  have HNO := Lib.hid hno
  have HOK := Lib.hid hok
  clear hE hno hok
  obtain ⟨l1, l2⟩ : n ≤ xs.length ∧ xs.length ≤ n := by have := h1.len; omega
  have m1 := h1.max
  have c1 := h1.cap
  go_enter Try.func63, Try.ntmps63
  go_wp2_with fail
  refine (recordErr_any step a n c xs _ (h1.keep hb2) E HE.out).mono ?_
  rintro e w1 ⟨rfl, hs⟩
  obtain ⟨x1, x2⟩ := box2 (w := w) (o := .cells #[.int .i64 step, .slice a n c] 24) (o' := .cells #[.int .i64 0, .slice none 0 0] 106) hs
  have BW := hb2.trans (hs.mono hb2.size)
  clear hs
  have f0 := cell_block x1 0
  have f1 := cell_block x1 1
  have g0 := cell_block x2 0
  have g1 := cell_block x2 1
  have g2 := frozen_block x2 0
  have g3 := frozen_block x2 1
  by_cases hz : E = 0
  case neg =>
    obtain ⟨rfl, rfl⟩ := HNO.out hz
    have b1 : (E != 0) = true := by simpa using hz
    clear hz
    go_wp2_with fail
    obtain ⟨s1, s2, s3, s4⟩ := set2 (x := .int .i64 0) (y := .slice none 0 0) g0 g1
    refine bodyPost_ret (v := .tuple #[.agg #[.int .i64 0, .slice none 0 0], .int .i64 E]) (by simp [results, Try.results63, go_sem, s1, s2]) rfl ⟨none, 0, 0, rfl, Sl.nil _ 1, ?_⟩
    exact (BW.setCell (by simp) _).setCell (by simp) _
  subst hz
  obtain ⟨hD, hP⟩ := HOK.out rfl
  obtain ⟨q1, q2, q3, q4, q5⟩ := recF_ok HE.out
  have hn0 : 2 ≤ n := by omega
  have hn : n ≤ 24 := by omega
  have hbd := fun t ht => rsT_bd q5 (by omega) (by omega) t ht
  obtain ⟨⟨a1, a2⟩, ⟨a3, a4⟩, a5, a6⟩ := pr_nums q5 (by omega) (by omega)
  have hrd : restD xs = (prDen xs).tdiv (rdG (prDen xs) (rsTo xs n)) := by unfold restD; rw [show xs.length = n by omega]
  have hrp : restP xs = (rsTo xs n).map (fun p => p.tdiv (rdG (prDen xs) (rsTo xs n))) := by unfold restP; rw [show xs.length = n by omega]
  have hln : xs.length = n := by omega
  rw [hrd] at hD
  rw [hrp] at hP
  rw [hln] at hbd
  have hrt : ∀ t, rsT xs t = xs[t]?.getD 0 * prDen xs + (prVel xs + prDis xs * ((n : Int) - (t : Int))) := fun t => by unfold rsT; rw [hln]
  obtain ⟨pd, hpd⟩ : ∃ x, prDen xs = x := ⟨_, rfl⟩
  obtain ⟨pv, hpv⟩ : ∃ x, prVel xs = x := ⟨_, rfl⟩
  obtain ⟨pu, hpu⟩ : ∃ x, prDis xs = x := ⟨_, rfl⟩
  rw [hpd] at hD hP hbd a1 a2 hrt
  rw [hpv] at hbd a3 a4 hrt
  rw [hpu] at hbd a5 a6 hrt
  have H5 := Lib.hid q5
  have HPD := Lib.hid hpd
  have HPV := Lib.hid hpv
  have HPU := Lib.hid hpu
  have HD := Lib.hid hD
  have HP := Lib.hid hP
  have HBD := Lib.hid hbd
  have HRT := Lib.hid hrt
  clear q1 q2 q3 q4 q5 hpd hpv hpu hD hP hbd hrd hrp hrt hln
  go_wp2_with fail
  refine (price_any a n c xs _ (h1.keep BW) hn0 hn H5.out pd pv pu HPD.out HPV.out HPU.out).mono ?_
  rintro e w2 ⟨rfl, hs⟩
  replace x1 := blk_keep x1 hs
  replace x2 := blk_keep x2 hs
  replace BW := BW.trans (hs.mono BW.size)
  have hk := hA w2 (.cells #[.int .i64 pd, .int .i64 pv, .int .i64 pu] 110)
  have x3 := alloc_new w2 (.cells #[.int .i64 pd, .int .i64 pv, .int .i64 pu] 110)
  replace x1 := blk_keep x1 hk
  replace x2 := blk_keep x2 hk
  replace BW := BW.trans (hk.mono BW.size)
  clear f0 f1 g0 g1 g2 g3 hs
  have f0 := cell_block x1 0
  have f1 := cell_block x1 1
  have y1 := cell_block x3 0
  have y2 := cell_block x3 1
  have y3 := cell_block x3 2
  go_wp2_with fail
  obtain ⟨V, hV⟩ : ∃ V, w2.alloc (.cells #[.int .i64 pd, .int .i64 pv, .int .i64 pu] 110) = V := ⟨_, rfl⟩
  obtain ⟨bp, hbp⟩ : ∃ b, w2.heap.size = b := ⟨_, rfl⟩
  rw [hV] at hk x1 x2 x3 BW f0 f1 y1 y2 y3 ⊢
  rw [hbp] at x3 hk y1 y2 y3 ⊢
  clear hV hk hbp
  have hl3 := blk_lt x3
  have hl2 := blk_lt x2
  go_loopw [6, 22] (fun o i wr => ∃ (k c' : Nat) (a' : Option Addr), i = .int .i64 (k : Int) ∧ k ≤ n ∧ o = .slice a' k c' ∧ OwI wr V.heap.size a' k c' (rsTo xs k) ∧ Below V.heap.size V wr) (fun _ i _ => n - (intOf i).toNat)
  case atStart => exact ⟨0, 0, none, rfl, by omega, rfl, OwI.nil _ _, Below.refl _ _⟩
  case round =>
    clear f0 f1 y1 y2 y3
    obtain ⟨k, c', a', rfl, hk, rfl, hown, hbr⟩ := hrel
    have hrs := hbr.size
    have hbw := BW.trans (hbr.mono BW.size)
    have z1 := blk_keep x1 hbr
    have z2 := blk_keep x2 hbr
    have z3 := blk_keep x3 hbr
    by_cases hlt : k < n
    · obtain ⟨ba, oa, rfl, hca⟩ := (h1.keep hbw).at_ (by omega)
      have ea := hca k hlt
      have hx := H5.out k
      obtain ⟨⟨b1, b2⟩, ⟨b3, b4⟩, b5, b6⟩ := HBD.out k hlt
      have hn1 := HRT.out k
      have hn2 := rsTo_succ xs k
      rw [hn1] at hn2 b5 b6
      obtain ⟨x, hxx⟩ : ∃ x, xs[k]?.getD 0 = x := ⟨_, rfl⟩
      rw [hxx] at ea hx hn2 b1 b2 b5 b6
      obtain ⟨ch, hch⟩ : ∃ x, pv + pu * ((n : Int) - (k : Int)) = x := ⟨_, rfl⟩
      rw [hch] at hn2 b3 b4 b5 b6
      have HN2 := Lib.hid hn2
      have HCH := Lib.hid hch
      clear hca hn1 hn2 hxx hch
      obtain ⟨hx1, hx2⟩ := hx
      have hi : (k : Int) < (n : Int) := by omega
      have hi0 : (0 : Int) ≤ (k : Int) := by omega
      have e0 := cell_block z1 1
      have e1 := cell_block z3 0
      have e2 := cell_block z3 1
      have e3 := cell_block z3 2
      go_wp2_with fail
      refine Calmly.wp_region_mix 13 (.fl 0 <| .fl 1 <| .fl 2 <| .fl 3 <| .fl 4 <| .fl 5 <| .fl 6 <| .fl 7 <| .fl 8 <| .fl 9 <| .eff 10 <| .fl 11 <| .eff 12 <| .tail [13, 14]) (by kernel_rfl) (by kernel_rfl) ?_
      have BV : Below wr.heap.size wr wr.drew := (Below.refl _ _).drew
      generalize wr.drew = U at BV ⊢
      replace e0 := cell_block (blk_keep z1 BV) 1
      replace e1 := cell_block (blk_keep z3 BV) 0
      replace e2 := cell_block (blk_keep z3 BV) 1
      replace e3 := cell_block (blk_keep z3 BV) 2
      replace ea := cell_keep ea BV
      have hk := Below.refl U.heap.size U
      go_wp2_with (first | ((with_reducible refine Calmly.is_tail ?_); refine Calmly.mix_tail_app rfl (fun rest hrest => ?_); refine appIw w3 rfl rfl _ _ rfl ow3 rfl rfl (by omega) (by have := BV.size; have := hk3.size; omega) ?_; intro a2' c2' w5 ho5 hb5 hs5; refine hrest _ _ ?_) | ((with_reducible refine Calmly.is_fl ?_); refine Calmly.mix_fl rfl ?_ (fun _ _ => ?_); (first | exact .move _ | exact .load _ _ | exact .fieldAddr _ _ _ (by kernel_rfl) | exact .assign _ | exact .binOp _ _ _ _ _ rfl | exact .indexAddr _ _ _ | exact .len _ _ (by kernel_rfl) | exact .field _ _ _ | exact .extract _ _ | exact .pick _ _ _ | exact .build _ _ | exact .slice _ _ _ _ _ | exact .unOp _ _ _ rfl | exact .index _ _ _ | exact .max _ _ _ rfl rfl | exact .min _ _ _ rfl rfl)) | ((with_reducible refine Calmly.is_gl ?_); refine Calmly.mix_gl rfl rfl rfl ?_; first | ((first | with_reducible refine Calmly.gl_tt ?_ (fun _ _ => ?_) | with_reducible refine Calmly.gl_ff ?_ (fun _ _ => ?_)); (first | exact .move _ | exact .load _ _ | exact .fieldAddr _ _ _ (by kernel_rfl) | exact .assign _ | exact .binOp _ _ _ _ _ rfl | exact .indexAddr _ _ _ | exact .len _ _ (by kernel_rfl) | exact .field _ _ _ | exact .extract _ _ | exact .pick _ _ _ | exact .build _ _ | exact .slice _ _ _ _ _ | exact .unOp _ _ _ rfl | exact .index _ _ _ | exact .max _ _ _ rfl rfl | exact .min _ _ _ rfl rfl)) | with_reducible refine Calmly.gl_tf (fun _ _ => ?_) | with_reducible refine Calmly.gl_ft (fun _ _ => ?_)) | ((with_reducible refine Calmly.is_eff ?_); refine Calmly.mix_eff rfl (fun _ _ => ?_)) | ((with_reducible refine Calmly.is_gf ?_); refine Calmly.mix_gf rfl rfl rfl ?_; first | with_reducible refine Calmly.gf_tt (fun _ _ => ?_) | with_reducible refine Calmly.gf_ff (fun _ _ => ?_) | with_reducible refine Calmly.gf_tf (kept_of hk) (fun _ _ => ?_) | with_reducible refine Calmly.gf_ft (kept_of hk) (fun _ _ => ?_)) | ((with_reducible refine Calmly.is_tail ?_); first | refine Calmly.mix_tail_nil ?_ | refine Calmly.mix_tail rfl (fun _ _ => ?_)) | ((with_reducible refine Calmly.is_kept ?_); refine ⟨kept_of hk, ?_⟩) | (with_reducible refine Calmly.mix_alt ?_ ?_) | (refine kept_alloc hk (fun hk' hblk hge => ?_); replace hk := hk'; clear hk') | (go_at_call 119; refine (change_any pd pv pu n k _ ⟨by omega, by omega⟩ ⟨by omega, by omega⟩ ⟨by omega, by omega⟩ ⟨by omega, by omega⟩ ch HCH.out).mono ?_; rintro e w3 ⟨rfl, hs3⟩; replace hk := step_of hk hs3; have hk3 := hk; have ow3 := (hown.keep BV).keep hk))
      go_roundw
      case rel => exact ⟨k + 1, c2', a2', by go_num, by omega, rfl, by rw [HN2.out]; exact ho5, hbr.trans ((BV.trans (hk3.mono BV.size)).mono hrs |>.trans hb5)⟩
      case measure => simp [intOf]; omega
    · have hle : (n : Int) ≤ (k : Int) := by omega
      obtain rfl : k = n := by omega
      have e1 := cell_block z3 0
      have hbp : ∀ x ∈ rsTo xs k, -9000000000000000000 ≤ x ∧ x ≤ 9000000000000000000 := by
        intro x hx
        unfold rsTo at hx
        obtain ⟨t, ht, rfl⟩ := List.mem_map.1 hx
        have := (HBD.out t (List.mem_range.1 ht)).2.2
        omega
      have HBP := Lib.hid hbp
      clear hbp
      go_wp2_with fail
      refine (reduced_any pd a' k c' _ _ hown.si (by omega) a1 (by omega) HBP.out D P HD.out HP.out).mono ?_
      rintro e w4 ⟨a4, c4, rfl, o4, hs⟩
      replace z2 := blk_keep z2 hs
      replace hbw := hbw.trans (hs.mono hbw.size)
      have g0 := cell_block z2 0
      have g1 := cell_block z2 1
      have g2 := frozen_block z2 0
      have g3 := frozen_block z2 1
      go_wp2_with fail
      obtain ⟨s1, s2, s3, s4⟩ := set2 (x := .int .i64 D) (y := .slice a4 k c4) g0 g1
      refine bodyPost_ret (v := .tuple #[.agg #[.int .i64 D, .slice a4 k c4], .int .i64 0]) (by simp [results, Try.results63, go_sem, s1, s2]) rfl ⟨a4, k, c4, rfl, ?_, ?_⟩
      · exact (o4.under2 (by omega) _ _).si
      · exact (hbw.setCell (by simp) _).setCell (by simp) _

set_option maxRecDepth 100000 in
set_option maxHeartbeats 1000000 in
theorem PricesOf_any (step : Int) (a : Option Addr) (n c : Nat) (xs : List Int) (w : World) (h1 : SI w a n c xs) (E D V U : Int) (hE : (recF step xs).2 = E) (hno : E ≠ 0 → D = 0 ∧ V = 0 ∧ U = 0) (hok : E = 0 → prDen xs = D ∧ prVel xs = V ∧ prDis xs = U) :
    Calls Try.prog 64 #[.agg #[.int .i64 step, .slice a n c]] w fun e w' => e = .returned (.tuple #[.agg #[.int .i64 D, .int .i64 V, .int .i64 U], .int .i64 E]) ∧ Below w.heap.size w w' := by
  have hb2 : Below w.heap.size w ((w.alloc (.cells #[.int .i64 step, .slice a n c] 24)).alloc (.cells #[.int .i64 0, .int .i64 0, .int .i64 0] 110)) := ((Below.refl _ _).alloc (Nat.le_refl _) _).alloc (by simp) _
  have HE := Lib.hid hE
  have HNO := Lib.hid hno
  have HOK := Lib.hid hok
  clear hE hno hok
  have m1 := h1.max
  have c1 := h1.cap
  go_enter Try.func64, Try.ntmps64
  go_wp2_with fail
  refine (recordErr_any step a n c xs _ (h1.keep hb2) E HE.out).mono ?_
  rintro e w1 ⟨rfl, hs⟩
  obtain ⟨x1, x2⟩ := box2 (w := w) (o := .cells #[.int .i64 step, .slice a n c] 24) (o' := .cells #[.int .i64 0, .int .i64 0, .int .i64 0] 110) hs
  have BW := hb2.trans (hs.mono hb2.size)
  have hlt := blk_lt x2
  clear hs
  have f0 := cell_block x1 0
  have f1 := cell_block x1 1
  have g0 := cell_block x2 0
  have g1 := cell_block x2 1
  have g2 := cell_block x2 2
  have g3 := frozen_block x2 0
  have g4 := frozen_block x2 1
  have g5 := frozen_block x2 2
  by_cases hz : E = 0
  case neg =>
    obtain ⟨rfl, rfl, rfl⟩ := HNO.out hz
    have b1 : (E != 0) = true := by simpa using hz
    clear hz
    go_wp2_with fail
    obtain ⟨s1, s2, s3⟩ := set3 (x := .int .i64 0) (y := .int .i64 0) (z := .int .i64 0) x2
    refine bodyPost_ret (v := .tuple #[.agg #[.int .i64 0, .int .i64 0, .int .i64 0], .int .i64 E]) (by simp [results, Try.results64, go_sem, s1, s2, s3]) rfl ⟨rfl, ?_⟩
    exact ((BW.setCell (by simp) _).setCell (by simp) _).setCell (by simp) _
  subst hz
  obtain ⟨hD, hV, hU⟩ := HOK.out rfl
  obtain ⟨q1, q2, q3, q4, q5⟩ := recF_ok HE.out
  have hl := h1.len
  have hn0 : 2 ≤ n := by omega
  have hn : n ≤ 24 := by omega
  have H5 := Lib.hid q5
  have HV := Lib.hid hV
  have HD := Lib.hid hD
  have HU := Lib.hid hU
  clear q1 q2 q3 q4 q5 hV hD hU hl
  go_wp2_with fail
  refine (price_any a n c xs _ (h1.keep BW) hn0 hn H5.out D V U HD.out HV.out HU.out).mono ?_
  rintro e w2 ⟨rfl, hs⟩
  replace x2 := blk_keep x2 hs
  replace BW := BW.trans (hs.mono BW.size)
  clear f0 f1 g0 g1 g2 g3 g4 g5 hs
  have g0 := cell_block x2 0
  have g1 := cell_block x2 1
  have g2 := cell_block x2 2
  have g3 := frozen_block x2 0
  have g4 := frozen_block x2 1
  have g5 := frozen_block x2 2
  go_wp2_with fail
  obtain ⟨s1, s2, s3⟩ := set3 (x := .int .i64 D) (y := .int .i64 V) (z := .int .i64 U) x2
  refine bodyPost_ret (v := .tuple #[.agg #[.int .i64 D, .int .i64 V, .int .i64 U], .int .i64 0]) (by simp [results, Try.results64, go_sem, s1, s2, s3]) rfl ⟨rfl, ?_⟩
  exact ((BW.setCell (by simp) _).setCell (by simp) _).setCell (by simp) _
end Go.Proofs.Ytiibdndchkbefaa

namespace Go.Proofs.Ytiibdndchkbefaa
open Go.RowKit
open Calmly (Kept)

theorem tdiv_floor (n d : Int) (h : 0 < d) : n / d = if n.tmod d < 0 then n.tdiv d - 1 else n.tdiv d := by
  have h1 := Int.tmod_add_mul_tdiv n d
  have h2 := Int.emod_add_mul_ediv n d
  have h3 := Int.emod_nonneg n (by omega : d ≠ 0)
  have h4 := Int.emod_lt_of_pos n h
  have h5 : n.tmod d < d := Int.tmod_lt_of_pos n h
  have h6 : -d < n.tmod d := by
    have := Int.lt_tmod_of_pos n h
    omega
  by_cases hn : n.tmod d < 0
  · rw [if_pos hn]
    have h7 : d * (n / d) = d * (n.tdiv d - 1) + (d + n.tmod d - n % d) := by rw [Int.mul_sub]; omega
    have h8 : d * (n / d - (n.tdiv d - 1)) = d + n.tmod d - n % d := by rw [Int.mul_sub]; omega
    have h9 : n / d - (n.tdiv d - 1) < 1 := by
      rcases Int.lt_or_le (n / d - (n.tdiv d - 1)) 1 with h | h'
      · exact h
      · have := Int.mul_le_mul_of_nonneg_left h' (by omega : 0 ≤ d)
        omega
    have h10 : -1 < n / d - (n.tdiv d - 1) := by
      rcases Int.lt_or_le (-1) (n / d - (n.tdiv d - 1)) with h | h'
      · exact h
      · have := Int.mul_le_mul_of_nonneg_left h' (by omega : 0 ≤ d)
        omega
    omega
  · rw [if_neg hn]
    have h8 : d * (n / d - n.tdiv d) = n.tmod d - n % d := by rw [Int.mul_sub]; omega
    have h9 : n / d - n.tdiv d < 1 := by
      rcases Int.lt_or_le (n / d - n.tdiv d) 1 with h | h'
      · exact h
      · have := Int.mul_le_mul_of_nonneg_left h' (by omega : 0 ≤ d)
        omega
    have h10 : -1 < n / d - n.tdiv d := by
      rcases Int.lt_or_le (-1) (n / d - n.tdiv d) with h | h'
      · exact h
      · have := Int.mul_le_mul_of_nonneg_left h' (by omega : 0 ≤ d)
        omega
    omega
theorem tmod_emod (n d : Int) (h : 0 < d) : n % d = if n.tmod d < 0 then n.tmod d + d else n.tmod d := by
  have h1 := Int.tmod_add_mul_tdiv n d
  have h2 := Int.emod_add_mul_ediv n d
  have h3 := tdiv_floor n d h
  split at h3
  · rename_i h4
    rw [if_pos h4]
    rw [h3, Int.mul_sub] at h2
    omega
  · rename_i h4
    rw [if_neg h4]
    rw [h3] at h2
    omega
theorem tdivq_bd (n d : Int) (h : 0 < d) (h1 : -9223372036854775808 ≤ n) (h2 : n ≤ 9223372036854775807) : -9223372036854775808 ≤ n.tdiv d ∧ n.tdiv d ≤ 9223372036854775807 := by
  rcases Int.le_total 0 n with h0 | h0
  · have h3 : 0 ≤ n.tdiv d := Int.tdiv_nonneg h0 (by omega)
    have h4 : n.tdiv d ≤ n := by
      rw [Int.tdiv_eq_ediv_of_nonneg h0]
      exact Int.ediv_le_self d h0
    omega
  · have h3 : 0 ≤ (-n).tdiv d := Int.tdiv_nonneg (by omega) (by omega)
    have h4 : (-n).tdiv d ≤ -n := by
      rw [Int.tdiv_eq_ediv_of_nonneg (by omega)]
      exact Int.ediv_le_self d (by omega)
    rw [Int.neg_tdiv] at h3 h4
    omega

set_option maxRecDepth 100000 in
set_option maxHeartbeats 400000 in
theorem mod_any (n d : Int) (w : World) (h : 0 < d) (h2 : d ≤ 9223372036854775807) (_ : -9223372036854775808 ≤ n) (_ : n ≤ 9223372036854775807) :
    Calls Try.prog 72 #[.int .i64 n, .int .i64 d] w fun e w' => e = .returned (.int .i64 (n % d)) ∧ w = w' := by
  have h3 := tmod_emod n d h
  have h4 : n.tmod d < d := Int.tmod_lt_of_pos n h
  have h5 : -d < n.tmod d := by
    have := Int.lt_tmod_of_pos n h
    omega
  have hd : (d == 0) = false := by simp; omega
  by_cases hm : n.tmod d < 0
  · rw [if_pos hm] at h3
    rw [h3]
    clear h3
    go_enter Try.func72, Try.ntmps72
    go_wp2_with fail
    go_ret
    exact ⟨rfl, rfl⟩
  · rw [if_neg hm] at h3
    rw [h3]
    have hm' : 0 ≤ n.tmod d := by omega
    clear h3 hm
    go_enter Try.func72, Try.ntmps72
    go_wp2_with fail
    go_ret
    exact ⟨rfl, rfl⟩

set_option maxRecDepth 100000 in
set_option maxHeartbeats 400000 in
theorem floor_any (n d : Int) (w : World) (h : 0 < d) (h2 : d ≤ 9223372036854775807) (hn1 : -9223372036854775807 ≤ n) (hn2 : n ≤ 9223372036854775807) :
    Calls Try.prog 151 #[.int .i64 n, .int .i64 d] w fun e w' => e = .returned (.int .i64 (n / d)) ∧ w = w' := by
  have h3 := tdiv_floor n d h
  have h4 : n.tmod d < d := Int.tmod_lt_of_pos n h
  have h5 : -d < n.tmod d := by
    have := Int.lt_tmod_of_pos n h
    omega
  have h6 := Int.natAbs_tdiv_le_natAbs n d
  have hd : (d == 0) = false := by simp; omega
  have h7 : -9223372036854775807 ≤ n.tdiv d := by omega
  have h8 : n.tdiv d ≤ 9223372036854775807 := by omega
  by_cases hm : n.tmod d < 0
  · rw [if_pos hm] at h3
    rw [h3]
    clear h3 h6
    go_enter Try.func151, Try.ntmps151
    go_wp2_with fail
    go_ret
    exact ⟨rfl, rfl⟩
  · rw [if_neg hm] at h3
    rw [h3]
    have hm' : 0 ≤ n.tmod d := by omega
    clear h3 hm h6
    go_enter Try.func151, Try.ntmps151
    go_wp2_with fail
    go_ret
    exact ⟨rfl, rfl⟩

/-- How two numbers compare: -1, 0 or 1. -/
def cmpQ (x y : Int) : Int := if x < y then -1 else if y < x then 1 else 0
theorem cmpQ_shift (x y z : Int) : cmpQ (x + z) (y + z) = cmpQ x y := by
  unfold cmpQ
  have e1 : (x + z < y + z) = (x < y) := by simp
  have e2 : (y + z < x + z) = (y < x) := by simp
  simp only [e1, e2]
/-- A step of the comparison of fractions. -/
theorem cmp_lt {n d m k : Int} (hd : 0 < d) (hk : 0 < k) (h : n / d < m / k) : cmpQ (n * k) (m * d) = -1 := by
  have h1 : n < d * (n / d) + d := by
    have := Int.emod_add_mul_ediv n d
    have := Int.emod_lt_of_pos n hd
    omega
  have h2 : k * (m / k) ≤ m := by
    have := Int.emod_add_mul_ediv m k
    have := Int.emod_nonneg m (by omega : k ≠ 0)
    omega
  have h3 : n * k < (d * (n / d) + d) * k := Int.mul_lt_mul_of_pos_right h1 hk
  have h4 : k * (m / k) * d ≤ m * d := Int.mul_le_mul_of_nonneg_right h2 (by omega)
  have h5 : (d * (n / d) + d) * k = (n / d + 1) * (d * k) := by
    rw [show d * (n / d) + d = d * (n / d + 1) by rw [Int.mul_add, Int.mul_one]]
    rw [Int.mul_comm d (n / d + 1), Int.mul_assoc]
  have h6 : k * (m / k) * d = (m / k) * (d * k) := by
    rw [Int.mul_comm k (m / k), Int.mul_assoc, Int.mul_comm k d]
  have h7 : (n / d + 1) * (d * k) ≤ (m / k) * (d * k) := Int.mul_le_mul_of_nonneg_right (by omega) (Int.mul_nonneg (by omega) (by omega))
  unfold cmpQ
  rw [if_pos (by omega)]
theorem cmp_swap (x y : Int) : cmpQ y x = - cmpQ x y := by
  unfold cmpQ
  split <;> split <;> first | omega | (split <;> omega) | rfl
theorem cmp_gt {n d m k : Int} (hd : 0 < d) (hk : 0 < k) (h : m / k < n / d) : cmpQ (n * k) (m * d) = 1 := by
  rw [cmp_swap, cmp_lt hk hd h]
  rfl
theorem cmp_eq {n d m k : Int} (h : n / d = m / k) : cmpQ (n * k) (m * d) = cmpQ ((n % d) * k) ((m % k) * d) := by
  have h1 := Int.emod_add_mul_ediv n d
  have h2 := Int.emod_add_mul_ediv m k
  have e1 : n * k = (n % d) * k + d * (n / d) * k := by rw [← Int.add_mul, h1]
  have e2 : m * d = (m % k) * d + d * (n / d) * k := by
    rw [h, show d * (m / k) * k = k * (m / k) * d by rw [Int.mul_comm d, Int.mul_assoc, Int.mul_comm d k, ← Int.mul_assoc, Int.mul_comm (m / k) k], ← Int.add_mul, h2]
  rw [e1, e2, cmpQ_shift]

/-- A fraction in lowest terms, with a denominator above 0; its parts are small. -/
def isLow (x y : Int) : Bool := decide (0 < y) && (Int.gcd x y : Int) == 1
def isSmallF (x y : Int) : Bool := wIn x (-1000000000) 1000000000 && wIn y 1 1000000000

set_option maxRecDepth 100000 in
set_option maxHeartbeats 1000000 in
theorem isLowest_any (x y : Int) (w : World) (hx1 : -9223372036854775807 ≤ x) (hx2 : x ≤ 9223372036854775807) (hy2 : y ≤ 9223372036854775807) :
    Calls Try.prog 153 #[.agg #[.int .i64 x, .int .i64 y]] w fun e w' => e = .returned (.bool (isLow x y)) ∧ Below w.heap.size w w' := by
  have hb : ∀ o, Below w.heap.size w (w.alloc o) := fun o => (Below.refl _ _).alloc (Nat.le_refl _) _
  by_cases h : 0 < y
  · go_enter Try.func153, Try.ntmps153
    go_wp2_with fail
    refine (gcd_any x y _ (by omega) (by omega) (by omega) (by omega)).mono ?_
    rintro e w1 ⟨rfl, k, rfl⟩
    go_wp2_with fail
    go_ret
    refine ⟨ret_bool ?_, below_drewN (hb _) k⟩
    unfold isLow
    rw [decide_eq_true h]
    rfl
  · have h' : y ≤ 0 := by omega
    go_enter Try.func153, Try.ntmps153
    go_wp2_with fail
    go_ret
    refine ⟨ret_bool ?_, hb _⟩
    unfold isLow
    rw [decide_eq_false (by omega)]
    rfl

end Go.Proofs.Ytiibdndchkbefaa

namespace Go.Proofs.Ytiibdndchkbefaa

/-- A fraction in lowest terms. -/
def fracF (x y : Int) : Int × Int := (x.tdiv (Int.gcd x y), y.tdiv (Int.gcd x y))
/-- The fraction in lowest terms. -/
theorem fracF_low (x y : Int) (hy : 0 < y) : isLow (fracF x y).1 (fracF x y).2 = true := by
  have hg : 0 < Int.gcd x y := Int.gcd_pos_of_ne_zero_right x (by omega)
  have hgI : (0 : Int) < (Int.gcd x y : Int) := by omega
  obtain ⟨a, ha⟩ := Int.gcd_dvd_left x y
  obtain ⟨b, hb⟩ := Int.gcd_dvd_right x y
  have e1 : x.tdiv (Int.gcd x y) = a := by
    conv => lhs; arg 1; rw [ha]
    exact Int.mul_tdiv_cancel_left a (by omega)
  have e2 : y.tdiv (Int.gcd x y) = b := by
    conv => lhs; arg 1; rw [hb]
    exact Int.mul_tdiv_cancel_left b (by omega)
  unfold fracF isLow
  rw [e1, e2]
  have h3 : Int.gcd ((Int.gcd x y : Int) * a) ((Int.gcd x y : Int) * b) = Int.gcd x y * Int.gcd a b := by
    rw [Int.gcd_mul_left]
    simp
  rw [← ha, ← hb] at h3
  have h4 : Int.gcd a b = 1 := by
    have : Int.gcd x y * Int.gcd a b = Int.gcd x y * 1 := by rw [← h3, Nat.mul_one]
    exact Nat.eq_of_mul_eq_mul_left hg this
  have h5 : 0 < b := by
    rcases Int.lt_or_le 0 b with h | h
    · exact h
    · have := Int.mul_le_mul_of_nonneg_left h (by omega : 0 ≤ (Int.gcd x y : Int))
      omega
  rw [h4, decide_eq_true h5]
  rfl
theorem fracF_parts (x y : Int) (hy : 0 < y) : ∃ g : Int, 0 < g ∧ x = g * (fracF x y).1 ∧ y = g * (fracF x y).2 := by
  have hg : 0 < Int.gcd x y := Int.gcd_pos_of_ne_zero_right x (by omega)
  obtain ⟨a, ha⟩ := Int.gcd_dvd_left x y
  obtain ⟨b, hb⟩ := Int.gcd_dvd_right x y
  have e1 : x.tdiv (Int.gcd x y) = a := by
    conv => lhs; arg 1; rw [ha]
    exact Int.mul_tdiv_cancel_left a (by omega)
  have e2 : y.tdiv (Int.gcd x y) = b := by
    conv => lhs; arg 1; rw [hb]
    exact Int.mul_tdiv_cancel_left b (by omega)
  refine ⟨Int.gcd x y, by omega, ?_, ?_⟩
  · show x = (Int.gcd x y : Int) * x.tdiv (Int.gcd x y); rw [e1]; exact ha
  · show y = (Int.gcd x y : Int) * y.tdiv (Int.gcd x y); rw [e2]; exact hb
theorem fracF_bd (x y : Int) (hy : 0 < y) (B : Int) (hx1 : -B ≤ x) (hx2 : x ≤ B) (hyB : y ≤ B) : -B ≤ (fracF x y).1 ∧ (fracF x y).1 ≤ B ∧ 0 < (fracF x y).2 ∧ (fracF x y).2 ≤ B := by
  obtain ⟨g, hg, h1, h2⟩ := fracF_parts x y hy
  generalize (fracF x y).1 = a at *
  generalize (fracF x y).2 = b at *
  have h3 := Int.natAbs_mul g a
  have h4 := Int.natAbs_mul g b
  rw [← h1] at h3
  rw [← h2] at h4
  have h5 : a.natAbs ≤ g.natAbs * a.natAbs := Nat.le_mul_of_pos_left _ (by omega)
  have h6 : b.natAbs ≤ g.natAbs * b.natAbs := Nat.le_mul_of_pos_left _ (by omega)
  have h7 : 0 < b := by
    rcases Int.lt_or_le 0 b with h | h
    · exact h
    · have := Int.mul_le_mul_of_nonneg_left h (by omega : 0 ≤ g)
      omega
  omega

/-- The lesser of two fractions, the first if they are equal. -/
def minQ (b f : Int × Int) : Int × Int := if f.1 * b.2 < b.1 * f.2 then f else b
/-- The least of fractions, the first of equal ones. -/
def minL : List (Int × Int) → Int × Int
  | [] => (0, 0)
  | b :: l => l.foldl minQ b
theorem minQ_lt {b1 b2 f1 f2 x p : Int} (hb : 0 < b2) (hf : 0 < f2) (hp : 0 ≤ p) (h1 : b1 * p ≤ x * b2) (h2 : f1 * b2 < b1 * f2) : f1 * p ≤ x * f2 := by
  have a1 := Int.mul_le_mul_of_nonneg_right (Int.le_of_lt h2) hp
  have a2 := Int.mul_le_mul_of_nonneg_right h1 (Int.le_of_lt hf)
  refine Int.le_of_mul_le_mul_right (a := b2) ?_ hb
  grind
theorem minQ_ge {b1 b2 f1 f2 g x p : Int} (hg : 0 < g) (hx : x = g * f1) (hp : p = g * f2) (h : ¬ f1 * b2 < b1 * f2) : b1 * p ≤ x * b2 := by
  have a1 := Int.mul_le_mul_of_nonneg_left (Int.not_lt.1 h) (Int.le_of_lt hg)
  subst hx hp
  grind
theorem frac_eq {x p : Int} (hp : 0 < p) : (fracF x p).1 * p = x * (fracF x p).2 := by
  obtain ⟨g, hg, h1, h2⟩ := fracF_parts x p hp
  generalize (fracF x p).1 = a at *
  generalize (fracF x p).2 = b at *
  subst h1 h2
  grind
/-- A further limit: if the peak is above 0, the lesser of both. -/
def scS (b : Int × Int) (x p : Int) : Int × Int := if 0 < p then minQ b (fracF x p) else b
/-- The greatest scale for three limits, of which the first peak is above 0. -/
def scF (xa xv xd a v d : Int) : Int × Int := scS (scS (fracF xa a) xv v) xd d
theorem scS_ok {b : Int × Int} {x p : Int} (hb : 0 < b.2) (h0 : 0 ≤ p) (hx : 0 ≤ x) :
    0 < (scS b x p).2 ∧ (scS b x p).1 * p ≤ x * (scS b x p).2 ∧ (∀ y q : Int, 0 ≤ q → b.1 * q ≤ y * b.2 → (scS b x p).1 * q ≤ y * (scS b x p).2) ∧ (scS b x p = b ∨ 0 < p ∧ (scS b x p).1 * p = x * (scS b x p).2) := by
  unfold scS
  by_cases hp : 0 < p
  · rw [if_pos hp]
    obtain ⟨g, hg, h1, h2⟩ := fracF_parts x p hp
    have h3 := frac_eq (x := x) hp
    have hf : 0 < (fracF x p).2 := by
      rcases Int.lt_or_le 0 (fracF x p).2 with h | h
      · exact h
      · have := Int.mul_le_mul_of_nonneg_left h (Int.le_of_lt hg)
        omega
    unfold minQ
    by_cases hm : (fracF x p).1 * b.2 < b.1 * (fracF x p).2
    · rw [if_pos hm]
      exact ⟨hf, Int.le_of_eq h3, fun y q hq h => minQ_lt hb hf hq h hm, .inr ⟨hp, h3⟩⟩
    · rw [if_neg hm]
      exact ⟨hb, minQ_ge hg h1 h2 hm, fun y q hq h => h, .inl rfl⟩
  · rw [if_neg hp]
    obtain rfl : p = 0 := by omega
    refine ⟨hb, ?_, fun y q hq h => h, .inl rfl⟩
    have := Int.mul_nonneg hx (Int.le_of_lt hb)
    omega
theorem scS_bd {b : Int × Int} {x p B : Int} (h1 : -B ≤ x) (h2 : x ≤ B) (h3 : p ≤ B) (hb : -B ≤ b.1 ∧ b.1 ≤ B ∧ 0 < b.2 ∧ b.2 ≤ B) : -B ≤ (scS b x p).1 ∧ (scS b x p).1 ≤ B ∧ 0 < (scS b x p).2 ∧ (scS b x p).2 ≤ B := by
  unfold scS
  split
  · have := fracF_bd x p (by assumption) B h1 h2 h3
    unfold minQ
    split
    · exact this
    · exact hb
  · exact hb
theorem scF_ok {xa xv xd a v d : Int} (ha : 0 < a) (hv : 0 ≤ v) (hd : 0 ≤ d) (h1 : 0 ≤ xa) (h2 : 0 ≤ xv) (h3 : 0 ≤ xd) {p q : Int} (e1 : (scF xa xv xd a v d).1 = p) (e2 : (scF xa xv xd a v d).2 = q) :
    p * a ≤ xa * q ∧ p * v ≤ xv * q ∧ p * d ≤ xd * q ∧ (p * a = xa * q ∨ (0 < v ∧ p * v = xv * q) ∨ (0 < d ∧ p * d = xd * q)) := by
  subst e1 e2
  obtain ⟨g, hg, i1, i2⟩ := fracF_parts xa a ha
  have hf : 0 < (fracF xa a).2 := by
    rcases Int.lt_or_le 0 (fracF xa a).2 with h | h
    · exact h
    · have := Int.mul_le_mul_of_nonneg_left h (Int.le_of_lt hg)
      omega
  have hq := frac_eq (x := xa) ha
  obtain ⟨a1, a2, a3, a4⟩ := scS_ok (x := xv) (p := v) hf hv h2
  obtain ⟨b1, b2, b3, b4⟩ := scS_ok (x := xd) (p := d) a1 hd h3
  unfold scF
  refine ⟨b3 _ _ (Int.le_of_lt ha) (a3 _ _ (Int.le_of_lt ha) (Int.le_of_eq hq)), b3 _ _ hv a2, b2, ?_⟩
  rcases b4 with b4 | b4
  · rw [b4]
    rcases a4 with a4 | a4
    · rw [a4]
      exact .inl hq
    · exact .inr (.inl a4)
  · exact .inr (.inr b4)
theorem scF_bd {xa xv xd a v d B : Int} (ha : 0 < a) (h1 : 0 ≤ xa) (h2 : 0 ≤ xv) (h3 : 0 ≤ xd) (k1 : xa ≤ B) (k2 : xv ≤ B) (k3 : xd ≤ B) (k4 : a ≤ B) (k5 : v ≤ B) (k6 : d ≤ B) {p q : Int} (e1 : (scF xa xv xd a v d).1 = p) (e2 : (scF xa xv xd a v d).2 = q) :
    -B ≤ p ∧ p ≤ B ∧ 0 < q ∧ q ≤ B := by
  subst e1 e2
  exact scS_bd (by omega) k3 k6 (scS_bd (by omega) k2 k5 (fracF_bd _ _ ha B (by omega) k1 k4))
/-- The fractions of peaks above 0. -/
def scL (xa xv xd a v d : Int) : List (Int × Int) := (if 0 < a then [fracF xa a] else []) ++ (if 0 < v then [fracF xv v] else []) ++ (if 0 < d then [fracF xd d] else [])
theorem minL_scL {xa xv xd a v d : Int} (ha : 0 < a) : minL (scL xa xv xd a v d) = scF xa xv xd a v d := by
  unfold scL scF scS
  rw [if_pos ha]
  by_cases hv : 0 < v <;> by_cases hd : 0 < d <;> simp [hv, hd, minL]
theorem gsT_zero {xs : List Int} {n : Nat} (h : gsT xs n = 0) : ∀ j, j < n → xs[j]?.getD 0 = 0 := by
  induction n with
  | zero => intro j hj; omega
  | succ n ih =>
    unfold gsT at h
    have hn : 0 ≤ gsT xs n := by
      clear ih h
      induction n with
      | zero => simp [gsT]
      | succ k ih => unfold gsT; omega
    unfold sizeOf' at h
    intro j hj
    rcases Nat.lt_or_ge j n with hj' | hj'
    · exact ih (by omega) j hj'
    · obtain rfl : j = n := by omega
      omega
theorem zero_gsT {xs : List Int} {n : Nat} (h : ∀ j, j < n → xs[j]?.getD 0 = 0) : gsT xs n = 0 := by
  induction n with
  | zero => rfl
  | succ n ih =>
    unfold gsT
    rw [ih (fun j hj => h j (by omega)), h n (by omega)]
    rfl
theorem zero_sums {xs : List Int} {n : Nat} (hn : n ≤ xs.length) (h : ∀ j, j < n → xs[j]?.getD 0 = 0) : ∀ j, j < n → (sumsF xs)[j]?.getD 0 = 0 := by
  intro j hj
  rw [sumsF_get xs j (by omega)]
  have : ∀ k, k ≤ n → sumT xs k = 0 := by
    intro k hk
    induction k with
    | zero => rfl
    | succ k ih => rw [sumT, ih (by omega), h k (by omega)]; rfl
  exact this (j + 1) (by omega)
/-- Without accelerations there are no velocities nor displacements. -/
theorem peaks_zero {xs : List Int} {n : Nat} (hn : xs.length = n) (h : gsT xs n = 0) : gsT (sumsF xs) n = 0 ∧ gsT (sumsF (sumsF xs)) n = 0 := by
  have h1 := gsT_zero h
  have h2 := zero_sums (by omega) h1
  have h3 := zero_sums (by rw [sumsF_len]; omega) h2
  exact ⟨zero_gsT h2, zero_gsT h3⟩
end Go.Proofs.Ytiibdndchkbefaa

namespace Go.Proofs.Ytiibdndchkbefaa
open Go.RowKit
open Calmly (Kept)

set_option maxHeartbeats 400000 in
theorem rIsSample_any (x : Int) (w : World) : Calls Try.prog 74 #[.int .i64 x] w fun e w' => e = .returned (.bool (smp x)) ∧ w = w' := by
  go_enter Try.func74, Try.ntmps74
  go_wp2_with fail
  refine (within_any _ _ _ _).mono ?_
  rintro e w1 ⟨rfl, rfl⟩
  go_wp2_with fail
  go_ret
  exact ⟨rfl, rfl⟩

set_option maxRecDepth 100000 in
set_option maxHeartbeats 1000000 in
theorem rCheckRecord_any (step : Int) (a : Option Addr) (n c : Nat) (xs : List Int) (w : World) (h1 : SI w a n c xs) (I E : Int) (hR : recF step xs = (I, E)) :
    Calls Try.prog 34 #[.agg #[.int .i64 step, .slice a n c]] w fun e w' => e = .returned (.tuple #[.int .i64 I, .int .i64 E]) ∧ Below w.heap.size w w' := by
  obtain ⟨l1, l2⟩ : n ≤ xs.length ∧ xs.length ≤ n := by have := h1.len; omega
  have m1 := h1.max
  have c1 := h1.cap
  have BW : Below w.heap.size w (w.alloc (.cells #[.int .i64 step, .slice a n c] 24)) := (Below.refl _ _).alloc (Nat.le_refl _) _
  have x1 := alloc_new w (.cells #[.int .i64 step, .slice a n c] 24)
  unfold recF at hR
  have HR := Lib.hid hR
  clear hR
  go_enter Try.func34, Try.ntmps34
  go_wp2_with fail
  refine (within_any _ _ _ _).mono ?_
  rintro e w1 ⟨rfl, rfl⟩
  cases hw : wIn step 1 1000000
  · have hR := HR.out
    rw [hw, if_neg (by simp)] at hR
    obtain ⟨rfl, rfl⟩ := Prod.mk.inj hR
    clear hR HR
    go_wp2_with fail
    go_ret2
    exact ⟨rfl, BW⟩
  have hR := HR.out
  rw [hw, if_pos rfl] at hR
  replace HR := Lib.hid hR
  clear hR
  by_cases hn1 : n ≤ 1
  · have hn2 : (n : Int) < 2 := by omega
    have hR := HR.out
    rw [if_neg (by omega)] at hR
    obtain ⟨rfl, rfl⟩ := Prod.mk.inj hR
    clear hR HR
    go_wp2_with fail
    go_ret2
    exact ⟨rfl, BW⟩
  have hn2 : (2 : Int) ≤ (n : Int) := by omega
  by_cases hn3 : 24 < n
  · have hn4 : (24 : Int) < (n : Int) := by omega
    have hR := HR.out
    rw [if_pos (by omega), if_neg (by omega)] at hR
    obtain ⟨rfl, rfl⟩ := Prod.mk.inj hR
    clear hR HR
    go_wp2_with fail
    go_ret2
    exact ⟨rfl, BW⟩
  have hn4 : (n : Int) ≤ 24 := by omega
  have hR := HR.out
  rw [if_pos (by omega), if_pos (by omega)] at hR
  replace HR := Lib.hid hR
  clear hR
  obtain ⟨V, hV⟩ : ∃ V, w.alloc (.cells #[.int .i64 step, .slice a n c] 24) = V := ⟨_, rfl⟩
  rw [hV] at x1 BW ⊢
  clear hV
  have f0 := cell_block x1 0
  have f1 := cell_block x1 1
  go_wp2_with fail
  go_loop [4] (fun i => ∃ k : Nat, k ≤ n ∧ i = .int .i64 k ∧ badS xs 0 = badS (xs.drop k) k) (fun i => n - (intOf i).toNat)
  case atStart => exact ⟨0, by omega, rfl, rfl⟩
  case round =>
    obtain ⟨k, hk, rfl, ht⟩ := hrel
    have HT := Lib.hid ht
    clear ht
    by_cases hlt : k < n
    · obtain ⟨b1, o1, rfl, hc1⟩ := (h1.keep BW).at_ (by omega)
      have e1 := hc1 k hlt
      clear hc1
      have hi : (k : Int) < (n : Int) := by omega
      have hi0 : (0 : Int) ≤ (k : Int) := by omega
      have hd := badS_drop xs k (by omega)
      obtain ⟨x, hxx⟩ : ∃ x, xs[k]?.getD 0 = x := ⟨_, rfl⟩
      rw [hxx] at e1 hd
      have HD := Lib.hid hd
      clear hxx hd
      go_wp2_with fail
      refine (rIsSample_any _ _).mono ?_
      rintro e w1 ⟨rfl, rfl⟩
      cases ho : smp x
      · have hR := HR.out
        rw [HT.out, HD.out, ho] at hR
        obtain ⟨rfl, rfl⟩ := Prod.mk.inj hR
        clear hR HR
        go_wp2_with fail
        go_ret2
        exact ⟨rfl, BW⟩
      · go_wp2_with fail
        go_round
        case rel => exact ⟨k + 1, by omega, by go_num, by rw [HT.out, HD.out, ho]; rfl⟩
        case measure => simp [intOf]; omega
    · have hle : (n : Int) ≤ (k : Int) := by omega
      have hR := HR.out
      rw [HT.out, List.drop_eq_nil_of_le (by omega)] at hR
      obtain ⟨rfl, rfl⟩ := Prod.mk.inj hR
      clear hR HR
      go_wp2_with fail
      go_ret2
      exact ⟨rfl, BW⟩
end Go.Proofs.Ytiibdndchkbefaa

namespace Go.Calmly
open Go
section
variable {P : Program} {ops : Array Oper} {Q : Exit → Act → World → Prop} {r m : Nat}

theorem rowsIn_wide {row : String} {args : Array Value} {w : World} {R : Value → World → Prop} (h : Rows P row args w R) : RowsIn (Fence.wide.inRound r) m P row args w R := fun c cs _ => by
  obtain ⟨v, w', h1, h2⟩ := h c cs
  exact ⟨v, w', h1, stepsIn_wide.2 h2⟩
theorem opIn {o : Oper} {a : Act} {w : World} {K : Act → World → Prop} (hd : ∀ c, o.op ≠ .defer c) (h : o.wp P a w K Q) : o.wpIn (Fence.wide.inRound r) m P a w K Q := by
  refine ⟨fun _ _ => trivial, ?_⟩
  rw [show (Fence.wide.inRound r).round = some r from rfl, Oper.semAt_some r _ _ hd]
  unfold Oper.wp at h
  generalize (execOp a.eval o).run P w = res at *
  cases res with
  | ok x w' =>
    cases x with
    | enter f args =>
      refine ⟨fun hh => absurd hh (by simp [Fence.wide]), CallsIn.inRound r (callsIn_wide.2 (Calls.mono h fun e w'' he => ?_))⟩
      cases e <;> exact he
    | row s args => exact ⟨fun hh => absurd hh (by simp [Fence.wide]), rowsIn_wide h⟩
    | _ => first | exact h | exact h.elim
  | halt x w' => cases x <;> exact h
theorem wpOpIn_of {i : Nat} {a : Act} {w : World} {K : Act → World → Prop} (hd : ∀ (i : Nat) (o : Oper), ops[i]? = some o → ∀ c, o.op ≠ .defer c) (hQ : ∀ a w, ¬ Q .outgrown a w) (h : wpOp P ops Q i K a w) : wpOpIn (Fence.wide.inRound r) m P ops Q i K a w := by
  unfold wpOp at h
  unfold wpOpIn
  cases ho : ops[i]? with
  | none => simp only [ho] at h ⊢; exact h
  | some o =>
    simp only [ho] at h ⊢
    split
    · rename_i hw
      simp only [hw, if_true] at h
      rcases h with h | ⟨_, a', w', h⟩
      · exact opIn (hd i o ho) h
      · exact absurd h (hQ a' w')
    · rename_i hw
      simp only [hw] at h
      exact ⟨fun _ _ => trivial, h⟩
theorem anyIn {md : Region.Mode} (hd : ∀ (i : Nat) (o : Oper), ops[i]? = some o → ∀ c, o.op ≠ .defer c) (hQ : ∀ a w, ¬ Q .outgrown a w) : ∀ (fuel : Nat) (L : Array Bool) (a : Act) (w : World), wpAny P md ops Q fuel L a w → wpAnyIn (Fence.wide.inRound r) m P md ops Q fuel L a w
  | 0, _, _, _, h => h
  | fuel + 1, _, _, _, h => ⟨h.1, fun i hi => wpOpIn_of hd hQ (wpOp_mono (fun a w hk => anyIn hd hQ fuel _ a w hk) (h.2 i hi))⟩
def noDefer (l : List Oper) : Bool := l.all fun o => match o.op with | .defer _ => false | _ => true
theorem noDefer_ops {l : List Oper} (h : noDefer l = true) : ∀ (i : Nat) (o : Oper), l.toArray[i]? = some o → ∀ c, o.op ≠ .defer c := by
  intro i o ho c hc
  have hm : o ∈ l := List.mem_of_getElem? (by simpa using ho)
  have h1 := (List.all_eq_true.1 h) o hm
  rw [hc] at h1
  cases h1
theorem wpIn_region_mix {id : Nat} {a : Act} {w : World} {l : List Oper} (n : Nat) (p : Plan) (hm : P.follows .mixedOrders = true)
    (hB : (noDefer l && (Region.noSelect l.toArray && tailOk l.toArray .any n && planOk l.toArray .any n p l.toArray.size (Array.replicate l.toArray.size false) [])) = true) (hQ : ∀ a w, ¬ Q .outgrown a w)
    (h : WpMix P l.toArray Q w.drew p a w.drew) : (Code.region id l.toArray true).wpIn (Fence.wide.inRound r) m P Q a w := by
  simp only [Bool.and_eq_true] at hB
  obtain ⟨h0, ⟨h1, h2⟩, h3⟩ := hB
  exact wpIn_region_any hm (anyIn (noDefer_ops h0) hQ _ _ _ _ (any_of_anyT _ _ _ _ ((mix_sound h1 h2 p _ _ [] a _ (closed_start _) h3 (Kept.refl _) h.out).1 rfl)))
end
end Go.Calmly
