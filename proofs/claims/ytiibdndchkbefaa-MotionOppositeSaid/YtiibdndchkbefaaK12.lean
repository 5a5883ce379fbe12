/- The claim of MotionOpposite. -/
import Derived.Test.YtiibdndchkbefaaK11
import Derived.Test.YtiibdndchkbefaaRows
namespace Go.Proofs.Ytiibdndchkbefaa
open Go.RowKit
open Calmly (Kept)


set_option maxRecDepth 100000 in
theorem mix_makeI (i : Nat) {w : World} {k : Calmly.Plan} {dst : Option Tmp} {l c : Operand} {ty : TypeId} {pos : String} {after : Array Edge} {a : Act} {W0 : World} {ops : Array Oper} {Q : Exit → Act → World → Prop} {L : Int} {n : Nat}
    (hi : ops[i]? = some ⟨dst, .makeSlice 22 l c, ty, pos, after, none⟩) (hl : a.eval l = .int .i64 L) (hc : a.eval c = .int .i64 L) (hL : L = (n : Int)) (hn : n ≤ 1000000)
    (h : ∀ w', OwI w' w.heap.size (some ⟨w.heap.size, 0, none⟩) n n (List.replicate n 0) → Below w.heap.size w w' → Kept W0 w' ∧ Calmly.WpMix Try.prog ops Q W0 k (a.put dst (.slice (some ⟨w.heap.size, 0, none⟩) n n)) w') :
    Calmly.WpMix Try.prog ops Q W0 (.eff i k) a w := by
  refine Calmly.mix_eff hi (fun K hK => ?_)
  obtain ⟨i0, hi0, hz0, hz1, hz2⟩ := info_parts Try.info_int
  obtain ⟨w', hrun, ho, r2⟩ := run_make_full (P := Try.prog) w w.heap.size 22 _ i0 (.int .i64 0) 1 Try.underlying22 hi0 hz0 hz1 .i64 .i64 n (by rw [hz2]; omega) (by unfold maxLen; omega) (Nat.le_refl _)
  subst hL
  have h1 : OwI w' w.heap.size (some ⟨w.heap.size, 0, none⟩) n n (List.replicate n 0) := by
    unfold OwI
    rw [Nat.mul_one, show (Value.int IntKind.i64 0).cells = #[Value.int .i64 0] from rfl, toList_madeCells_one] at ho
    simpa using ho
  unfold Oper.wp
  simp [execOp, hl, hc, hrun, Result.andThen]
  exact hK _ _ (h w' h1 (grown_below r2 (Nat.le_refl _) (fun k hk => by cases hk)))

set_option maxRecDepth 100000 in
set_option maxHeartbeats 4000000 in
theorem MotionOpposite_walk (step : Int) (a : Option Addr) (n c : Nat) (xs : List Int) (st dm : Int) (w : World) (h1 : SI w a n c xs) :
    Calls Try.prog 7 #[.agg #[.int .i64 step, .slice a n c], .agg #[.int .i64 st, .int .i64 dm]] w fun e w' => e = .returned (.bool true) ∧ Below w.heap.size w w' := by
  have hA : ∀ (A : World) (o : Obj), Below A.heap.size A (A.alloc o) := fun A o => (Below.refl _ _).alloc (Nat.le_refl _) _
  obtain ⟨l1, l2⟩ : n ≤ xs.length ∧ xs.length ≤ n := by have := h1.len; omega
  have m1 := h1.max
  have c1 := h1.cap
  have BW : Below w.heap.size w ((w.alloc (.cells #[.int .i64 step, .slice a n c] 24)).alloc (.cells #[.int .i64 st, .int .i64 dm] 49)) := ((Below.refl _ _).alloc (Nat.le_refl _) _).alloc (by simp) _
  have x1 := box1 (w := w) (o := .cells #[.int .i64 step, .slice a n c] 24) (W := w.alloc (.cells #[.int .i64 step, .slice a n c] 24)) (Below.alloc (Below.refl _ _) (Nat.le_refl _) (.cells #[.int .i64 st, .int .i64 dm] 49))
  have x2 := alloc_new (w.alloc (.cells #[.int .i64 step, .slice a n c] 24)) (.cells #[.int .i64 st, .int .i64 dm] 49)
  simp only [World.size_alloc] at x2
  go_enter Try.func7, Try.ntmps7
  go_wp2_with fail
  refine (awake_any _).mono ?_
  rintro e w1 ⟨rfl, hs⟩
  replace x1 := blk_keep x1 hs; replace x2 := blk_keep x2 hs; (try replace y1 := blk_keep y1 hs); (try replace y2 := blk_keep y2 hs); replace BW := BW.trans (hs.mono BW.size); (try replace so := so.keep hs); (try replace sl := sl.keep hs); (try replace su := su.keep hs); (try replace sv := sv.keep hs); (try replace sw := sw.keep hs); (try replace sz := sz.keep hs); (try replace sd := sd.keep hs); (try replace sf := sf.keep hs); clear hs; (try clear f0 f1 f2 f3); have f0 := cell_block x1 0; have f1 := cell_block x1 1; have f2 := cell_block x2 0; have f3 := cell_block x2 1
  obtain ⟨rE, hrE⟩ : ∃ x, (recF step xs).2 = x := ⟨_, rfl⟩
  obtain ⟨oE, hoE⟩ : ∃ x, oscE (st, dm) = x := ⟨_, rfl⟩
  have HRE := Lib.hid hrE
  have HOE := Lib.hid hoE
  clear hrE hoE
  go_wp2_with fail
  refine (rRecordErr_any step a n c xs _ (h1.keep BW) rE HRE.out).mono ?_
  rintro e w2 ⟨rfl, hs⟩
  replace x1 := blk_keep x1 hs; replace x2 := blk_keep x2 hs; (try replace y1 := blk_keep y1 hs); (try replace y2 := blk_keep y2 hs); replace BW := BW.trans (hs.mono BW.size); (try replace so := so.keep hs); (try replace sl := sl.keep hs); (try replace su := su.keep hs); (try replace sv := sv.keep hs); (try replace sw := sw.keep hs); (try replace sz := sz.keep hs); (try replace sd := sd.keep hs); (try replace sf := sf.keep hs); clear hs; (try clear f0 f1 f2 f3); have f0 := cell_block x1 0; have f1 := cell_block x1 1; have f2 := cell_block x2 0; have f3 := cell_block x2 1
  by_cases hz : rE = 0
  case neg =>
    have b2 : (rE != 0) = true := by simpa using hz
    clear hz
    go_wp2_with fail
    go_ret
    exact ⟨rfl, BW⟩
  subst hz
  go_wp2_with fail
  refine (rOscErr_any st dm _).mono ?_
  rintro e w3 ⟨rfl, hs⟩
  rw [HOE.out]
  replace x1 := blk_keep x1 hs; replace x2 := blk_keep x2 hs; (try replace y1 := blk_keep y1 hs); (try replace y2 := blk_keep y2 hs); replace BW := BW.trans (hs.mono BW.size); (try replace so := so.keep hs); (try replace sl := sl.keep hs); (try replace su := su.keep hs); (try replace sv := sv.keep hs); (try replace sw := sw.keep hs); (try replace sz := sz.keep hs); (try replace sd := sd.keep hs); (try replace sf := sf.keep hs); clear hs; (try clear f0 f1 f2 f3); have f0 := cell_block x1 0; have f1 := cell_block x1 1; have f2 := cell_block x2 0; have f3 := cell_block x2 1
  by_cases hz : oE = 0
  case neg =>
    have b2 : (oE != 0) = true := by simpa using hz
    clear hz
    go_wp2_with fail
    go_ret
    exact ⟨rfl, BW⟩
  subst hz
  by_cases hn : 24 ≤ n
  · have i3 : (24 : Int) ≤ (n : Int) := by omega
    go_wp2_with fail
    go_ret
    exact ⟨rfl, BW⟩
  have i3 : (n : Int) < 24 := by omega
  obtain ⟨r1, r2, r3, r4, r5⟩ := recF_ok HRE.out
  have hn0 : 0 < n := by omega
  have hn23 : n ≤ 23 := by omega
  obtain rfl : xs.length = n := by omega
  have HRO : Hid ((recF step (opp xs)).2 = 0) := Lib.hid (recF_of (by rw [opp_len]; omega) (by rw [opp_len]; omega) r3 (opp_ok r5))
  have HRL : Hid ((recF step (0 :: xs)).2 = 0) := Lib.hid (recF_of (by simp; omega) (by simp; omega) r3 (later_ok r5))
  have HRZ : Hid ((recF step (List.replicate xs.length 0)).2 = 0) := Lib.hid (recF_of (by simp; omega) (by simp; omega) r3 (zero_ok _))
  have E0 : Hid (firstE [(recF step xs).2, oscE (st, dm)] = 0) := Lib.hid (by rw [HRE.out, HOE.out]; rfl)
  have E1 : Hid (firstE [(recF step (opp xs)).2, oscE (st, dm)] = 0) := Lib.hid (by rw [HRO.out, HOE.out]; rfl)
  have E2 : Hid (firstE [(recF step (0 :: xs)).2, oscE (st, dm)] = 0) := Lib.hid (by rw [HRL.out, HOE.out]; rfl)
  have E3 : Hid (firstE [(recF step (List.replicate xs.length 0)).2, oscE (st, dm)] = 0) := Lib.hid (by rw [HRZ.out, HOE.out]; rfl)
  have E4 : Hid (firstE [(recF step xs).2, oscE ((0 : Int), (0 : Int))] = 0) := Lib.hid (by rw [HRE.out]; rfl)
  obtain ⟨U, hU⟩ : ∃ U, rspTo xs st dm xs.length = U := ⟨_, rfl⟩
  obtain ⟨V, hV⟩ : ∃ V, rspTo (opp xs) st dm xs.length = V := ⟨_, rfl⟩
  obtain ⟨W, hW⟩ : ∃ W, rspTo (0 :: xs) st dm (xs.length + 1) = W := ⟨_, rfl⟩
  obtain ⟨Z, hZ⟩ : ∃ Z, rspTo (List.replicate xs.length 0) st dm xs.length = Z := ⟨_, rfl⟩
  obtain ⟨R, hR⟩ : ∃ R, rspTo xs 0 0 xs.length = R := ⟨_, rfl⟩
  obtain ⟨D, hD⟩ : ∃ D, sumsF (sumsF xs) = D := ⟨_, rfl⟩
  have HU : Hid (∀ k, k < xs.length → -1099511627776 ≤ U[k]?.getD 0 ∧ U[k]?.getD 0 ≤ 1099511627776) := Lib.hid (fun k hk => by rw [← hU]; exact rsp_size HOE.out r5 hn23 hk)
  have HV : Hid (∀ k, k < xs.length → V[k]?.getD 0 = -(U[k]?.getD 0)) := Lib.hid (fun k hk => by rw [← hU, ← hV]; exact rsp_opp hk)
  have HW : Hid (∀ k, k < xs.length → W[k + 1]?.getD 0 = U[k]?.getD 0) := Lib.hid (fun k hk => by rw [← hU, ← hW]; exact rsp_later hk)
  have HW0 : Hid (W[0]?.getD 0 = 0) := Lib.hid (by rw [← hW]; exact rsp_later0)
  have HZ : Hid (∀ k, k < xs.length → Z[k]?.getD 0 = 0) := Lib.hid (fun k hk => by rw [← hZ]; exact rsp_zero hk)
  have HR : Hid (∀ k, k < xs.length → R[k]?.getD 0 = -(D[k]?.getD 0)) := Lib.hid (fun k hk => by rw [← hR, ← hD]; exact rsp_free hk)
  have HD : Hid (∀ k : Nat, -1099511627776 ≤ D[k]?.getD 0 ∧ D[k]?.getD 0 ≤ 1099511627776) := Lib.hid (fun k => by rw [← hD]; have := (pk_bd (by omega) r5).2 k; omega)
  have NU : Hid (U.length = xs.length) := Lib.hid (by rw [← hU, rspTo_len])
  have NV : Hid (V.length = xs.length) := Lib.hid (by rw [← hV, rspTo_len])
  have NW : Hid (W.length = xs.length + 1) := Lib.hid (by rw [← hW, rspTo_len])
  have NZ : Hid (Z.length = xs.length) := Lib.hid (by rw [← hZ, rspTo_len])
  have NR : Hid (R.length = xs.length) := Lib.hid (by rw [← hR, rspTo_len])
  have ND : Hid (D.length = xs.length) := Lib.hid (by rw [← hD, sumsF_len, sumsF_len])
  have NO : Hid ((opp xs).length = xs.length) := Lib.hid (opp_len xs)
  have QU := Lib.hid hU
  have QV := Lib.hid hV
  have QW := Lib.hid hW
  have QZ := Lib.hid hZ
  have QR := Lib.hid hR
  have QD := Lib.hid hD
  obtain ⟨pa, hpa⟩ : ∃ p, gsT xs xs.length = p := ⟨_, rfl⟩
  obtain ⟨pv, hpv⟩ : ∃ p, gsT (sumsF xs) xs.length = p := ⟨_, rfl⟩
  obtain ⟨pd, hpd⟩ : ∃ p, gsT (sumsF (sumsF xs)) xs.length = p := ⟨_, rfl⟩
  have P1 : Hid (gsT xs xs.length = pa ∧ gsT (sumsF xs) xs.length = pv ∧ gsT (sumsF (sumsF xs)) xs.length = pd) := Lib.hid ⟨hpa, hpv, hpd⟩
  have P2 : Hid (gsT (opp xs) xs.length = pa ∧ gsT (sumsF (opp xs)) xs.length = pv ∧ gsT (sumsF (sumsF (opp xs))) xs.length = pd) := Lib.hid (by rw [sumsF_opp, sumsF_opp, gsT_opp, gsT_opp, gsT_opp]; exact ⟨hpa, hpv, hpd⟩)
  have HB := Lib.hid r5
  clear r1 r2 r3 r4 r5 hU hV hW hZ hR hD hpa hpv hpd hn l1 l2
  go_wp2_with fail
  go_loopw [5, 6] (fun o i wr => ∃ (k c' : Nat) (a' : Option Addr), i = .int .i64 (k : Int) ∧ k ≤ xs.length ∧ o = .slice a' k c' ∧ OwI wr w3.heap.size a' k c' (opp (xs.take k)) ∧ Below w3.heap.size w3 wr) (fun _ i _ => xs.length - (intOf i).toNat)
  case atStart => exact ⟨0, 0, none, rfl, by omega, rfl, OwI.nil _ _, Below.refl _ _⟩
  case round =>
    obtain ⟨k, co, ao, rfl, hk, rfl, hown, hbr⟩ := hrel
    have hrs := hbr.size
    have e1 := blk_keep x1 hbr
    have f0' := cell_block e1 0
    have f1' := cell_block e1 1
    by_cases hlt : k < xs.length
    · obtain ⟨cb, cc, rfl, hcc⟩ := (h1.keep (BW.trans (hbr.mono BW.size))).at_ (by omega)
      have y0 := hcc k hlt
      have ht := opp_take xs k hlt
      have hb0 := HB.out k
      obtain ⟨x, hx⟩ : ∃ x, xs[k]?.getD 0 = x := ⟨_, rfl⟩
      rw [hx] at y0 ht hb0
      obtain ⟨b1, b2⟩ := hb0
      have HT := Lib.hid ht
      clear hcc hx ht
      have hi1 : (k : Int) < (xs.length : Int) := by omega
      have hi0 : (0 : Int) ≤ (k : Int) := by omega
      go_wp2_with (first | (at_builtin; refine appI rfl _ _ rfl hown rfl rfl (by omega) (by omega) ?_; intro a2' c2' w7 ho6 hb6 hs6))
      go_roundw
      case rel => exact ⟨k + 1, c2', a2', by go_num, by omega, rfl, by rw [HT.out]; exact ho6, hbr.trans hb6⟩
      case measure => simp [intOf]; omega
    · have hle : (xs.length : Int) ≤ (k : Int) := by omega
      obtain rfl : k = xs.length := by omega
      rw [List.take_of_length_le (Nat.le_refl _)] at hown
      have so := hown.si
      have hs := hbr
      clear hown hbr hrs e1 f0' f1' hk
      replace x1 := blk_keep x1 hs; replace x2 := blk_keep x2 hs; (try replace y1 := blk_keep y1 hs); (try replace y2 := blk_keep y2 hs); replace BW := BW.trans (hs.mono BW.size); (try replace so := so.keep hs); (try replace sl := sl.keep hs); (try replace su := su.keep hs); (try replace sv := sv.keep hs); (try replace sw := sw.keep hs); (try replace sz := sz.keep hs); (try replace sd := sd.keep hs); (try replace sf := sf.keep hs); clear hs; (try clear f0 f1 f2 f3); have f0 := cell_block x1 0; have f1 := cell_block x1 1; have f2 := cell_block x2 0; have f3 := cell_block x2 1
      have h1' := h1.keep BW
      have hcap := so.cap
      have hmax := so.max
      have hz2 := hA wr (.cells #[.int .i64 0] 3)
      have g1 := blk_keep x1 hz2
      have g0 := cell_block g1 0
      have g2 := cell_block g1 1
      go_wp2_with (at_builtin; refine appL rfl _ _ rfl (OwI.one wr (Nat.le_refl _) 0) (h1'.keep hz2) rfl rfl (by omega) (by simp) ?_; intro al cl w8 ol hb8)
      have hs := hz2.trans hb8
      have sl := ol.si
      clear hz2 hb8 ol g0 g1 g2 h1'
      rw [show [(0 : Int)] ++ xs = 0 :: xs from rfl] at sl
      rw [Nat.add_comm 1 xs.length] at sl ⊢
      replace x1 := blk_keep x1 hs; replace x2 := blk_keep x2 hs; (try replace y1 := blk_keep y1 hs); (try replace y2 := blk_keep y2 hs); replace BW := BW.trans (hs.mono BW.size); (try replace so := so.keep hs); (try replace su := su.keep hs); (try replace sv := sv.keep hs); (try replace sw := sw.keep hs); (try replace sz := sz.keep hs); (try replace sd := sd.keep hs); (try replace sf := sf.keep hs); clear hs; (try clear f0 f1 f2 f3); have f0 := cell_block x1 0; have f1 := cell_block x1 1; have f2 := cell_block x2 0; have f3 := cell_block x2 1
      refine Calmly.wp_region_mix 8 (.fl 0 <| .fl 2 <| .eff 1 <| .eff 3 <| .fl 4 <| .fl 5 <| .fl 6 <| .fl 7 <| .tail [8]) (by kernel_rfl) (by kernel_rfl) ?_
      have hs := (Below.refl w8.heap.size w8).drew
      replace x1 := blk_keep x1 hs; replace x2 := blk_keep x2 hs; (try replace y1 := blk_keep y1 hs); (try replace y2 := blk_keep y2 hs); replace BW := BW.trans (hs.mono BW.size); (try replace so := so.keep hs); (try replace sl := sl.keep hs); (try replace su := su.keep hs); (try replace sv := sv.keep hs); (try replace sw := sw.keep hs); (try replace sz := sz.keep hs); (try replace sd := sd.keep hs); (try replace sf := sf.keep hs); clear hs; (try clear f0 f1 f2 f3); have f0 := cell_block x1 0; have f1 := cell_block x1 1; have f2 := cell_block x2 0; have f3 := cell_block x2 1
      generalize w8.drew = V1 at x1 x2 BW f0 f1 f2 f3 so sl  ⊢
      have hk := Below.refl V1.heap.size V1
      have M0 := Lib.hid True.intro
      go_wp2_with (first | ((with_reducible refine Calmly.is_fl ?_); refine Calmly.mix_fl rfl ?_ (fun _ _ => ?_); (first | exact .move _ | exact .load _ _ | exact .fieldAddr _ _ _ (by kernel_rfl) | exact .assign _ | exact .binOp _ _ _ _ _ rfl | exact .indexAddr _ _ _ | exact .len _ _ (by kernel_rfl) | exact .field _ _ _ | exact .extract _ _ | exact .pick _ _ _ | exact .build _ _ | exact .slice _ _ _ _ _ | exact .unOp _ _ _ rfl | exact .index _ _ _ | exact .max _ _ _ rfl rfl | exact .min _ _ _ rfl rfl)) | ((with_reducible refine Calmly.is_gl ?_); refine Calmly.mix_gl rfl rfl rfl ?_; first | ((first | with_reducible refine Calmly.gl_tt ?_ (fun _ _ => ?_) | with_reducible refine Calmly.gl_ff ?_ (fun _ _ => ?_)); (first | exact .move _ | exact .load _ _ | exact .fieldAddr _ _ _ (by kernel_rfl) | exact .assign _ | exact .binOp _ _ _ _ _ rfl | exact .indexAddr _ _ _ | exact .len _ _ (by kernel_rfl) | exact .field _ _ _ | exact .extract _ _ | exact .pick _ _ _ | exact .build _ _ | exact .slice _ _ _ _ _ | exact .unOp _ _ _ rfl | exact .index _ _ _ | exact .max _ _ _ rfl rfl | exact .min _ _ _ rfl rfl)) | with_reducible refine Calmly.gl_tf (fun _ _ => ?_) | with_reducible refine Calmly.gl_ft (fun _ _ => ?_)) | ((with_reducible refine Calmly.is_eff ?_); refine Calmly.mix_eff rfl (fun _ _ => ?_)) | ((with_reducible refine Calmly.is_gf ?_); refine Calmly.mix_gf rfl rfl rfl ?_; first | with_reducible refine Calmly.gf_tt (fun _ _ => ?_) | with_reducible refine Calmly.gf_ff (fun _ _ => ?_) | with_reducible refine Calmly.gf_tf (kept_of hk) (fun _ _ => ?_) | with_reducible refine Calmly.gf_ft (kept_of hk) (fun _ _ => ?_)) | ((with_reducible refine Calmly.is_tail ?_); first | refine Calmly.mix_tail_nil ?_ | refine Calmly.mix_tail rfl (fun _ _ => ?_)) | ((with_reducible refine Calmly.is_kept ?_); refine ⟨kept_of hk, ?_⟩) | (with_reducible refine Calmly.mix_alt ?_ ?_) | (have _ := M0.out; clear M0; go_at_call 18; refine (copy_any step a xs.length c xs _ ((h1.keep BW).keep hk) (by omega)).mono ?_; rintro e u1 ⟨a1, k1, rfl, s1, hs⟩; replace hk := step_of hk hs; clear hs) | (go_at_call 38; refine (ResponseOf_any step st dm a1 _ k1 xs _ s1 0 U E0.out (fun h => absurd rfl h) (fun _ => QU.out.symm)).mono ?_; rintro e w9 ⟨au, nu, cu, rfl, su, hs⟩; replace hk := step_of hk hs; clear hs))
      have hs := hk
      clear hk
      replace x1 := blk_keep x1 hs; replace x2 := blk_keep x2 hs; (try replace y1 := blk_keep y1 hs); (try replace y2 := blk_keep y2 hs); replace BW := BW.trans (hs.mono BW.size); (try replace so := so.keep hs); (try replace sl := sl.keep hs); (try replace su := su.keep hs); (try replace sv := sv.keep hs); (try replace sw := sw.keep hs); (try replace sz := sz.keep hs); (try replace sd := sd.keep hs); (try replace sf := sf.keep hs); clear hs; (try clear f0 f1 f2 f3); have f0 := cell_block x1 0; have f1 := cell_block x1 1; have f2 := cell_block x2 0; have f3 := cell_block x2 1
      obtain rfl : nu = xs.length := by rw [su.len, NU.out]
      clear s1
      refine Calmly.wp_region_mix 9 (.fl 0 <| .fl 1 <| .fl 3 <| .eff 2 <| .eff 4 <| .fl 5 <| .fl 6 <| .fl 7 <| .fl 8 <| .tail [9]) (by kernel_rfl) (by kernel_rfl) ?_
      have hs := (Below.refl w9.heap.size w9).drew
      replace x1 := blk_keep x1 hs; replace x2 := blk_keep x2 hs; (try replace y1 := blk_keep y1 hs); (try replace y2 := blk_keep y2 hs); replace BW := BW.trans (hs.mono BW.size); (try replace so := so.keep hs); (try replace sl := sl.keep hs); (try replace su := su.keep hs); (try replace sv := sv.keep hs); (try replace sw := sw.keep hs); (try replace sz := sz.keep hs); (try replace sd := sd.keep hs); (try replace sf := sf.keep hs); clear hs; (try clear f0 f1 f2 f3); have f0 := cell_block x1 0; have f1 := cell_block x1 1; have f2 := cell_block x2 0; have f3 := cell_block x2 1
      generalize w9.drew = V2 at x1 x2 BW f0 f1 f2 f3 so sl su ⊢
      have hk := Below.refl V2.heap.size V2
      have M0 := Lib.hid True.intro
      go_wp2_with (first | ((with_reducible refine Calmly.is_fl ?_); refine Calmly.mix_fl rfl ?_ (fun _ _ => ?_); (first | exact .move _ | exact .load _ _ | exact .fieldAddr _ _ _ (by kernel_rfl) | exact .assign _ | exact .binOp _ _ _ _ _ rfl | exact .indexAddr _ _ _ | exact .len _ _ (by kernel_rfl) | exact .field _ _ _ | exact .extract _ _ | exact .pick _ _ _ | exact .build _ _ | exact .slice _ _ _ _ _ | exact .unOp _ _ _ rfl | exact .index _ _ _ | exact .max _ _ _ rfl rfl | exact .min _ _ _ rfl rfl)) | ((with_reducible refine Calmly.is_gl ?_); refine Calmly.mix_gl rfl rfl rfl ?_; first | ((first | with_reducible refine Calmly.gl_tt ?_ (fun _ _ => ?_) | with_reducible refine Calmly.gl_ff ?_ (fun _ _ => ?_)); (first | exact .move _ | exact .load _ _ | exact .fieldAddr _ _ _ (by kernel_rfl) | exact .assign _ | exact .binOp _ _ _ _ _ rfl | exact .indexAddr _ _ _ | exact .len _ _ (by kernel_rfl) | exact .field _ _ _ | exact .extract _ _ | exact .pick _ _ _ | exact .build _ _ | exact .slice _ _ _ _ _ | exact .unOp _ _ _ rfl | exact .index _ _ _ | exact .max _ _ _ rfl rfl | exact .min _ _ _ rfl rfl)) | with_reducible refine Calmly.gl_tf (fun _ _ => ?_) | with_reducible refine Calmly.gl_ft (fun _ _ => ?_)) | ((with_reducible refine Calmly.is_eff ?_); refine Calmly.mix_eff rfl (fun _ _ => ?_)) | ((with_reducible refine Calmly.is_gf ?_); refine Calmly.mix_gf rfl rfl rfl ?_; first | with_reducible refine Calmly.gf_tt (fun _ _ => ?_) | with_reducible refine Calmly.gf_ff (fun _ _ => ?_) | with_reducible refine Calmly.gf_tf (kept_of hk) (fun _ _ => ?_) | with_reducible refine Calmly.gf_ft (kept_of hk) (fun _ _ => ?_)) | ((with_reducible refine Calmly.is_tail ?_); first | refine Calmly.mix_tail_nil ?_ | refine Calmly.mix_tail rfl (fun _ _ => ?_)) | ((with_reducible refine Calmly.is_kept ?_); refine ⟨kept_of hk, ?_⟩) | (with_reducible refine Calmly.mix_alt ?_ ?_) | (have _ := M0.out; clear M0; go_at_call 44; refine (with_any step a xs.length c ao xs.length co (opp xs) _ (so.keep hk) (by omega)).mono ?_; rintro e u1 ⟨a1, k1, rfl, s1, hs⟩; replace hk := step_of hk hs; clear hs) | (go_at_call 38; refine (ResponseOf_any step st dm a1 _ k1 (opp xs) _ s1 0 V E1.out (fun h => absurd rfl h) (fun _ => QV.out.symm)).mono ?_; rintro e w10 ⟨av, nv, cv, rfl, sv, hs⟩; replace hk := step_of hk hs; clear hs))
      have hs := hk
      clear hk
      replace x1 := blk_keep x1 hs; replace x2 := blk_keep x2 hs; (try replace y1 := blk_keep y1 hs); (try replace y2 := blk_keep y2 hs); replace BW := BW.trans (hs.mono BW.size); (try replace so := so.keep hs); (try replace sl := sl.keep hs); (try replace su := su.keep hs); (try replace sv := sv.keep hs); (try replace sw := sw.keep hs); (try replace sz := sz.keep hs); (try replace sd := sd.keep hs); (try replace sf := sf.keep hs); clear hs; (try clear f0 f1 f2 f3); have f0 := cell_block x1 0; have f1 := cell_block x1 1; have f2 := cell_block x2 0; have f3 := cell_block x2 1
      obtain rfl : nv = xs.length := by rw [sv.len, NV.out]
      clear s1
      refine Calmly.wp_region_mix 9 (.fl 0 <| .fl 1 <| .fl 3 <| .eff 2 <| .eff 4 <| .fl 5 <| .fl 6 <| .fl 7 <| .fl 8 <| .tail [9]) (by kernel_rfl) (by kernel_rfl) ?_
      have hs := (Below.refl w10.heap.size w10).drew
      replace x1 := blk_keep x1 hs; replace x2 := blk_keep x2 hs; (try replace y1 := blk_keep y1 hs); (try replace y2 := blk_keep y2 hs); replace BW := BW.trans (hs.mono BW.size); (try replace so := so.keep hs); (try replace sl := sl.keep hs); (try replace su := su.keep hs); (try replace sv := sv.keep hs); (try replace sw := sw.keep hs); (try replace sz := sz.keep hs); (try replace sd := sd.keep hs); (try replace sf := sf.keep hs); clear hs; (try clear f0 f1 f2 f3); have f0 := cell_block x1 0; have f1 := cell_block x1 1; have f2 := cell_block x2 0; have f3 := cell_block x2 1
      generalize w10.drew = V3 at x1 x2 BW f0 f1 f2 f3 so sl su sv ⊢
      have hk := Below.refl V3.heap.size V3
      have M0 := Lib.hid True.intro
      go_wp2_with (first | ((with_reducible refine Calmly.is_fl ?_); refine Calmly.mix_fl rfl ?_ (fun _ _ => ?_); (first | exact .move _ | exact .load _ _ | exact .fieldAddr _ _ _ (by kernel_rfl) | exact .assign _ | exact .binOp _ _ _ _ _ rfl | exact .indexAddr _ _ _ | exact .len _ _ (by kernel_rfl) | exact .field _ _ _ | exact .extract _ _ | exact .pick _ _ _ | exact .build _ _ | exact .slice _ _ _ _ _ | exact .unOp _ _ _ rfl | exact .index _ _ _ | exact .max _ _ _ rfl rfl | exact .min _ _ _ rfl rfl)) | ((with_reducible refine Calmly.is_gl ?_); refine Calmly.mix_gl rfl rfl rfl ?_; first | ((first | with_reducible refine Calmly.gl_tt ?_ (fun _ _ => ?_) | with_reducible refine Calmly.gl_ff ?_ (fun _ _ => ?_)); (first | exact .move _ | exact .load _ _ | exact .fieldAddr _ _ _ (by kernel_rfl) | exact .assign _ | exact .binOp _ _ _ _ _ rfl | exact .indexAddr _ _ _ | exact .len _ _ (by kernel_rfl) | exact .field _ _ _ | exact .extract _ _ | exact .pick _ _ _ | exact .build _ _ | exact .slice _ _ _ _ _ | exact .unOp _ _ _ rfl | exact .index _ _ _ | exact .max _ _ _ rfl rfl | exact .min _ _ _ rfl rfl)) | with_reducible refine Calmly.gl_tf (fun _ _ => ?_) | with_reducible refine Calmly.gl_ft (fun _ _ => ?_)) | ((with_reducible refine Calmly.is_eff ?_); refine Calmly.mix_eff rfl (fun _ _ => ?_)) | ((with_reducible refine Calmly.is_gf ?_); refine Calmly.mix_gf rfl rfl rfl ?_; first | with_reducible refine Calmly.gf_tt (fun _ _ => ?_) | with_reducible refine Calmly.gf_ff (fun _ _ => ?_) | with_reducible refine Calmly.gf_tf (kept_of hk) (fun _ _ => ?_) | with_reducible refine Calmly.gf_ft (kept_of hk) (fun _ _ => ?_)) | ((with_reducible refine Calmly.is_tail ?_); first | refine Calmly.mix_tail_nil ?_ | refine Calmly.mix_tail rfl (fun _ _ => ?_)) | ((with_reducible refine Calmly.is_kept ?_); refine ⟨kept_of hk, ?_⟩) | (with_reducible refine Calmly.mix_alt ?_ ?_) | (have _ := M0.out; clear M0; go_at_call 44; refine (with_any step a xs.length c al (xs.length + 1) cl (0 :: xs) _ (sl.keep hk) (by omega)).mono ?_; rintro e u1 ⟨a1, k1, rfl, s1, hs⟩; replace hk := step_of hk hs; clear hs) | (go_at_call 38; refine (ResponseOf_any step st dm a1 _ k1 (0 :: xs) _ s1 0 W E2.out (fun h => absurd rfl h) (fun _ => QW.out.symm)).mono ?_; rintro e w11 ⟨aw, nw, cw, rfl, sw, hs⟩; replace hk := step_of hk hs; clear hs))
      have hs := hk
      clear hk
      replace x1 := blk_keep x1 hs; replace x2 := blk_keep x2 hs; (try replace y1 := blk_keep y1 hs); (try replace y2 := blk_keep y2 hs); replace BW := BW.trans (hs.mono BW.size); (try replace so := so.keep hs); (try replace sl := sl.keep hs); (try replace su := su.keep hs); (try replace sv := sv.keep hs); (try replace sw := sw.keep hs); (try replace sz := sz.keep hs); (try replace sd := sd.keep hs); (try replace sf := sf.keep hs); clear hs; (try clear f0 f1 f2 f3); have f0 := cell_block x1 0; have f1 := cell_block x1 1; have f2 := cell_block x2 0; have f3 := cell_block x2 1
      obtain rfl : nw = xs.length + 1 := by rw [sw.len, NW.out]
      clear s1
      obtain ⟨gw, ow, rfl, hcw⟩ := sw.at_ (by omega)
      have y0 := hcw 0 (by omega)
      rw [HW0.out, Nat.add_zero] at y0
      have q1 := su.max; have q2 := su.cap; have q3 := sv.max; have q4 := sv.cap; have q5 := sw.max; have q6 := sw.cap
      clear hcw
      refine Calmly.wp_region_mix 12 (.fl 0 <| .fl 1 <| .fl 2 <| .fl 3 <| .fl 6 <| .eff 4 <| .eff 5 <| .eff 7 <| .fl 8 <| .fl 9 <| .fl 10 <| .fl 11 <| .tail [12]) (by kernel_rfl) (by kernel_rfl) ?_
      have hs := (Below.refl w11.heap.size w11).drew
      replace x1 := blk_keep x1 hs; replace x2 := blk_keep x2 hs; (try replace y1 := blk_keep y1 hs); (try replace y2 := blk_keep y2 hs); replace BW := BW.trans (hs.mono BW.size); (try replace so := so.keep hs); (try replace sl := sl.keep hs); (try replace su := su.keep hs); (try replace sv := sv.keep hs); (try replace sw := sw.keep hs); (try replace sz := sz.keep hs); (try replace sd := sd.keep hs); (try replace sf := sf.keep hs); clear hs; (try clear f0 f1 f2 f3); have f0 := cell_block x1 0; have f1 := cell_block x1 1; have f2 := cell_block x2 0; have f3 := cell_block x2 1
      replace y0 := cell_keep y0 (Below.refl w11.heap.size w11).drew
      generalize w11.drew = V4 at x1 x2 BW f0 f1 f2 f3 so sl su sv sw y0 ⊢
      have hk := Below.refl V4.heap.size V4
      have M0 := Lib.hid True.intro
      go_wp2_with (first | (refine mix_makeI 4 (n := xs.length) rfl rfl rfl rfl (by omega) ?_; intro u0 o0 hs0; replace hk := step_of hk hs0; refine ⟨kept_of hk, ?_⟩) | ((with_reducible refine Calmly.is_fl ?_); refine Calmly.mix_fl rfl ?_ (fun _ _ => ?_); (first | exact .move _ | exact .load _ _ | exact .fieldAddr _ _ _ (by kernel_rfl) | exact .assign _ | exact .binOp _ _ _ _ _ rfl | exact .indexAddr _ _ _ | exact .len _ _ (by kernel_rfl) | exact .field _ _ _ | exact .extract _ _ | exact .pick _ _ _ | exact .build _ _ | exact .slice _ _ _ _ _ | exact .unOp _ _ _ rfl | exact .index _ _ _ | exact .max _ _ _ rfl rfl | exact .min _ _ _ rfl rfl)) | ((with_reducible refine Calmly.is_gl ?_); refine Calmly.mix_gl rfl rfl rfl ?_; first | ((first | with_reducible refine Calmly.gl_tt ?_ (fun _ _ => ?_) | with_reducible refine Calmly.gl_ff ?_ (fun _ _ => ?_)); (first | exact .move _ | exact .load _ _ | exact .fieldAddr _ _ _ (by kernel_rfl) | exact .assign _ | exact .binOp _ _ _ _ _ rfl | exact .indexAddr _ _ _ | exact .len _ _ (by kernel_rfl) | exact .field _ _ _ | exact .extract _ _ | exact .pick _ _ _ | exact .build _ _ | exact .slice _ _ _ _ _ | exact .unOp _ _ _ rfl | exact .index _ _ _ | exact .max _ _ _ rfl rfl | exact .min _ _ _ rfl rfl)) | with_reducible refine Calmly.gl_tf (fun _ _ => ?_) | with_reducible refine Calmly.gl_ft (fun _ _ => ?_)) | ((with_reducible refine Calmly.is_eff ?_); refine Calmly.mix_eff rfl (fun _ _ => ?_)) | ((with_reducible refine Calmly.is_gf ?_); refine Calmly.mix_gf rfl rfl rfl ?_; first | with_reducible refine Calmly.gf_tt (fun _ _ => ?_) | with_reducible refine Calmly.gf_ff (fun _ _ => ?_) | with_reducible refine Calmly.gf_tf (kept_of hk) (fun _ _ => ?_) | with_reducible refine Calmly.gf_ft (kept_of hk) (fun _ _ => ?_)) | ((with_reducible refine Calmly.is_tail ?_); first | refine Calmly.mix_tail_nil ?_ | refine Calmly.mix_tail rfl (fun _ _ => ?_)) | ((with_reducible refine Calmly.is_kept ?_); refine ⟨kept_of hk, ?_⟩) | (with_reducible refine Calmly.mix_alt ?_ ?_) | (have _ := M0.out; clear M0; go_at_call 44; refine (with_any step a xs.length c _ xs.length xs.length (List.replicate xs.length 0) _ o0.si (by omega)).mono ?_; rintro e u1 ⟨a1, k1, rfl, s1, hs⟩; replace hk := step_of hk hs; clear hs) | (go_at_call 38; refine (ResponseOf_any step st dm a1 _ k1 (List.replicate xs.length 0) _ s1 0 Z E3.out (fun h => absurd rfl h) (fun _ => QZ.out.symm)).mono ?_; rintro e w12 ⟨az, nz, cz, rfl, sz, hs⟩; replace hk := step_of hk hs; clear hs; (obtain rfl : nz = xs.length := by rw [sz.len, NZ.out]); have q7 := sz.max; have q8 := sz.cap; replace x1 := blk_keep x1 hk; replace x2 := blk_keep x2 hk; replace y0 := cell_keep y0 hk; (try clear f0 f1 f2 f3); have f0 := cell_block x1 0; have f1 := cell_block x1 1; have f2 := cell_block x2 0; have f3 := cell_block x2 1))
      replace BW := BW.trans (hk.mono BW.size)
      replace so := so.keep hk
      replace su := su.keep hk
      replace sv := sv.keep hk
      replace sw := sw.keep hk
      clear hk s1 sl o0 hs0 y0
      (try clear f0 f1 f2 f3); have f0 := cell_block x1 0; have f1 := cell_block x1 1; have f2 := cell_block x2 0; have f3 := cell_block x2 1
      go_loopw [16] (fun i wr => ∃ k : Nat, i = .int .i64 (k : Int) ∧ k ≤ xs.length ∧ Below w12.heap.size w12 wr) (fun i _ => xs.length - (intOf i).toNat)
      case atStart => exact ⟨0, rfl, by omega, Below.refl _ _⟩
      case round =>
        obtain ⟨k, rfl, hk, hbr⟩ := hrel
        by_cases hlt : k < xs.length
        · obtain ⟨bu, ou, rfl, hcu⟩ := (su.keep hbr).at_ (by omega)
          obtain ⟨bv, ov, rfl, hcv⟩ := (sv.keep hbr).at_ (by omega)
          obtain ⟨bw, ow2, ebw, hcw⟩ := (sw.keep hbr).at_ (by omega)
          cases ebw
          obtain ⟨bz, oz, rfl, hcz⟩ := (sz.keep hbr).at_ (by omega)
          have g0 := hcu k hlt
          have g1 := hcv k hlt
          have g2 := hcw (k + 1) (by omega)
          have g3 := hcz k hlt
          rw [HV.out k hlt] at g1
          rw [HW.out k hlt] at g2
          rw [HZ.out k hlt] at g3
          have hbd := HU.out k hlt
          obtain ⟨x, hx⟩ : ∃ x, U[k]?.getD 0 = x := ⟨_, rfl⟩
          rw [hx] at g0 g1 g2 hbd
          obtain ⟨b1, b2⟩ := hbd
          have HWI : Hid (wIn x (-1099511627776) 1099511627776 = true) := Lib.hid (wIn_iff.2 ⟨b1, b2⟩)
          clear hcu hcv hcw hcz hx
          have hi1 : (k : Int) < (xs.length : Int) := by omega
          have hi0 : (0 : Int) ≤ (k : Int) := by omega
          have hi2 : (k : Int) + 1 < ((xs.length + 1 : Nat) : Int) := by omega
          have hi3 : (0 : Int) ≤ (k : Int) + 1 := by omega
          have hkt : ((k : Int) + 1).toNat = k + 1 := by omega
          have hi4 : (k : Int) + 1 < (xs.length : Int) + 1 := by omega
          go_wp2_with fail
          refine Calmly.wp_region_mix 36 (.fl 0 <| .fl 1 <| .fl 2 <| .fl 3 <| .eff 4 <| .fl 5 <| .fl 6 <| .gl 7 <| .gl 8 <| .gl 9 <| .gl 10 <| .gl 11 <| .gl 12 <| .gl 13 <| .gl 14 <| .gl 15 <| .gl 16 <| .fl 17 <| .fl 18 <| .gl 19 <| .gl 20 <| .gl 21 <| .gl 22 <| .gl 23 <| .gl 24 <| .gl 25 <| .gl 26 <| .gl 27 <| .gl 28 <| .fl 29 <| .fl 30 <| .gl 31 <| .gl 32 <| .gl 33 <| .gl 34 <| .gl 35 <| .tail [36]) (by kernel_rfl) (by kernel_rfl) ?_
          have hd := (Below.refl wr.heap.size wr).drew
          replace g0 := cell_keep g0 hd
          replace g1 := cell_keep g1 hd
          replace g2 := cell_keep g2 hd
          replace g3 := cell_keep g3 hd
          replace hbr := hbr.drew
          clear hd
          generalize wr.drew = wq at g0 g1 g2 g3 hbr ⊢
          have hk := Below.refl wq.heap.size wq
          go_wp2_with (first | ((with_reducible refine Calmly.is_fl ?_); refine Calmly.mix_fl rfl ?_ (fun _ _ => ?_); (first | exact .move _ | exact .load _ _ | exact .fieldAddr _ _ _ (by kernel_rfl) | exact .assign _ | exact .binOp _ _ _ _ _ rfl | exact .indexAddr _ _ _ | exact .len _ _ (by kernel_rfl) | exact .field _ _ _ | exact .extract _ _ | exact .pick _ _ _ | exact .build _ _ | exact .slice _ _ _ _ _ | exact .unOp _ _ _ rfl | exact .index _ _ _ | exact .max _ _ _ rfl rfl | exact .min _ _ _ rfl rfl)) | ((with_reducible refine Calmly.is_gl ?_); refine Calmly.mix_gl rfl rfl rfl ?_; first | ((first | with_reducible refine Calmly.gl_tt ?_ (fun _ _ => ?_) | with_reducible refine Calmly.gl_ff ?_ (fun _ _ => ?_)); (first | exact .move _ | exact .load _ _ | exact .fieldAddr _ _ _ (by kernel_rfl) | exact .assign _ | exact .binOp _ _ _ _ _ rfl | exact .indexAddr _ _ _ | exact .len _ _ (by kernel_rfl) | exact .field _ _ _ | exact .extract _ _ | exact .pick _ _ _ | exact .build _ _ | exact .slice _ _ _ _ _ | exact .unOp _ _ _ rfl | exact .index _ _ _ | exact .max _ _ _ rfl rfl | exact .min _ _ _ rfl rfl)) | with_reducible refine Calmly.gl_tf (fun _ _ => ?_) | with_reducible refine Calmly.gl_ft (fun _ _ => ?_)) | ((with_reducible refine Calmly.is_eff ?_); refine Calmly.mix_eff rfl (fun _ _ => ?_)) | ((with_reducible refine Calmly.is_gf ?_); refine Calmly.mix_gf rfl rfl rfl ?_; first | with_reducible refine Calmly.gf_tt (fun _ _ => ?_) | with_reducible refine Calmly.gf_ff (fun _ _ => ?_) | with_reducible refine Calmly.gf_tf (kept_of hk) (fun _ _ => ?_) | with_reducible refine Calmly.gf_ft (kept_of hk) (fun _ _ => ?_)) | ((with_reducible refine Calmly.is_tail ?_); first | refine Calmly.mix_tail_nil ?_ | refine Calmly.mix_tail rfl (fun _ _ => ?_)) | ((with_reducible refine Calmly.is_kept ?_); refine ⟨kept_of hk, ?_⟩) | (with_reducible refine Calmly.mix_alt ?_ ?_) | (go_at_call 28; refine (within_any _ _ _ _).mono ?_; rintro e w5 ⟨rfl, rfl⟩; rw [HWI.out]))
          go_roundw
          case rel => exact ⟨k + 1, by go_num, by omega, hbr⟩
          case measure => simp [intOf]; omega
        · have hle : (xs.length : Int) ≤ (k : Int) := by omega
          have hs := hbr
          clear hbr hk q1 q2 q3 q4 q5 q6 q7 q8 sw sz
          replace x1 := blk_keep x1 hs; replace x2 := blk_keep x2 hs; (try replace y1 := blk_keep y1 hs); (try replace y2 := blk_keep y2 hs); replace BW := BW.trans (hs.mono BW.size); (try replace so := so.keep hs); (try replace sl := sl.keep hs); (try replace su := su.keep hs); (try replace sv := sv.keep hs); (try replace sw := sw.keep hs); (try replace sz := sz.keep hs); (try replace sd := sd.keep hs); (try replace sf := sf.keep hs); clear hs; (try clear f0 f1 f2 f3); have f0 := cell_block x1 0; have f1 := cell_block x1 1; have f2 := cell_block x2 0; have f3 := cell_block x2 1
          have q1 := su.max
          have q2 := su.cap
          go_wp2_with fail
          refine (copy_any step a xs.length c xs _ (h1.keep BW) (by omega)).mono ?_
          rintro e w20 ⟨a1, k1, rfl, s1, hs⟩
          replace x1 := blk_keep x1 hs; replace x2 := blk_keep x2 hs; (try replace y1 := blk_keep y1 hs); (try replace y2 := blk_keep y2 hs); replace BW := BW.trans (hs.mono BW.size); (try replace so := so.keep hs); (try replace sl := sl.keep hs); (try replace su := su.keep hs); (try replace sv := sv.keep hs); (try replace sw := sw.keep hs); (try replace sz := sz.keep hs); (try replace sd := sd.keep hs); (try replace sf := sf.keep hs); clear hs; (try clear f0 f1 f2 f3); have f0 := cell_block x1 0; have f1 := cell_block x1 1; have f2 := cell_block x2 0; have f3 := cell_block x2 1
          go_wp2_with fail
          refine (PeaksOf_any step a1 _ k1 xs _ s1 0 pa pv pd HRE.out (fun h => absurd rfl h) (fun _ => P1.out)).mono ?_
          rintro e w21 ⟨rfl, hs⟩
          replace x1 := blk_keep x1 hs; replace x2 := blk_keep x2 hs; (try replace y1 := blk_keep y1 hs); (try replace y2 := blk_keep y2 hs); replace BW := BW.trans (hs.mono BW.size); (try replace so := so.keep hs); (try replace sl := sl.keep hs); (try replace su := su.keep hs); (try replace sv := sv.keep hs); (try replace sw := sw.keep hs); (try replace sz := sz.keep hs); (try replace sd := sd.keep hs); (try replace sf := sf.keep hs); clear hs; (try clear f0 f1 f2 f3); have f0 := cell_block x1 0; have f1 := cell_block x1 1; have f2 := cell_block x2 0; have f3 := cell_block x2 1
          clear s1
          have hs := hA w21 (.cells #[.int .i64 pa, .int .i64 pv, .int .i64 pd] 75)
          replace x1 := blk_keep x1 hs; replace x2 := blk_keep x2 hs; (try replace y1 := blk_keep y1 hs); (try replace y2 := blk_keep y2 hs); replace BW := BW.trans (hs.mono BW.size); (try replace so := so.keep hs); (try replace sl := sl.keep hs); (try replace su := su.keep hs); (try replace sv := sv.keep hs); (try replace sw := sw.keep hs); (try replace sz := sz.keep hs); (try replace sd := sd.keep hs); (try replace sf := sf.keep hs); clear hs; (try clear f0 f1 f2 f3); have f0 := cell_block x1 0; have f1 := cell_block x1 1; have f2 := cell_block x2 0; have f3 := cell_block x2 1
          have y1 := alloc_new w21 (.cells #[.int .i64 pa, .int .i64 pv, .int .i64 pd] 75)
          go_wp2_with fail
          refine (with_any step a xs.length c ao xs.length co (opp xs) _ so (by omega)).mono ?_
          rintro e w22 ⟨a1, k1, rfl, s1, hs⟩
          replace x1 := blk_keep x1 hs; replace x2 := blk_keep x2 hs; (try replace y1 := blk_keep y1 hs); (try replace y2 := blk_keep y2 hs); replace BW := BW.trans (hs.mono BW.size); (try replace so := so.keep hs); (try replace sl := sl.keep hs); (try replace su := su.keep hs); (try replace sv := sv.keep hs); (try replace sw := sw.keep hs); (try replace sz := sz.keep hs); (try replace sd := sd.keep hs); (try replace sf := sf.keep hs); clear hs; (try clear f0 f1 f2 f3); have f0 := cell_block x1 0; have f1 := cell_block x1 1; have f2 := cell_block x2 0; have f3 := cell_block x2 1
          go_wp2_with fail
          refine (PeaksOf_any step a1 _ k1 (opp xs) _ s1 0 pa pv pd HRO.out (fun h => absurd rfl h) (fun _ => P2.out)).mono ?_
          rintro e w23 ⟨rfl, hs⟩
          replace x1 := blk_keep x1 hs; replace x2 := blk_keep x2 hs; (try replace y1 := blk_keep y1 hs); (try replace y2 := blk_keep y2 hs); replace BW := BW.trans (hs.mono BW.size); (try replace so := so.keep hs); (try replace sl := sl.keep hs); (try replace su := su.keep hs); (try replace sv := sv.keep hs); (try replace sw := sw.keep hs); (try replace sz := sz.keep hs); (try replace sd := sd.keep hs); (try replace sf := sf.keep hs); clear hs; (try clear f0 f1 f2 f3); have f0 := cell_block x1 0; have f1 := cell_block x1 1; have f2 := cell_block x2 0; have f3 := cell_block x2 1
          clear s1 so
          have hs := hA w23 (.cells #[.int .i64 pa, .int .i64 pv, .int .i64 pd] 75)
          replace x1 := blk_keep x1 hs; replace x2 := blk_keep x2 hs; (try replace y1 := blk_keep y1 hs); (try replace y2 := blk_keep y2 hs); replace BW := BW.trans (hs.mono BW.size); (try replace so := so.keep hs); (try replace sl := sl.keep hs); (try replace su := su.keep hs); (try replace sv := sv.keep hs); (try replace sw := sw.keep hs); (try replace sz := sz.keep hs); (try replace sd := sd.keep hs); (try replace sf := sf.keep hs); clear hs; (try clear f0 f1 f2 f3); have f0 := cell_block x1 0; have f1 := cell_block x1 1; have f2 := cell_block x2 0; have f3 := cell_block x2 1
          have y2 := alloc_new w23 (.cells #[.int .i64 pa, .int .i64 pv, .int .i64 pd] 75)
          go_wp2_with fail
          refine (copy_any step a xs.length c xs _ (h1.keep BW) (by omega)).mono ?_
          rintro e w24 ⟨a1, k1, rfl, s1, hs⟩
          replace x1 := blk_keep x1 hs; replace x2 := blk_keep x2 hs; (try replace y1 := blk_keep y1 hs); (try replace y2 := blk_keep y2 hs); replace BW := BW.trans (hs.mono BW.size); (try replace so := so.keep hs); (try replace sl := sl.keep hs); (try replace su := su.keep hs); (try replace sv := sv.keep hs); (try replace sw := sw.keep hs); (try replace sz := sz.keep hs); (try replace sd := sd.keep hs); (try replace sf := sf.keep hs); clear hs; (try clear f0 f1 f2 f3); have f0 := cell_block x1 0; have f1 := cell_block x1 1; have f2 := cell_block x2 0; have f3 := cell_block x2 1
          go_wp2_with fail
          refine (DisplacementsOf_any step a1 _ k1 xs _ s1 0 D HRE.out (fun h => absurd rfl h) (fun _ => QD.out.symm)).mono ?_
          rintro e w25 ⟨ad, nd, cd, rfl, sd, hs⟩
          obtain rfl : nd = xs.length := by rw [sd.len, ND.out]
          clear s1
          replace x1 := blk_keep x1 hs; replace x2 := blk_keep x2 hs; replace y1 := blk_keep y1 hs; replace y2 := blk_keep y2 hs; replace BW := BW.trans (hs.mono BW.size); replace su := su.keep hs; clear hs
          (try clear f0 f1 f2 f3); have f0 := cell_block x1 0; have f1 := cell_block x1 1; have f2 := cell_block x2 0; have f3 := cell_block x2 1
          go_wp2_with fail
          refine (copy_any step a xs.length c xs _ (h1.keep BW) (by omega)).mono ?_
          rintro e w26 ⟨a1, k1, rfl, s1, hs⟩
          replace x1 := blk_keep x1 hs; replace x2 := blk_keep x2 hs; (try replace y1 := blk_keep y1 hs); (try replace y2 := blk_keep y2 hs); replace BW := BW.trans (hs.mono BW.size); (try replace so := so.keep hs); (try replace sl := sl.keep hs); (try replace su := su.keep hs); (try replace sv := sv.keep hs); (try replace sw := sw.keep hs); (try replace sz := sz.keep hs); (try replace sd := sd.keep hs); (try replace sf := sf.keep hs); clear hs; (try clear f0 f1 f2 f3); have f0 := cell_block x1 0; have f1 := cell_block x1 1; have f2 := cell_block x2 0; have f3 := cell_block x2 1
          go_wp2_with fail
          refine (ResponseOf_any step 0 0 a1 _ k1 xs _ s1 0 R E4.out (fun h => absurd rfl h) (fun _ => QR.out.symm)).mono ?_
          rintro e w27 ⟨af, nf, cf, rfl, sf, hs⟩
          obtain rfl : nf = xs.length := by rw [sf.len, NR.out]
          clear s1
          replace y1 := blk_keep y1 hs; replace y2 := blk_keep y2 hs; replace BW := BW.trans (hs.mono BW.size); replace sd := sd.keep hs; clear hs f0 f1 f2 f3 x1 x2 su
          have f0 := cell_block y1 0
          have f1 := cell_block y1 1
          have f2 := cell_block y1 2
          have f3 := cell_block y2 0
          have f4 := cell_block y2 1
          have f5 := cell_block y2 2
          have q3 := sd.max
          have q4 := sd.cap
          have q5 := sf.max
          have q6 := sf.cap
          go_wp2_with fail
          go_loopw [25] (fun i wr => ∃ k : Nat, i = .int .i64 (k : Int) ∧ k ≤ xs.length ∧ Below w27.heap.size w27 wr) (fun i _ => xs.length - (intOf i).toNat)
          case atStart => exact ⟨0, rfl, by omega, Below.refl _ _⟩
          case round =>
            obtain ⟨j, rfl, hj, hbr⟩ := hrel
            by_cases hjl : j < xs.length
            · obtain ⟨bd, od, rfl, hcd⟩ := (sd.keep hbr).at_ (by omega)
              obtain ⟨bf, off, rfl, hcf⟩ := (sf.keep hbr).at_ (by omega)
              have g0 := hcd j hjl
              have g1 := hcf j hjl
              rw [HR.out j hjl] at g1
              have hbd := HD.out j
              obtain ⟨x, hx⟩ : ∃ x, D[j]?.getD 0 = x := ⟨_, rfl⟩
              rw [hx] at g0 g1 hbd
              obtain ⟨b1, b2⟩ := hbd
              have HWI : Hid (wIn x (-1099511627776) 1099511627776 = true) := Lib.hid (wIn_iff.2 ⟨b1, b2⟩)
              clear hcd hcf hx
              have hi1 : (j : Int) < (xs.length : Int) := by omega
              have hi0 : (0 : Int) ≤ (j : Int) := by omega
              go_wp2_with fail
              refine Calmly.wp_region_mix 17 (.fl 0 <| .fl 1 <| .fl 2 <| .fl 3 <| .eff 4 <| .fl 5 <| .fl 6 <| .gl 7 <| .gl 8 <| .gl 9 <| .gl 10 <| .gl 11 <| .gl 12 <| .gl 13 <| .gl 14 <| .gl 15 <| .gl 16 <| .tail [17]) (by kernel_rfl) (by kernel_rfl) ?_
              have hd := (Below.refl wr.heap.size wr).drew
              replace g0 := cell_keep g0 hd
              replace g1 := cell_keep g1 hd
              replace hbr := hbr.drew
              clear hd
              generalize wr.drew = wq at g0 g1 hbr ⊢
              have hk := Below.refl wq.heap.size wq
              go_wp2_with (first | ((with_reducible refine Calmly.is_fl ?_); refine Calmly.mix_fl rfl ?_ (fun _ _ => ?_); (first | exact .move _ | exact .load _ _ | exact .fieldAddr _ _ _ (by kernel_rfl) | exact .assign _ | exact .binOp _ _ _ _ _ rfl | exact .indexAddr _ _ _ | exact .len _ _ (by kernel_rfl) | exact .field _ _ _ | exact .extract _ _ | exact .pick _ _ _ | exact .build _ _ | exact .slice _ _ _ _ _ | exact .unOp _ _ _ rfl | exact .index _ _ _ | exact .max _ _ _ rfl rfl | exact .min _ _ _ rfl rfl)) | ((with_reducible refine Calmly.is_gl ?_); refine Calmly.mix_gl rfl rfl rfl ?_; first | ((first | with_reducible refine Calmly.gl_tt ?_ (fun _ _ => ?_) | with_reducible refine Calmly.gl_ff ?_ (fun _ _ => ?_)); (first | exact .move _ | exact .load _ _ | exact .fieldAddr _ _ _ (by kernel_rfl) | exact .assign _ | exact .binOp _ _ _ _ _ rfl | exact .indexAddr _ _ _ | exact .len _ _ (by kernel_rfl) | exact .field _ _ _ | exact .extract _ _ | exact .pick _ _ _ | exact .build _ _ | exact .slice _ _ _ _ _ | exact .unOp _ _ _ rfl | exact .index _ _ _ | exact .max _ _ _ rfl rfl | exact .min _ _ _ rfl rfl)) | with_reducible refine Calmly.gl_tf (fun _ _ => ?_) | with_reducible refine Calmly.gl_ft (fun _ _ => ?_)) | ((with_reducible refine Calmly.is_eff ?_); refine Calmly.mix_eff rfl (fun _ _ => ?_)) | ((with_reducible refine Calmly.is_gf ?_); refine Calmly.mix_gf rfl rfl rfl ?_; first | with_reducible refine Calmly.gf_tt (fun _ _ => ?_) | with_reducible refine Calmly.gf_ff (fun _ _ => ?_) | with_reducible refine Calmly.gf_tf (kept_of hk) (fun _ _ => ?_) | with_reducible refine Calmly.gf_ft (kept_of hk) (fun _ _ => ?_)) | ((with_reducible refine Calmly.is_tail ?_); first | refine Calmly.mix_tail_nil ?_ | refine Calmly.mix_tail rfl (fun _ _ => ?_)) | ((with_reducible refine Calmly.is_kept ?_); refine ⟨kept_of hk, ?_⟩) | (with_reducible refine Calmly.mix_alt ?_ ?_) | (go_at_call 28; refine (within_any _ _ _ _).mono ?_; rintro e w5 ⟨rfl, rfl⟩; rw [HWI.out]))
              go_roundw
              case rel => exact ⟨j + 1, by go_num, by omega, hbr⟩
              case measure => simp [intOf]; omega
            · have hle2 : (xs.length : Int) ≤ (j : Int) := by omega
              go_wp2_with fail
              go_ret
              exact ⟨rfl, BW.trans (hbr.mono BW.size)⟩
end Go.Proofs.Ytiibdndchkbefaa

namespace Go.Proofs.Ytiibdndchkbefaa
open Go.ChangeShapes Go.WideShapes Go.ChangeAt Go.RowKit

set_option maxRecDepth 100000 in
set_option maxHeartbeats 1000000 in
theorem MotionOpposite_lifted (os : Os) (started : os.Started) (H : Type) (enc : TypeId × Value → H) :
    ReturnsInHanded {} Try.checked os 7 .any (Rows.motionOppositeSpec.pre6 enc Try.prog Try.f7 Rows.motionOppositeRow.domain false) (Rows.motionOppositeSpec.post enc Try.prog Try.f7 false true false false) := by
  refine returnsInHanded_of_change (C := Try.checked) Try.own' started (by kernel_rfl) Try.func7
    (ChangeSpec.witness6 (enc := enc) (C := Try.checked) false ⟨#[], #[.agg #[.int .i64 0, .slice none 0 0], .agg #[.int .i64 0, .int .i64 0]], []⟩ 8 (by kernel_rfl) (by kernel_rfl) (by kernel_rfl) (by kernel_rfl)) ?_
  intro W base args ds gs before hval0 hW _ _
  have hval : ∀ (j : Nat) t v, Try.f7.params[j]? = some t → args[j]? = some v → Value.okWide Try.prog W .any base t v := hval0
  have hW' := hW
  obtain ⟨p, q, hA0, hV, rfl, _, _⟩ := hW
  have hA : DataW.TrodAll enc Try.prog W 0 (fun _ => true) true Try.f7.params.toList args.toList ds p := hA0
  rw [Try.params7] at hA hval
  obtain ⟨v0, v1, d0, d1, p0, p1, rfl, rfl, rfl, h0, h1⟩ := trodAll_two hA
  obtain ⟨rfl, rfl⟩ := trodVars_none hV
  clear hA0 hA hval0
  have hlt : ∀ x ∈ p0 ++ p1, x.block < W.heap.size := fun x hx => by simpa using hW'.lt x (by simpa using hx)
  obtain ⟨s0, a0, n0, c0, l0, rfl, hw0, hs0, hw0'⟩ := open_record (hval 0 24 v0 rfl rfl) h0
  obtain ⟨x1, y1, rfl, hw1⟩ := open_osc (hval 1 49 v1 rfl rfl) h1
  refine (MotionOpposite_walk s0 a0 n0 c0 l0 x1 y1 W hs0).mono fun e W' ⟨he, hb⟩ => ?_
  subst he
  exact ⟨_, rfl, _, _, _, [], _, [], hW', trodAll_mk1 (shut_bool Try.underlying4 _),
    trodAll_mk2 (Below.trod Try.laidOut' (by kernel_rfl) (of_decide_eq_true (by kernel_rfl)) h0 hb (fun x hx => hlt x (List.mem_append_left _ hx))) (Below.trod Try.laidOut' (by kernel_rfl) (of_decide_eq_true (by kernel_rfl)) h1 hb (fun x hx => hlt x (List.mem_append_right _ hx))),
    rfl, hb.frame _, fun h => by cases h⟩

theorem MotionOpposite_holds : Rows.MotionOppositeSaid :=
  OpenClaim.holds_of_wide 7 Try.f7 rfl rfl rfl rfl rfl rfl rfl ⟨rfl, rfl, rfl, rfl, rfl⟩ rfl rfl rfl rfl rfl (by kernel_rfl) Try.func7 (by kernel_rfl)
    (of_decide_eq_true (by kernel_rfl)) (by unfold Func.isWrapper; first | (rw [if_pos (by decide +kernel)]; kernel_rfl) | (rw [if_neg (by decide +kernel)]; exact ⟨rfl, rfl⟩))
    (fun os started H enc _ => MotionOpposite_lifted os started H enc)
#print axioms MotionOpposite_holds
end Go.Proofs.Ytiibdndchkbefaa
