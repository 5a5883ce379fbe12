/- Which laws are right: CheckLaw, walked. The reference: Exponents, QuantitiesErr. Printed by gen_y5.py. -/
import Derived.Test.YtaiikekgckjdeaaGreatK20
import Derived.Laws.EntriesVeiled
namespace Go.Proofs.YtaiikekgckjdeaaGreat
open Go.RowKit
attribute [local go_sem] Oper.semAt_some eq3
open Calmly (Kept)
theorem tsE_ok {qn : Nat} {ts : List (List Int)} (h : (tsE qn ts).2 = 0) {i : Nat} (hi : i < ts.length) : (ts[i]?.getD []).length = qn ∧ ∀ j : Nat, -4 ≤ (ts[i]?.getD [])[j]?.getD 0 ∧ (ts[i]?.getD [])[j]?.getD 0 ≤ 4 :=
  teE_ok (eaF_all (k := 0) (m := ts.length) (n := ts.length) (by omega) h i (by omega) hi)
theorem lwH_ok {m : Nat} (h : lwH m = 0) : 0 < m ∧ m ≤ 8 := by
  unfold lwH firstE unlessE at h
  by_cases h0 : 0 < m <;> by_cases h4 : (m : Int) ≤ 8 <;> simp [h0, h4, firstE] at h <;> omega
set_option maxRecDepth 100000 in
set_option maxHeartbeats 4000000 in
theorem CheckLaw_any (qa la : Option Addr) (qn qc ln lc : Nat) (raw : List LsR) (ts : List (List Int)) (qs : List QuR) (w : World) (h3 : SQuR w qa qn qc qs) (h4 : LlV w la ln lc raw ts) :
    Calls Tryz.prog 6 #[.agg #[.slice qa qn qc, .slice la ln lc]] w fun e w' => e = .returned (.tuple #[.int .i64 (lawE qs ts).1, .int .i64 (lawE qs ts).2]) ∧ Below w.heap.size w w' := by
  have hq := h3.len
  have hl := h4.n_
  have m1 := h3.max
  have c1 := h3.cap
  have m2 := h4.row.max
  have c2 := h4.row.cap
  have hL : lawE qs ts = if 8 < qn then (0, 8) else if (qsE qs).2 ≠ 0 then qsE qs else if lwH ln ≠ 0 then (0, lwH ln) else if (tsE qn ts).2 ≠ 0 then tsE qn ts else clE qs ts := by rw [lawE, hq, hl]
  obtain ⟨L1, L2, hL12⟩ : ∃ x y, lawE qs ts = (x, y) := ⟨_, _, rfl⟩
  rw [hL12] at hL
  rw [hL12]
  dsimp only
  have HL := Lib.hid hL
  have HQ := Lib.hid hq
  have HLN := Lib.hid hl
  clear hL hL12 hq hl
  have y0 := alloc_new w (.cells #[.slice qa qn qc, .slice la ln lc] 25)
  have BW : Below w.heap.size w (w.alloc (.cells #[.slice qa qn qc, .slice la ln lc] 25)) := (Below.refl _ _).alloc (Nat.le_refl _) _
  have f0 := cell_block y0 0
  by_cases h8 : 8 < qn
  · have b1 : (8 : Int) < (qn : Int) := by omega
    have hR := HL.out
    rw [if_pos h8] at hR
    injection hR with e1 e2
    have E1 := Lib.hid e1
    have E2 := Lib.hid e2
    clear e1 e2 h8
    go_enter Tryz.func6, Tryz.ntmps6
    go_wp2_with fail
    refine bodyPost_ret (v := .tuple #[.int .i64 0, .int .i64 8]) (by simp [results, Tryz.results6]) rfl ⟨by rw [E1.out, E2.out], BW⟩
  · have b1 : ¬ (8 : Int) < (qn : Int) := by omega
    have hR := HL.out
    rw [if_neg h8] at hR
    have HL2 := Lib.hid hR
    have hq8 : qn ≤ 8 := by omega
    clear hR HL h8
    go_enter Tryz.func6, Tryz.ntmps6
    go_wp2_with fail
    generalize w.alloc (.cells #[.slice qa qn qc, .slice la ln lc] 25) = W at *
    refine (eachLawQ_any qa qn qc qs W W (fun i => qt3 (qs[i]?.getD qur0)) (fun _ _ => True) (h3.keep BW) (Below.refl _ _) trivial (fun _ _ _ _ _ => trivial) (fun i V _ _ hb => (lawQ_any (i : Int) _ _ _ V).mono (fun e w' h => ⟨h.1, trivial, h.2.mono hb.size⟩))).mono ?_
    rintro e w1 ⟨rfl, hs⟩
    rw [show eaF (fun i => qt3 (qs[i]?.getD qur0)) 0 qn = qsE qs by rw [qsE, HQ.out]]
    obtain ⟨QI, QE, hQ⟩ : ∃ x y, qsE qs = (x, y) := ⟨_, _, rfl⟩
    rw [hQ]
    dsimp only
    have HQE := Lib.hid hQ
    replace y0 := blk_keep y0 hs
    replace BW := BW.trans (hs.mono BW.size)
    clear f0 hs hQ
    have f0 := cell_block y0 0
    have f1 := cell_block y0 1
    by_cases hz : QE = 0
    case neg =>
      have b2 : (QE != 0) = true := by simpa using hz
      have hR := HL2.out
      rw [if_pos (by rw [HQE.out]; exact hz), HQE.out] at hR
      injection hR with e1 e2
      have E1 := Lib.hid e1
      have E2 := Lib.hid e2
      clear e1 e2 hz
      go_wp2_with fail
      refine bodyPost_ret (v := .tuple #[.int .i64 QI, .int .i64 QE]) (by simp [results, Tryz.results6]) rfl ⟨by rw [E1.out, E2.out], BW⟩
    case pos =>
      subst hz
      have hR := HL2.out
      rw [if_neg (by rw [HQE.out]; simp)] at hR
      have HL3 := Lib.hid hR
      clear hR HL2
      go_wp2_with fail
      refine Calmly.wp_region_mix 12 (.fl 0 <| .fl 1 <| .fl 2 <| .fl 3 <| .fl 5 <| .fl 6 <| .fl 7 <| .fl 8 <| .eff 4 <| .eff 9 <| .eff 10 <| .eff 11 <| .tail [12]) (by kernel_rfl) (by kernel_rfl) ?_
      have BD : Below w1.heap.size w1 w1.drew := (Below.refl _ _).drew
      replace y0 := blk_keep y0 BD
      replace BW := BW.trans (BD.mono BW.size)
      clear f0 f1 BD
      generalize w1.drew = V at *
      have f0 := cell_block y0 0
      have f1 := cell_block y0 1
      have hk := Below.refl V.heap.size V
      go_wp2_with (first | ((with_reducible refine Calmly.is_fl ?_); refine Calmly.mix_fl rfl ?_ (fun _ _ => ?_); (first | exact .move _ | exact .load _ _ | exact .fieldAddr _ _ _ (by kernel_rfl) | exact .assign _ | exact .binOp _ _ _ _ _ rfl | exact .indexAddr _ _ _ | exact .len _ _ (by kernel_rfl) | exact .field _ _ _ | exact .extract _ _ | exact .pick _ _ _ | exact .build _ _ | exact .slice _ _ _ _ _ | exact .unOp _ _ _ rfl | exact .index _ _ _ | exact .max _ _ _ rfl rfl | exact .min _ _ _ rfl rfl | exact .nilCheck _ _ rfl)) | ((with_reducible refine Calmly.is_gl ?_); refine Calmly.mix_gl rfl rfl rfl ?_; first | ((first | with_reducible refine Calmly.gl_tt ?_ (fun _ _ => ?_) | with_reducible refine Calmly.gl_ff ?_ (fun _ _ => ?_)); (first | exact .move _ | exact .load _ _ | exact .fieldAddr _ _ _ (by kernel_rfl) | exact .assign _ | exact .binOp _ _ _ _ _ rfl | exact .indexAddr _ _ _ | exact .len _ _ (by kernel_rfl) | exact .field _ _ _ | exact .extract _ _ | exact .pick _ _ _ | exact .build _ _ | exact .slice _ _ _ _ _ | exact .unOp _ _ _ rfl | exact .index _ _ _ | exact .max _ _ _ rfl rfl | exact .min _ _ _ rfl rfl | exact .nilCheck _ _ rfl)) | with_reducible refine Calmly.gl_tf (fun _ _ => ?_) | with_reducible refine Calmly.gl_ft (fun _ _ => ?_)) | ((with_reducible refine Calmly.is_eff ?_); refine Calmly.mix_eff rfl (fun _ _ => ?_)) | ((with_reducible refine Calmly.is_gf ?_); refine Calmly.mix_gf rfl rfl rfl ?_; first | with_reducible refine Calmly.gf_tt (fun _ _ => ?_) | with_reducible refine Calmly.gf_ff (fun _ _ => ?_) | with_reducible refine Calmly.gf_tf (kept_of hk) (fun _ _ => ?_) | with_reducible refine Calmly.gf_ft (kept_of hk) (fun _ _ => ?_)) | ((with_reducible refine Calmly.is_kept ?_); refine ⟨kept_of hk, ?_⟩) | (with_reducible refine Calmly.mix_alt ?_ ?_) | (refine kept_alloc hk (fun hk' hblk hge => ?_); replace hk := hk'; clear hk') | (go_at_call 32; refine (dUnless_any _ _ _).mono ?_; rintro e w2 ⟨rfl, rfl⟩))
      refine (dFirst_any _ 2 2 _ _ (SI.two _ _ _ _ (by simp))).mono ?_
      rintro e w2 ⟨rfl, rfl⟩
      rw [show firstE [unlessE (decide (0 < ln)) 10, unlessE (decide ((ln : Int) ≤ 8)) 8] = lwH ln from rfl]
      obtain ⟨H, hH⟩ : ∃ H, lwH ln = H := ⟨_, rfl⟩
      rw [hH]
      have HH := Lib.hid hH
      clear hH
      generalize V.alloc _ = X at *
      replace y0 := blk_keep y0 hk
      replace BW := BW.trans (hk.mono BW.size)
      replace f0 := cell_keep f0 hk
      replace f1 := cell_keep f1 hk
      by_cases hz : H = 0
      case neg =>
        have b2 : (H != 0) = true := by simpa using hz
        have hR := HL3.out
        rw [HH.out, if_pos hz] at hR
        injection hR with e1 e2
        have E1 := Lib.hid e1
        have E2 := Lib.hid e2
        clear e1 e2 hz
        go_wp2_with (first | ((with_reducible refine Calmly.is_fl ?_); refine Calmly.mix_fl rfl ?_ (fun _ _ => ?_); (first | exact .move _ | exact .load _ _ | exact .fieldAddr _ _ _ (by kernel_rfl) | exact .assign _ | exact .binOp _ _ _ _ _ rfl | exact .indexAddr _ _ _ | exact .len _ _ (by kernel_rfl) | exact .field _ _ _ | exact .extract _ _ | exact .pick _ _ _ | exact .build _ _ | exact .slice _ _ _ _ _ | exact .unOp _ _ _ rfl | exact .index _ _ _ | exact .max _ _ _ rfl rfl | exact .min _ _ _ rfl rfl | exact .nilCheck _ _ rfl)) | ((with_reducible refine Calmly.is_gl ?_); refine Calmly.mix_gl rfl rfl rfl ?_; first | ((first | with_reducible refine Calmly.gl_tt ?_ (fun _ _ => ?_) | with_reducible refine Calmly.gl_ff ?_ (fun _ _ => ?_)); (first | exact .move _ | exact .load _ _ | exact .fieldAddr _ _ _ (by kernel_rfl) | exact .assign _ | exact .binOp _ _ _ _ _ rfl | exact .indexAddr _ _ _ | exact .len _ _ (by kernel_rfl) | exact .field _ _ _ | exact .extract _ _ | exact .pick _ _ _ | exact .build _ _ | exact .slice _ _ _ _ _ | exact .unOp _ _ _ rfl | exact .index _ _ _ | exact .max _ _ _ rfl rfl | exact .min _ _ _ rfl rfl | exact .nilCheck _ _ rfl)) | with_reducible refine Calmly.gl_tf (fun _ _ => ?_) | with_reducible refine Calmly.gl_ft (fun _ _ => ?_)) | ((with_reducible refine Calmly.is_eff ?_); refine Calmly.mix_eff rfl (fun _ _ => ?_)) | ((with_reducible refine Calmly.is_gf ?_); refine Calmly.mix_gf rfl rfl rfl ?_; first | with_reducible refine Calmly.gf_tt (fun _ _ => ?_) | with_reducible refine Calmly.gf_ff (fun _ _ => ?_) | with_reducible refine Calmly.gf_tf (kept_of hk) (fun _ _ => ?_) | with_reducible refine Calmly.gf_ft (kept_of hk) (fun _ _ => ?_)) | ((with_reducible refine Calmly.is_tail ?_); first | refine Calmly.mix_tail_nil ?_ | refine Calmly.mix_tail rfl (fun _ _ => ?_)) | ((with_reducible refine Calmly.is_kept ?_); refine ⟨kept_of hk, ?_⟩) | (with_reducible refine Calmly.mix_alt ?_ ?_))
        refine bodyPost_ret (v := .tuple #[.int .i64 0, .int .i64 H]) (by simp [results, Tryz.results6]) rfl ⟨by rw [E1.out, E2.out], BW⟩
      case pos =>
        subst hz
        have hR := HL3.out
        rw [HH.out, if_neg (by simp)] at hR
        have HL4 := Lib.hid hR
        obtain ⟨hln0, hln8⟩ := lwH_ok HH.out
        clear hR HL3
        go_wp2_with (first | ((with_reducible refine Calmly.is_fl ?_); refine Calmly.mix_fl rfl ?_ (fun _ _ => ?_); (first | exact .move _ | exact .load _ _ | exact .fieldAddr _ _ _ (by kernel_rfl) | exact .assign _ | exact .binOp _ _ _ _ _ rfl | exact .indexAddr _ _ _ | exact .len _ _ (by kernel_rfl) | exact .field _ _ _ | exact .extract _ _ | exact .pick _ _ _ | exact .build _ _ | exact .slice _ _ _ _ _ | exact .unOp _ _ _ rfl | exact .index _ _ _ | exact .max _ _ _ rfl rfl | exact .min _ _ _ rfl rfl | exact .nilCheck _ _ rfl)) | ((with_reducible refine Calmly.is_gl ?_); refine Calmly.mix_gl rfl rfl rfl ?_; first | ((first | with_reducible refine Calmly.gl_tt ?_ (fun _ _ => ?_) | with_reducible refine Calmly.gl_ff ?_ (fun _ _ => ?_)); (first | exact .move _ | exact .load _ _ | exact .fieldAddr _ _ _ (by kernel_rfl) | exact .assign _ | exact .binOp _ _ _ _ _ rfl | exact .indexAddr _ _ _ | exact .len _ _ (by kernel_rfl) | exact .field _ _ _ | exact .extract _ _ | exact .pick _ _ _ | exact .build _ _ | exact .slice _ _ _ _ _ | exact .unOp _ _ _ rfl | exact .index _ _ _ | exact .max _ _ _ rfl rfl | exact .min _ _ _ rfl rfl | exact .nilCheck _ _ rfl)) | with_reducible refine Calmly.gl_tf (fun _ _ => ?_) | with_reducible refine Calmly.gl_ft (fun _ _ => ?_)) | ((with_reducible refine Calmly.is_eff ?_); refine Calmly.mix_eff rfl (fun _ _ => ?_)) | ((with_reducible refine Calmly.is_gf ?_); refine Calmly.mix_gf rfl rfl rfl ?_; first | with_reducible refine Calmly.gf_tt (fun _ _ => ?_) | with_reducible refine Calmly.gf_ff (fun _ _ => ?_) | with_reducible refine Calmly.gf_tf (kept_of hk) (fun _ _ => ?_) | with_reducible refine Calmly.gf_ft (kept_of hk) (fun _ _ => ?_)) | ((with_reducible refine Calmly.is_tail ?_); first | refine Calmly.mix_tail_nil ?_ | refine Calmly.mix_tail rfl (fun _ _ => ?_)) | ((with_reducible refine Calmly.is_kept ?_); refine ⟨kept_of hk, ?_⟩) | (with_reducible refine Calmly.mix_alt ?_ ?_))
        refine (eachTerm_any w.heap.size la ln lc raw X X (fun i => teE qn (ts[i]?.getD [])) (fun _ _ => True) (h4.keep BW).row (Below.refl _ _) trivial (fun _ _ _ _ _ => trivial) (fun i V hi _ hb => ?_)).mono ?_
        · have hs := ((h4.keep BW).keep hb).at_ i (by have := HLN.out; omega)
          obtain ⟨rr, hrr⟩ : ∃ rr, raw[i]?.getD lsr0 = rr := ⟨_, rfl⟩
          obtain ⟨u1, u2, u3⟩ := rr
          rw [hrr] at hs
          rw [hrr]
          dsimp only [hv] at hs ⊢
          exact (termErr_any (i : Int) w.heap.size qa la u1 qn qc ln lc u2 u3 _ V (blk_keep y0 hb) hs).mono (fun e w' h => ⟨h.1, trivial, h.2.mono hb.size⟩)
        rintro e w3 ⟨rfl, hs⟩
        rw [show eaF (fun i => teE qn (ts[i]?.getD [])) 0 ln = tsE qn ts by rw [tsE, HLN.out]]
        obtain ⟨TI, TE, hT⟩ : ∃ x y, tsE qn ts = (x, y) := ⟨_, _, rfl⟩
        rw [hT]
        dsimp only
        have HTE := Lib.hid hT
        replace y0 := blk_keep y0 hs
        replace BW := BW.trans (hs.mono BW.size)
        clear f0 f1 hs hT
        have f1 := cell_block y0 1
        by_cases hz : TE = 0
        case neg =>
          have b2 : (TE != 0) = true := by simpa using hz
          have hR := HL4.out
          rw [if_pos (by rw [HTE.out]; exact hz), HTE.out] at hR
          injection hR with e1 e2
          have E1 := Lib.hid e1
          have E2 := Lib.hid e2
          clear e1 e2 hz
          go_wp2_with (first | ((with_reducible refine Calmly.is_fl ?_); refine Calmly.mix_fl rfl ?_ (fun _ _ => ?_); (first | exact .move _ | exact .load _ _ | exact .fieldAddr _ _ _ (by kernel_rfl) | exact .assign _ | exact .binOp _ _ _ _ _ rfl | exact .indexAddr _ _ _ | exact .len _ _ (by kernel_rfl) | exact .field _ _ _ | exact .extract _ _ | exact .pick _ _ _ | exact .build _ _ | exact .slice _ _ _ _ _ | exact .unOp _ _ _ rfl | exact .index _ _ _ | exact .max _ _ _ rfl rfl | exact .min _ _ _ rfl rfl | exact .nilCheck _ _ rfl)) | ((with_reducible refine Calmly.is_gl ?_); refine Calmly.mix_gl rfl rfl rfl ?_; first | ((first | with_reducible refine Calmly.gl_tt ?_ (fun _ _ => ?_) | with_reducible refine Calmly.gl_ff ?_ (fun _ _ => ?_)); (first | exact .move _ | exact .load _ _ | exact .fieldAddr _ _ _ (by kernel_rfl) | exact .assign _ | exact .binOp _ _ _ _ _ rfl | exact .indexAddr _ _ _ | exact .len _ _ (by kernel_rfl) | exact .field _ _ _ | exact .extract _ _ | exact .pick _ _ _ | exact .build _ _ | exact .slice _ _ _ _ _ | exact .unOp _ _ _ rfl | exact .index _ _ _ | exact .max _ _ _ rfl rfl | exact .min _ _ _ rfl rfl | exact .nilCheck _ _ rfl)) | with_reducible refine Calmly.gl_tf (fun _ _ => ?_) | with_reducible refine Calmly.gl_ft (fun _ _ => ?_)) | ((with_reducible refine Calmly.is_eff ?_); refine Calmly.mix_eff rfl (fun _ _ => ?_)) | ((with_reducible refine Calmly.is_gf ?_); refine Calmly.mix_gf rfl rfl rfl ?_; first | with_reducible refine Calmly.gf_tt (fun _ _ => ?_) | with_reducible refine Calmly.gf_ff (fun _ _ => ?_) | with_reducible refine Calmly.gf_tf (kept_of hk) (fun _ _ => ?_) | with_reducible refine Calmly.gf_ft (kept_of hk) (fun _ _ => ?_)) | ((with_reducible refine Calmly.is_tail ?_); first | refine Calmly.mix_tail_nil ?_ | refine Calmly.mix_tail rfl (fun _ _ => ?_)) | ((with_reducible refine Calmly.is_kept ?_); refine ⟨kept_of hk, ?_⟩) | (with_reducible refine Calmly.mix_alt ?_ ?_))
          refine bodyPost_ret (v := .tuple #[.int .i64 TI, .int .i64 TE]) (by simp [results, Tryz.results6]) rfl ⟨by rw [E1.out, E2.out], BW⟩
        case pos =>
          subst hz
          have hR := HL4.out
          rw [if_neg (by rw [HTE.out]; simp)] at hR
          have HL5 := Lib.hid hR
          clear hR HL4
          have x9 := alloc_new w3 (.cells #[.func (.func 38) #[] #[.pointer (some ⟨w.heap.size, 0, none⟩)]] 87)
          have BX : Below w3.heap.size w3 (w3.alloc (.cells #[.func (.func 38) #[] #[.pointer (some ⟨w.heap.size, 0, none⟩)]] 87)) := (Below.refl _ _).alloc (Nat.le_refl _) _
          replace f1 := cell_keep f1 BX
          replace y0 := blk_keep y0 BX
          replace BW := BW.trans (BX.mono BW.size)
          clear BX
          go_wp2_with (first | ((with_reducible refine Calmly.is_fl ?_); refine Calmly.mix_fl rfl ?_ (fun _ _ => ?_); (first | exact .move _ | exact .load _ _ | exact .fieldAddr _ _ _ (by kernel_rfl) | exact .assign _ | exact .binOp _ _ _ _ _ rfl | exact .indexAddr _ _ _ | exact .len _ _ (by kernel_rfl) | exact .field _ _ _ | exact .extract _ _ | exact .pick _ _ _ | exact .build _ _ | exact .slice _ _ _ _ _ | exact .unOp _ _ _ rfl | exact .index _ _ _ | exact .max _ _ _ rfl rfl | exact .min _ _ _ rfl rfl | exact .nilCheck _ _ rfl)) | ((with_reducible refine Calmly.is_gl ?_); refine Calmly.mix_gl rfl rfl rfl ?_; first | ((first | with_reducible refine Calmly.gl_tt ?_ (fun _ _ => ?_) | with_reducible refine Calmly.gl_ff ?_ (fun _ _ => ?_)); (first | exact .move _ | exact .load _ _ | exact .fieldAddr _ _ _ (by kernel_rfl) | exact .assign _ | exact .binOp _ _ _ _ _ rfl | exact .indexAddr _ _ _ | exact .len _ _ (by kernel_rfl) | exact .field _ _ _ | exact .extract _ _ | exact .pick _ _ _ | exact .build _ _ | exact .slice _ _ _ _ _ | exact .unOp _ _ _ rfl | exact .index _ _ _ | exact .max _ _ _ rfl rfl | exact .min _ _ _ rfl rfl | exact .nilCheck _ _ rfl)) | with_reducible refine Calmly.gl_tf (fun _ _ => ?_) | with_reducible refine Calmly.gl_ft (fun _ _ => ?_)) | ((with_reducible refine Calmly.is_eff ?_); refine Calmly.mix_eff rfl (fun _ _ => ?_)) | ((with_reducible refine Calmly.is_gf ?_); refine Calmly.mix_gf rfl rfl rfl ?_; first | with_reducible refine Calmly.gf_tt (fun _ _ => ?_) | with_reducible refine Calmly.gf_ff (fun _ _ => ?_) | with_reducible refine Calmly.gf_tf (kept_of hk) (fun _ _ => ?_) | with_reducible refine Calmly.gf_ft (kept_of hk) (fun _ _ => ?_)) | ((with_reducible refine Calmly.is_tail ?_); first | refine Calmly.mix_tail_nil ?_ | refine Calmly.mix_tail rfl (fun _ _ => ?_)) | ((with_reducible refine Calmly.is_kept ?_); refine ⟨kept_of hk, ?_⟩) | (with_reducible refine Calmly.mix_alt ?_ ?_))
          obtain ⟨b9, hb9⟩ : ∃ b, w3.heap.size = b := ⟨_, rfl⟩
          rw [hb9] at x9 ⊢
          generalize w3.alloc (.cells #[.func (.func 38) #[] #[.pointer (some ⟨w.heap.size, 0, none⟩)]] 87) = Y at *
          have hts : (tsE qn ts).2 = 0 := by rw [HTE.out]
          have hqs : (qsE qs).2 = 0 := by rw [HQE.out]
          have HTS := Lib.hid hts
          have HQS := Lib.hid hqs
          clear hts hqs hb9
          refine (eachClash_any b9 w.heap.size la ln lc raw Y Y (fun i => unlessE (decide (exS qs (ts[i]?.getD []) = exS qs (ts[0]?.getD []))) 13) (fun _ _ => True) (h4.keep BW).row (Below.refl _ _) trivial (fun _ _ _ _ _ => trivial) (fun i V hi _ hb => ?_)).mono ?_
          · have hs := ((h4.keep BW).keep hb).at_ i (by have := HLN.out; omega)
            have ht := tsE_ok HTS.out (i := i) (by have := HLN.out; omega)
            have ht0 := tsE_ok HTS.out (i := 0) (by have := HLN.out; omega)
            have hu := hs.len
            obtain ⟨rr, hrr⟩ : ∃ rr, raw[i]?.getD lsr0 = rr := ⟨_, rfl⟩
            obtain ⟨u1, u2, u3⟩ := rr
            rw [hrr] at hs hu
            rw [hrr]
            dsimp only [hv] at hs hu ⊢
            exact (clash_any (i : Int) b9 w.heap.size qa la u1 qn qc ln lc u2 u3 raw ts qs _ V (blk_keep x9 hb) (blk_keep y0 hb) hs ((h3.keep BW).keep hb) ((h4.keep BW).keep hb) (by rw [hu, ht.1]) hq8 hln0 ht.2 ht0.1 ht0.2 HQS.out).mono (fun e w' h => ⟨h.1, trivial, h.2.mono hb.size⟩)
          rintro e w4 ⟨rfl, hs⟩
          have hR := HL5.out
          rw [clE, ← HLN.out] at hR
          rw [← hR]
          dsimp only
          have BW4 := BW.trans (hs.mono BW.size)
          clear f1 hR
          go_wp2_with (first | ((with_reducible refine Calmly.is_fl ?_); refine Calmly.mix_fl rfl ?_ (fun _ _ => ?_); (first | exact .move _ | exact .load _ _ | exact .fieldAddr _ _ _ (by kernel_rfl) | exact .assign _ | exact .binOp _ _ _ _ _ rfl | exact .indexAddr _ _ _ | exact .len _ _ (by kernel_rfl) | exact .field _ _ _ | exact .extract _ _ | exact .pick _ _ _ | exact .build _ _ | exact .slice _ _ _ _ _ | exact .unOp _ _ _ rfl | exact .index _ _ _ | exact .max _ _ _ rfl rfl | exact .min _ _ _ rfl rfl | exact .nilCheck _ _ rfl)) | ((with_reducible refine Calmly.is_gl ?_); refine Calmly.mix_gl rfl rfl rfl ?_; first | ((first | with_reducible refine Calmly.gl_tt ?_ (fun _ _ => ?_) | with_reducible refine Calmly.gl_ff ?_ (fun _ _ => ?_)); (first | exact .move _ | exact .load _ _ | exact .fieldAddr _ _ _ (by kernel_rfl) | exact .assign _ | exact .binOp _ _ _ _ _ rfl | exact .indexAddr _ _ _ | exact .len _ _ (by kernel_rfl) | exact .field _ _ _ | exact .extract _ _ | exact .pick _ _ _ | exact .build _ _ | exact .slice _ _ _ _ _ | exact .unOp _ _ _ rfl | exact .index _ _ _ | exact .max _ _ _ rfl rfl | exact .min _ _ _ rfl rfl | exact .nilCheck _ _ rfl)) | with_reducible refine Calmly.gl_tf (fun _ _ => ?_) | with_reducible refine Calmly.gl_ft (fun _ _ => ?_)) | ((with_reducible refine Calmly.is_eff ?_); refine Calmly.mix_eff rfl (fun _ _ => ?_)) | ((with_reducible refine Calmly.is_gf ?_); refine Calmly.mix_gf rfl rfl rfl ?_; first | with_reducible refine Calmly.gf_tt (fun _ _ => ?_) | with_reducible refine Calmly.gf_ff (fun _ _ => ?_) | with_reducible refine Calmly.gf_tf (kept_of hk) (fun _ _ => ?_) | with_reducible refine Calmly.gf_ft (kept_of hk) (fun _ _ => ?_)) | ((with_reducible refine Calmly.is_tail ?_); first | refine Calmly.mix_tail_nil ?_ | refine Calmly.mix_tail rfl (fun _ _ => ?_)) | ((with_reducible refine Calmly.is_kept ?_); refine ⟨kept_of hk, ?_⟩) | (with_reducible refine Calmly.mix_alt ?_ ?_))
          refine bodyPost_ret (v := .tuple #[.int .i64 L1, .int .i64 L2]) (by simp [results, Tryz.results6]) rfl ⟨rfl, BW4⟩
end Go.Proofs.YtaiikekgckjdeaaGreat

namespace Go.Proofs.YtaiikekgckjdeaaGreat
open Go.RowKit
attribute [local go_sem] Oper.semAt_some eq3
open Calmly (Kept)
set_option maxRecDepth 100000 in
set_option maxHeartbeats 4000000 in
theorem rExponents_any (qa la : Option Addr) (qn qc ln lc : Nat) (raw : List LsR) (ts : List (List Int)) (qs : List QuR) (w : World) (h3 : SQuR w qa qn qc qs) (h4 : LlV w la ln lc raw ts) (i : Nat) (J : Int) (hJ : J = (i : Int)) (hi : i < ln) (hq : qn ≤ 8)
    (hl : (ts[i]?.getD []).length = qn) (ht : ∀ j : Nat, -4 ≤ (ts[i]?.getD [])[j]?.getD 0 ∧ (ts[i]?.getD [])[j]?.getD 0 ≤ 4) (hqs : (qsE qs).2 = 0) :
    Calls Tryz.prog 51 #[.agg #[.slice qa qn qc, .slice la ln lc], .int .i64 J] w fun e w' => e = .returned (.agg #[.int .i64 (exS qs (ts[i]?.getD [])).1, .int .i64 (exS qs (ts[i]?.getD [])).2.1, .int .i64 (exS qs (ts[i]?.getD [])).2.2]) ∧ Below w.heap.size w w' := by
  subst hJ
  have hqn := h3.len
  have hln := h4.n_
  have m2 := h3.max
  have c2 := h3.cap
  have m1 := h4.row.max
  have c1 := h4.row.cap
  have HQ := Lib.hid hqn
  have HLN := Lib.hid hln
  have HQS := Lib.hid hqs
  obtain ⟨t, htt⟩ : ∃ t, ts[i]?.getD [] = t := ⟨_, rfl⟩
  rw [htt] at hl ht ⊢
  have HTT := Lib.hid htt
  have HL := Lib.hid hl
  have HT := Lib.hid ht
  clear hqn hln ht hqs htt hl
  have y2 : (((w.alloc (.cells #[.slice qa qn qc, .slice la ln lc] 25)).alloc (.cells #[.int .i64 0, .int .i64 0, .int .i64 0] 53)).alloc (.cells #[.int .i64 0, .int .i64 0, .int .i64 0] 53)).heap[w.heap.size]? = some (.cells #[.slice qa qn qc, .slice la ln lc] 25) := blk_keep (blk_keep (alloc_new w _) ((Below.refl _ _).alloc (Nat.le_refl _) (.cells #[.int .i64 0, .int .i64 0, .int .i64 0] 53))) ((Below.refl _ _).alloc (Nat.le_refl _) (.cells #[.int .i64 0, .int .i64 0, .int .i64 0] 53))
  have y4 : B3 (((w.alloc (.cells #[.slice qa qn qc, .slice la ln lc] 25)).alloc (.cells #[.int .i64 0, .int .i64 0, .int .i64 0] 53)).alloc (.cells #[.int .i64 0, .int .i64 0, .int .i64 0] 53)) (w.heap.size + 1) 0 0 0 := ⟨by
    have := blk_keep (alloc_new (w.alloc (.cells #[.slice qa qn qc, .slice la ln lc] 25)) (.cells #[.int .i64 0, .int .i64 0, .int .i64 0] 53)) ((Below.refl _ _).alloc (Nat.le_refl _) (.cells #[.int .i64 0, .int .i64 0, .int .i64 0] 53))
    simpa using this⟩
  have y5 : B3 (((w.alloc (.cells #[.slice qa qn qc, .slice la ln lc] 25)).alloc (.cells #[.int .i64 0, .int .i64 0, .int .i64 0] 53)).alloc (.cells #[.int .i64 0, .int .i64 0, .int .i64 0] 53)) (w.heap.size + 1 + 1) 0 0 0 := ⟨by
    have := alloc_new ((w.alloc (.cells #[.slice qa qn qc, .slice la ln lc] 25)).alloc (.cells #[.int .i64 0, .int .i64 0, .int .i64 0] 53)) (.cells #[.int .i64 0, .int .i64 0, .int .i64 0] 53)
    simpa using this⟩
  have BW : Below w.heap.size w (((w.alloc (.cells #[.slice qa qn qc, .slice la ln lc] 25)).alloc (.cells #[.int .i64 0, .int .i64 0, .int .i64 0] 53)).alloc (.cells #[.int .i64 0, .int .i64 0, .int .i64 0] 53)) := (((Below.refl _ _).alloc (Nat.le_refl _) _).alloc (by simp) _).alloc (by simp; omega) _
  go_enter Tryz.func51, Tryz.ntmps51
  go_wp2_with fail
  generalize ((w.alloc (.cells #[.slice qa qn qc, .slice la ln lc] 25)).alloc (.cells #[.int .i64 0, .int .i64 0, .int .i64 0] 53)).alloc (.cells #[.int .i64 0, .int .i64 0, .int .i64 0] 53) = W at *
  go_loopw [6] (fun i wr => ∃ k : Nat, k ≤ qn ∧ i = .int .i64 k ∧ wr.heap[w.heap.size]? = some (.cells #[.slice qa qn qc, .slice la ln lc] 25) ∧ B3 wr (w.heap.size + 1) 0 0 0 ∧ B3 wr (w.heap.size + 1 + 1) (exA (·.1) qs t k) (exA (·.2.1) qs t k) (exA (·.2.2) qs t k) ∧ Below w.heap.size w wr) (fun i _ => qn - (intOf i).toNat)
  case atStart => exact ⟨0, by omega, rfl, y2, y4, y5, BW⟩
  case round =>
    clear y2 y4 y5 BW
    obtain ⟨k, hk, rfl, y2, y4, y5, hb⟩ := hrel
    have f0 := cell_block y2 0
    by_cases hlt : k < qn
    · have bA := exA_bd (f := (·.1)) (qs := qs) HT.out (fun i => (qsE_ok HQS.out i).1) k
      have bB := exA_bd (f := (·.2.1)) (qs := qs) HT.out (fun i => (qsE_ok HQS.out i).2.1) k
      have bC := exA_bd (f := (·.2.2)) (qs := qs) HT.out (fun i => (qsE_ok HQS.out i).2.2) k
      have pA := mul16 (HT.out k) (qsE_ok HQS.out k).1
      have pB := mul16 (HT.out k) (qsE_ok HQS.out k).2.1
      have pC := mul16 (HT.out k) (qsE_ok HQS.out k).2.2
      have sA : exA (·.1) qs t (k + 1) = exA (·.1) qs t k + t[k]?.getD 0 * (qs[k]?.getD qur0).1 := rfl
      have sB : exA (·.2.1) qs t (k + 1) = exA (·.2.1) qs t k + t[k]?.getD 0 * (qs[k]?.getD qur0).2.1 := rfl
      have sC : exA (·.2.2) qs t (k + 1) = exA (·.2.2) qs t k + t[k]?.getD 0 * (qs[k]?.getD qur0).2.2 := rfl
      obtain ⟨p, hp⟩ : ∃ p, t[k]?.getD 0 = p := ⟨_, rfl⟩
      obtain ⟨⟨x0, x1, x2⟩, hx⟩ : ∃ x, qs[k]?.getD qur0 = x := ⟨_, rfl⟩
      have HP := Lib.hid hp
      have HX := Lib.hid hx
      rw [hp] at pA pB pC sA sB sC
      rw [hx] at pA pB pC sA sB sC
      dsimp only at pA pB pC sA sB sC
      obtain ⟨A, hA⟩ : ∃ A, exA (·.1) qs t k = A := ⟨_, rfl⟩
      obtain ⟨B, hB⟩ : ∃ B, exA (·.2.1) qs t k = B := ⟨_, rfl⟩
      obtain ⟨C, hC⟩ : ∃ C, exA (·.2.2) qs t k = C := ⟨_, rfl⟩
      rw [hA] at y5 bA sA
      rw [hB] at y5 bB sB
      rw [hC] at y5 bC sC
      obtain ⟨mA, hmA⟩ : ∃ m, p * x0 = m := ⟨_, rfl⟩
      obtain ⟨mB, hmB⟩ : ∃ m, p * x1 = m := ⟨_, rfl⟩
      obtain ⟨mC, hmC⟩ : ∃ m, p * x2 = m := ⟨_, rfl⟩
      rw [hmA] at pA sA
      rw [hmB] at pB sB
      rw [hmC] at pC sC
      have SA := Lib.hid sA
      have SB := Lib.hid sB
      have SC := Lib.hid sC
      have hi1 : (k : Int) < (qn : Int) := by omega
      have hi0 : (0 : Int) ≤ (k : Int) := by omega
      clear hA hB hC sA sB sC hp hx
      go_wp2_with fail
      go_loopw [7] (fun j wr2 => ∃ (e : Nat) (E : Int), e ≤ 3 ∧ E = e ∧ j = .int .i64 E ∧ wr2.heap[w.heap.size]? = some (.cells #[.slice qa qn qc, .slice la ln lc] 25) ∧ B3 wr2 (w.heap.size + 1) 0 0 0 ∧ B3 wr2 (w.heap.size + 1 + 1) (ad3 A mA 0 e) (ad3 B mB 1 e) (ad3 C mC 2 e) ∧ Below w.heap.size w wr2) (fun j _ => 3 - (intOf j).toNat)
      case atStart => exact ⟨0, 0, by omega, rfl, rfl, y2, y4, y5, hb⟩
      case round =>
        clear f0 y2 y4 y5
        obtain ⟨e, E, he, hE, rfl, y2, y4, y5, hb2⟩ := hrel
        have hw4 : w.heap.size ≤ w.heap.size + 1 + 1 := by omega
        have hne : w.heap.size + 1 ≠ w.heap.size + 1 + 1 := by omega
        have hne2 : w.heap.size ≠ w.heap.size + 1 + 1 := by omega
        have hj1 : (i : Int) < (ln : Int) := by omega
        have hj0 : (0 : Int) ≤ (i : Int) := by omega
        rcases (by omega : e = 0 ∨ e = 1 ∨ e = 2 ∨ e = 3) with rfl | rfl | rfl | rfl
        · simp only [ad3, Nat.lt_irrefl, Nat.not_lt_zero, if_false] at y5
          obtain rfl : E = 0 := by simpa using hE
          clear hE he
          go_wp2_with fail
          refine Calmly.wp_region_mix 21 (.fl 0 <| .fl 1 <| .fl 2 <| .fl 3 <| .fl 4 <| .fl 5 <| .fl 6 <| .fl 7 <| .fl 8 <| .fl 9 <| .fl 10 <| .fl 11 <| .fl 12 <| .fl 13 <| .fl 14 <| .fl 15 <| .fl 16 <| .fl 17 <| .fl 18 <| .fl 19 <| .fl 20 <| .tail [21, 22]) (by kernel_rfl) (by kernel_rfl) ?_
          have BD : Below wr.heap.size wr wr.drew := (Below.refl _ _).drew
          replace y2 := blk_keep y2 BD
          replace y4 := y4.keep BD
          replace y5 := y5.keep BD
          replace hb2 := hb2.trans (BD.mono hb2.size)
          clear BD
          generalize wr.drew = V at *
          have f0 := cell_block y2 0
          have f1 := cell_block y2 1
          have g0 := cell_block y5.blk 0
          have g1 := frozen_block y5.blk 0
          have hrow := (h4.keep hb2).at_ i (by have := HLN.out; omega)
          rw [HTT.out] at hrow
          obtain ⟨lb, lo, rfl, hlc⟩ := (h4.keep hb2).row.at_ (by omega)
          have z0 := hlc i hi
          rw [Nat.mul_one] at z0
          obtain ⟨rr, hrr⟩ : ∃ rr, raw[i]?.getD lsr0 = rr := ⟨_, rfl⟩
          obtain ⟨u1, u2, u3⟩ := rr
          rw [hrr] at z0 hrow
          dsimp only [hv] at z0 hrow
          have hu2 : qn = u2 := by rw [hrow.len, HL.out]
          subst hu2
          have hm3 := hrow.max
          have hc3 := hrow.cap
          obtain ⟨tb, to, rfl, htc⟩ := hrow.at_ (by omega)
          have z1 := htc k hlt
          rw [HP.out] at z1
          obtain ⟨qb, qo, rfl, hqc⟩ := (h3.keep hb2).at_ (by omega)
          obtain ⟨z2, z3, z4⟩ := hqc k hlt
          rw [HX.out] at z2 z3 z4
          dsimp only at z2 z3 z4
          have hkn := hk
          clear hlc hrr htc hqc hk
          have hk := Below.refl V.heap.size V
          go_wp2_with (first | ((with_reducible refine Calmly.is_fl ?_); refine Calmly.mix_fl rfl ?_ (fun _ _ => ?_); (first | exact .move _ | exact .load _ _ | exact .fieldAddr _ _ _ (by kernel_rfl) | exact .assign _ | exact .binOp _ _ _ _ _ rfl | exact .indexAddr _ _ _ | exact .len _ _ (by kernel_rfl) | exact .field _ _ _ | exact .extract _ _ | exact .pick _ _ _ | exact .build _ _ | exact .slice _ _ _ _ _ | exact .unOp _ _ _ rfl | exact .index _ _ _ | exact .max _ _ _ rfl rfl | exact .min _ _ _ rfl rfl | exact .nilCheck _ _ rfl)) | ((with_reducible refine Calmly.is_gl ?_); refine Calmly.mix_gl rfl rfl rfl ?_; first | ((first | with_reducible refine Calmly.gl_tt ?_ (fun _ _ => ?_) | with_reducible refine Calmly.gl_ff ?_ (fun _ _ => ?_)); (first | exact .move _ | exact .load _ _ | exact .fieldAddr _ _ _ (by kernel_rfl) | exact .assign _ | exact .binOp _ _ _ _ _ rfl | exact .indexAddr _ _ _ | exact .len _ _ (by kernel_rfl) | exact .field _ _ _ | exact .extract _ _ | exact .pick _ _ _ | exact .build _ _ | exact .slice _ _ _ _ _ | exact .unOp _ _ _ rfl | exact .index _ _ _ | exact .max _ _ _ rfl rfl | exact .min _ _ _ rfl rfl | exact .nilCheck _ _ rfl)) | with_reducible refine Calmly.gl_tf (fun _ _ => ?_) | with_reducible refine Calmly.gl_ft (fun _ _ => ?_)) | ((with_reducible refine Calmly.is_eff ?_); refine Calmly.mix_eff rfl (fun _ _ => ?_)) | ((with_reducible refine Calmly.is_gf ?_); refine Calmly.mix_gf rfl rfl rfl ?_; first | with_reducible refine Calmly.gf_tt (fun _ _ => ?_) | with_reducible refine Calmly.gf_ff (fun _ _ => ?_) | with_reducible refine Calmly.gf_tf (kept_of hk) (fun _ _ => ?_) | with_reducible refine Calmly.gf_ft (kept_of hk) (fun _ _ => ?_)) | ((with_reducible refine Calmly.is_tail ?_); first | refine Calmly.mix_tail_nil ?_ | refine Calmly.mix_tail rfl (fun _ _ => ?_)) | ((with_reducible refine Calmly.is_kept ?_); refine ⟨kept_of hk, ?_⟩) | (with_reducible refine Calmly.mix_alt ?_ ?_))
          go_roundw
          case rel => exact ⟨1, 1, by omega, rfl, by go_num, (Below.heap_setCell _ _ _ _ hne2).trans y2, y4.other hne _, y5.set0 (A + mA), hb2.setCell (p := ⟨w.heap.size + 1 + 1, 0, none⟩) hw4 _⟩
          case measure => simp [intOf]
        · simp only [ad3] at y5
          obtain rfl : E = 1 := by simpa using hE
          clear hE he
          go_wp2_with fail
          refine Calmly.wp_region_mix 21 (.fl 0 <| .fl 1 <| .fl 2 <| .fl 3 <| .fl 4 <| .fl 5 <| .fl 6 <| .fl 7 <| .fl 8 <| .fl 9 <| .fl 10 <| .fl 11 <| .fl 12 <| .fl 13 <| .fl 14 <| .fl 15 <| .fl 16 <| .fl 17 <| .fl 18 <| .fl 19 <| .fl 20 <| .tail [21, 22]) (by kernel_rfl) (by kernel_rfl) ?_
          have BD : Below wr.heap.size wr wr.drew := (Below.refl _ _).drew
          replace y2 := blk_keep y2 BD
          replace y4 := y4.keep BD
          replace y5 := y5.keep BD
          replace hb2 := hb2.trans (BD.mono hb2.size)
          clear BD
          generalize wr.drew = V at *
          have f0 := cell_block y2 0
          have f1 := cell_block y2 1
          have g0 := cell_block y5.blk 1
          have g1 := frozen_block y5.blk 1
          have hrow := (h4.keep hb2).at_ i (by have := HLN.out; omega)
          rw [HTT.out] at hrow
          obtain ⟨lb, lo, rfl, hlc⟩ := (h4.keep hb2).row.at_ (by omega)
          have z0 := hlc i hi
          rw [Nat.mul_one] at z0
          obtain ⟨rr, hrr⟩ : ∃ rr, raw[i]?.getD lsr0 = rr := ⟨_, rfl⟩
          obtain ⟨u1, u2, u3⟩ := rr
          rw [hrr] at z0 hrow
          dsimp only [hv] at z0 hrow
          have hu2 : qn = u2 := by rw [hrow.len, HL.out]
          subst hu2
          have hm3 := hrow.max
          have hc3 := hrow.cap
          obtain ⟨tb, to, rfl, htc⟩ := hrow.at_ (by omega)
          have z1 := htc k hlt
          rw [HP.out] at z1
          obtain ⟨qb, qo, rfl, hqc⟩ := (h3.keep hb2).at_ (by omega)
          obtain ⟨z2, z3, z4⟩ := hqc k hlt
          rw [HX.out] at z2 z3 z4
          dsimp only at z2 z3 z4
          have hkn := hk
          clear hlc hrr htc hqc hk
          have hk := Below.refl V.heap.size V
          go_wp2_with (first | ((with_reducible refine Calmly.is_fl ?_); refine Calmly.mix_fl rfl ?_ (fun _ _ => ?_); (first | exact .move _ | exact .load _ _ | exact .fieldAddr _ _ _ (by kernel_rfl) | exact .assign _ | exact .binOp _ _ _ _ _ rfl | exact .indexAddr _ _ _ | exact .len _ _ (by kernel_rfl) | exact .field _ _ _ | exact .extract _ _ | exact .pick _ _ _ | exact .build _ _ | exact .slice _ _ _ _ _ | exact .unOp _ _ _ rfl | exact .index _ _ _ | exact .max _ _ _ rfl rfl | exact .min _ _ _ rfl rfl | exact .nilCheck _ _ rfl)) | ((with_reducible refine Calmly.is_gl ?_); refine Calmly.mix_gl rfl rfl rfl ?_; first | ((first | with_reducible refine Calmly.gl_tt ?_ (fun _ _ => ?_) | with_reducible refine Calmly.gl_ff ?_ (fun _ _ => ?_)); (first | exact .move _ | exact .load _ _ | exact .fieldAddr _ _ _ (by kernel_rfl) | exact .assign _ | exact .binOp _ _ _ _ _ rfl | exact .indexAddr _ _ _ | exact .len _ _ (by kernel_rfl) | exact .field _ _ _ | exact .extract _ _ | exact .pick _ _ _ | exact .build _ _ | exact .slice _ _ _ _ _ | exact .unOp _ _ _ rfl | exact .index _ _ _ | exact .max _ _ _ rfl rfl | exact .min _ _ _ rfl rfl | exact .nilCheck _ _ rfl)) | with_reducible refine Calmly.gl_tf (fun _ _ => ?_) | with_reducible refine Calmly.gl_ft (fun _ _ => ?_)) | ((with_reducible refine Calmly.is_eff ?_); refine Calmly.mix_eff rfl (fun _ _ => ?_)) | ((with_reducible refine Calmly.is_gf ?_); refine Calmly.mix_gf rfl rfl rfl ?_; first | with_reducible refine Calmly.gf_tt (fun _ _ => ?_) | with_reducible refine Calmly.gf_ff (fun _ _ => ?_) | with_reducible refine Calmly.gf_tf (kept_of hk) (fun _ _ => ?_) | with_reducible refine Calmly.gf_ft (kept_of hk) (fun _ _ => ?_)) | ((with_reducible refine Calmly.is_tail ?_); first | refine Calmly.mix_tail_nil ?_ | refine Calmly.mix_tail rfl (fun _ _ => ?_)) | ((with_reducible refine Calmly.is_kept ?_); refine ⟨kept_of hk, ?_⟩) | (with_reducible refine Calmly.mix_alt ?_ ?_))
          go_roundw
          case rel => exact ⟨2, 2, by omega, rfl, by go_num, (Below.heap_setCell _ _ _ _ hne2).trans y2, y4.other hne _, y5.set1 (B + mB), hb2.setCell (p := ⟨w.heap.size + 1 + 1, 1, none⟩) hw4 _⟩
          case measure => simp [intOf]
        · simp only [ad3] at y5
          obtain rfl : E = 2 := by simpa using hE
          clear hE he
          go_wp2_with fail
          refine Calmly.wp_region_mix 21 (.fl 0 <| .fl 1 <| .fl 2 <| .fl 3 <| .fl 4 <| .fl 5 <| .fl 6 <| .fl 7 <| .fl 8 <| .fl 9 <| .fl 10 <| .fl 11 <| .fl 12 <| .fl 13 <| .fl 14 <| .fl 15 <| .fl 16 <| .fl 17 <| .fl 18 <| .fl 19 <| .fl 20 <| .tail [21, 22]) (by kernel_rfl) (by kernel_rfl) ?_
          have BD : Below wr.heap.size wr wr.drew := (Below.refl _ _).drew
          replace y2 := blk_keep y2 BD
          replace y4 := y4.keep BD
          replace y5 := y5.keep BD
          replace hb2 := hb2.trans (BD.mono hb2.size)
          clear BD
          generalize wr.drew = V at *
          have f0 := cell_block y2 0
          have f1 := cell_block y2 1
          have g0 := cell_block y5.blk 2
          have g1 := frozen_block y5.blk 2
          have hrow := (h4.keep hb2).at_ i (by have := HLN.out; omega)
          rw [HTT.out] at hrow
          obtain ⟨lb, lo, rfl, hlc⟩ := (h4.keep hb2).row.at_ (by omega)
          have z0 := hlc i hi
          rw [Nat.mul_one] at z0
          obtain ⟨rr, hrr⟩ : ∃ rr, raw[i]?.getD lsr0 = rr := ⟨_, rfl⟩
          obtain ⟨u1, u2, u3⟩ := rr
          rw [hrr] at z0 hrow
          dsimp only [hv] at z0 hrow
          have hu2 : qn = u2 := by rw [hrow.len, HL.out]
          subst hu2
          have hm3 := hrow.max
          have hc3 := hrow.cap
          obtain ⟨tb, to, rfl, htc⟩ := hrow.at_ (by omega)
          have z1 := htc k hlt
          rw [HP.out] at z1
          obtain ⟨qb, qo, rfl, hqc⟩ := (h3.keep hb2).at_ (by omega)
          obtain ⟨z2, z3, z4⟩ := hqc k hlt
          rw [HX.out] at z2 z3 z4
          dsimp only at z2 z3 z4
          have hkn := hk
          clear hlc hrr htc hqc hk
          have hk := Below.refl V.heap.size V
          go_wp2_with (first | ((with_reducible refine Calmly.is_fl ?_); refine Calmly.mix_fl rfl ?_ (fun _ _ => ?_); (first | exact .move _ | exact .load _ _ | exact .fieldAddr _ _ _ (by kernel_rfl) | exact .assign _ | exact .binOp _ _ _ _ _ rfl | exact .indexAddr _ _ _ | exact .len _ _ (by kernel_rfl) | exact .field _ _ _ | exact .extract _ _ | exact .pick _ _ _ | exact .build _ _ | exact .slice _ _ _ _ _ | exact .unOp _ _ _ rfl | exact .index _ _ _ | exact .max _ _ _ rfl rfl | exact .min _ _ _ rfl rfl | exact .nilCheck _ _ rfl)) | ((with_reducible refine Calmly.is_gl ?_); refine Calmly.mix_gl rfl rfl rfl ?_; first | ((first | with_reducible refine Calmly.gl_tt ?_ (fun _ _ => ?_) | with_reducible refine Calmly.gl_ff ?_ (fun _ _ => ?_)); (first | exact .move _ | exact .load _ _ | exact .fieldAddr _ _ _ (by kernel_rfl) | exact .assign _ | exact .binOp _ _ _ _ _ rfl | exact .indexAddr _ _ _ | exact .len _ _ (by kernel_rfl) | exact .field _ _ _ | exact .extract _ _ | exact .pick _ _ _ | exact .build _ _ | exact .slice _ _ _ _ _ | exact .unOp _ _ _ rfl | exact .index _ _ _ | exact .max _ _ _ rfl rfl | exact .min _ _ _ rfl rfl | exact .nilCheck _ _ rfl)) | with_reducible refine Calmly.gl_tf (fun _ _ => ?_) | with_reducible refine Calmly.gl_ft (fun _ _ => ?_)) | ((with_reducible refine Calmly.is_eff ?_); refine Calmly.mix_eff rfl (fun _ _ => ?_)) | ((with_reducible refine Calmly.is_gf ?_); refine Calmly.mix_gf rfl rfl rfl ?_; first | with_reducible refine Calmly.gf_tt (fun _ _ => ?_) | with_reducible refine Calmly.gf_ff (fun _ _ => ?_) | with_reducible refine Calmly.gf_tf (kept_of hk) (fun _ _ => ?_) | with_reducible refine Calmly.gf_ft (kept_of hk) (fun _ _ => ?_)) | ((with_reducible refine Calmly.is_tail ?_); first | refine Calmly.mix_tail_nil ?_ | refine Calmly.mix_tail rfl (fun _ _ => ?_)) | ((with_reducible refine Calmly.is_kept ?_); refine ⟨kept_of hk, ?_⟩) | (with_reducible refine Calmly.mix_alt ?_ ?_))
          go_roundw
          case rel => exact ⟨3, 3, by omega, rfl, by go_num, (Below.heap_setCell _ _ _ _ hne2).trans y2, y4.other hne _, y5.set2 (C + mC), hb2.setCell (p := ⟨w.heap.size + 1 + 1, 2, none⟩) hw4 _⟩
          case measure => simp [intOf]
        · simp only [ad3] at y5
          obtain rfl : E = 3 := by simpa using hE
          clear hE he
          go_wp2_with fail
          go_roundw
          case rel => exact ⟨k + 1, by omega, by go_num, y2, y4, by rw [SA.out, SB.out, SC.out]; exact y5, hb2⟩
          case measure => simp [intOf]; omega
    · obtain rfl : qn = k := by omega
      have hle : ¬ (qn : Int) < (qn : Int) := by omega
      have hS : exS qs t = (exA (·.1) qs t qn, exA (·.2.1) qs t qn, exA (·.2.2) qs t qn) := by rw [exS, HQ.out]
      generalize exA (·.1) qs t qn = A at *
      generalize exA (·.2.1) qs t qn = B at *
      generalize exA (·.2.2) qs t qn = C at *
      have HSS := Lib.hid hS
      have g0 := cell_block y5.blk 0
      have g1 := cell_block y5.blk 1
      have g2 := cell_block y5.blk 2
      have e0 := cell_block y4.blk 0
      have e1 := cell_block y4.blk 1
      have e2 := cell_block y4.blk 2
      have e3 := frozen_block y4.blk 0
      have e4 := frozen_block y4.blk 1
      have e5 := frozen_block y4.blk 2
      clear hlt hk hS
      go_wp2_with fail
      have q0 := ((y4.set0 A).set1 B).set2 C
      have d0 := cell_block q0.blk 0
      have d1 := cell_block q0.blk 1
      have d2 := cell_block q0.blk 2
      have hw : w.heap.size ≤ w.heap.size + 1 := by omega
      have B4 := ((hb.setCell (p := ⟨w.heap.size + 1, 0, none⟩) hw (.int .i64 A)).setCell (p := ⟨w.heap.size + 1, 1, none⟩) hw (.int .i64 B)).setCell (p := ⟨w.heap.size + 1, 2, none⟩) hw (.int .i64 C)
      refine bodyPost_ret (v := .agg #[.int .i64 A, .int .i64 B, .int .i64 C]) (by simp [results, Tryz.results51, go_sem, d0, d1, d2]) rfl ⟨by rw [HSS.out], B4⟩
/-- The error of quantities, with how many there are. -/
def quE (l : List QuR) : Int := if 8 < l.length then 8 else (qsE l).2
set_option maxRecDepth 100000 in
set_option maxHeartbeats 2000000 in
theorem rQuantitiesErr_any (a : Option Addr) (n c : Nat) (l : List QuR) (w : World) (h1 : SQuR w a n c l) :
    Calls Tryz.prog 13 #[.slice a n c] w fun e w' => e = .returned (.int .i64 (quE l)) ∧ Below w.heap.size w w' := by
  have hln := h1.len
  have m1 := h1.max
  have c1 := h1.cap
  by_cases h8 : 8 < n
  · have b1 : (8 : Int) < (n : Int) := by omega
    have hR : quE l = 8 := by rw [quE, if_pos (by omega)]
    rw [hR]
    clear hR hln h8
    go_enter Tryz.func13, Tryz.ntmps13
    go_wp2_with fail
    go_ret
    exact ⟨rfl, Below.refl _ _⟩
  · have b1 : ¬ (8 : Int) < (n : Int) := by omega
    have hR : quE l = (eaF (fun i => qt3 (l[i]?.getD qur0)) 0 n).2 := by rw [quE, if_neg (by omega), qsE, ← hln]
    obtain ⟨I, E, hE⟩ : ∃ I E, eaF (fun i => qt3 (l[i]?.getD qur0)) 0 n = (I, E) := ⟨_, _, rfl⟩
    rw [hR, hE]
    have HR := Lib.hid (show eaF (fun i => qt3 (l[i]?.getD qur0)) 0 (n - 0) = (I, E) from hE)
    clear hR hln hE h8
    go_enter Tryz.func13, Tryz.ntmps13
    go_wp2_with fail
    go_loopw [3] (fun i wr => ∃ k : Nat, k ≤ n ∧ i = .int .i64 k ∧ eaF (fun i => qt3 (l[i]?.getD qur0)) k (n - k) = (I, E) ∧ Below w.heap.size w wr) (fun i _ => n - (intOf i).toNat)
    case atStart => exact ⟨0, by omega, rfl, HR.out, Below.refl _ _⟩
    case round =>
      obtain ⟨k, hk, rfl, ht, hb⟩ := hrel
      have HT := Lib.hid ht
      clear ht
      by_cases hlt : k < n
      · obtain ⟨b1', o1, rfl, hc1⟩ := (h1.keep hb).at_ (by omega)
        obtain ⟨p0, p1, p2⟩ := hc1 k hlt
        have hi : (k : Int) < (n : Int) := by omega
        have hi0 : (0 : Int) ≤ (k : Int) := by omega
        obtain ⟨x, hxx⟩ : ∃ x, l[k]?.getD qur0 = x := ⟨_, rfl⟩
        have hrow : qt3 x ≠ 0 → E = qt3 x := fun h0 => by
          have := HT.out
          rw [eaF_bad (err := fun i => qt3 (l[i]?.getD qur0)) hlt (by rw [hxx]; exact h0)] at this
          have := congrArg Prod.snd this
          simp only at this
          rw [← this, hxx]
        have hgo : qt3 x = 0 → eaF (fun i => qt3 (l[i]?.getD qur0)) (k + 1) (n - (k + 1)) = (I, E) := fun h => (eaF_ok (err := fun i => qt3 (l[i]?.getD qur0)) hlt (by rw [hxx]; exact h)).symm.trans HT.out
        rw [hxx] at p0 p1 p2
        obtain ⟨x0, x1, x2⟩ := x
        dsimp only at p0 p1 p2
        have hq3 : qt3 (x0, x1, x2) = qtyE x0 x1 x2 := rfl
        rw [hq3] at hrow hgo
        have HROW := Lib.hid hrow
        have HGO := Lib.hid hgo
        clear hc1 hxx hrow hgo hq3
        go_wp2_with fail
        refine (rQuantityErr_any x0 x1 x2 _).mono ?_
        rintro e w1 ⟨rfl, hs⟩
        replace hb := hb.trans (hs.mono hb.size)
        obtain ⟨S, hS⟩ : ∃ S, qtyE x0 x1 x2 = S := ⟨_, rfl⟩
        rw [hS]
        have HS := Lib.hid hS
        clear hS hs
        by_cases hz : S = 0
        · have he := HGO.out (HS.out.trans hz)
          have HE := Lib.hid he
          subst hz
          clear he
          go_wp2_with fail
          go_roundw
          case rel => exact ⟨k + 1, by omega, by go_num, HE.out, hb⟩
          case measure => simp [intOf]; omega
        · have b2 : (S != 0) = true := by simpa using hz
          have he := HROW.out (by rw [HS.out]; exact hz)
          have HE := Lib.hid he
          clear hz he
          go_wp2_with fail
          go_ret
          exact ⟨ret_int (by rw [HE.out, HS.out]), hb⟩
      · obtain rfl : n = k := by omega
        have hle : ¬ (n : Int) < (n : Int) := by omega
        have he : E = 0 := by
          have := HT.out
          rw [eaF_end (Nat.le_refl _)] at this
          exact (congrArg Prod.snd this).symm
        have HE := Lib.hid he
        clear hlt hk he
        go_wp2_with fail
        go_ret
        exact ⟨ret_int HE.out.symm, hb⟩
end Go.Proofs.YtaiikekgckjdeaaGreat
