/- The reference's CheckLaw. Ranks of quantities: plain; cross. Printed by gen_y7.py. -/
import Derived.Test.YtaiikekgckjdeaaGreatK21
namespace Go.Proofs.YtaiikekgckjdeaaGreat
open Go.RowKit
attribute [local go_sem] Oper.semAt_some eq3
open Calmly (Kept)
set_option maxRecDepth 100000 in
set_option maxHeartbeats 8000000 in
theorem rCheckLaw_any (qa la : Option Addr) (qn qc ln lc : Nat) (raw : List LsR) (ts : List (List Int)) (qs : List QuR) (w : World) (h3 : SQuR w qa qn qc qs) (h4 : LlV w la ln lc raw ts) :
    Calls Tryz.prog 12 #[.agg #[.slice qa qn qc, .slice la ln lc]] w fun e w' => e = .returned (.tuple #[.int .i64 (lawE qs ts).1, .int .i64 (lawE qs ts).2]) ∧ Below w.heap.size w w' := by
  have hq := h3.len
  have hl := h4.n_
  have m1 := h3.max
  have c1 := h3.cap
  have m2 := h4.row.max
  have c2 := h4.row.cap
  have hL : lawE qs ts = if 8 < qn then (0, 8) else if (qsE qs).2 ≠ 0 then qsE qs else if lwH ln ≠ 0 then (0, lwH ln) else if (tsE qn ts).2 ≠ 0 then tsE qn ts else clE qs ts := by rw [lawE, hq, hl]
  obtain ⟨L1, L2, hL12⟩ : ∃ x y, lawE qs ts = (x, y) := ⟨_, _, rfl⟩
  rw [hL12] at hL
  rw [hL12]
  dsimp only
  have HL := Lib.hid hL
  have HQ := Lib.hid hq
  have HLN := Lib.hid hl
  clear hL hL12 hq hl
  have y0 := alloc_new w (.cells #[.slice qa qn qc, .slice la ln lc] 25)
  have BW : Below w.heap.size w (w.alloc (.cells #[.slice qa qn qc, .slice la ln lc] 25)) := (Below.refl _ _).alloc (Nat.le_refl _) _
  have f0 := cell_block y0 0
  by_cases h8 : 8 < qn
  · have b1 : (8 : Int) < (qn : Int) := by omega
    have hR := HL.out
    rw [if_pos h8] at hR
    injection hR with e1 e2
    have E1 := Lib.hid e1
    have E2 := Lib.hid e2
    clear e1 e2 h8
    go_enter Tryz.func12, Tryz.ntmps12
    go_wp2_with fail
    refine bodyPost_ret (v := .tuple #[.int .i64 0, .int .i64 8]) (by simp [results, Tryz.results12]) rfl ⟨by rw [E1.out, E2.out], BW⟩
  have b1 : ¬ (8 : Int) < (qn : Int) := by omega
  have hR := HL.out
  rw [if_neg h8] at hR
  have HL2 := Lib.hid hR
  have hq8 : qn ≤ 8 := by omega
  clear hR HL h8
  obtain ⟨QI, QE, hQ⟩ : ∃ x y, qsE qs = (x, y) := ⟨_, _, rfl⟩
  have HQE := Lib.hid hQ
  have hqe : eaF (fun i => qt3 (qs[i]?.getD qur0)) 0 (qn - 0) = (QI, QE) := by rw [← hQ, qsE, HQ.out]; rfl
  have HQA := Lib.hid hqe
  clear hQ hqe
  go_enter Tryz.func12, Tryz.ntmps12
  go_wp2_with fail
  generalize w.alloc (.cells #[.slice qa qn qc, .slice la ln lc] 25) = W at *
  clear f0
  go_loopw [4] (fun i wr => ∃ k : Nat, k ≤ qn ∧ i = .int .i64 k ∧ eaF (fun i => qt3 (qs[i]?.getD qur0)) k (qn - k) = (QI, QE) ∧ wr.heap[w.heap.size]? = some (.cells #[.slice qa qn qc, .slice la ln lc] 25) ∧ Below w.heap.size w wr) (fun i _ => qn - (intOf i).toNat)
  case atStart => exact ⟨0, by omega, rfl, HQA.out, y0, BW⟩
  case round =>
    clear y0 BW
    obtain ⟨k, hk, rfl, ht, y0, hb⟩ := hrel
    have HT := Lib.hid ht
    clear ht
    have f0 := cell_block y0 0
    have f1 := cell_block y0 1
    by_cases hlt : k < qn
    · obtain ⟨b1', o1, rfl, hc1⟩ := (h3.keep hb).at_ (by omega)
      obtain ⟨p0, p1, p2⟩ := hc1 k hlt
      have hi : (k : Int) < (qn : Int) := by omega
      have hi0 : (0 : Int) ≤ (k : Int) := by omega
      obtain ⟨x, hxx⟩ : ∃ x, qs[k]?.getD qur0 = x := ⟨_, rfl⟩
      have hrow : qt3 x ≠ 0 → (QI, QE) = ((k : Int), qt3 x) := fun h0 => by
        rw [← HT.out, eaF_bad (err := fun i => qt3 (qs[i]?.getD qur0)) hlt (by rw [hxx]; exact h0), hxx]
      have hgo : qt3 x = 0 → eaF (fun i => qt3 (qs[i]?.getD qur0)) (k + 1) (qn - (k + 1)) = (QI, QE) := fun h => (eaF_ok (err := fun i => qt3 (qs[i]?.getD qur0)) hlt (by rw [hxx]; exact h)).symm.trans HT.out
      rw [hxx] at p0 p1 p2
      obtain ⟨x0, x1, x2⟩ := x
      dsimp only at p0 p1 p2
      have hq3 : qt3 (x0, x1, x2) = qtyE x0 x1 x2 := rfl
      rw [hq3] at hrow hgo
      have HROW := Lib.hid hrow
      have HGO := Lib.hid hgo
      clear hc1 hxx hrow hgo hq3
      go_wp2_with fail
      refine (rQuantityErr_any x0 x1 x2 _).mono ?_
      rintro e w1 ⟨rfl, hs⟩
      replace hb := hb.trans (hs.mono hb.size)
      replace y0 := blk_keep y0 hs
      obtain ⟨S, hS⟩ : ∃ S, qtyE x0 x1 x2 = S := ⟨_, rfl⟩
      rw [hS]
      have HS := Lib.hid hS
      clear hS hs f0 f1
      by_cases hz : S = 0
      · have he := HGO.out (HS.out.trans hz)
        have HE := Lib.hid he
        subst hz
        clear he
        go_wp2_with fail
        go_roundw
        case rel => exact ⟨k + 1, by omega, by go_num, HE.out, y0, hb⟩
        case measure => simp [intOf]; omega
      · have b2 : (S != 0) = true := by simpa using hz
        have hro := HROW.out (by rw [HS.out]; exact hz)
        rw [HS.out] at hro
        injection hro with e1 e2
        have hR := HL2.out
        rw [HQE.out, if_pos (by show QE ≠ 0; rw [e2]; exact hz)] at hR
        injection hR with e3 e4
        have E1 := Lib.hid (e3.trans e1)
        have E2 := Lib.hid (e4.trans e2)
        clear hz e1 e2 e3 e4
        go_wp2_with fail
        refine bodyPost_ret (v := .tuple #[.int .i64 (k : Int), .int .i64 S]) (by simp [results, Tryz.results12]) rfl ⟨by rw [E1.out, E2.out], hb⟩
    · obtain rfl : qn = k := by omega
      have hle : ¬ (qn : Int) < (qn : Int) := by omega
      have he : QE = 0 := by
        have := HT.out
        rw [eaF_end (Nat.le_refl _)] at this
        exact (congrArg Prod.snd this).symm
      subst he
      have hR := HL2.out
      rw [if_neg (by rw [HQE.out]; simp)] at hR
      have HL3 := Lib.hid hR
      clear hlt hk HL2 hR HT
      by_cases hl0 : ln = 0
      · have b2 : ((ln : Int) == 0) = true := by simp [hl0]
        have hH : lwH ln = 10 := by rw [hl0]; rfl
        have hR := HL3.out
        rw [hH, if_pos (by decide)] at hR
        injection hR with e1 e2
        have E1 := Lib.hid e1
        have E2 := Lib.hid e2
        clear e1 e2 hl0 hH
        go_wp2_with fail
        refine bodyPost_ret (v := .tuple #[.int .i64 0, .int .i64 10]) (by simp [results, Tryz.results12]) rfl ⟨by rw [E1.out, E2.out], hb⟩
      have b2 : ((ln : Int) == 0) = false := by simp; omega
      by_cases hl8 : 8 < ln
      · have b3 : (8 : Int) < (ln : Int) := by omega
        have hH : lwH ln = 8 := by
          unfold lwH firstE unlessE
          simp [show 0 < ln by omega, show ¬ (ln : Int) ≤ 8 by omega, firstE]
        have hR := HL3.out
        rw [hH, if_pos (by decide)] at hR
        injection hR with e1 e2
        have E1 := Lib.hid e1
        have E2 := Lib.hid e2
        clear e1 e2 hl0 hH hl8
        go_wp2_with fail
        refine bodyPost_ret (v := .tuple #[.int .i64 0, .int .i64 8]) (by simp [results, Tryz.results12]) rfl ⟨by rw [E1.out, E2.out], hb⟩
      have b3 : ¬ (8 : Int) < (ln : Int) := by omega
      have hln0 : 0 < ln := by omega
      have hH : lwH ln = 0 := by
        unfold lwH firstE unlessE
        simp [show 0 < ln by omega, show (ln : Int) ≤ 8 by omega, firstE]
      have hR := HL3.out
      rw [hH, if_neg (by simp)] at hR
      have HL4 := Lib.hid hR
      clear hR HL3 hH hl0 hl8
      obtain ⟨TI, TE, hT⟩ : ∃ x y, tsE qn ts = (x, y) := ⟨_, _, rfl⟩
      have HTE := Lib.hid hT
      have hte : eaF (fun i => teE qn (ts[i]?.getD [])) 0 (ln - 0) = (TI, TE) := by rw [← hT, tsE, HLN.out]; rfl
      have HTA := Lib.hid hte
      clear hT hte
      go_wp2_with fail
      clear f0 f1
      generalize wr = W at *
      go_loopw [6] (fun i wr => ∃ k : Nat, k ≤ ln ∧ i = .int .i64 k ∧ eaF (fun i => teE qn (ts[i]?.getD [])) k (ln - k) = (TI, TE) ∧ wr.heap[w.heap.size]? = some (.cells #[.slice qa qn qc, .slice la ln lc] 25) ∧ Below w.heap.size w wr) (fun i _ => ln - (intOf i).toNat)
      case atStart => exact ⟨0, by omega, rfl, HTA.out, y0, hb⟩
      case round =>
        clear y0 hb
        obtain ⟨k, hk, rfl, ht, y0, hb⟩ := hrel
        have HT := Lib.hid ht
        clear ht
        have f0 := cell_block y0 0
        have f1 := cell_block y0 1
        by_cases hlt : k < ln
        · have hi : (k : Int) < (ln : Int) := by omega
          have hi0 : (0 : Int) ≤ (k : Int) := by omega
          obtain ⟨t, htt⟩ : ∃ t, ts[k]?.getD [] = t := ⟨_, rfl⟩
          have hrow : teE qn t ≠ 0 → (TI, TE) = ((k : Int), teE qn t) := fun h0 => by
            rw [← HT.out, eaF_bad (err := fun i => teE qn (ts[i]?.getD [])) hlt (by rw [htt]; exact h0), htt]
          have hgo : teE qn t = 0 → eaF (fun i => teE qn (ts[i]?.getD [])) (k + 1) (ln - (k + 1)) = (TI, TE) := fun h => (eaF_ok (err := fun i => teE qn (ts[i]?.getD [])) hlt (by rw [htt]; exact h)).symm.trans HT.out
          have HROW := Lib.hid hrow
          have HGO := Lib.hid hgo
          have HTT := Lib.hid htt
          clear hrow hgo htt
          go_wp2_with fail
          refine Calmly.wp_region_mix 9 (.fl 0 <| .fl 1 <| .fl 2 <| .fl 3 <| .fl 4 <| .fl 5 <| .fl 6 <| .fl 7 <| .fl 8 <| .tail [9]) (by kernel_rfl) (by kernel_rfl) ?_
          have BD : Below wr.heap.size wr wr.drew := (Below.refl _ _).drew
          replace y0 := blk_keep y0 BD
          replace hb := hb.trans (BD.mono hb.size)
          clear BD f0 f1
          generalize wr.drew = V at *
          have f0 := cell_block y0 0
          have f1 := cell_block y0 1
          have hrw := (h4.keep hb).at_ k (by have := HLN.out; omega)
          rw [HTT.out] at hrw
          obtain ⟨lb, lo, rfl, hlc⟩ := (h4.keep hb).row.at_ (by omega)
          have z0 := hlc k hlt
          rw [Nat.mul_one] at z0
          obtain ⟨rr, hrr⟩ : ∃ rr, raw[k]?.getD lsr0 = rr := ⟨_, rfl⟩
          obtain ⟨v1, v2, v3⟩ := rr
          rw [hrr] at z0 hrw
          dsimp only [hv] at z0 hrw
          have hv2 := hrw.len
          have hm3 := hrw.max
          have hc3 := hrw.cap
          have hteE : teE qn t = firstE [unlessE ((v2 : Int) == (qn : Int)) 10, unlessE (exB t v2) 2] := by rw [teE, hv2]
          have HTEE := Lib.hid hteE
          have HRR := Lib.hid hrr
          have hkn := hk
          clear hlc hrr hv2 hk hteE
          have hk := Below.refl V.heap.size V
          by_cases hlen : qn = v2
          · subst hlen
            have b4 : ((qn : Int) != (qn : Int)) = false := by simp
            go_wp2_with (first | ((with_reducible refine Calmly.is_fl ?_); refine Calmly.mix_fl rfl ?_ (fun _ _ => ?_); (first | exact .move _ | exact .load _ _ | exact .fieldAddr _ _ _ (by kernel_rfl) | exact .assign _ | exact .binOp _ _ _ _ _ rfl | exact .indexAddr _ _ _ | exact .len _ _ (by kernel_rfl) | exact .field _ _ _ | exact .extract _ _ | exact .pick _ _ _ | exact .build _ _ | exact .slice _ _ _ _ _ | exact .unOp _ _ _ rfl | exact .index _ _ _ | exact .max _ _ _ rfl rfl | exact .min _ _ _ rfl rfl | exact .nilCheck _ _ rfl)) | ((with_reducible refine Calmly.is_gl ?_); refine Calmly.mix_gl rfl rfl rfl ?_; first | ((first | with_reducible refine Calmly.gl_tt ?_ (fun _ _ => ?_) | with_reducible refine Calmly.gl_ff ?_ (fun _ _ => ?_)); (first | exact .move _ | exact .load _ _ | exact .fieldAddr _ _ _ (by kernel_rfl) | exact .assign _ | exact .binOp _ _ _ _ _ rfl | exact .indexAddr _ _ _ | exact .len _ _ (by kernel_rfl) | exact .field _ _ _ | exact .extract _ _ | exact .pick _ _ _ | exact .build _ _ | exact .slice _ _ _ _ _ | exact .unOp _ _ _ rfl | exact .index _ _ _ | exact .max _ _ _ rfl rfl | exact .min _ _ _ rfl rfl | exact .nilCheck _ _ rfl)) | with_reducible refine Calmly.gl_tf (fun _ _ => ?_) | with_reducible refine Calmly.gl_ft (fun _ _ => ?_)) | ((with_reducible refine Calmly.is_eff ?_); refine Calmly.mix_eff rfl (fun _ _ => ?_)) | ((with_reducible refine Calmly.is_gf ?_); refine Calmly.mix_gf rfl rfl rfl ?_; first | with_reducible refine Calmly.gf_tt (fun _ _ => ?_) | with_reducible refine Calmly.gf_ff (fun _ _ => ?_) | with_reducible refine Calmly.gf_tf (kept_of hk) (fun _ _ => ?_) | with_reducible refine Calmly.gf_ft (kept_of hk) (fun _ _ => ?_)) | ((with_reducible refine Calmly.is_tail ?_); first | refine Calmly.mix_tail_nil ?_ | refine Calmly.mix_tail rfl (fun _ _ => ?_)) | ((with_reducible refine Calmly.is_kept ?_); refine ⟨kept_of hk, ?_⟩) | (with_reducible refine Calmly.mix_alt ?_ ?_))
            clear hk z0
            go_loopw [7] (fun j wr => ∃ e : Nat, e ≤ qn ∧ j = .int .i64 e ∧ exB t e = true ∧ wr.heap[w.heap.size]? = some (.cells #[.slice qa qn qc, .slice (some ⟨lb, lo, none⟩) ln lc] 25) ∧ Below w.heap.size w wr) (fun j _ => qn - (intOf j).toNat)
            case atStart => exact ⟨0, by omega, rfl, rfl, y0, hb⟩
            case round =>
              clear y0 f0 f1
              obtain ⟨e, he, rfl, hex, y0, hb2⟩ := hrel
              have HEX := Lib.hid hex
              clear hex
              have f0 := cell_block y0 0
              have f1 := cell_block y0 1
              obtain ⟨lb2, lo2, hll, hlc⟩ := (h4.keep hb2).row.at_ (by omega)
              injection hll with hll
              injection hll with e1 e2
              subst e1 e2
              have z0 := hlc k hlt
              rw [Nat.mul_one, HRR.out] at z0
              dsimp only [hv] at z0
              have hrw2 := (h4.keep hb2).at_ k (by have := HLN.out; omega)
              rw [HTT.out, HRR.out] at hrw2
              dsimp only at hrw2
              clear hlc
              by_cases hlt2 : e < qn
              · obtain ⟨tb, to, rfl, htc⟩ := hrw2.at_ (by omega)
                have z1 := htc e hlt2
                obtain ⟨x, hx⟩ : ∃ x, t[e]?.getD 0 = x := ⟨_, rfl⟩
                rw [hx] at z1
                have HX := Lib.hid hx
                have hj1 : (e : Int) < (qn : Int) := by omega
                have hj0 : (0 : Int) ≤ (e : Int) := by omega
                clear htc hx hrw2
                go_wp2_with fail
                refine (rIsExp_any x _).mono ?_
                rintro e1 w3 ⟨rfl, rfl⟩
                cases hs : szd x 4
                · have h2 : exB t qn = false := exB_no hlt2 (by rw [HX.out]; exact hs)
                  have hte2 : teE qn t = 2 := by rw [HTEE.out, h2]; simp [firstE, unlessE]
                  have hro := HROW.out (by rw [hte2]; decide)
                  rw [hte2] at hro
                  injection hro with e1 e2
                  have hR := HL4.out
                  rw [HTE.out, if_pos (by show TE ≠ 0; rw [e2]; decide)] at hR
                  injection hR with e3 e4
                  have E1 := Lib.hid (e3.trans e1)
                  have E2 := Lib.hid (e4.trans e2)
                  clear hs h2 hte2 e1 e2 e3 e4
                  go_wp2_with fail
                  refine bodyPost_ret (v := .tuple #[.int .i64 (k : Int), .int .i64 2]) (by simp [results, Tryz.results12]) rfl ⟨by rw [E1.out, E2.out], hb2⟩
                · have hex2 : exB t (e + 1) = true := by rw [exB, HEX.out, HX.out, hs]; rfl
                  have HE2 := Lib.hid hex2
                  clear hs hex2
                  go_wp2_with fail
                  go_roundw
                  case rel => exact ⟨e + 1, by omega, by go_num, HE2.out, y0, hb2⟩
                  case measure => simp [intOf]; omega
              · obtain rfl : qn = e := by omega
                have hle : ¬ (qn : Int) < (qn : Int) := by omega
                have hte0 : teE qn t = 0 := by rw [HTEE.out, HEX.out]; simp [firstE, unlessE]
                have he := HGO.out hte0
                have HE := Lib.hid he
                clear he hte0 hlt2
                go_wp2_with fail
                go_roundw
                case rel => exact ⟨k + 1, by omega, by go_num, HE.out, y0, hb2⟩
                case measure => simp [intOf]; omega
          · have b4 : ((v2 : Int) != (qn : Int)) = true := by simp; omega
            have b5 : ((v2 : Int) == (qn : Int)) = false := by simp; omega
            have hte2 : teE qn t = 10 := by rw [HTEE.out, b5]; simp [firstE, unlessE]
            have hro := HROW.out (by rw [hte2]; decide)
            rw [hte2] at hro
            injection hro with e1 e2
            have hR := HL4.out
            rw [HTE.out, if_pos (by show TE ≠ 0; rw [e2]; decide)] at hR
            injection hR with e3 e4
            have E1 := Lib.hid (e3.trans e1)
            have E2 := Lib.hid (e4.trans e2)
            clear hte2 e1 e2 e3 e4 b5 hlen
            go_wp2_with (first | ((with_reducible refine Calmly.is_fl ?_); refine Calmly.mix_fl rfl ?_ (fun _ _ => ?_); (first | exact .move _ | exact .load _ _ | exact .fieldAddr _ _ _ (by kernel_rfl) | exact .assign _ | exact .binOp _ _ _ _ _ rfl | exact .indexAddr _ _ _ | exact .len _ _ (by kernel_rfl) | exact .field _ _ _ | exact .extract _ _ | exact .pick _ _ _ | exact .build _ _ | exact .slice _ _ _ _ _ | exact .unOp _ _ _ rfl | exact .index _ _ _ | exact .max _ _ _ rfl rfl | exact .min _ _ _ rfl rfl | exact .nilCheck _ _ rfl)) | ((with_reducible refine Calmly.is_gl ?_); refine Calmly.mix_gl rfl rfl rfl ?_; first | ((first | with_reducible refine Calmly.gl_tt ?_ (fun _ _ => ?_) | with_reducible refine Calmly.gl_ff ?_ (fun _ _ => ?_)); (first | exact .move _ | exact .load _ _ | exact .fieldAddr _ _ _ (by kernel_rfl) | exact .assign _ | exact .binOp _ _ _ _ _ rfl | exact .indexAddr _ _ _ | exact .len _ _ (by kernel_rfl) | exact .field _ _ _ | exact .extract _ _ | exact .pick _ _ _ | exact .build _ _ | exact .slice _ _ _ _ _ | exact .unOp _ _ _ rfl | exact .index _ _ _ | exact .max _ _ _ rfl rfl | exact .min _ _ _ rfl rfl | exact .nilCheck _ _ rfl)) | with_reducible refine Calmly.gl_tf (fun _ _ => ?_) | with_reducible refine Calmly.gl_ft (fun _ _ => ?_)) | ((with_reducible refine Calmly.is_eff ?_); refine Calmly.mix_eff rfl (fun _ _ => ?_)) | ((with_reducible refine Calmly.is_gf ?_); refine Calmly.mix_gf rfl rfl rfl ?_; first | with_reducible refine Calmly.gf_tt (fun _ _ => ?_) | with_reducible refine Calmly.gf_ff (fun _ _ => ?_) | with_reducible refine Calmly.gf_tf (kept_of hk) (fun _ _ => ?_) | with_reducible refine Calmly.gf_ft (kept_of hk) (fun _ _ => ?_)) | ((with_reducible refine Calmly.is_tail ?_); first | refine Calmly.mix_tail_nil ?_ | refine Calmly.mix_tail rfl (fun _ _ => ?_)) | ((with_reducible refine Calmly.is_kept ?_); refine ⟨kept_of hk, ?_⟩) | (with_reducible refine Calmly.mix_alt ?_ ?_))
            refine bodyPost_ret (v := .tuple #[.int .i64 (k : Int), .int .i64 10]) (by simp [results, Tryz.results12]) rfl ⟨by rw [E1.out, E2.out], hb⟩
        · obtain rfl : ln = k := by omega
          have hle : ¬ (ln : Int) < (ln : Int) := by omega
          have he : TE = 0 := by
            have := HT.out
            rw [eaF_end (Nat.le_refl _)] at this
            exact (congrArg Prod.snd this).symm
          subst he
          have hR := HL4.out
          rw [if_neg (by rw [HTE.out]; simp)] at hR
          have hcl : eaF (fun i => unlessE (decide (exS qs (ts[i]?.getD []) = exS qs (ts[0]?.getD []))) 13) 0 (ln - 0) = (L1, L2) := by rw [hR, clE, HLN.out]; rfl
          have HCL := Lib.hid hcl
          have HTS := Lib.hid (show (tsE qn ts).2 = 0 by rw [HTE.out])
          have HQS := Lib.hid (show (qsE qs).2 = 0 by rw [HQE.out])
          clear hlt hk HL4 hR HT hcl
          go_wp2_with fail
          clear f0 f1
          generalize wr = W2 at *
          go_loopw [8] (fun i wr => ∃ k : Nat, k ≤ ln ∧ i = .int .i64 k ∧ eaF (fun i => unlessE (decide (exS qs (ts[i]?.getD []) = exS qs (ts[0]?.getD []))) 13) k (ln - k) = (L1, L2) ∧ wr.heap[w.heap.size]? = some (.cells #[.slice qa qn qc, .slice la ln lc] 25) ∧ Below w.heap.size w wr) (fun i _ => ln - (intOf i).toNat)
          case atStart => exact ⟨0, by omega, rfl, HCL.out, y0, hb⟩
          case round =>
            clear y0 hb
            obtain ⟨k, hk, rfl, ht, y0, hb⟩ := hrel
            have HT := Lib.hid ht
            clear ht
            have f0 := cell_block y0 0
            have f1 := cell_block y0 1
            by_cases hlt : k < ln
            · have hi : (k : Int) < (ln : Int) := by omega
              have hi0 : (0 : Int) ≤ (k : Int) := by omega
              obtain ⟨R, hRR⟩ : ∃ R, decide (exS qs (ts[k]?.getD []) = exS qs (ts[0]?.getD [])) = R := ⟨_, rfl⟩
              have hrow : R = false → (L1, L2) = ((k : Int), 13) := fun h0 => by
                rw [← HT.out, eaF_bad (err := fun i => unlessE (decide (exS qs (ts[i]?.getD []) = exS qs (ts[0]?.getD []))) 13) hlt (by rw [hRR, h0]; simp [unlessE]), hRR, h0]
                rfl
              have hgo : R = true → eaF (fun i => unlessE (decide (exS qs (ts[i]?.getD []) = exS qs (ts[0]?.getD []))) 13) (k + 1) (ln - (k + 1)) = (L1, L2) := fun h => (eaF_ok (err := fun i => unlessE (decide (exS qs (ts[i]?.getD []) = exS qs (ts[0]?.getD []))) 13) hlt (by rw [hRR, h]; simp [unlessE])).symm.trans HT.out
              have HROW := Lib.hid hrow
              have HGO := Lib.hid hgo
              have HRR := Lib.hid hRR
              have hk1 := tsE_ok HTS.out (i := k) (by have := HLN.out; omega)
              have hk2 := tsE_ok HTS.out (i := 0) (by have := HLN.out; omega)
              have HK1 := Lib.hid hk1
              have HK2 := Lib.hid hk2
              have hkn := hk
              clear hrow hgo hRR hk1 hk2 hk
              go_wp2_with fail
              refine Calmly.wp_region_mix 5 (.fl 0 <| .fl 1 <| .fl 3 <| .eff 2 <| .eff 4 <| .tail [5]) (by kernel_rfl) (by kernel_rfl) ?_
              have BD : Below wr.heap.size wr wr.drew := (Below.refl _ _).drew
              replace y0 := blk_keep y0 BD
              replace hb := hb.trans (BD.mono hb.size)
              clear BD f0 f1
              generalize wr.drew = V at *
              have f0 := cell_block y0 0
              have f1 := cell_block y0 1
              have hk := Below.refl V.heap.size V
              have g3 := h3.keep hb
              have g4 := h4.keep hb
              go_wp2_with (first | ((with_reducible refine Calmly.is_fl ?_); refine Calmly.mix_fl rfl ?_ (fun _ _ => ?_); (first | exact .move _ | exact .load _ _ | exact .fieldAddr _ _ _ (by kernel_rfl) | exact .assign _ | exact .binOp _ _ _ _ _ rfl | exact .indexAddr _ _ _ | exact .len _ _ (by kernel_rfl) | exact .field _ _ _ | exact .extract _ _ | exact .pick _ _ _ | exact .build _ _ | exact .slice _ _ _ _ _ | exact .unOp _ _ _ rfl | exact .index _ _ _ | exact .max _ _ _ rfl rfl | exact .min _ _ _ rfl rfl | exact .nilCheck _ _ rfl)) | ((with_reducible refine Calmly.is_gl ?_); refine Calmly.mix_gl rfl rfl rfl ?_; first | ((first | with_reducible refine Calmly.gl_tt ?_ (fun _ _ => ?_) | with_reducible refine Calmly.gl_ff ?_ (fun _ _ => ?_)); (first | exact .move _ | exact .load _ _ | exact .fieldAddr _ _ _ (by kernel_rfl) | exact .assign _ | exact .binOp _ _ _ _ _ rfl | exact .indexAddr _ _ _ | exact .len _ _ (by kernel_rfl) | exact .field _ _ _ | exact .extract _ _ | exact .pick _ _ _ | exact .build _ _ | exact .slice _ _ _ _ _ | exact .unOp _ _ _ rfl | exact .index _ _ _ | exact .max _ _ _ rfl rfl | exact .min _ _ _ rfl rfl | exact .nilCheck _ _ rfl)) | with_reducible refine Calmly.gl_tf (fun _ _ => ?_) | with_reducible refine Calmly.gl_ft (fun _ _ => ?_)) | ((with_reducible refine Calmly.is_eff ?_); refine Calmly.mix_eff rfl (fun _ _ => ?_)) | ((with_reducible refine Calmly.is_gf ?_); refine Calmly.mix_gf rfl rfl rfl ?_; first | with_reducible refine Calmly.gf_tt (fun _ _ => ?_) | with_reducible refine Calmly.gf_ff (fun _ _ => ?_) | with_reducible refine Calmly.gf_tf (kept_of hk) (fun _ _ => ?_) | with_reducible refine Calmly.gf_ft (kept_of hk) (fun _ _ => ?_)) | ((with_reducible refine Calmly.is_tail ?_); first | refine Calmly.mix_tail_nil ?_ | refine Calmly.mix_tail rfl (fun _ _ => ?_)) | ((with_reducible refine Calmly.is_kept ?_); refine ⟨kept_of hk, ?_⟩) | (with_reducible refine Calmly.mix_alt ?_ ?_))
              refine (rExponents_any qa la qn qc ln lc raw ts qs _ (g3.keep hk) (g4.keep hk) k _ rfl hlt hq8 HK1.out.1 HK1.out.2 HQS.out).mono ?_
              rintro e w3 ⟨rfl, hs⟩
              dsimp only
              replace hk := step_of hk hs
              obtain ⟨⟨A, B, C⟩, hABC⟩ : ∃ x, exS qs (ts[k]?.getD []) = x := ⟨_, rfl⟩
              rw [hABC]
              have HA1 := Lib.hid hABC
              dsimp only
              clear hABC hs
              go_wp2_with (first | ((with_reducible refine Calmly.is_fl ?_); refine Calmly.mix_fl rfl ?_ (fun _ _ => ?_); (first | exact .move _ | exact .load _ _ | exact .fieldAddr _ _ _ (by kernel_rfl) | exact .assign _ | exact .binOp _ _ _ _ _ rfl | exact .indexAddr _ _ _ | exact .len _ _ (by kernel_rfl) | exact .field _ _ _ | exact .extract _ _ | exact .pick _ _ _ | exact .build _ _ | exact .slice _ _ _ _ _ | exact .unOp _ _ _ rfl | exact .index _ _ _ | exact .max _ _ _ rfl rfl | exact .min _ _ _ rfl rfl | exact .nilCheck _ _ rfl)) | ((with_reducible refine Calmly.is_gl ?_); refine Calmly.mix_gl rfl rfl rfl ?_; first | ((first | with_reducible refine Calmly.gl_tt ?_ (fun _ _ => ?_) | with_reducible refine Calmly.gl_ff ?_ (fun _ _ => ?_)); (first | exact .move _ | exact .load _ _ | exact .fieldAddr _ _ _ (by kernel_rfl) | exact .assign _ | exact .binOp _ _ _ _ _ rfl | exact .indexAddr _ _ _ | exact .len _ _ (by kernel_rfl) | exact .field _ _ _ | exact .extract _ _ | exact .pick _ _ _ | exact .build _ _ | exact .slice _ _ _ _ _ | exact .unOp _ _ _ rfl | exact .index _ _ _ | exact .max _ _ _ rfl rfl | exact .min _ _ _ rfl rfl | exact .nilCheck _ _ rfl)) | with_reducible refine Calmly.gl_tf (fun _ _ => ?_) | with_reducible refine Calmly.gl_ft (fun _ _ => ?_)) | ((with_reducible refine Calmly.is_eff ?_); refine Calmly.mix_eff rfl (fun _ _ => ?_)) | ((with_reducible refine Calmly.is_gf ?_); refine Calmly.mix_gf rfl rfl rfl ?_; first | with_reducible refine Calmly.gf_tt (fun _ _ => ?_) | with_reducible refine Calmly.gf_ff (fun _ _ => ?_) | with_reducible refine Calmly.gf_tf (kept_of hk) (fun _ _ => ?_) | with_reducible refine Calmly.gf_ft (kept_of hk) (fun _ _ => ?_)) | ((with_reducible refine Calmly.is_tail ?_); first | refine Calmly.mix_tail_nil ?_ | refine Calmly.mix_tail rfl (fun _ _ => ?_)) | ((with_reducible refine Calmly.is_kept ?_); refine ⟨kept_of hk, ?_⟩) | (with_reducible refine Calmly.mix_alt ?_ ?_))
              refine (rExponents_any qa la qn qc ln lc raw ts qs _ (g3.keep hk) (g4.keep hk) 0 _ rfl hln0 hq8 HK2.out.1 HK2.out.2 HQS.out).mono ?_
              rintro e w4 ⟨rfl, hs⟩
              dsimp only
              replace hk := step_of hk hs
              obtain ⟨⟨A', B', C'⟩, hABC⟩ : ∃ x, exS qs (ts[0]?.getD []) = x := ⟨_, rfl⟩
              rw [hABC]
              have hR2 : R = decide ((A, B, C) = (A', B', C')) := by rw [← HRR.out]; simp only [HA1.out, hABC]
              have HR2 := Lib.hid hR2
              dsimp only
              replace y0 := blk_keep y0 hk
              replace hb := hb.trans (hk.mono hb.size)
              clear hABC hs hR2 f0 f1 g3 g4
              by_cases hq : A = A' ∧ B = B' ∧ C = C'
              · obtain ⟨rfl, rfl, rfl⟩ := hq
                have hE := HGO.out (by rw [HR2.out]; simp)
                have HE := Lib.hid hE
                clear hE
                go_wp2_with (first | ((with_reducible refine Calmly.is_fl ?_); refine Calmly.mix_fl rfl ?_ (fun _ _ => ?_); (first | exact .move _ | exact .load _ _ | exact .fieldAddr _ _ _ (by kernel_rfl) | exact .assign _ | exact .binOp _ _ _ _ _ rfl | exact .indexAddr _ _ _ | exact .len _ _ (by kernel_rfl) | exact .field _ _ _ | exact .extract _ _ | exact .pick _ _ _ | exact .build _ _ | exact .slice _ _ _ _ _ | exact .unOp _ _ _ rfl | exact .index _ _ _ | exact .max _ _ _ rfl rfl | exact .min _ _ _ rfl rfl | exact .nilCheck _ _ rfl)) | ((with_reducible refine Calmly.is_gl ?_); refine Calmly.mix_gl rfl rfl rfl ?_; first | ((first | with_reducible refine Calmly.gl_tt ?_ (fun _ _ => ?_) | with_reducible refine Calmly.gl_ff ?_ (fun _ _ => ?_)); (first | exact .move _ | exact .load _ _ | exact .fieldAddr _ _ _ (by kernel_rfl) | exact .assign _ | exact .binOp _ _ _ _ _ rfl | exact .indexAddr _ _ _ | exact .len _ _ (by kernel_rfl) | exact .field _ _ _ | exact .extract _ _ | exact .pick _ _ _ | exact .build _ _ | exact .slice _ _ _ _ _ | exact .unOp _ _ _ rfl | exact .index _ _ _ | exact .max _ _ _ rfl rfl | exact .min _ _ _ rfl rfl | exact .nilCheck _ _ rfl)) | with_reducible refine Calmly.gl_tf (fun _ _ => ?_) | with_reducible refine Calmly.gl_ft (fun _ _ => ?_)) | ((with_reducible refine Calmly.is_eff ?_); refine Calmly.mix_eff rfl (fun _ _ => ?_)) | ((with_reducible refine Calmly.is_gf ?_); refine Calmly.mix_gf rfl rfl rfl ?_; first | with_reducible refine Calmly.gf_tt (fun _ _ => ?_) | with_reducible refine Calmly.gf_ff (fun _ _ => ?_) | with_reducible refine Calmly.gf_tf (kept_of hk) (fun _ _ => ?_) | with_reducible refine Calmly.gf_ft (kept_of hk) (fun _ _ => ?_)) | ((with_reducible refine Calmly.is_tail ?_); first | refine Calmly.mix_tail_nil ?_ | refine Calmly.mix_tail rfl (fun _ _ => ?_)) | ((with_reducible refine Calmly.is_kept ?_); refine ⟨kept_of hk, ?_⟩) | (with_reducible refine Calmly.mix_alt ?_ ?_))
                go_roundw
                case rel => exact ⟨k + 1, by omega, by go_num, HE.out, y0, hb⟩
                case measure => simp [intOf]; omega
              · have hE := HROW.out (by rw [HR2.out]; simpa using hq)
                injection hE with e1 e2
                have E1 := Lib.hid e1
                have E2 := Lib.hid e2
                have hbq : (A == A' && B == B' && C == C') = false := by
                  cases h5 : (A == A' && B == B' && C == C')
                  · rfl
                  · simp at h5; exact absurd ⟨h5.1.1, h5.1.2, h5.2⟩ hq
                clear hq e1 e2
                go_wp2_with (first | ((with_reducible refine Calmly.is_fl ?_); refine Calmly.mix_fl rfl ?_ (fun _ _ => ?_); (first | exact .move _ | exact .load _ _ | exact .fieldAddr _ _ _ (by kernel_rfl) | exact .assign _ | exact .binOp _ _ _ _ _ rfl | exact .indexAddr _ _ _ | exact .len _ _ (by kernel_rfl) | exact .field _ _ _ | exact .extract _ _ | exact .pick _ _ _ | exact .build _ _ | exact .slice _ _ _ _ _ | exact .unOp _ _ _ rfl | exact .index _ _ _ | exact .max _ _ _ rfl rfl | exact .min _ _ _ rfl rfl | exact .nilCheck _ _ rfl)) | ((with_reducible refine Calmly.is_gl ?_); refine Calmly.mix_gl rfl rfl rfl ?_; first | ((first | with_reducible refine Calmly.gl_tt ?_ (fun _ _ => ?_) | with_reducible refine Calmly.gl_ff ?_ (fun _ _ => ?_)); (first | exact .move _ | exact .load _ _ | exact .fieldAddr _ _ _ (by kernel_rfl) | exact .assign _ | exact .binOp _ _ _ _ _ rfl | exact .indexAddr _ _ _ | exact .len _ _ (by kernel_rfl) | exact .field _ _ _ | exact .extract _ _ | exact .pick _ _ _ | exact .build _ _ | exact .slice _ _ _ _ _ | exact .unOp _ _ _ rfl | exact .index _ _ _ | exact .max _ _ _ rfl rfl | exact .min _ _ _ rfl rfl | exact .nilCheck _ _ rfl)) | with_reducible refine Calmly.gl_tf (fun _ _ => ?_) | with_reducible refine Calmly.gl_ft (fun _ _ => ?_)) | ((with_reducible refine Calmly.is_eff ?_); refine Calmly.mix_eff rfl (fun _ _ => ?_)) | ((with_reducible refine Calmly.is_gf ?_); refine Calmly.mix_gf rfl rfl rfl ?_; first | with_reducible refine Calmly.gf_tt (fun _ _ => ?_) | with_reducible refine Calmly.gf_ff (fun _ _ => ?_) | with_reducible refine Calmly.gf_tf (kept_of hk) (fun _ _ => ?_) | with_reducible refine Calmly.gf_ft (kept_of hk) (fun _ _ => ?_)) | ((with_reducible refine Calmly.is_tail ?_); first | refine Calmly.mix_tail_nil ?_ | refine Calmly.mix_tail rfl (fun _ _ => ?_)) | ((with_reducible refine Calmly.is_kept ?_); refine ⟨kept_of hk, ?_⟩) | (with_reducible refine Calmly.mix_alt ?_ ?_))
                all_goals refine bodyPost_ret (v := .tuple #[.int .i64 (k : Int), .int .i64 13]) (by simp [results, Tryz.results12]) rfl ⟨by rw [E1.out, E2.out], hb⟩
            · obtain rfl : ln = k := by omega
              have hle : ¬ (ln : Int) < (ln : Int) := by omega
              have hE := HT.out
              rw [eaF_end (Nat.le_refl _)] at hE
              injection hE with e1 e2
              have E1 := Lib.hid e1
              have E2 := Lib.hid e2
              clear hlt hk e1 e2
              go_wp2_with fail
              refine bodyPost_ret (v := .tuple #[.int .i64 0, .int .i64 0]) (by simp [results, Tryz.results12]) rfl ⟨by rw [← E1.out, ← E2.out], hb⟩
end Go.Proofs.YtaiikekgckjdeaaGreat

namespace Go.Proofs.YtaiikekgckjdeaaGreat
open Go.RowKit
attribute [local go_sem] Oper.semAt_some eq3
open Calmly (Kept)
def crs (a b : QuR) : QuR := (a.2.1 * b.2.2 - a.2.2 * b.2.1, a.2.2 * b.1 - a.1 * b.2.2, a.1 * b.2.1 - a.2.1 * b.1)
def dot (n c : QuR) : Int := n.1 * c.1 + n.2.1 * c.2.1 + n.2.2 * c.2.2
def qAt (l : List QuR) (i : Nat) : QuR := l[i]?.getD qur0
def Z3 (l : List QuR) : Prop := ∃ i j k, i < l.length ∧ j < l.length ∧ k < l.length ∧ dot (crs (qAt l i) (qAt l j)) (qAt l k) ≠ 0
def Z2 (l : List QuR) : Prop := ∃ i j, i < l.length ∧ j < l.length ∧ crs (qAt l i) (qAt l j) ≠ qur0
def Z1 (l : List QuR) : Prop := ∃ i, i < l.length ∧ qAt l i ≠ qur0
open Classical in
noncomputable def rkF (l : List QuR) : Int := if Z3 l then 3 else if Z2 l then 2 else if Z1 l then 1 else 0
theorem dot_swap (a b c : QuR) : dot (crs b a) c = -dot (crs a b) c := by unfold dot crs; grind
theorem dot_turn (a b c : QuR) : dot (crs b c) a = dot (crs a b) c := by unfold dot crs; grind
theorem dot_eq (a c : QuR) : dot (crs a a) c = 0 := by unfold dot crs; grind
theorem crs_swap {a b : QuR} (h : crs a b ≠ qur0) : crs b a ≠ qur0 := by
  intro e
  apply h
  unfold crs qur0 at *
  simp only [Prod.mk.injEq] at *
  grind
theorem crs_eq (a : QuR) : crs a a = qur0 := by
  unfold crs qur0
  simp only [Prod.mk.injEq]
  grind
theorem crs_zero (b : QuR) : crs qur0 b = qur0 := by
  unfold crs qur0
  simp
/-- Three of them in order. -/
theorem Z3_order {l : List QuR} (h : Z3 l) : ∃ i j k, k < j ∧ j < i ∧ i < l.length ∧ dot (crs (qAt l i) (qAt l j)) (qAt l k) ≠ 0 := by
  obtain ⟨i, j, k, hi, hj, hk, h⟩ := h
  have n1 : i ≠ j := by rintro rfl; exact h (dot_eq _ _)
  have n2 : j ≠ k := by
    rintro rfl
    exact h (by rw [← dot_turn, dot_eq])
  have n3 : i ≠ k := by
    rintro rfl
    exact h (by rw [← dot_turn, ← dot_turn, dot_eq])
  have s1 := dot_swap (qAt l i) (qAt l j) (qAt l k)
  have t1 := dot_turn (qAt l i) (qAt l j) (qAt l k)
  have t2 := dot_turn (qAt l j) (qAt l k) (qAt l i)
  have s2 := dot_swap (qAt l j) (qAt l k) (qAt l i)
  have s3 := dot_swap (qAt l k) (qAt l i) (qAt l j)
  rcases Nat.lt_or_gt_of_ne n1 with a | a <;> rcases Nat.lt_or_gt_of_ne n2 with b | b <;> rcases Nat.lt_or_gt_of_ne n3 with c | c
  · exact ⟨k, j, i, a, b, hk, by rw [s2, t1]; omega⟩
  · omega
  · exact ⟨j, k, i, c, b, hj, by rw [t1]; exact h⟩
  · exact ⟨j, i, k, c, a, hj, by rw [s1]; omega⟩
  · exact ⟨k, i, j, a, c, hk, by rw [t2, t1]; exact h⟩
  · exact ⟨i, k, j, b, c, hi, by rw [s3, t2, t1]; omega⟩
  · omega
  · exact ⟨i, j, k, b, a, hi, h⟩
theorem Z2_order {l : List QuR} (h : Z2 l) : ∃ i j, j < i ∧ i < l.length ∧ crs (qAt l i) (qAt l j) ≠ qur0 := by
  obtain ⟨i, j, hi, hj, h⟩ := h
  have n1 : i ≠ j := by rintro rfl; exact h (crs_eq _)
  rcases Nat.lt_or_gt_of_ne n1 with a | a
  · exact ⟨j, i, a, hj, crs_swap h⟩
  · exact ⟨i, j, a, hi, h⟩
/-- What a rank says while it is made: of the first i, and of pairs that are counted. -/
structure RkI (l : List QuR) (P1 : Prop) (P2 : Prop) (r : Int) : Prop where
  bd : 0 ≤ r ∧ r ≤ 2
  two : r = 2 ↔ P2
  one : 1 ≤ r ↔ P1 ∨ P2
theorem RkI.max1 {l : List QuR} {P1 P2 P1' : Prop} {r : Int} (h : RkI l P1 P2 r) (h1 : P1') : RkI l P1' P2 (if r < 1 then 1 else r) := by
  obtain ⟨a, b, c⟩ := h
  split
  · refine ⟨by omega, ⟨fun e => by omega, fun e => by have := b.2 e; omega⟩, ⟨fun _ => .inl h1, fun _ => by omega⟩⟩
  · exact ⟨a, b, ⟨fun _ => .inl h1, fun _ => by omega⟩⟩
theorem RkI.max2 {l : List QuR} {P1 P2 P2' : Prop} {r : Int} (h : RkI l P1 P2 r) (h2 : P2') : RkI l P1 P2' (if r < 2 then 2 else r) := by
  obtain ⟨a, b, c⟩ := h
  have : (if r < 2 then 2 else r) = 2 := by split <;> omega
  rw [this]
  exact ⟨by omega, ⟨fun _ => h2, fun _ => rfl⟩, ⟨fun _ => .inr h2, fun _ => by omega⟩⟩
theorem RkI.congr {l : List QuR} {P1 P2 P1' P2' : Prop} {r : Int} (h : RkI l P1 P2 r) (h1 : P1 ↔ P1') (h2 : P2 ↔ P2') : RkI l P1' P2' r := by
  rw [propext h1, propext h2] at h
  exact h
theorem rkF_of {l : List QuR} {r : Int} (h3 : ¬ Z3 l) (h : RkI l (Z1 l) (Z2 l) r) : rkF l = r := by
  unfold rkF
  rw [if_neg h3]
  obtain ⟨a, b, c⟩ := h
  by_cases h2 : Z2 l
  · rw [if_pos h2, b.2 h2]
  · rw [if_neg h2]
    have hr : r ≠ 2 := fun e => h2 (b.1 e)
    by_cases h1 : Z1 l
    · rw [if_pos h1]; have := c.2 (.inl h1); omega
    · rw [if_neg h1]
      have : ¬ 1 ≤ r := fun e => by rcases c.1 e with h | h
                                    · exact h1 h
                                    · exact h2 h
      omega
theorem rkF_three {l : List QuR} (h : Z3 l) : rkF l = 3 := by unfold rkF; rw [if_pos h]
/-- Small numbers. -/
def sm (x : QuR) : Prop := (-4 ≤ x.1 ∧ x.1 ≤ 4) ∧ (-4 ≤ x.2.1 ∧ x.2.1 ≤ 4) ∧ (-4 ≤ x.2.2 ∧ x.2.2 ≤ 4)
theorem qAt_sm {l : List QuR} (h : (qsE l).2 = 0) (i : Nat) : sm (qAt l i) := qsE_ok h i
theorem crs_bd {a b : QuR} (ha : sm a) (hb : sm b) : (-32 ≤ (crs a b).1 ∧ (crs a b).1 ≤ 32) ∧ (-32 ≤ (crs a b).2.1 ∧ (crs a b).2.1 ≤ 32) ∧ (-32 ≤ (crs a b).2.2 ∧ (crs a b).2.2 ≤ 32) := by
  obtain ⟨a0, a1, a2⟩ := ha
  obtain ⟨b0, b1, b2⟩ := hb
  have m1 := mul16 a1 b2
  have m2 := mul16 a2 b1
  have m3 := mul16 a2 b0
  have m4 := mul16 a0 b2
  have m5 := mul16 a0 b1
  have m6 := mul16 a1 b0
  unfold crs
  dsimp only
  omega
theorem mul128 {x y : Int} (hx : -32 ≤ x ∧ x ≤ 32) (hy : -4 ≤ y ∧ y ≤ 4) : -128 ≤ x * y ∧ x * y ≤ 128 := by
  have : (x * y).natAbs ≤ 32 * 4 := by
    rw [Int.natAbs_mul]
    exact Nat.mul_le_mul (by omega) (by omega)
  omega

set_option maxRecDepth 100000 in
set_option maxHeartbeats 2000000 in
theorem crossM_any (a b : QuR) (w : World) (ha : sm a) (hb : sm b) :
    Calls Tryz.prog 42 #[.agg #[.int .i64 a.1, .int .i64 a.2.1, .int .i64 a.2.2], .agg #[.int .i64 b.1, .int .i64 b.2.1, .int .i64 b.2.2]] w fun e w' => e = .returned (.agg #[.int .i64 (crs a b).1, .int .i64 (crs a b).2.1, .int .i64 (crs a b).2.2]) ∧ Below w.heap.size w w' := by
  obtain ⟨x0, x1, x2⟩ := a
  obtain ⟨y0, y1, y2⟩ := b
  obtain ⟨a0, a1, a2⟩ := ha
  obtain ⟨b0, b1, b2⟩ := hb
  dsimp only at a0 a1 a2 b0 b1 b2 ⊢
  have m1 := mul16 a1 b2
  have m2 := mul16 a2 b1
  have m3 := mul16 a2 b0
  have m4 := mul16 a0 b2
  have m5 := mul16 a0 b1
  have m6 := mul16 a1 b0
  have hc : crs (x0, x1, x2) (y0, y1, y2) = (x1 * y2 - x2 * y1, x2 * y0 - x0 * y2, x0 * y1 - x1 * y0) := rfl
  obtain ⟨p1, e1⟩ : ∃ p, x1 * y2 = p := ⟨_, rfl⟩
  obtain ⟨p2, e2⟩ : ∃ p, x2 * y1 = p := ⟨_, rfl⟩
  obtain ⟨p3, e3⟩ : ∃ p, x2 * y0 = p := ⟨_, rfl⟩
  obtain ⟨p4, e4⟩ : ∃ p, x0 * y2 = p := ⟨_, rfl⟩
  obtain ⟨p5, e5⟩ : ∃ p, x0 * y1 = p := ⟨_, rfl⟩
  obtain ⟨p6, e6⟩ : ∃ p, x1 * y0 = p := ⟨_, rfl⟩
  rw [e1, e2, e3, e4, e5, e6] at hc
  rw [e1] at m1
  rw [e2] at m2
  rw [e3] at m3
  rw [e4] at m4
  rw [e5] at m5
  rw [e6] at m6
  have HC := Lib.hid hc
  clear hc
  have z2 : B3 (((w.alloc (.cells #[.int .i64 x0, .int .i64 x1, .int .i64 x2] 53)).alloc (.cells #[.int .i64 y0, .int .i64 y1, .int .i64 y2] 53)).alloc (.cells #[.int .i64 0, .int .i64 0, .int .i64 0] 53)) w.heap.size x0 x1 x2 := ⟨blk_keep (blk_keep (alloc_new w _) ((Below.refl _ _).alloc (Nat.le_refl _) (.cells #[.int .i64 y0, .int .i64 y1, .int .i64 y2] 53))) ((Below.refl _ _).alloc (Nat.le_refl _) (.cells #[.int .i64 0, .int .i64 0, .int .i64 0] 53))⟩
  have z3 : B3 (((w.alloc (.cells #[.int .i64 x0, .int .i64 x1, .int .i64 x2] 53)).alloc (.cells #[.int .i64 y0, .int .i64 y1, .int .i64 y2] 53)).alloc (.cells #[.int .i64 0, .int .i64 0, .int .i64 0] 53)) (w.heap.size + 1) y0 y1 y2 := ⟨by
    have := blk_keep (alloc_new (w.alloc (.cells #[.int .i64 x0, .int .i64 x1, .int .i64 x2] 53)) (.cells #[.int .i64 y0, .int .i64 y1, .int .i64 y2] 53)) ((Below.refl _ _).alloc (Nat.le_refl _) (.cells #[.int .i64 0, .int .i64 0, .int .i64 0] 53))
    simpa using this⟩
  have f0 := cell_block z2.blk 0
  have f1 := cell_block z2.blk 1
  have f2 := cell_block z2.blk 2
  have g0 := cell_block z3.blk 0
  have g1 := cell_block z3.blk 1
  have g2 := cell_block z3.blk 2
  go_enter Tryz.func42, Tryz.ntmps42
  go_wp2_with fail
  have B9 : Below w.heap.size w (((w.alloc (.cells #[.int .i64 x0, .int .i64 x1, .int .i64 x2] 53)).alloc (.cells #[.int .i64 y0, .int .i64 y1, .int .i64 y2] 53)).alloc (.cells #[.int .i64 (p1 - p2), .int .i64 (p3 - p4), .int .i64 (p5 - p6)] 53)) := (((Below.refl _ _).alloc (Nat.le_refl _) _).alloc (by simp) _).alloc (by simp; omega) _
  refine bodyPost_ret (v := .agg #[.int .i64 (p1 - p2), .int .i64 (p3 - p4), .int .i64 (p5 - p6)]) (by simp [results, Tryz.results42, go_sem]) rfl ⟨by rw [HC.out], B9⟩

set_option maxRecDepth 100000 in
set_option maxHeartbeats 2000000 in
theorem rCross_any (a b : QuR) (w : World) (ha : sm a) (hb : sm b) :
    Calls Tryz.prog 52 #[.agg #[.int .i64 a.1, .int .i64 a.2.1, .int .i64 a.2.2], .agg #[.int .i64 b.1, .int .i64 b.2.1, .int .i64 b.2.2]] w fun e w' => e = .returned (.agg #[.int .i64 (crs a b).1, .int .i64 (crs a b).2.1, .int .i64 (crs a b).2.2]) ∧ Below w.heap.size w w' := by
  obtain ⟨x0, x1, x2⟩ := a
  obtain ⟨y0, y1, y2⟩ := b
  obtain ⟨a0, a1, a2⟩ := ha
  obtain ⟨b0, b1, b2⟩ := hb
  dsimp only at a0 a1 a2 b0 b1 b2 ⊢
  have m1 := mul16 a1 b2
  have m2 := mul16 a2 b1
  have m3 := mul16 a2 b0
  have m4 := mul16 a0 b2
  have m5 := mul16 a0 b1
  have m6 := mul16 a1 b0
  have hc : crs (x0, x1, x2) (y0, y1, y2) = (x1 * y2 - x2 * y1, x2 * y0 - x0 * y2, x0 * y1 - x1 * y0) := rfl
  obtain ⟨p1, e1⟩ : ∃ p, x1 * y2 = p := ⟨_, rfl⟩
  obtain ⟨p2, e2⟩ : ∃ p, x2 * y1 = p := ⟨_, rfl⟩
  obtain ⟨p3, e3⟩ : ∃ p, x2 * y0 = p := ⟨_, rfl⟩
  obtain ⟨p4, e4⟩ : ∃ p, x0 * y2 = p := ⟨_, rfl⟩
  obtain ⟨p5, e5⟩ : ∃ p, x0 * y1 = p := ⟨_, rfl⟩
  obtain ⟨p6, e6⟩ : ∃ p, x1 * y0 = p := ⟨_, rfl⟩
  rw [e1, e2, e3, e4, e5, e6] at hc
  rw [e1] at m1
  rw [e2] at m2
  rw [e3] at m3
  rw [e4] at m4
  rw [e5] at m5
  rw [e6] at m6
  have HC := Lib.hid hc
  clear hc
  have z2 : B3 (((w.alloc (.cells #[.int .i64 x0, .int .i64 x1, .int .i64 x2] 53)).alloc (.cells #[.int .i64 y0, .int .i64 y1, .int .i64 y2] 53)).alloc (.cells #[.int .i64 0, .int .i64 0, .int .i64 0] 53)) w.heap.size x0 x1 x2 := ⟨blk_keep (blk_keep (alloc_new w _) ((Below.refl _ _).alloc (Nat.le_refl _) (.cells #[.int .i64 y0, .int .i64 y1, .int .i64 y2] 53))) ((Below.refl _ _).alloc (Nat.le_refl _) (.cells #[.int .i64 0, .int .i64 0, .int .i64 0] 53))⟩
  have z3 : B3 (((w.alloc (.cells #[.int .i64 x0, .int .i64 x1, .int .i64 x2] 53)).alloc (.cells #[.int .i64 y0, .int .i64 y1, .int .i64 y2] 53)).alloc (.cells #[.int .i64 0, .int .i64 0, .int .i64 0] 53)) (w.heap.size + 1) y0 y1 y2 := ⟨by
    have := blk_keep (alloc_new (w.alloc (.cells #[.int .i64 x0, .int .i64 x1, .int .i64 x2] 53)) (.cells #[.int .i64 y0, .int .i64 y1, .int .i64 y2] 53)) ((Below.refl _ _).alloc (Nat.le_refl _) (.cells #[.int .i64 0, .int .i64 0, .int .i64 0] 53))
    simpa using this⟩
  have f0 := cell_block z2.blk 0
  have f1 := cell_block z2.blk 1
  have f2 := cell_block z2.blk 2
  have g0 := cell_block z3.blk 0
  have g1 := cell_block z3.blk 1
  have g2 := cell_block z3.blk 2
  go_enter Tryz.func52, Tryz.ntmps52
  go_wp2_with fail
  have B9 : Below w.heap.size w (((w.alloc (.cells #[.int .i64 x0, .int .i64 x1, .int .i64 x2] 53)).alloc (.cells #[.int .i64 y0, .int .i64 y1, .int .i64 y2] 53)).alloc (.cells #[.int .i64 (p1 - p2), .int .i64 (p3 - p4), .int .i64 (p5 - p6)] 53)) := (((Below.refl _ _).alloc (Nat.le_refl _) _).alloc (by simp) _).alloc (by simp; omega) _
  refine bodyPost_ret (v := .agg #[.int .i64 (p1 - p2), .int .i64 (p3 - p4), .int .i64 (p5 - p6)]) (by simp [results, Tryz.results52, go_sem]) rfl ⟨by rw [HC.out], B9⟩

end Go.Proofs.YtaiikekgckjdeaaGreat
