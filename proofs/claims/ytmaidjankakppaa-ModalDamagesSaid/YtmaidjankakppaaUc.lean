/- Contracts of chapter 6: the reference's explanation. -/
import Derived.Test.YtmaidjankakppaaUb
import Derived.Test.YtmaidjankakppaaVc
import Derived.Test.YtmaidjankakppaaYa
namespace Go.Proofs.Ytmaidjankakppaa
open Go.RowKit
open Calmly (Kept)

theorem small_mulU {x y : Int} (h1 : -1000000 ≤ x) (h2 : x ≤ 1000000) (h3 : -1000000 ≤ y) (h4 : y ≤ 1000000) : -1000000000000 ≤ x * y ∧ x * y ≤ 1000000000000 := by
  have e : (x * y).natAbs ≤ 1000000 * 1000000 := by
    rw [Int.natAbs_mul]
    exact Nat.mul_le_mul (by omega) (by omega)
  omega
theorem SI.hereU {w : World} {b o n c : Nat} {xs : List Int} (h : SI w (some ⟨b, o, none⟩) n c xs) {k : Nat} (hk : k < n) : w.cell? ⟨b, o + k, none⟩ = some (.int .i64 (xs[k]?.getD 0)) := by
  obtain ⟨b', o', he, hc⟩ := h.at_ (by omega)
  cases he
  exact hc k hk
theorem oddF_nonneg (ms ks : List Int) (den : Int) (i : Nat) (sq : List (Int × Int)) : 0 ≤ (oddF ms ks den i sq).1 := by
  induction sq generalizing i with
  | nil => exact Int.le_refl _
  | cons r l ih =>
    rw [oddF]
    split
    · exact ih (i + 1)
    · exact Int.natCast_nonneg _
theorem rTo_ok {ms ks : List Int} {den : Int} {sq : List (Int × Int)} (he : (checkF ms ks).2 = 0) (i : Nat) (hi : i ≤ ms.length) : ExOk ms.length (rTo ms ks den sq i) := by
  rw [rTo_ex ms ks den sq (fun j => ((fr_of he).k0 j).1)]
  exact exTo_ok he i hi

set_option maxRecDepth 100000 in
set_option maxHeartbeats 8000000 in
theorem rExplained_any (a b sa : Option Addr) (m c d sc : Nat) (ms ks : List Int) (sq : List (Int × Int)) (den : Int) (w : World) (h1 : SI w a m c ms) (h2 : SI w b m d ks) (h3 : SR w sa m sc sq) (he : (checkF ms ks).2 = 0) (hd1 : 1 ≤ den) (hd2 : den ≤ 50) (hor : ∀ i, i < sq.length → (sq[i]?.getD (0, 0)).1 ≤ (sq[i]?.getD (0, 0)).2)
    (r1 r2 : Int) (r3 : Bool) (hr : rTo ms ks den sq ms.length = ((r1, r2), r3)) :
    Calls Try.prog 30 #[.agg #[.slice a m c, .slice b m d], .agg #[.int .i64 den, .slice sa m sc]] w fun e w' => e = .returned (.tuple #[.agg #[.int .i64 r1, .int .i64 r2], .bool r3]) ∧ Below w.heap.size w w' := by
  obtain ⟨l1, l2⟩ : m ≤ ms.length ∧ ms.length ≤ m := by have := h1.len; omega
  obtain ⟨k1, k2⟩ : m ≤ ks.length ∧ ks.length ≤ m := by have := h2.len; omega
  have hm4 : 0 < m ∧ m ≤ 4 := by have := (fr_of he).few; have := (fr_of he).pos; omega
  have HC := Lib.hid he
  have HO := Lib.hid hor
  have HR := Lib.hid hr
  have Q5 := Lib.hid (fr_of he).k
  clear he hor hr
  have cd := h2.cap
  obtain ⟨bb, ob, rfl, hcb⟩ := h2.at_ (by omega)
  have HCB := Lib.hid hcb
  clear hcb
  go_enter Try.func30, Try.ntmps30
  go_wp2_with fail
  refine wp_gen (fun v => Below w.heap.size w v ∧ v.heap[w.heap.size]? = some (.cells #[.slice a m c, .slice (some ⟨bb, ob, none⟩) m d] 24) ∧ v.heap[w.heap.size + 1]? = some (.cells #[.int .i64 den, .slice sa m sc] 44) ∧ v.heap[w.heap.size + 1 + 1]? = some (.cells #[.int .i64 0, .int .i64 0] 46) ∧ v.heap[w.heap.size + 1 + 1 + 1]? = some (.cells #[.int .i64 0, .int .i64 0] 46)) ?_ ?_
  · have h4 := allocs_at [(.cells #[.slice a m c, .slice (some ⟨bb, ob, none⟩) m d] 24), (.cells #[.int .i64 den, .slice sa m sc] 44), (.cells #[.int .i64 0, .int .i64 0] 46), (.cells #[.int .i64 0, .int .i64 0] 46)] w
    exact ⟨(allocs_below [(.cells #[.slice a m c, .slice (some ⟨bb, ob, none⟩) m d] 24), (.cells #[.int .i64 den, .slice sa m sc] 44), (.cells #[.int .i64 0, .int .i64 0] 46), (.cells #[.int .i64 0, .int .i64 0] 46)] w).1, h4 0 (by simp), h4 1 (by simp), h4 2 (by simp), h4 3 (by simp)⟩
  rintro v ⟨hbv, x2, x3, x4, x6⟩
  have hvs := blk_lt x6
  go_loopw [7, 8] (fun x z wr => ∃ (i : Nat) (b1 b2 : Int) (fd : Bool), i ≤ m ∧ x = .bool fd ∧ z = .int .i64 (i : Int) ∧ Hid (rTo ms ks den sq i = ((b1, b2), fd)) ∧ wr.heap[w.heap.size + 1 + 1 + 1]? = some (.cells #[.int .i64 b1, .int .i64 b2] 46) ∧ Below (w.heap.size + 1 + 1 + 1) v wr) (fun _ z _ => m - (intOf z).toNat)
  case atStart => exact ⟨0, 0, 0, false, by omega, rfl, rfl, Lib.hid rfl, x6, Below.refl _ _⟩
  case round =>
    obtain ⟨wo, hwo⟩ : ∃ x, x = wr := ⟨_, rfl⟩
    subst hwo
    clear x6
    obtain ⟨i, b1, b2, fd, hi, rfl, rfl, HEX, x6, hbr⟩ := hrel
    have hrs := hbr.size
    have BWo := hbv.trans (hbr.mono (by omega))
    have X2 := (hbr.block _ (show w.heap.size < w.heap.size + 1 + 1 + 1 by omega)).trans x2
    by_cases hlt : i < m
    · have hki := Q5.out i (by omega)
      have hok := rTo_ok (den := den) (sq := sq) HC.out i (by omega)
      rw [HEX.out] at hok
      have HOK := Lib.hid hok
      have HST : Hid (rTo ms ks den sq (i + 1) = rIn ms ks den sq i (ks[i]?.getD 0) 20 (ks[i]?.getD 0) ((b1, b2), fd)) := Lib.hid (by rw [← HEX.out]; rfl)
      have e1 := SI.hereU (h2.keep BWo) hlt
      obtain ⟨k, hk⟩ : ∃ k, ks[i]?.getD 0 = k := ⟨_, rfl⟩
      rw [hk] at hki HST e1
      have HK := Lib.hid hk
      clear hk hok
      have f0 := cell_block X2 0
      have f1 := cell_block X2 1
      have hi1 : (i : Int) < (m : Int) := by omega
      have hi0 : (0 : Int) ≤ (i : Int) := by omega
      go_wp2_with fail
      go_loopw [7, 9] (fun x z wz => ∃ (f : Nat) (left : Int), x = .bool fd ∧ z = .int .i64 left ∧ left ≤ f ∧ 0 ≤ left ∧ left ≤ k ∧ Hid (rIn ms ks den sq i k f left ((b1, b2), fd) = rTo ms ks den sq (i + 1)) ∧ wz.heap[w.heap.size + 1 + 1 + 1]? = some (.cells #[.int .i64 b1, .int .i64 b2] 46) ∧ Below (w.heap.size + 1 + 1 + 1) v wz) (fun _ z _ => (intOf z).toNat)
      case atStart => exact ⟨20, k, rfl, rfl, by omega, by omega, by omega, Lib.hid HST.out.symm, x6, hbr⟩
      case round =>
        obtain ⟨wz, hwz⟩ : ∃ x, x = wr := ⟨_, rfl⟩
        subst hwz
        clear x6 e1 X2 f0 f1 hbr hrs BWo
        obtain ⟨f, left, rfl, rfl, hf, hl0, hlk, HX, x6, hbr⟩ := hrel
        have hrs := hbr.size
        have BW := hbv.trans (hbr.mono (by omega))
        by_cases hl : 1 ≤ left
        · have hs : rIn ms ks den sq i k f left ((b1, b2), fd) = if (oddF ms (ks.set i left) den 0 sq).2 = true then rIn ms ks den sq i k (f - 1) (left - 1) ((b1, b2), fd) else if fd = true ∧ left * (ks[b1.toNat]?.getD 0) ≤ b2 * k then ((b1, b2), fd) else (((i : Int), left), true) := by
            obtain ⟨f', rfl⟩ : ∃ f', f = f' + 1 := ⟨f - 1, by omega⟩
            rw [rIn, if_pos hl]
            rfl
          rw [HX.out] at hs
          obtain ⟨⟨o1, o2⟩, ho⟩ : ∃ o, oddF ms (ks.set i left) den 0 sq = o := ⟨_, rfl⟩
          have hfe := failF_eq ho
          have hon := oddF_nonneg ms (ks.set i left) den 0 sq
          rw [ho] at hs hon
          dsimp only at hs hfe hon
          have HS := Lib.hid hs
          have HFE := Lib.hid hfe
          have hcs := checkF_set HC.out i left (by omega) (by omega)
          have HCS := Lib.hid hcs
          clear ho hs hfe hcs
          have X2 := (hbr.block _ (show w.heap.size < w.heap.size + 1 + 1 + 1 by omega)).trans x2
          have X3 := (hbr.block _ (show w.heap.size + 1 < w.heap.size + 1 + 1 + 1 by omega)).trans x3
          have hA := (Below.refl wz.heap.size wz).alloc (Nat.le_refl _) (.cells #[.int .i64 i, .int .i64 left] 46)
          have X10 := alloc_new wz (.cells #[.int .i64 i, .int .i64 left] 46)
          replace X2 := blk_keep X2 hA
          replace X3 := blk_keep X3 hA
          replace x6 := blk_keep x6 hA
          replace BW := BW.trans (hA.mono BW.size)
          replace hbr := hbr.trans (hA.mono (by omega))
          go_wp2_with fail
          refine Calmly.wp_region_mix 5 (.fl 0 <| .fl 1 <| .fl 3 <| .eff 2 <| .eff 4 <| .tail [5]) (by kernel_rfl) (by kernel_rfl) ?_
          have hw6 : w.heap.size + 1 + 1 + 1 < wz.heap.size := by have := hrs; omega
          replace X2 : (wz.alloc (.cells #[.int .i64 i, .int .i64 left] 46)).drew.heap[w.heap.size]? = some (.cells #[.slice a m c, .slice (some ⟨bb, ob, none⟩) m d] 24) := X2
          replace X3 : (wz.alloc (.cells #[.int .i64 i, .int .i64 left] 46)).drew.heap[w.heap.size + 1]? = some (.cells #[.int .i64 den, .slice sa m sc] 44) := X3
          replace x6 : (wz.alloc (.cells #[.int .i64 i, .int .i64 left] 46)).drew.heap[w.heap.size + 1 + 1 + 1]? = some (.cells #[.int .i64 b1, .int .i64 b2] 46) := x6
          replace X10 : (wz.alloc (.cells #[.int .i64 i, .int .i64 left] 46)).drew.heap[wz.heap.size]? = some (.cells #[.int .i64 i, .int .i64 left] 46) := X10
          replace BW := BW.drew
          replace hbr := hbr.drew
          clear hA
          generalize (wz.alloc (.cells #[.int .i64 i, .int .i64 left] 46)).drew = V at X2 X3 x6 X10 BW hbr ⊢
          have f0 := cell_block X2 0
          have f1 := cell_block X2 1
          have f2 := cell_block X3 0
          have f3 := cell_block X3 1
          have f4 := cell_block X10 0
          have f5 := cell_block X10 1
          have hk := Below.refl V.heap.size V
          cases o2
          case' true =>
            have hfa : failF ms (ks.set i left) den sq = o1 := by rw [HFE.out, if_pos rfl]
            have HFA := Lib.hid hfa
            clear hfa HFE
          case' false =>
            have hfa : failF ms (ks.set i left) den sq = -1 := by rw [HFE.out, if_neg (by simp)]
            have HFA := Lib.hid hfa
            clear hfa HFE hon
          all_goals
            go_wp2_with (first | ((with_reducible refine Calmly.is_fl ?_); refine Calmly.mix_fl rfl ?_ (fun _ _ => ?_); (first | exact .move _ | exact .load _ _ | exact .fieldAddr _ _ _ (by kernel_rfl) | exact .assign _ | exact .binOp _ _ _ _ _ rfl | exact .indexAddr _ _ _ | exact .len _ _ (by kernel_rfl) | exact .field _ _ _ | exact .extract _ _ | exact .pick _ _ _ | exact .build _ _ | exact .slice _ _ _ _ _ | exact .unOp _ _ _ rfl | exact .index _ _ _ | exact .max _ _ _ rfl rfl | exact .min _ _ _ rfl rfl)) | ((with_reducible refine Calmly.is_gl ?_); refine Calmly.mix_gl rfl rfl rfl ?_; first | ((first | with_reducible refine Calmly.gl_tt ?_ (fun _ _ => ?_) | with_reducible refine Calmly.gl_ff ?_ (fun _ _ => ?_)); (first | exact .move _ | exact .load _ _ | exact .fieldAddr _ _ _ (by kernel_rfl) | exact .assign _ | exact .binOp _ _ _ _ _ rfl | exact .indexAddr _ _ _ | exact .len _ _ (by kernel_rfl) | exact .field _ _ _ | exact .extract _ _ | exact .pick _ _ _ | exact .build _ _ | exact .slice _ _ _ _ _ | exact .unOp _ _ _ rfl | exact .index _ _ _ | exact .max _ _ _ rfl rfl | exact .min _ _ _ rfl rfl)) | with_reducible refine Calmly.gl_tf (fun _ _ => ?_) | with_reducible refine Calmly.gl_ft (fun _ _ => ?_)) | ((with_reducible refine Calmly.is_eff ?_); refine Calmly.mix_eff rfl (fun _ _ => ?_)) | ((with_reducible refine Calmly.is_gf ?_); refine Calmly.mix_gf rfl rfl rfl ?_; first | with_reducible refine Calmly.gf_tt (fun _ _ => ?_) | with_reducible refine Calmly.gf_ff (fun _ _ => ?_) | with_reducible refine Calmly.gf_tf (kept_of hk) (fun _ _ => ?_) | with_reducible refine Calmly.gf_ft (kept_of hk) (fun _ _ => ?_)) | ((with_reducible refine Calmly.is_tail ?_); first | refine Calmly.mix_tail_nil ?_ | refine Calmly.mix_tail rfl (fun _ _ => ?_)) | ((with_reducible refine Calmly.is_kept ?_); refine ⟨kept_of hk, ?_⟩) | (with_reducible refine Calmly.mix_alt ?_ ?_) | (go_at_call 33; refine (With_any a _ m c m d ms ks i left _ ((h1.keep BW).keep hk) ((h2.keep BW).keep hk) hlt (by omega) (by omega) (by omega)).mono ?_; rintro e v1 ⟨a1, c1', bb1, d1', rfl, oA, oB, hs⟩; replace hk := step_of hk hs; clear hs) | (go_at_call 32; refine (rFailing_any _ _ _ m _ _ sc ms (ks.set i left) sq den _ oA oB ((h3.keep BW).keep hk) HCS.out hd1 hd2 HO.out).mono ?_; rintro e v2 ⟨rfl, hs⟩; rw [HFA.out]; replace hk := step_of hk hs; clear hs oA oB))
            replace BW := BW.trans (hk.mono BW.size)
            replace X2 := blk_keep X2 hk
            replace X10 := blk_keep X10 hk
            replace x6 := blk_keep x6 hk
            replace hbr := hbr.trans (hk.mono (by have := hbr.size; omega))
            clear f0 f1 f2 f3 f4 f5 hk X3
          · have HS2 : Hid (rTo ms ks den sq (i + 1) = if fd = true ∧ left * (ks[b1.toNat]?.getD 0) ≤ b2 * k then ((b1, b2), fd) else (((i : Int), left), true)) := Lib.hid (by have := HS.out; rw [if_neg (by simp)] at this; exact this)
            clear HS HX
            have hlt6 := blk_lt X10
            refine Calmly.wp_region_mix 19 (.fl 0 <| .fl 1 <| .fl 2 <| .gl 3 <| .gl 4 <| .gl 5 <| .gl 6 <| .gl 7 <| .gl 8 <| .gl 9 <| .gl 10 <| .gl 11 <| .gl 12 <| .gl 13 <| .gl 14 <| .gl 15 <| .gl 16 <| .gf 17 <| .gl 18 <| .tail [19]) (by kernel_rfl) (by kernel_rfl) ?_
            replace X2 : v2.drew.heap[w.heap.size]? = some (.cells #[.slice a m c, .slice (some ⟨bb, ob, none⟩) m d] 24) := X2
            replace x6 : v2.drew.heap[w.heap.size + 1 + 1 + 1]? = some (.cells #[.int .i64 b1, .int .i64 b2] 46) := x6
            replace X10 : v2.drew.heap[wz.heap.size]? = some (.cells #[.int .i64 i, .int .i64 left] 46) := X10
            replace BW := BW.drew
            replace hbr := hbr.drew
            clear hlt6
            generalize v2.drew = U at X2 x6 X10 BW hbr ⊢
            have f0 := cell_block X2 0
            have f1 := cell_block X2 1
            have f2 := cell_block x6 0
            have f3 := cell_block x6 1
            have f4 := cell_block X10 0
            have f5 := cell_block X10 1
            have f6 := frozen_block x6 0
            have f7 := frozen_block x6 1
            have hk := Below.refl U.heap.size U
            have e1 := SI.hereU (h2.keep BW) hlt
            rw [HK.out] at e1
            have upd := fun (v : World) (h : Below (w.heap.size + 1 + 1 + 1) v U) => (h.setCell (p := ⟨w.heap.size + 1 + 1 + 1, 0, none⟩) (Nat.le_refl _) (.int .i64 i)).setCell (p := ⟨w.heap.size + 1 + 1 + 1, 1, none⟩) (Nat.le_refl _) (.int .i64 left)
            have hbr2 := upd _ hbr
            have x6' := blkSet (blkSet x6 0 (.int .i64 i)) 1 (.int .i64 left)
            clear upd
            cases fd
            · have HS3 : Hid (rTo ms ks den sq (i + 1) = (((i : Int), left), true)) := Lib.hid (by have := HS2.out; rwa [if_neg (fun h => by cases h.1)] at this)
              go_wp2_with (first | ((with_reducible refine Calmly.is_fl ?_); refine Calmly.mix_fl rfl ?_ (fun _ _ => ?_); (first | exact .move _ | exact .load _ _ | exact .fieldAddr _ _ _ (by kernel_rfl) | exact .assign _ | exact .binOp _ _ _ _ _ rfl | exact .indexAddr _ _ _ | exact .len _ _ (by kernel_rfl) | exact .field _ _ _ | exact .extract _ _ | exact .pick _ _ _ | exact .build _ _ | exact .slice _ _ _ _ _ | exact .unOp _ _ _ rfl | exact .index _ _ _ | exact .max _ _ _ rfl rfl | exact .min _ _ _ rfl rfl)) | ((with_reducible refine Calmly.is_gl ?_); refine Calmly.mix_gl rfl rfl rfl ?_; first | ((first | with_reducible refine Calmly.gl_tt ?_ (fun _ _ => ?_) | with_reducible refine Calmly.gl_ff ?_ (fun _ _ => ?_)); (first | exact .move _ | exact .load _ _ | exact .fieldAddr _ _ _ (by kernel_rfl) | exact .assign _ | exact .binOp _ _ _ _ _ rfl | exact .indexAddr _ _ _ | exact .len _ _ (by kernel_rfl) | exact .field _ _ _ | exact .extract _ _ | exact .pick _ _ _ | exact .build _ _ | exact .slice _ _ _ _ _ | exact .unOp _ _ _ rfl | exact .index _ _ _ | exact .max _ _ _ rfl rfl | exact .min _ _ _ rfl rfl)) | with_reducible refine Calmly.gl_tf (fun _ _ => ?_) | with_reducible refine Calmly.gl_ft (fun _ _ => ?_)) | ((with_reducible refine Calmly.is_eff ?_); refine Calmly.mix_eff rfl (fun _ _ => ?_)) | ((with_reducible refine Calmly.is_gf ?_); refine Calmly.mix_gf rfl rfl rfl ?_; first | with_reducible refine Calmly.gf_tt (fun _ _ => ?_) | with_reducible refine Calmly.gf_ff (fun _ _ => ?_) | with_reducible refine Calmly.gf_tf (kept_of hk) (fun _ _ => ?_) | with_reducible refine Calmly.gf_ft (kept_of hk) (fun _ _ => ?_)) | ((with_reducible refine Calmly.is_tail ?_); first | refine Calmly.mix_tail_nil ?_ | refine Calmly.mix_tail rfl (fun _ _ => ?_)) | ((with_reducible refine Calmly.is_kept ?_); refine ⟨kept_of hk, ?_⟩) | (with_reducible refine Calmly.mix_alt ?_ ?_))
              go_roundw
              case rel => exact ⟨i + 1, i, left, true, by omega, rfl, by go_num, HS3, x6', hbr2⟩
              case measure => simp [intOf]; omega
            · obtain ⟨o1', o2', o3, o4⟩ := HOK.out rfl
              dsimp only at o1' o2' o3 o4
              obtain ⟨j, rfl⟩ : ∃ j : Nat, b1 = j := ⟨b1.toNat, by omega⟩
              have hjm : j < m := by omega
              have e2 := SI.hereU (h2.keep BW) hjm
              have hkb := Q5.out j (by omega)
              have HS3 := HS2.out
              rw [Int.toNat_natCast] at HS3
              obtain ⟨kb, hkb'⟩ : ∃ v, ks[j]?.getD 0 = v := ⟨_, rfl⟩
              rw [hkb'] at e2 hkb HS3
              clear hkb'
              have hj0 : (0 : Int) ≤ (j : Int) := by omega
              have hjm' : (j : Int) < (m : Int) := by omega
              have hb1 := small_mulU (x := left) (y := kb) (by omega) (by omega) (by omega) (by omega)
              obtain ⟨z, hz⟩ : ∃ z, cmpQ (left * kb) (b2 * k) = z := ⟨_, rfl⟩
              have HZ := Lib.hid hz
              by_cases hcmp : left * kb ≤ b2 * k
              · have hz0 : z ≤ 0 := by rw [← hz]; unfold cmpQ; split <;> (try split) <;> omega
                have hzb : decide (0 < z) = false := decide_eq_false (by omega)
                have HS4 : Hid (rTo ms ks den sq (i + 1) = (((j : Int), b2), true)) := Lib.hid (by rwa [if_pos ⟨rfl, hcmp⟩] at HS3)
                clear hz hcmp HS3 hb1
                go_wp2_with (first | ((with_reducible refine Calmly.is_fl ?_); refine Calmly.mix_fl rfl ?_ (fun _ _ => ?_); (first | exact .move _ | exact .load _ _ | exact .fieldAddr _ _ _ (by kernel_rfl) | exact .assign _ | exact .binOp _ _ _ _ _ rfl | exact .indexAddr _ _ _ | exact .len _ _ (by kernel_rfl) | exact .field _ _ _ | exact .extract _ _ | exact .pick _ _ _ | exact .build _ _ | exact .slice _ _ _ _ _ | exact .unOp _ _ _ rfl | exact .index _ _ _ | exact .max _ _ _ rfl rfl | exact .min _ _ _ rfl rfl)) | ((with_reducible refine Calmly.is_gl ?_); refine Calmly.mix_gl rfl rfl rfl ?_; first | ((first | with_reducible refine Calmly.gl_tt ?_ (fun _ _ => ?_) | with_reducible refine Calmly.gl_ff ?_ (fun _ _ => ?_)); (first | exact .move _ | exact .load _ _ | exact .fieldAddr _ _ _ (by kernel_rfl) | exact .assign _ | exact .binOp _ _ _ _ _ rfl | exact .indexAddr _ _ _ | exact .len _ _ (by kernel_rfl) | exact .field _ _ _ | exact .extract _ _ | exact .pick _ _ _ | exact .build _ _ | exact .slice _ _ _ _ _ | exact .unOp _ _ _ rfl | exact .index _ _ _ | exact .max _ _ _ rfl rfl | exact .min _ _ _ rfl rfl)) | with_reducible refine Calmly.gl_tf (fun _ _ => ?_) | with_reducible refine Calmly.gl_ft (fun _ _ => ?_)) | ((with_reducible refine Calmly.is_eff ?_); refine Calmly.mix_eff rfl (fun _ _ => ?_)) | ((with_reducible refine Calmly.is_gf ?_); refine Calmly.mix_gf rfl rfl rfl ?_; first | with_reducible refine Calmly.gf_tt (fun _ _ => ?_) | with_reducible refine Calmly.gf_ff (fun _ _ => ?_) | with_reducible refine Calmly.gf_tf (kept_of hk) (fun _ _ => ?_) | with_reducible refine Calmly.gf_ft (kept_of hk) (fun _ _ => ?_)) | ((with_reducible refine Calmly.is_tail ?_); first | refine Calmly.mix_tail_nil ?_ | refine Calmly.mix_tail rfl (fun _ _ => ?_)) | ((with_reducible refine Calmly.is_kept ?_); refine ⟨kept_of hk, ?_⟩) | (with_reducible refine Calmly.mix_alt ?_ ?_) | (go_at_call 52; refine (compare_any left k b2 kb _ (by omega) (by omega) (by omega) (by omega) (by omega) (by omega) (by omega) (by omega)).mono ?_; rintro e v3 ⟨rfl, rfl⟩; rw [HZ.out]))
                go_roundw
                case rel => exact ⟨i + 1, j, b2, true, by omega, rfl, by go_num, HS4, x6, hbr⟩
                case measure => simp [intOf]; omega
              · have hz0 : 0 < z := by rw [← hz]; unfold cmpQ; rw [if_neg (by omega), if_pos (by omega)]; decide
                have hzb : decide (0 < z) = true := decide_eq_true hz0
                have HS4 : Hid (rTo ms ks den sq (i + 1) = (((i : Int), left), true)) := Lib.hid (by rwa [if_neg (fun h => hcmp h.2)] at HS3)
                clear hz hcmp HS3 hb1
                go_wp2_with (first | ((with_reducible refine Calmly.is_fl ?_); refine Calmly.mix_fl rfl ?_ (fun _ _ => ?_); (first | exact .move _ | exact .load _ _ | exact .fieldAddr _ _ _ (by kernel_rfl) | exact .assign _ | exact .binOp _ _ _ _ _ rfl | exact .indexAddr _ _ _ | exact .len _ _ (by kernel_rfl) | exact .field _ _ _ | exact .extract _ _ | exact .pick _ _ _ | exact .build _ _ | exact .slice _ _ _ _ _ | exact .unOp _ _ _ rfl | exact .index _ _ _ | exact .max _ _ _ rfl rfl | exact .min _ _ _ rfl rfl)) | ((with_reducible refine Calmly.is_gl ?_); refine Calmly.mix_gl rfl rfl rfl ?_; first | ((first | with_reducible refine Calmly.gl_tt ?_ (fun _ _ => ?_) | with_reducible refine Calmly.gl_ff ?_ (fun _ _ => ?_)); (first | exact .move _ | exact .load _ _ | exact .fieldAddr _ _ _ (by kernel_rfl) | exact .assign _ | exact .binOp _ _ _ _ _ rfl | exact .indexAddr _ _ _ | exact .len _ _ (by kernel_rfl) | exact .field _ _ _ | exact .extract _ _ | exact .pick _ _ _ | exact .build _ _ | exact .slice _ _ _ _ _ | exact .unOp _ _ _ rfl | exact .index _ _ _ | exact .max _ _ _ rfl rfl | exact .min _ _ _ rfl rfl)) | with_reducible refine Calmly.gl_tf (fun _ _ => ?_) | with_reducible refine Calmly.gl_ft (fun _ _ => ?_)) | ((with_reducible refine Calmly.is_eff ?_); refine Calmly.mix_eff rfl (fun _ _ => ?_)) | ((with_reducible refine Calmly.is_gf ?_); refine Calmly.mix_gf rfl rfl rfl ?_; first | with_reducible refine Calmly.gf_tt (fun _ _ => ?_) | with_reducible refine Calmly.gf_ff (fun _ _ => ?_) | with_reducible refine Calmly.gf_tf (kept_of hk) (fun _ _ => ?_) | with_reducible refine Calmly.gf_ft (kept_of hk) (fun _ _ => ?_)) | ((with_reducible refine Calmly.is_tail ?_); first | refine Calmly.mix_tail_nil ?_ | refine Calmly.mix_tail rfl (fun _ _ => ?_)) | ((with_reducible refine Calmly.is_kept ?_); refine ⟨kept_of hk, ?_⟩) | (with_reducible refine Calmly.mix_alt ?_ ?_) | (go_at_call 52; refine (compare_any left k b2 kb _ (by omega) (by omega) (by omega) (by omega) (by omega) (by omega) (by omega) (by omega)).mono ?_; rintro e v3 ⟨rfl, rfl⟩; rw [HZ.out]))
                go_roundw
                case rel => exact ⟨i + 1, i, left, true, by omega, rfl, by go_num, HS4, x6', hbr2⟩
                case measure => simp [intOf]; omega
          · go_roundw
            case rel => exact ⟨f - 1, left - 1, rfl, rfl, by omega, by omega, by omega, Lib.hid (by have := HS.out; simp only [if_true] at this; exact this.symm), x6, hbr⟩
            case measure => simp [intOf]; omega
        · obtain rfl : left = 0 := by omega
          have hrt : rTo ms ks den sq (i + 1) = ((b1, b2), fd) := by
            rw [← HX.out]
            cases f <;> rfl
          go_wp2_with fail
          go_roundw
          case rel => exact ⟨i + 1, b1, b2, fd, by omega, rfl, by go_num, Lib.hid hrt, x6, hbr⟩
          case measure => simp [intOf]; omega
    · have hle : (m : Int) ≤ (i : Int) := by omega
      obtain ⟨hr1, rfl⟩ : (b1 = r1 ∧ b2 = r2) ∧ fd = r3 := by
        have := HEX.out
        rw [show i = ms.length by omega, HR.out] at this
        cases this
        exact ⟨⟨rfl, rfl⟩, rfl⟩
      obtain ⟨rfl, rfl⟩ := hr1
      have X4 := (hbr.block _ (show w.heap.size + 1 + 1 < w.heap.size + 1 + 1 + 1 by omega)).trans x4
      have f0 := cell_block X2 0
      have f1 := cell_block X2 1
      have f2 := cell_block x6 0
      have f3 := cell_block x6 1
      have f4 := cell_block X4 0
      have f5 := cell_block X4 1
      have f6 := frozen_block X4 0
      have f7 := frozen_block X4 1
      obtain ⟨t1, t2, _, _⟩ := set2 (x := .int .i64 b1) (y := .int .i64 b2) f4 f5
      go_wp2_with fail
      refine bodyPost_ret (v := .tuple #[.agg #[.int .i64 b1, .int .i64 b2], .bool fd]) (by simp [results, Try.results30, go_sem, t1, t2]) rfl ⟨rfl, ?_⟩
      exact (BWo.setCell (p := ⟨w.heap.size + 1 + 1, 0, none⟩) (by show _ ≤ w.heap.size + 1 + 1; omega) _).setCell (p := ⟨w.heap.size + 1 + 1, 1, none⟩) (by show _ ≤ w.heap.size + 1 + 1; omega) _
end Go.Proofs.Ytmaidjankakppaa
