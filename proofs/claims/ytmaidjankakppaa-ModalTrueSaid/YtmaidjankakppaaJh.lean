/- Contracts of chapter 6: the reference of swings. -/
import Derived.Test.YtmaidjankakppaaJg
namespace Go.Proofs.Ytmaidjankakppaa
open Go.RowKit
open Calmly (Kept)

theorem mx_step (xs : List Int) (lo t : Nat) (h1 : lo ≤ t) (h2 : t < xs.length) : max (maxL ((xs.drop lo).take (max 1 (t - lo)))) (xs[t]?.getD 0) = maxL ((xs.drop lo).take (max 1 (t + 1 - lo))) := by
  rcases Nat.eq_or_lt_of_le h1 with rfl | h
  · rw [Nat.sub_self, Nat.add_sub_cancel_left]
    have h3 : ((xs.drop lo).take (max 1 0)) = [xs[lo]] := by
      rw [show max 1 0 = 1 by rfl, List.drop_eq_getElem_cons h2]
      rfl
    rw [h3, show max 1 1 = max 1 0 by rfl, h3, List.getElem?_eq_getElem h2]
    simp [maxL]
  · have h3 := maxL_take (xs.drop lo) (t - lo) (by omega) (by simp; omega)
    rw [List.getElem?_drop, show lo + (t - lo) = t by omega] at h3
    rw [show max 1 (t - lo) = t - lo by omega, show max 1 (t + 1 - lo) = t - lo + 1 by omega, h3]
theorem mx_first (xs : List Int) (lo : Nat) (h2 : lo < xs.length) : xs[lo]?.getD 0 = maxL ((xs.drop lo).take (max 1 (lo - lo))) := by
  have h3 : ((xs.drop lo).take (max 1 0)) = [xs[lo]] := by
    rw [show max 1 0 = 1 by rfl, List.drop_eq_getElem_cons h2]
    rfl
  rw [Nat.sub_self, h3, List.getElem?_eq_getElem h2]
  rfl
theorem mx_bd (xs : List Int) (lo k : Nat) (h : lo < xs.length) (hv : ∀ j : Nat, -10000 ≤ xs[j]?.getD 0 ∧ xs[j]?.getD 0 ≤ 10000) : -10000 ≤ maxL ((xs.drop lo).take (max 1 k)) ∧ maxL ((xs.drop lo).take (max 1 k)) ≤ 10000 := by
  refine maxL_bd (by simp; omega) ?_
  intro y hy
  obtain ⟨i, hi2, rfl⟩ := List.getElem_of_mem (List.mem_of_mem_drop (List.mem_of_mem_take hy))
  have := hv i
  simpa [hi2] using this

set_option maxRecDepth 100000 in
set_option maxHeartbeats 4000000 in
theorem Swings_any (a : Option Addr) (n c : Nat) (xs : List Int) (off : Int) (w : World) (h1 : SI w a n c xs) (hE : decayE xs off = 0) :
    Calls Try.prog 67 #[.agg #[.slice a n c, .int .i64 off]] w fun e w' => ∃ a' L c', e = .returned (.slice a' L c') ∧ OwR w' w.heap.size a' L c' (sgF xs off) ∧ Below w.heap.size w w' := by
  obtain ⟨l1, l2⟩ : n ≤ xs.length ∧ xs.length ≤ n := by have := h1.len; omega
  have m1 := h1.max
  have c1 := h1.cap
  obtain ⟨v1, v2, v3, v4, v5⟩ := decayE_ok hE
  have V := Lib.hid v3
  have hsg : sgF xs off = (List.range ((crossF off 0 (-1) xs).length - 1)).map (sw1 off xs (crossF off 0 (-1) xs)) := by
    unfold sgF crF
    rw [if_pos hE]
    rfl
  have hcf := crossF_ok off xs
  have hll := crossF_len off 0 (-1) xs
  have hb : ∀ o, Below w.heap.size w (w.alloc o) := fun o => (Below.refl _ _).alloc (Nat.le_refl _) _
  rw [hsg]
  have hCR := fun v hv => Crossings_any a n c xs off v hv hE
  obtain ⟨cs, hcs⟩ : ∃ cs, crossF off 0 (-1) xs = cs := ⟨_, rfl⟩
  rw [hcs] at hcf hll ⊢
  simp only [hcs] at hCR
  clear v3 hE hsg hcs
  have HC := Lib.hid hcf
  have HCR := Lib.hid hCR
  clear hcf hCR
  go_enter Try.func67, Try.ntmps67
  go_wp2_with fail
  refine (HCR.out _ (h1.keep (hb _))).mono ?_
  rintro e wa ⟨a', L, c', rfl, ho, hb1⟩
  obtain ⟨l3, l4⟩ : L ≤ cs.length ∧ cs.length ≤ L := by have := ho.len; omega
  have h3 := ho.sr
  clear ho
  have hnew := box1 (w := w) (o := .cells #[.slice a n c, .int .i64 off] 87) hb1
  have d0 : wa.cell? ⟨w.heap.size, 0, none⟩ = some (.slice a n c) := cell_block hnew 0
  have d1 : wa.cell? ⟨w.heap.size, 1, none⟩ = some (.int .i64 off) := cell_block hnew 1
  have hsa := blk_lt hnew
  have hba : Below w.heap.size w wa := (hb _).trans (hb1.mono (by simp))
  clear hnew hb hb1
  go_wp2_with fail
  go_loopw [4, 5] (fun x z wr => ∃ (k L2 c2 : Nat) (a2 : Option Addr), 1 ≤ k ∧ (k ≤ L ∨ k = 1) ∧ x = .slice a2 L2 c2 ∧ z = .int .i64 k ∧ L2 = k - 1 ∧ OwR wr wa.heap.size a2 L2 c2 ((List.range (k - 1)).map (sw1 off xs cs)) ∧ Below wa.heap.size wa wr) (fun _ z _ => L - (intOf z).toNat)
  case atStart => exact ⟨1, 0, 0, none, by omega, .inr rfl, rfl, rfl, rfl, OwR.nil _ _, Below.refl _ _⟩
  case round =>
    obtain ⟨k, L2, c2, a2, hk1, hk, rfl, rfl, hL2, hown, hbr⟩ := hrel
    have d0' := cell_keep d0 hbr
    have d1' := cell_keep d1 hbr
    have hzr : wa.heap.size ≤ wr.heap.size := hbr.size
    by_cases hlt : k < L
    · obtain ⟨j, rfl⟩ : ∃ j, k = j + 1 := ⟨k - 1, by omega⟩
      obtain ⟨b1, o1, rfl, hc1⟩ := h3.at_ (by omega)
      obtain ⟨e1, e2⟩ := hc1 (j + 1) hlt
      obtain ⟨e3, e4⟩ := hc1 j (by omega)
      obtain ⟨q1, q2, q3, _, q5⟩ := HC.out j (by omega)
      obtain ⟨q6, q7, q8, _, _⟩ := HC.out (j + 1) (by omega)
      have q5 := q5 (by omega)
      have hsw : sw1 off xs cs j = (maxL ((xs.drop (cs[j]?.getD (0, 0)).2.toNat).take ((cs[j + 1]?.getD (0, 0)).1.toNat + 1 - (cs[j]?.getD (0, 0)).2.toNat)) - off, maxL ((xs.drop (cs[j]?.getD (0, 0)).2.toNat).take ((cs[j + 1]?.getD (0, 0)).1.toNat + 1 - (cs[j]?.getD (0, 0)).2.toNat)) + off) := rfl
      have hr := range_map_succ (sw1 off xs cs) j
      simp only [Nat.add_sub_cancel] at hown hL2
      obtain rfl : j = L2 := hL2.symm
      clear hc1 hL2 e2 e3
      obtain ⟨p, hp⟩ : ∃ p, cs[j]?.getD (0, 0) = p := ⟨_, rfl⟩
      obtain ⟨q, hq⟩ : ∃ q, cs[j + 1]?.getD (0, 0) = q := ⟨_, rfl⟩
      rw [hp] at e4 q1 q2 q3 q5 hsw
      rw [hq] at e1 q5 q6 q7 q8 hsw
      clear hp hq
      obtain ⟨p1, p2⟩ := p
      obtain ⟨r1, r2⟩ := q
      dsimp only at e4 e1 q1 q2 q3 q5 q6 q7 q8 hsw
      obtain ⟨lo, rfl⟩ : ∃ lo : Nat, p2 = lo := ⟨p2.toNat, by omega⟩
      obtain ⟨hi', rfl⟩ : ∃ hi : Nat, r1 = hi := ⟨r1.toNat, by omega⟩
      simp only [Int.toNat_natCast] at hsw
      have HS := Lib.hid hsw
      have HR := Lib.hid hr
      have hmf := mx_first xs lo (by omega)
      have HMF := Lib.hid hmf
      clear hsw hr hmf
      obtain ⟨b3, o3, rfl, hc3⟩ := h1.at_ (by omega)
      have HC3 := Lib.hid hc3
      have f1 := cell_keep (hc3 lo (by omega)) (hba.trans (hbr.mono (by omega)))
      clear hc3
      have e1' := cell_keep e1 hbr
      have e4' := cell_keep e4 hbr
      have E1 := Lib.hid e1
      clear e1 e4
      obtain ⟨x0, hx0⟩ : ∃ x0, xs[lo]?.getD 0 = x0 := ⟨_, rfl⟩
      rw [hx0] at f1 HMF
      clear hx0
      have hi : ((j : Int) + 1) < (L : Int) := by omega
      have hj1 : ((j : Int) + 1 - 1).toNat = j := by omega
      have hj2 : (0 : Int) ≤ (j : Int) + 1 - 1 := by omega
      have hj3 : (j : Int) + 1 - 1 < (L : Int) := by omega
      have hlo : (lo : Int) < (n : Int) := by omega
      go_wp2_with fail
      refine Calmly.wp_region_mix 8 (.fl 0 <| .fl 1 <| .fl 2 <| .fl 3 <| .fl 4 <| .fl 5 <| .fl 6 <| .fl 7 <| .tail [8, 9, 10]) (by kernel_rfl) (by kernel_rfl) ?_
      go_wp2_with (first | ((with_reducible refine Calmly.is_fl ?_); refine Calmly.mix_fl rfl ?_ (fun _ _ => ?_); (first | exact .move _ | exact .load _ _ | exact .fieldAddr _ _ _ (by kernel_rfl) | exact .assign _ | exact .binOp _ _ _ _ _ rfl | exact .indexAddr _ _ _ | exact .len _ _ (by kernel_rfl) | exact .field _ _ _ | exact .extract _ _ | exact .pick _ _ _ | exact .build _ _ | exact .slice _ _ _ _ _ | exact .unOp _ _ _ rfl | exact .index _ _ _ | exact .max _ _ _ rfl rfl | exact .min _ _ _ rfl rfl)) | ((with_reducible refine Calmly.is_gl ?_); refine Calmly.mix_gl rfl rfl rfl ?_; first | ((first | with_reducible refine Calmly.gl_tt ?_ (fun _ _ => ?_) | with_reducible refine Calmly.gl_ff ?_ (fun _ _ => ?_)); (first | exact .move _ | exact .load _ _ | exact .fieldAddr _ _ _ (by kernel_rfl) | exact .assign _ | exact .binOp _ _ _ _ _ rfl | exact .indexAddr _ _ _ | exact .len _ _ (by kernel_rfl) | exact .field _ _ _ | exact .extract _ _ | exact .pick _ _ _ | exact .build _ _ | exact .slice _ _ _ _ _ | exact .unOp _ _ _ rfl | exact .index _ _ _ | exact .max _ _ _ rfl rfl | exact .min _ _ _ rfl rfl)) | with_reducible refine Calmly.gl_tf (fun _ _ => ?_) | with_reducible refine Calmly.gl_ft (fun _ _ => ?_)) | ((with_reducible refine Calmly.is_eff ?_); refine Calmly.mix_eff rfl (fun _ _ => ?_)) | ((with_reducible refine Calmly.is_gf ?_); refine Calmly.mix_gf rfl rfl rfl ?_; first | with_reducible refine Calmly.gf_tt (fun _ _ => ?_) | with_reducible refine Calmly.gf_ff (fun _ _ => ?_) | with_reducible refine Calmly.gf_tf (kept_of hk) (fun _ _ => ?_) | with_reducible refine Calmly.gf_ft (kept_of hk) (fun _ _ => ?_)) | ((with_reducible refine Calmly.is_tail ?_); first | refine Calmly.mix_tail_nil ?_ | refine Calmly.mix_tail rfl (fun _ _ => ?_)) | ((with_reducible refine Calmly.is_kept ?_); refine ⟨kept_of hk, ?_⟩) | (with_reducible refine Calmly.mix_alt ?_ ?_))
      go_loopw [6, 7] (fun m z wz => ∃ (t : Nat), lo ≤ t ∧ t ≤ hi' + 1 ∧ z = .int .i64 t ∧ m = .int .i64 (maxL ((xs.drop lo).take (max 1 (t - lo)))) ∧ wz = wr.drew) (fun _ z _ => hi' + 1 - (intOf z).toNat)
      case atStart => exact ⟨lo, by omega, by omega, rfl, by rw [HMF.out], rfl⟩
      case round =>
        obtain ⟨t, ht1, ht2, rfl, rfl, rfl⟩ := hrel
        by_cases hlt2 : t ≤ hi'
        · have hst := mx_step xs lo t ht1 (by omega)
          obtain ⟨q9, q10⟩ := mx_bd xs lo (t - lo) (by omega) V.out
          have f2 := cell_keep (HC3.out t (by omega)) (hba.trans (hbr.mono (by omega)))
          have hv2 := V.out t
          obtain ⟨y, hy⟩ : ∃ y, xs[t]?.getD 0 = y := ⟨_, rfl⟩
          obtain ⟨m, hm⟩ : ∃ m, maxL ((xs.drop lo).take (max 1 (t - lo))) = m := ⟨_, rfl⟩
          rw [hy] at f2 hst hv2
          rw [hm] at hst q9 q10 ⊢
          clear hy hm
          have HST := Lib.hid hst
          clear hst
          have hg1 : (t : Int) ≤ (hi' : Int) := by omega
          have hg2 : (t : Int) < (n : Int) := by omega
          have hg0 : (0 : Int) ≤ (t : Int) := by omega
          have hg3 : (0 : Int) ≤ (j : Int) + 1 := by omega
          rcases Int.lt_or_le m y with u | u
          · have u' : m ≤ y := by omega
            go_wp2_with fail
            go_roundw
            case rel => exact ⟨t + 1, by omega, by omega, by go_num, by rw [← HST.out]; exact congrArg _ (by omega), trivial⟩
            case measure => simp [intOf]; omega
          · go_wp2_with fail
            go_roundw
            case rel => exact ⟨t + 1, by omega, by omega, by go_num, by rw [← HST.out]; exact congrArg _ (by omega), trivial⟩
            case measure => simp [intOf]; omega
        · have hle : (hi' : Int) < (t : Int) := by omega
          obtain rfl : t = hi' + 1 := by omega
          obtain ⟨q9, q10⟩ := mx_bd xs lo (hi' + 1 - lo) (by omega) V.out
          rw [show max 1 (hi' + 1 - lo) = hi' + 1 - lo by omega] at q9 q10 ⊢
          obtain ⟨m, hm⟩ : ∃ m, maxL ((xs.drop lo).take (hi' + 1 - lo)) = m := ⟨_, rfl⟩
          rw [hm] at q9 q10 HS ⊢
          clear hm
          have hL3 : j + 1 ≤ 1099511627776 := by omega
          have hg3 : (0 : Int) ≤ (j : Int) + 1 := by omega
          have hB3 : wa.heap.size ≤ wr.drew.heap.size := hzr
          go_wp2_with (refine appRg wr.drew (l := (List.range j).map (sw1 off xs cs)) rfl rfl _ _ rfl hown.drew rfl rfl hL3 hB3 ?_; intro a3 c3 w6 ho6 hb6 hs6)
          go_roundw
          case rel =>
            refine ⟨j + 2, j + 1, c3, a3, by omega, by omega, rfl, by go_num, by omega, ?_, hbr.trans ((Below.refl _ _).drew.trans hb6)⟩
            show OwR _ _ _ _ _ ((List.range (j + 1)).map (sw1 off xs cs))
            rw [HR.out, HS.out]
            exact ho6
          case measure => simp [intOf]; omega
    · have hle : (L : Int) ≤ (k : Int) := by omega
      go_wp2_with fail
      go_ret
      refine ⟨_, _, _, rfl, ?_, hba.trans (hbr.mono (by omega))⟩
      rw [show cs.length - 1 = k - 1 by omega]
      exact hown.weak (by omega)
end Go.Proofs.Ytmaidjankakppaa
