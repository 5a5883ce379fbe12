/- The claim of TopModalFree: a tied card. -/
import Derived.Test.YteigmjlfpmdmoaaGreatDoorK17
import Derived.Test.YteigmjlfpmdmoaaGreatDoorRows
import Derived.Test.YteigmjlfpmdmoaaGreatDoorCards
import Derived.Test.YteigmjlfpmdmoaaGreatDoorTie
import Derived.LaidMore
import Derived.Lay
import Derived.SevenTiedAt
import Derived.Stop.Joined
import Derived.Stop.LaidErr
import Derived.HandedShaped
import Derived.ChangeMaps5
namespace Go.Proofs.YteigmjlfpmdmoaaGreatDoor
open Go.RowKit
open Calmly (Kept)

/-- What the period of such a decay is, or that there is none. -/
theorem period_case {ss : List Int} {off : Int} {n : Nat} (hd : decayE ss off = 0) (h : PerL n none (crossF off 0 (-1) ss)) (hn : 0 < n) (hn2 : n ≤ 10) (hl2 : (crossF off 0 (-1) ss).length ≤ 60) :
    ∃ E p q r s, periodE ss off = E ∧ (E ≠ 0 → p = 0 ∧ q = 0 ∧ r = 0 ∧ s = 0) ∧ (E = 0 → periodF ss off = ((p, q), (r, s))) ∧
      (((crossF off 0 (-1) ss).length < 2 ∧ E = 12) ∨ (2 ≤ (crossF off 0 (-1) ss).length ∧ E = 0 ∧
        isLow p q = true ∧ isLow r s = true ∧ isSmallF p q = true ∧ isSmallF r s = true ∧ cmpQ (p * 1) ((n : Int) * q) ≤ 0 ∧ cmpQ ((n : Int) * s) (r * 1) ≤ 0 ∧ -1000 ≤ p ∧ p ≤ 1000 ∧ -1000 ≤ q ∧ q ≤ 1000 ∧ -1000 ≤ r ∧ r ≤ 1000 ∧ -1000 ≤ s ∧ s ≤ 1000)) := by
  by_cases hl : (crossF off 0 (-1) ss).length < 2
  · refine ⟨12, 0, 0, 0, 0, ?_, fun _ => ⟨rfl, rfl, rfl, rfl⟩, fun h => absurd h (by decide), .inl ⟨hl, rfl⟩⟩
    unfold periodE
    have e : decide (1 ≤ ((crossF off 0 (-1) ss).length : Int) - 1) = false := by simp; omega
    rw [hd, e]
    rfl
  · have e : decide (1 ≤ ((crossF off 0 (-1) ss).length : Int) - 1) = true := by simp; omega
    refine ⟨0, (periodF ss off).1.1, (periodF ss off).1.2, (periodF ss off).2.1, (periodF ss off).2.2, ?_, fun h => absurd rfl h, fun _ => rfl, .inr ⟨by omega, rfl, ?_⟩⟩
    · unfold periodE
      rw [hd, e]
      rfl
    · exact smps_period h hn hn2 (by omega) hl2 rfl

set_option maxRecDepth 100000 in
set_option maxHeartbeats 4000000 in
theorem TopModalFree_walk (va ea : Option Addr) (vn vc en ec : Nat) (v es : List Int) (count off : Int) (w : World) (hv : Vars w) (h1 : SI w va vn vc v) (h2 : SI w ea en ec es) (ie : I64 es) :
    Calls Tryz.prog 3 #[.slice va vn vc, .slice ea en ec, .agg #[.int .i64 count, .int .i64 off]] w fun e w' => e = .returned (.bool true) ∧ Below w.heap.size w w' := by
  have ma := h1.max
  have ca := h1.cap
  have mb := h2.max
  have cb := h2.cap
  have hbx : ∀ o, Below w.heap.size w (w.alloc o) := fun o => (Below.refl _ _).alloc (Nat.le_refl _) _
  have IE := Lib.hid ie
  clear ie
  obtain ⟨l1, l2⟩ : vn ≤ v.length ∧ v.length ≤ vn := by have := h1.len; omega
  obtain ⟨l3, l4⟩ : en ≤ es.length ∧ es.length ≤ en := by have := h2.len; omega
  go_enter Tryz.func3, Tryz.ntmps3
  go_wp2_with fail
  refine (modalShown_any _).mono ?_
  rintro e w1 ⟨rfl, hb1⟩
  have x1 := box1 (w := w) hb1
  have B1 := (hbx _).trans (hb1.mono (hbx _).size)
  clear hb1 hbx
  have f0 : w1.cell? ⟨w.heap.size, 0, none⟩ = some (.int .i64 count) := cell_block x1 0
  have f1 : w1.cell? ⟨w.heap.size, 1, none⟩ = some (.int .i64 off) := cell_block x1 1
  go_wp2_with fail
  refine Calmly.wp_region_mix 5 (.fl 0 <| .fl 1 <| .fl 2 <| .fl 3 <| .fl 4 <| .tail [5]) (by kernel_rfl) (by kernel_rfl) ?_
  replace x1 := blk_keep x1 (Below.refl _ _).drew
  replace B1 := B1.drew
  clear f0 f1
  generalize World.drew _ = V at *
  have f0 : V.cell? ⟨w.heap.size, 0, none⟩ = some (.int .i64 count) := cell_block x1 0
  have f1 : V.cell? ⟨w.heap.size, 1, none⟩ = some (.int .i64 off) := cell_block x1 1
  have hk := Below.refl V.heap.size V
  go_wp2_with (first | ((with_reducible refine Calmly.is_fl ?_); refine Calmly.mix_fl rfl ?_ (fun _ _ => ?_); (first | exact .move _ | exact .load _ _ | exact .fieldAddr _ _ _ (by kernel_rfl) | exact .assign _ | exact .binOp _ _ _ _ _ rfl | exact .indexAddr _ _ _ | exact .len _ _ (by kernel_rfl) | exact .field _ _ _ | exact .extract _ _ | exact .pick _ _ _ | exact .build _ _ | exact .slice _ _ _ _ _ | exact .unOp _ _ _ rfl | exact .index _ _ _ | exact .max _ _ _ rfl rfl | exact .min _ _ _ rfl rfl | exact .nilCheck _ _ rfl)) | ((with_reducible refine Calmly.is_gl ?_); refine Calmly.mix_gl rfl rfl rfl ?_; first | ((first | with_reducible refine Calmly.gl_tt ?_ (fun _ _ => ?_) | with_reducible refine Calmly.gl_ff ?_ (fun _ _ => ?_)); (first | exact .move _ | exact .load _ _ | exact .fieldAddr _ _ _ (by kernel_rfl) | exact .assign _ | exact .binOp _ _ _ _ _ rfl | exact .indexAddr _ _ _ | exact .len _ _ (by kernel_rfl) | exact .field _ _ _ | exact .extract _ _ | exact .pick _ _ _ | exact .build _ _ | exact .slice _ _ _ _ _ | exact .unOp _ _ _ rfl | exact .index _ _ _ | exact .max _ _ _ rfl rfl | exact .min _ _ _ rfl rfl | exact .nilCheck _ _ rfl)) | with_reducible refine Calmly.gl_tf (fun _ _ => ?_) | with_reducible refine Calmly.gl_ft (fun _ _ => ?_)) | ((with_reducible refine Calmly.is_eff ?_); refine Calmly.mix_eff rfl (fun _ _ => ?_)) | ((with_reducible refine Calmly.is_gf ?_); refine Calmly.mix_gf rfl rfl rfl ?_; first | with_reducible refine Calmly.gf_tt (fun _ _ => ?_) | with_reducible refine Calmly.gf_ff (fun _ _ => ?_) | with_reducible refine Calmly.gf_tf (kept_of hk) (fun _ _ => ?_) | with_reducible refine Calmly.gf_ft (kept_of hk) (fun _ _ => ?_)) | ((with_reducible refine Calmly.is_tail ?_); first | refine Calmly.mix_tail_nil ?_ | refine Calmly.mix_tail rfl (fun _ _ => ?_)) | ((with_reducible refine Calmly.is_kept ?_); refine ⟨kept_of hk, ?_⟩) | (with_reducible refine Calmly.mix_alt ?_ ?_))
  clear hk f0 f1
  refine (within_any _ _ _ _).mono ?_
  rintro e w' ⟨rfl, rfl⟩
  cases a1 : wIn (vn : Int) 2 10
  · go_wp2_with fail
    go_ret
    exact ⟨rfl, B1⟩
  go_wp2_with fail
  refine (within_any _ _ _ _).mono ?_
  rintro e w' ⟨rfl, rfl⟩
  cases a2 : wIn count 1 40
  · go_wp2_with fail
    go_ret
    exact ⟨rfl, B1⟩
  go_wp2_with fail
  refine (within_any _ _ _ _).mono ?_
  rintro e w' ⟨rfl, rfl⟩
  cases a3 : wIn off 0 1000
  · go_wp2_with fail
    go_ret
    exact ⟨rfl, B1⟩
  rcases Nat.eq_zero_or_pos en with he0 | he0
  · subst he0
    go_wp2_with fail
    go_ret
    exact ⟨rfl, B1⟩
  have t0 : ((en : Int) == 0) = false := by simp; omega
  by_cases h60 : 60 < en
  · have t1 : (60 : Int) < (en : Int) := by omega
    go_wp2_with fail
    go_ret
    exact ⟨rfl, B1⟩
  have t1 : (en : Int) ≤ 60 := by omega
  simp only [wIn, Bool.and_eq_true, decide_eq_true_eq] at a1 a2 a3
  obtain ⟨cn, hcn⟩ : ∃ n : Nat, count = n := ⟨count.toNat, by omega⟩
  subst hcn
  go_wp2_with fail
  go_loopw [6, 9, 10] (fun _ z9 z10 wr => ∃ k : Nat, k ≤ vn ∧ z9 = .int .i64 (upsN (upP v) k) ∧ z10 = .int .i64 k ∧ (∀ i, i < k → -5000 ≤ v[i]?.getD 0 ∧ v[i]?.getD 0 ≤ 5000 ∧ 2 * off < (v[i]?.getD 0).natAbs) ∧ wr = V) (fun _ _ z _ => vn - (intOf z).toNat)
  case atStart => exact ⟨0, by omega, rfl, rfl, fun i hi => absurd hi (by omega), rfl⟩
  case round =>
    obtain ⟨k, hk, rfl, rfl, hall, rfl⟩ := hrel
    have hu := upsN_le (upP v) k
    have HALL := Lib.hid hall
    clear hall
    by_cases hlt : k < vn
    · as_aux_lemma =>
      obtain ⟨b3, o3, rfl, hc3⟩ := (h1.keep B1).at_ (by omega)
      obtain ⟨r, hr⟩ : ∃ r, (k + 1) % vn = r := ⟨_, rfl⟩
      have hr1 : r < vn := hr ▸ Nat.mod_lt _ (by omega)
      have hrem : ((k : Int) + 1).tmod (vn : Int) = (r : Int) := by rw [← hr]; exact (Int.ofNat_tmod (k + 1) vn).symm
      have e3 := hc3 k hlt
      have e4 := hc3 r hr1
      have hup : upP v k = (decide (v[k]?.getD 0 < 0) && decide (0 < v[r]?.getD 0)) := by
        unfold upP
        rw [show (k + 1) % v.length = r by rw [← hr]; congr 1; omega]
      have hnx : upsN (upP v) (k + 1) = upsN (upP v) k + if upP v k then 1 else 0 := rfl
      rw [hup] at hnx
      clear hc3 hr hup
      obtain ⟨x, hx⟩ : ∃ x, v[k]?.getD 0 = x := ⟨_, rfl⟩
      obtain ⟨y, hy⟩ : ∃ y, v[r]?.getD 0 = y := ⟨_, rfl⟩
      obtain ⟨u, hu'⟩ : ∃ u, upsN (upP v) k = u := ⟨_, rfl⟩
      rw [hx] at e3 hnx
      rw [hy] at e4 hnx
      rw [hu'] at hnx hu ⊢
      have HX := Lib.hid hx
      have HNX := Lib.hid hnx
      clear hx hy hu' hnx
      have hi : (k : Int) < (vn : Int) := by omega
      have hi0 : (0 : Int) ≤ (k : Int) := by omega
      have hr0 : (0 : Int) ≤ (r : Int) := by omega
      have hr2 : (r : Int) < (vn : Int) := by omega
      go_wp2_with fail
      refine (within_any _ _ _ _).mono ?_
      rintro e w' ⟨rfl, rfl⟩
      cases a4 : wIn x (-5000) 5000
      · go_wp2_with fail
        go_ret
        exact ⟨rfl, B1⟩
      simp only [wIn, Bool.and_eq_true, decide_eq_true_eq] at a4
      go_wp2_with fail
      refine (size_any _ _ (by omega) (by omega)).mono ?_
      rintro e w' ⟨rfl, rfl⟩
      by_cases h5 : (x.natAbs : Int) ≤ 2 * off
      · go_wp2_with fail
        go_ret
        exact ⟨rfl, B1⟩
      have h5' : 2 * off < (x.natAbs : Int) := by omega
      clear h5
      by_cases h6 : x < 0
      · by_cases h7 : 0 < y
        · go_wp2_with fail
          go_roundw
          case rel =>
            refine ⟨k + 1, by omega, ?_, by go_num, fun i hi => ?_, trivial⟩
            · rw [HNX.out]
              simp [h6, h7]
            · rcases Nat.lt_or_ge i k with h | h
              · exact HALL.out i h
              · obtain rfl : i = k := by omega
                rw [HX.out]
                exact ⟨a4.1, a4.2, h5'⟩
          case measure => simp [intOf]; omega
        · have h7' : y ≤ 0 := by omega
          go_wp2_with fail
          go_roundw
          case rel =>
            refine ⟨k + 1, by omega, ?_, by go_num, fun i hi => ?_, trivial⟩
            · rw [HNX.out]
              simp [show ¬ 0 < y by omega]
            · rcases Nat.lt_or_ge i k with h | h
              · exact HALL.out i h
              · obtain rfl : i = k := by omega
                rw [HX.out]
                exact ⟨a4.1, a4.2, h5'⟩
          case measure => simp [intOf]; omega
      · have h6' : 0 ≤ x := by omega
        go_wp2_with fail
        go_roundw
        case rel =>
          refine ⟨k + 1, by omega, ?_, by go_num, fun i hi => ?_, trivial⟩
          · rw [HNX.out]
            simp [show ¬ x < 0 by omega]
          · rcases Nat.lt_or_ge i k with h | h
            · exact HALL.out i h
            · obtain rfl : i = k := by omega
              rw [HX.out]
              exact ⟨a4.1, a4.2, h5'⟩
        case measure => simp [intOf]; omega
    · obtain rfl : vn = k := by omega
      have hok : WvOk v off := fun i hi => HALL.out i (by omega)
      have HOK := Lib.hid hok
      clear hok HALL hlt
      have hle : (vn : Int) ≤ (vn : Int) := Int.le_refl _
      by_cases hone : upsN (upP v) vn = 1
      case neg =>
        obtain ⟨u, hu'⟩ : ∃ u, upsN (upP v) vn = u := ⟨_, rfl⟩
        rw [hu'] at hone hu ⊢
        have hne : ((u : Int) == 1) = false := by simp; omega
        clear hu'
        go_wp2_with fail
        go_ret
        exact ⟨rfl, B1⟩
      rw [hone, show ((1 : Nat) : Int) = 1 from rfl]
      have hups : upsN (upP v) v.length = 1 := by rw [show v.length = vn by omega]; exact hone
      have HUP := Lib.hid hups
      clear hone hups hu
      have hA : ∀ (A : World) (o : Obj), Below A.heap.size A (A.alloc o) := fun A o => (Below.refl _ _).alloc (Nat.le_refl _) _
      obtain ⟨V, hV⟩ : ∃ x, x = wr := ⟨_, rfl⟩
      subst hV
      obtain ⟨wx, hwx⟩ : ∃ x, x = V.alloc (.cells #[.slice none 0 0, .int .i64 off] 28) := ⟨_, rfl⟩
      have hb3 : Below V.heap.size V wx := hwx ▸ hA _ _
      have x5 : wx.heap[V.heap.size]? = some (.cells #[.slice none 0 0, .int .i64 off] 28) := hwx ▸ alloc_new _ _
      clear x1
      go_wp2_with fail
      rw [← hwx]
      clear hwx
      go_loopw [12] (fun z wr => ∃ (k c' : Nat) (a' : Option Addr), k ≤ cn ∧ z = .int .i64 k ∧ wr.heap[V.heap.size]? = some (.cells #[.slice a' k c', .int .i64 off] 28) ∧ OwI wr (V.heap.size + 1) a' k c' (smps v es off k) ∧ Below V.heap.size V wr) (fun z _ => cn - (intOf z).toNat)
      case atStart => exact ⟨0, 0, none, by omega, rfl, x5, OwI.nil _ _, hb3⟩
      case round =>
        obtain ⟨k, c', a', hk, rfl, x5r, hown, hbr⟩ := hrel
        have hs5 := blk_lt x5r
        clear x5 hb3
        by_cases hlt : k < cn
        · as_aux_lemma =>
          have Bw := B1.trans (hbr.mono B1.size)
          obtain ⟨b3, o3, rfl, hc3⟩ := (h1.keep Bw).at_ (by omega)
          obtain ⟨b4, o4, rfl, hc4⟩ := (h2.keep Bw).at_ (by omega)
          obtain ⟨r, hr⟩ : ∃ r, k % vn = r := ⟨_, rfl⟩
          obtain ⟨u, hu⟩ : ∃ u, k % en = u := ⟨_, rfl⟩
          have hr1 : r < vn := hr ▸ Nat.mod_lt _ (by omega)
          have hu1 : u < en := hu ▸ Nat.mod_lt _ (by omega)
          have hrem : (k : Int).tmod (vn : Int) = (r : Int) := by rw [← hr]; exact (Int.ofNat_tmod k vn).symm
          have hrem2 : (k : Int).tmod (en : Int) = (u : Int) := by rw [← hu]; exact (Int.ofNat_tmod k en).symm
          have e3 := hc3 r hr1
          have e4 := hc4 u hu1
          have hv4 := IE.out.at_ u
          have hE : smp v es off k = v[r]?.getD 0 + es[u]?.getD 0 % (2 * off + 1) - off := by
            unfold smp
            rw [show k % v.length = r by rw [← hr]; congr 1; omega, show k % es.length = u by rw [← hu]; congr 1; omega]
          have hv3 := HOK.out r (by omega)
          clear hc3 hc4 hr hu
          obtain ⟨x, hx⟩ : ∃ x, v[r]?.getD 0 = x := ⟨_, rfl⟩
          obtain ⟨y, hy⟩ : ∃ y, es[u]?.getD 0 = y := ⟨_, rfl⟩
          rw [hx] at e3 hv3 hE
          rw [hy] at e4 hv4 hE
          clear hx hy
          have hm1 := Int.emod_nonneg y (by omega : 2 * off + 1 ≠ 0)
          have hm2 := Int.emod_lt_of_pos y (by omega : 0 < 2 * off + 1)
          have hMOD := fun w => mod_any y (2 * off + 1) w (by omega) (by omega) hv4.1 hv4.2
          obtain ⟨m, hm⟩ : ∃ m, y % (2 * off + 1) = m := ⟨_, rfl⟩
          rw [hm] at hm1 hm2 hE
          simp only [hm] at hMOD
          have HMOD := Lib.hid hMOD
          have HE := Lib.hid hE
          obtain ⟨hv5, hv6, _⟩ := hv3
          clear hMOD hE hm hv4
          have hi : (k : Int) < (cn : Int) := by omega
          have hi0 : (0 : Int) ≤ (k : Int) := by omega
          have hr0 : (0 : Int) ≤ (r : Int) := by omega
          have hr2 : (r : Int) < (vn : Int) := by omega
          have hu0 : (0 : Int) ≤ (u : Int) := by omega
          have hu2 : (u : Int) < (en : Int) := by omega
          go_wp2_with fail
          refine Calmly.wp_region_mix 24 (.fl 0 <| .fl 1 <| .fl 2 <| .fl 3 <| .fl 4 <| .fl 5 <| .fl 6 <| .fl 7 <| .fl 8 <| .fl 9 <| .fl 10 <| .fl 11 <| .fl 12 <| .fl 13 <| .fl 14 <| .fl 15 <| .fl 16 <| .fl 17 <| .fl 18 <| .fl 21 <| .eff 19 <| .fl 20 <| .fl 22 <| .eff 23 <| .tail [24, 25, 26]) (by kernel_rfl) (by kernel_rfl) ?_
          replace x5r : wr.drew.heap[V.heap.size]? = some (.cells #[.slice a' k c', .int .i64 off] 28) := x5r
          replace e3 : wr.drew.cell? ⟨b3, o3 + r, none⟩ = some (.int .i64 x) := e3
          replace e4 : wr.drew.cell? ⟨b4, o4 + u, none⟩ = some (.int .i64 y) := e4
          replace hown : OwI wr.drew (V.heap.size + 1) a' k c' (smps v es off k) := hown.drew
          replace hbr := hbr.drew
          replace hs5 : V.heap.size < wr.drew.heap.size := hs5
          clear Bw
          generalize wr.drew = U at *
          have g0 := cell_block x5r 0
          have hk := Below.refl U.heap.size U
          go_wp2_with (first | ((with_reducible refine Calmly.is_tail ?_); refine Calmly.mix_tail_app rfl (fun rest hrest => ?_); refine appIw U rfl rfl _ _ rfl hown rfl rfl (by omega) (by omega) ?_; intro a2' c2' w5 ho5 hb5 hs6; refine hrest _ _ ?_; have y5 := (hb5.block V.heap.size (by omega)).trans x5r; have f3 := cell_block y5 0; have f4 := frozen_block y5 0) | (go_at_call 10; refine (HMOD.out _).mono ?_; rintro e w' ⟨rfl, rfl⟩) | ((with_reducible refine Calmly.is_fl ?_); refine Calmly.mix_fl rfl ?_ (fun _ _ => ?_); (first | exact .move _ | exact .load _ _ | exact .fieldAddr _ _ _ (by kernel_rfl) | exact .assign _ | exact .binOp _ _ _ _ _ rfl | exact .indexAddr _ _ _ | exact .len _ _ (by kernel_rfl) | exact .field _ _ _ | exact .extract _ _ | exact .pick _ _ _ | exact .build _ _ | exact .slice _ _ _ _ _ | exact .unOp _ _ _ rfl | exact .index _ _ _ | exact .max _ _ _ rfl rfl | exact .min _ _ _ rfl rfl | exact .nilCheck _ _ rfl)) | ((with_reducible refine Calmly.is_gl ?_); refine Calmly.mix_gl rfl rfl rfl ?_; first | ((first | with_reducible refine Calmly.gl_tt ?_ (fun _ _ => ?_) | with_reducible refine Calmly.gl_ff ?_ (fun _ _ => ?_)); (first | exact .move _ | exact .load _ _ | exact .fieldAddr _ _ _ (by kernel_rfl) | exact .assign _ | exact .binOp _ _ _ _ _ rfl | exact .indexAddr _ _ _ | exact .len _ _ (by kernel_rfl) | exact .field _ _ _ | exact .extract _ _ | exact .pick _ _ _ | exact .build _ _ | exact .slice _ _ _ _ _ | exact .unOp _ _ _ rfl | exact .index _ _ _ | exact .max _ _ _ rfl rfl | exact .min _ _ _ rfl rfl | exact .nilCheck _ _ rfl)) | with_reducible refine Calmly.gl_tf (fun _ _ => ?_) | with_reducible refine Calmly.gl_ft (fun _ _ => ?_)) | ((with_reducible refine Calmly.is_eff ?_); refine Calmly.mix_eff rfl (fun _ _ => ?_)) | ((with_reducible refine Calmly.is_gf ?_); refine Calmly.mix_gf rfl rfl rfl ?_; first | with_reducible refine Calmly.gf_tt (fun _ _ => ?_) | with_reducible refine Calmly.gf_ff (fun _ _ => ?_) | with_reducible refine Calmly.gf_tf (kept_of hk) (fun _ _ => ?_) | with_reducible refine Calmly.gf_ft (kept_of hk) (fun _ _ => ?_)) | ((with_reducible refine Calmly.is_tail ?_); first | refine Calmly.mix_tail_nil ?_ | refine Calmly.mix_tail rfl (fun _ _ => ?_)) | ((with_reducible refine Calmly.is_kept ?_); refine ⟨kept_of hk, ?_⟩) | (with_reducible refine Calmly.mix_alt ?_ ?_) | (refine kept_alloc hk (fun hk' hblk hge => ?_); replace hk := hk'; clear hk'))
          go_roundw
          case rel =>
            refine ⟨k + 1, c2', a2', by omega, by go_num, blk_setAt y5 0 _, ?_, (hbr.trans (hb5.mono (by omega))).setCell (Nat.le_refl _) _⟩
            rw [smps_snoc, HE.out]
            exact ho5.under (by omega) _
          case measure => simp [intOf]; omega
        · obtain rfl : cn = k := by omega
          have hle : (cn : Int) ≤ (cn : Int) := Int.le_refl _
          have hdec : decayE (smps v es off cn) off = 0 := smps_ok (by omega) HOK.out (by omega) (by omega) (by omega) (by omega)
          have hper := smps_per (es := es) (by omega) HOK.out (by omega) (by omega) HUP.out cn
          rw [show v.length = vn by omega] at hper
          have z5 := hown.si
          have hlen := smps_len v es off cn
          obtain ⟨ss, hss⟩ : ∃ ys, smps v es off cn = ys := ⟨_, rfl⟩
          rw [hss] at hdec hper z5 hlen
          obtain ⟨_, _, yb, _⟩ := decayE_ok hdec
          have is : I64 ss := fun x hx => by
            obtain ⟨i, _, rfl⟩ := List.mem_iff_getElem.1 hx
            have := yb i
            rw [List.getElem?_eq_getElem (by assumption)] at this
            simp only [Option.getD_some] at this
            omega
          have hlf : (fmtD ss off).length ≤ 1000000 := by
            have lw := words_len20 is
            have lw2 := words_len20 (xs := [off]) (fun x hx => by have := List.mem_singleton.1 hx; omega)
            unfold fmtD
            rw [List.length_append, List.length_cons]
            simp only [List.length_cons, List.length_nil] at lw2
            omega
          have hbk := pd_back hdec
          have hcl : (crossF off 0 (-1) ss).length ≤ 60 := by have := crossF_len off 0 (-1) ss; omega
          obtain ⟨E, p, q, r, s, hE, hEz, hEo, hcase⟩ := period_case hdec hper (by omega) (by omega) hcl
          have hbd := fun j => crossF_at hdec j
          obtain ⟨L, hL⟩ : ∃ L, crossF off 0 (-1) ss = L := ⟨_, rfl⟩
          have hcr : crF ss off = L := by unfold crF; rw [if_pos hdec, hL]
          rw [hL] at hper hcl hcase
          simp only [hL] at hbd
          have HBD := Lib.hid hbd
          have HBK := Lib.hid hbk
          have HPER := Lib.hid hper
          have HCR := Lib.hid hcr
          have HE := Lib.hid hE
          have HEZ := Lib.hid hEz
          have HEO := Lib.hid hEo
          have HD := Lib.hid hdec
          have HIS := Lib.hid is
          have HCASE := Lib.hid hcase
          clear hbd hbk hper hcr hE hEz hEo hdec hL hss hlen yb hown HUP HOK is hcase
          obtain ⟨v0, hv0⟩ : ∃ x, x = wr := ⟨_, rfl⟩
          subst hv0
          have BV := B1.trans (hbr.mono B1.size)
          obtain ⟨b5, hb5⟩ : ∃ b5, V.heap.size = b5 := ⟨_, rfl⟩
          rw [hb5] at x5r hs5 ⊢
          clear hb5 hbr B1 hA
          have g5 := cell_block x5r 0
          have g6 := cell_block x5r 1
          go_wp2_with fail
          refine (CopyDecay_any a' cn c' ss off _ z5 (by omega)).mono ?_
          rintro e v1 ⟨a1, cc1, rfl, o1, hb⟩
          replace x5r := blk_keep x5r hb
          replace z5 := z5.keep hb
          replace BV := BV.trans (hb.mono BV.size)
          clear hb g5 g6
          go_wp2_with fail
          refine (FormatDecay_any a1 cn cc1 ss off v1 (hv.keep BV) o1 (by omega) HIS.out (by omega) (by omega)).mono ?_
          rintro e v2 ⟨rfl, hb⟩
          replace x5r := blk_keep x5r hb
          replace z5 := z5.keep hb
          replace BV := BV.trans (hb.mono BV.size)
          clear hb o1
          go_wp2_with fail
          refine (ParseDecay_any (fmtD ss off) v2 (hv.keep BV) hlf).mono ?_
          rintro e v3 ⟨a3, n3, c3, rfl, s3, hb⟩
          rw [HBK.out.2] at s3
          rw [HBK.out.2, HBK.out.1]
          dsimp only at s3 ⊢
          replace x5r := blk_keep x5r hb
          replace z5 := z5.keep hb
          replace BV := BV.trans (hb.mono BV.size)
          clear hb hlf
          obtain ⟨n31, n32⟩ : n3 ≤ cn ∧ cn ≤ n3 := by have := s3.len; have := z5.len; omega
          have hs3 := blk_lt x5r
          have g5 := cell_block x5r 0
          have g6 := cell_block x5r 1
          have hb : Below v3.heap.size v3 (v3.alloc (.cells #[.slice a3 n3 c3, .int .i64 off] 28)) := (Below.refl _ _).alloc (Nat.le_refl _) _
          have y5 := alloc_new v3 (.cells #[.slice a3 n3 c3, .int .i64 off] 28)
          go_wp2_with fail
          generalize v3.alloc (.cells #[.slice a3 n3 c3, .int .i64 off] 28) = V5 at *
          clear g5 g6 hs3 hs5
          replace x5r := blk_keep x5r hb
          replace z5 := z5.keep hb
          replace s3 := s3.keep hb
          replace BV := BV.trans (hb.mono BV.size)
          clear hb
          refine (CopyDecay_any a' cn c' ss off V5 z5 (by omega)).mono ?_
          rintro e v6 ⟨a6, c6, rfl, o6, hb⟩
          replace x5r := blk_keep x5r hb
          replace y5 := blk_keep y5 hb
          replace z5 := z5.keep hb
          replace s3 := s3.keep hb
          replace BV := BV.trans (hb.mono BV.size)
          clear hb
          go_wp2_with fail
          refine (CrossingsIn_any a6 cn c6 ss off 0 v6 o6 HD.out).mono ?_
          rintro e v7 ⟨aC, nC, cC, rfl, sC, hb⟩
          rw [HCR.out] at sC
          clear o6
          replace x5r := blk_keep x5r hb
          replace y5 := blk_keep y5 hb
          replace z5 := z5.keep hb
          replace s3 := s3.keep hb
          replace BV := BV.trans (hb.mono BV.size)
          clear hb
          have g5 := cell_block y5 0
          have g6 := cell_block y5 1
          go_wp2_with fail
          refine (CopyDecay_any a3 n3 c3 ss off v7 s3 (by omega)).mono ?_
          rintro e v8 ⟨a8, c8, rfl, o8, hb⟩
          clear g5 g6
          replace x5r := blk_keep x5r hb
          replace y5 := blk_keep y5 hb
          replace z5 := z5.keep hb
          replace s3 := s3.keep hb
          replace sC := sC.keep hb
          replace BV := BV.trans (hb.mono BV.size)
          clear hb
          go_wp2_with fail
          refine (PeriodIn_any a8 n3 c8 ss off E p q r s v8 o8 HE.out HEZ.out HEO.out).mono ?_
          rintro e v9 ⟨rfl, hb⟩
          clear o8
          replace x5r := blk_keep x5r hb
          replace y5 := blk_keep y5 hb
          replace z5 := z5.keep hb
          replace s3 := s3.keep hb
          replace sC := sC.keep hb
          replace BV := BV.trans (hb.mono BV.size)
          clear hb
          have hs3 := blk_lt x5r
          have hs4 := blk_lt y5
          have g5 := cell_block y5 0
          have g6 := cell_block y5 1
          have g7 := cell_block x5r 0
          have g8 := cell_block x5r 1
          have hb : Below v9.heap.size v9 (v9.alloc (.cells #[.int .i64 p, .int .i64 q, .int .i64 r, .int .i64 s] 41)) := (Below.refl _ _).alloc (Nat.le_refl _) _
          have z9 := alloc_new v9 (.cells #[.int .i64 p, .int .i64 q, .int .i64 r, .int .i64 s] 41)
          go_wp2_with fail
          generalize v9.alloc (.cells #[.int .i64 p, .int .i64 q, .int .i64 r, .int .i64 s] 41) = V9 at *
          clear g5 g6 g7 g8 hs3 hs4
          replace x5r := blk_keep x5r hb
          replace y5 := blk_keep y5 hb
          replace z5 := z5.keep hb
          replace s3 := s3.keep hb
          replace sC := sC.keep hb
          replace BV := BV.trans (hb.mono BV.size)
          clear hb
          refine (SameDecay_any a3 a' n3 c3 cn c' ss off V9 s3 z5).mono ?_
          rintro e v10 ⟨rfl, hb⟩
          clear x5r y5 z5 s3
          replace z9 := blk_keep z9 hb
          replace sC := sC.keep hb
          replace BV := BV.trans (hb.mono BV.size)
          clear hb
          obtain ⟨b9, hb9⟩ : ∃ b, v9.heap.size = b := ⟨_, rfl⟩
          rw [hb9] at z9 ⊢
          clear hb9
          obtain ⟨n41, n42⟩ : nC ≤ L.length ∧ L.length ≤ nC := by have := sC.len; omega
          go_wp2_with fail
          go_loopw [6, 19] (fun _ z wr => ∃ i : Nat, i ≤ nC ∧ z = .int .i64 i ∧ Below v10.heap.size v10 wr) (fun _ z _ => nC - (intOf z).toNat)
          case atStart => exact ⟨0, by omega, rfl, Below.refl _ _⟩
          case round =>
            obtain ⟨i, hi, rfl, hbr⟩ := hrel
            by_cases hlt : i < nC
            · obtain ⟨bc, oc, rfl, hcc⟩ := (sC.keep hbr).at_ (by omega)
              obtain ⟨e1, e2⟩ := hcc i hlt
              have hat := HPER.out.at_ i (by omega)
              have hbd := HBD.out i
              have hii : (i : Int) < (nC : Int) := by omega
              have hi0 : (0 : Int) ≤ (i : Int) := by omega
              rcases Nat.eq_zero_or_pos i with h0 | h0
              · as_aux_lemma =>
                subst h0
                rw [hat.1] at e2
                obtain ⟨x, hx⟩ : ∃ x, (L[0]?.getD (0, 0)).1 = x := ⟨_, rfl⟩
                rw [hx] at e1 e2 hbd
                clear hcc hat hx
                go_wp2_with fail
                refine Calmly.wp_region_mix 32 (.fl 0 <| .fl 1 <| .fl 2 <| .fl 3 <| .fl 4 <| .fl 5 <| .fl 6 <| .fl 7 <| .fl 8 <| .fl 9 <| .fl 10 <| .fl 11 <| .fl 12 <| .gl 13 <| .gl 14 <| .gl 15 <| .gl 16 <| .gl 17 <| .gl 18 <| .gl 19 <| .gl 20 <| .gl 21 <| .gl 22 <| .gl 23 <| .gl 24 <| .gl 25 <| .gl 26 <| .gl 27 <| .gl 28 <| .gl 29 <| .gl 30 <| .gl 31 <| .tail [32]) (by kernel_rfl) (by kernel_rfl) ?_
                replace e1 : wr.drew.cell? ⟨bc, oc + 0 * 2, none⟩ = some (.int .i64 x) := e1
                replace e2 : wr.drew.cell? ⟨bc, oc + 0 * 2 + 1, none⟩ = some (.int .i64 (x + 1)) := e2
                replace hbr := hbr.drew
                generalize wr.drew = U at *
                simp only [Nat.zero_mul, Nat.add_zero] at e1 e2
                have hk := Below.refl U.heap.size U
                go_wp2_with (first | ((with_reducible refine Calmly.is_fl ?_); refine Calmly.mix_fl rfl ?_ (fun _ _ => ?_); (first | exact .move _ | exact .load _ _ | exact .fieldAddr _ _ _ (by kernel_rfl) | exact .assign _ | exact .binOp _ _ _ _ _ rfl | exact .indexAddr _ _ _ | exact .len _ _ (by kernel_rfl) | exact .field _ _ _ | exact .extract _ _ | exact .pick _ _ _ | exact .build _ _ | exact .slice _ _ _ _ _ | exact .unOp _ _ _ rfl | exact .index _ _ _ | exact .max _ _ _ rfl rfl | exact .min _ _ _ rfl rfl | exact .nilCheck _ _ rfl)) | ((with_reducible refine Calmly.is_gl ?_); refine Calmly.mix_gl rfl rfl rfl ?_; first | ((first | with_reducible refine Calmly.gl_tt ?_ (fun _ _ => ?_) | with_reducible refine Calmly.gl_ff ?_ (fun _ _ => ?_)); (first | exact .move _ | exact .load _ _ | exact .fieldAddr _ _ _ (by kernel_rfl) | exact .assign _ | exact .binOp _ _ _ _ _ rfl | exact .indexAddr _ _ _ | exact .len _ _ (by kernel_rfl) | exact .field _ _ _ | exact .extract _ _ | exact .pick _ _ _ | exact .build _ _ | exact .slice _ _ _ _ _ | exact .unOp _ _ _ rfl | exact .index _ _ _ | exact .max _ _ _ rfl rfl | exact .min _ _ _ rfl rfl | exact .nilCheck _ _ rfl)) | with_reducible refine Calmly.gl_tf (fun _ _ => ?_) | with_reducible refine Calmly.gl_ft (fun _ _ => ?_)) | ((with_reducible refine Calmly.is_eff ?_); refine Calmly.mix_eff rfl (fun _ _ => ?_)) | ((with_reducible refine Calmly.is_gf ?_); refine Calmly.mix_gf rfl rfl rfl ?_; first | with_reducible refine Calmly.gf_tt (fun _ _ => ?_) | with_reducible refine Calmly.gf_ff (fun _ _ => ?_) | with_reducible refine Calmly.gf_tf (kept_of hk) (fun _ _ => ?_) | with_reducible refine Calmly.gf_ft (kept_of hk) (fun _ _ => ?_)) | ((with_reducible refine Calmly.is_tail ?_); first | refine Calmly.mix_tail_nil ?_ | refine Calmly.mix_tail rfl (fun _ _ => ?_)) | ((with_reducible refine Calmly.is_kept ?_); refine ⟨kept_of hk, ?_⟩) | (with_reducible refine Calmly.mix_alt ?_ ?_))
                go_roundw
                case rel => exact ⟨1, by omega, by go_num, hbr⟩
                case measure => simp [intOf]; omega
              · as_aux_lemma =>
                obtain ⟨j, hj⟩ : ∃ j, j = i - 1 := ⟨_, rfl⟩
                obtain ⟨e3, _⟩ := hcc j (by omega)
                have hnx := HPER.out.next i (by omega) h0
                rw [← hj] at hnx
                have hbj := HBD.out j
                rw [hat.1, hnx] at e2
                rw [hnx] at e1
                obtain ⟨x, hx⟩ : ∃ x, (L[j]?.getD (0, 0)).1 = x := ⟨_, rfl⟩
                rw [hx] at e1 e2 e3 hbj
                have hij : (i : Int) - 1 = (j : Int) := by omega
                have hj0 : (0 : Int) ≤ (j : Int) := by omega
                have hjj : (j : Int) < (nC : Int) := by omega
                have hi1 : (0 : Int) < (i : Int) := by omega
                clear hcc hat hx hnx hj
                go_wp2_with fail
                refine Calmly.wp_region_mix 32 (.fl 0 <| .fl 1 <| .fl 2 <| .fl 3 <| .fl 4 <| .fl 5 <| .fl 6 <| .fl 7 <| .fl 8 <| .fl 9 <| .fl 10 <| .fl 11 <| .fl 12 <| .gl 13 <| .gl 14 <| .gl 15 <| .gl 16 <| .gl 17 <| .gl 18 <| .gl 19 <| .gl 20 <| .gl 21 <| .gl 22 <| .gl 23 <| .gl 24 <| .gl 25 <| .gl 26 <| .gl 27 <| .gl 28 <| .gl 29 <| .gl 30 <| .gl 31 <| .tail [32]) (by kernel_rfl) (by kernel_rfl) ?_
                replace e1 : wr.drew.cell? ⟨bc, oc + i * 2, none⟩ = some (.int .i64 (x + vn)) := e1
                replace e2 : wr.drew.cell? ⟨bc, oc + i * 2 + 1, none⟩ = some (.int .i64 (x + vn + 1)) := e2
                replace e3 : wr.drew.cell? ⟨bc, oc + j * 2, none⟩ = some (.int .i64 x) := e3
                replace hbr := hbr.drew
                generalize wr.drew = U at *
                have hk := Below.refl U.heap.size U
                go_wp2_with (first | ((with_reducible refine Calmly.is_fl ?_); refine Calmly.mix_fl rfl ?_ (fun _ _ => ?_); (first | exact .move _ | exact .load _ _ | exact .fieldAddr _ _ _ (by kernel_rfl) | exact .assign _ | exact .binOp _ _ _ _ _ rfl | exact .indexAddr _ _ _ | exact .len _ _ (by kernel_rfl) | exact .field _ _ _ | exact .extract _ _ | exact .pick _ _ _ | exact .build _ _ | exact .slice _ _ _ _ _ | exact .unOp _ _ _ rfl | exact .index _ _ _ | exact .max _ _ _ rfl rfl | exact .min _ _ _ rfl rfl | exact .nilCheck _ _ rfl)) | ((with_reducible refine Calmly.is_gl ?_); refine Calmly.mix_gl rfl rfl rfl ?_; first | ((first | with_reducible refine Calmly.gl_tt ?_ (fun _ _ => ?_) | with_reducible refine Calmly.gl_ff ?_ (fun _ _ => ?_)); (first | exact .move _ | exact .load _ _ | exact .fieldAddr _ _ _ (by kernel_rfl) | exact .assign _ | exact .binOp _ _ _ _ _ rfl | exact .indexAddr _ _ _ | exact .len _ _ (by kernel_rfl) | exact .field _ _ _ | exact .extract _ _ | exact .pick _ _ _ | exact .build _ _ | exact .slice _ _ _ _ _ | exact .unOp _ _ _ rfl | exact .index _ _ _ | exact .max _ _ _ rfl rfl | exact .min _ _ _ rfl rfl | exact .nilCheck _ _ rfl)) | with_reducible refine Calmly.gl_tf (fun _ _ => ?_) | with_reducible refine Calmly.gl_ft (fun _ _ => ?_)) | ((with_reducible refine Calmly.is_eff ?_); refine Calmly.mix_eff rfl (fun _ _ => ?_)) | ((with_reducible refine Calmly.is_gf ?_); refine Calmly.mix_gf rfl rfl rfl ?_; first | with_reducible refine Calmly.gf_tt (fun _ _ => ?_) | with_reducible refine Calmly.gf_ff (fun _ _ => ?_) | with_reducible refine Calmly.gf_tf (kept_of hk) (fun _ _ => ?_) | with_reducible refine Calmly.gf_ft (kept_of hk) (fun _ _ => ?_)) | ((with_reducible refine Calmly.is_tail ?_); first | refine Calmly.mix_tail_nil ?_ | refine Calmly.mix_tail rfl (fun _ _ => ?_)) | ((with_reducible refine Calmly.is_kept ?_); refine ⟨kept_of hk, ?_⟩) | (with_reducible refine Calmly.mix_alt ?_ ?_))
                go_roundw
                case rel => exact ⟨i + 1, by omega, by go_num, hbr⟩
                case measure => simp [intOf]; omega
            · obtain rfl : nC = i := by omega
              have BW := BV.trans (hbr.mono BV.size)
              have hle2 : (nC : Int) ≤ (nC : Int) := Int.le_refl _
              rcases HCASE.out with ⟨hl, rfl⟩ | ⟨hl, rfl, f1, f2, f3, f4, f5, f6, p1, p2, q1, q2, r1, r2, s1, s2⟩
              · have hl2 : (nC : Int) < 2 := by omega
                go_wp2_with fail
                go_ret
                exact ⟨rfl, BW⟩
              · have hl2 : 2 ≤ (nC : Int) := by omega
                have k1 := fun w => Cmp_any p q vn 1 w (by omega) (by omega) (by omega) (by omega) (by omega) (by omega) (by omega) (by omega)
                have k2 := fun w => Cmp_any vn 1 r s w (by omega) (by omega) (by omega) (by omega) (by omega) (by omega) (by omega) (by omega)
                obtain ⟨C1, hC1⟩ : ∃ c, cmpQ (p * 1) ((vn : Int) * q) = c := ⟨_, rfl⟩
                obtain ⟨C2, hC2⟩ : ∃ c, cmpQ ((vn : Int) * s) (r * 1) = c := ⟨_, rfl⟩
                rw [hC1] at f5
                rw [hC2] at f6
                simp only [hC1] at k1
                simp only [hC2] at k2
                have K1 := Lib.hid k1
                have K2 := Lib.hid k2
                clear k1 k2 hC1 hC2
                go_wp2_with fail
                refine Calmly.wp_region_mix 41 (.fl 0 <| .fl 1 <| .fl 2 <| .gl 3 <| .gl 4 <| .gf 5 <| .fl 6 <| .fl 7 <| .gl 8 <| .gl 9 <| .gf 10 <| .fl 11 <| .fl 12 <| .gl 13 <| .gl 14 <| .gf 15 <| .fl 16 <| .fl 17 <| .gl 18 <| .gl 19 <| .gf 20 <| .fl 21 <| .fl 22 <| .gl 23 <| .gl 24 <| .gl 25 <| .gl 26 <| .gf 27 <| .gf 28 <| .gl 29 <| .fl 30 <| .fl 31 <| .gl 32 <| .gl 33 <| .gl 35 <| .gl 36 <| .gf 34 <| .gf 37 <| .gl 38 <| .fl 39 <| .fl 40 <| .tail []) (by kernel_rfl) (by kernel_rfl) ?_
                replace z9 := blk_keep z9 hbr.drew
                replace BW := BW.drew
                clear hbr
                generalize wr.drew = U at *
                have g0 := cell_block z9 0
                have g1 := cell_block z9 1
                have g2 := cell_block z9 2
                have g3 := cell_block z9 3
                have hk := Below.refl U.heap.size U
                go_wp2_with (first | ((with_reducible refine Calmly.is_fl ?_); refine Calmly.mix_fl rfl ?_ (fun _ _ => ?_); (first | exact .move _ | exact .load _ _ | exact .fieldAddr _ _ _ (by kernel_rfl) | exact .assign _ | exact .binOp _ _ _ _ _ rfl | exact .indexAddr _ _ _ | exact .len _ _ (by kernel_rfl) | exact .field _ _ _ | exact .extract _ _ | exact .pick _ _ _ | exact .build _ _ | exact .slice _ _ _ _ _ | exact .unOp _ _ _ rfl | exact .index _ _ _ | exact .max _ _ _ rfl rfl | exact .min _ _ _ rfl rfl | exact .nilCheck _ _ rfl)) | ((with_reducible refine Calmly.is_gl ?_); refine Calmly.mix_gl rfl rfl rfl ?_; first | ((first | with_reducible refine Calmly.gl_tt ?_ (fun _ _ => ?_) | with_reducible refine Calmly.gl_ff ?_ (fun _ _ => ?_)); (first | exact .move _ | exact .load _ _ | exact .fieldAddr _ _ _ (by kernel_rfl) | exact .assign _ | exact .binOp _ _ _ _ _ rfl | exact .indexAddr _ _ _ | exact .len _ _ (by kernel_rfl) | exact .field _ _ _ | exact .extract _ _ | exact .pick _ _ _ | exact .build _ _ | exact .slice _ _ _ _ _ | exact .unOp _ _ _ rfl | exact .index _ _ _ | exact .max _ _ _ rfl rfl | exact .min _ _ _ rfl rfl | exact .nilCheck _ _ rfl)) | with_reducible refine Calmly.gl_tf (fun _ _ => ?_) | with_reducible refine Calmly.gl_ft (fun _ _ => ?_)) | ((with_reducible refine Calmly.is_eff ?_); refine Calmly.mix_eff rfl (fun _ _ => ?_)) | ((with_reducible refine Calmly.is_gf ?_); refine Calmly.mix_gf rfl rfl rfl ?_; first | with_reducible refine Calmly.gf_tt (fun _ _ => ?_) | with_reducible refine Calmly.gf_ff (fun _ _ => ?_) | with_reducible refine Calmly.gf_tf (kept_of hk) (fun _ _ => ?_) | with_reducible refine Calmly.gf_ft (kept_of hk) (fun _ _ => ?_)) | ((with_reducible refine Calmly.is_tail ?_); first | refine Calmly.mix_tail_nil ?_ | refine Calmly.mix_tail rfl (fun _ _ => ?_)) | ((with_reducible refine Calmly.is_kept ?_); refine ⟨kept_of hk, ?_⟩) | (with_reducible refine Calmly.mix_alt ?_ ?_))
                refine (isLowest_any p q _ (by omega) (by omega) (by omega)).mono ?_
                rintro e w1 ⟨rfl, hb⟩
                rw [f1]
                replace hk := step_of hk hb
                clear hb
                go_wp2_with (first | ((with_reducible refine Calmly.is_fl ?_); refine Calmly.mix_fl rfl ?_ (fun _ _ => ?_); (first | exact .move _ | exact .load _ _ | exact .fieldAddr _ _ _ (by kernel_rfl) | exact .assign _ | exact .binOp _ _ _ _ _ rfl | exact .indexAddr _ _ _ | exact .len _ _ (by kernel_rfl) | exact .field _ _ _ | exact .extract _ _ | exact .pick _ _ _ | exact .build _ _ | exact .slice _ _ _ _ _ | exact .unOp _ _ _ rfl | exact .index _ _ _ | exact .max _ _ _ rfl rfl | exact .min _ _ _ rfl rfl | exact .nilCheck _ _ rfl)) | ((with_reducible refine Calmly.is_gl ?_); refine Calmly.mix_gl rfl rfl rfl ?_; first | ((first | with_reducible refine Calmly.gl_tt ?_ (fun _ _ => ?_) | with_reducible refine Calmly.gl_ff ?_ (fun _ _ => ?_)); (first | exact .move _ | exact .load _ _ | exact .fieldAddr _ _ _ (by kernel_rfl) | exact .assign _ | exact .binOp _ _ _ _ _ rfl | exact .indexAddr _ _ _ | exact .len _ _ (by kernel_rfl) | exact .field _ _ _ | exact .extract _ _ | exact .pick _ _ _ | exact .build _ _ | exact .slice _ _ _ _ _ | exact .unOp _ _ _ rfl | exact .index _ _ _ | exact .max _ _ _ rfl rfl | exact .min _ _ _ rfl rfl | exact .nilCheck _ _ rfl)) | with_reducible refine Calmly.gl_tf (fun _ _ => ?_) | with_reducible refine Calmly.gl_ft (fun _ _ => ?_)) | ((with_reducible refine Calmly.is_eff ?_); refine Calmly.mix_eff rfl (fun _ _ => ?_)) | ((with_reducible refine Calmly.is_gf ?_); refine Calmly.mix_gf rfl rfl rfl ?_; first | with_reducible refine Calmly.gf_tt (fun _ _ => ?_) | with_reducible refine Calmly.gf_ff (fun _ _ => ?_) | with_reducible refine Calmly.gf_tf (kept_of hk) (fun _ _ => ?_) | with_reducible refine Calmly.gf_ft (kept_of hk) (fun _ _ => ?_)) | ((with_reducible refine Calmly.is_tail ?_); first | refine Calmly.mix_tail_nil ?_ | refine Calmly.mix_tail rfl (fun _ _ => ?_)) | ((with_reducible refine Calmly.is_kept ?_); refine ⟨kept_of hk, ?_⟩) | (with_reducible refine Calmly.mix_alt ?_ ?_))
                refine (isLowest_any r s _ (by omega) (by omega) (by omega)).mono ?_
                rintro e w2 ⟨rfl, hb⟩
                rw [f2]
                replace hk := step_of hk hb
                clear hb
                go_wp2_with (first | ((with_reducible refine Calmly.is_fl ?_); refine Calmly.mix_fl rfl ?_ (fun _ _ => ?_); (first | exact .move _ | exact .load _ _ | exact .fieldAddr _ _ _ (by kernel_rfl) | exact .assign _ | exact .binOp _ _ _ _ _ rfl | exact .indexAddr _ _ _ | exact .len _ _ (by kernel_rfl) | exact .field _ _ _ | exact .extract _ _ | exact .pick _ _ _ | exact .build _ _ | exact .slice _ _ _ _ _ | exact .unOp _ _ _ rfl | exact .index _ _ _ | exact .max _ _ _ rfl rfl | exact .min _ _ _ rfl rfl | exact .nilCheck _ _ rfl)) | ((with_reducible refine Calmly.is_gl ?_); refine Calmly.mix_gl rfl rfl rfl ?_; first | ((first | with_reducible refine Calmly.gl_tt ?_ (fun _ _ => ?_) | with_reducible refine Calmly.gl_ff ?_ (fun _ _ => ?_)); (first | exact .move _ | exact .load _ _ | exact .fieldAddr _ _ _ (by kernel_rfl) | exact .assign _ | exact .binOp _ _ _ _ _ rfl | exact .indexAddr _ _ _ | exact .len _ _ (by kernel_rfl) | exact .field _ _ _ | exact .extract _ _ | exact .pick _ _ _ | exact .build _ _ | exact .slice _ _ _ _ _ | exact .unOp _ _ _ rfl | exact .index _ _ _ | exact .max _ _ _ rfl rfl | exact .min _ _ _ rfl rfl | exact .nilCheck _ _ rfl)) | with_reducible refine Calmly.gl_tf (fun _ _ => ?_) | with_reducible refine Calmly.gl_ft (fun _ _ => ?_)) | ((with_reducible refine Calmly.is_eff ?_); refine Calmly.mix_eff rfl (fun _ _ => ?_)) | ((with_reducible refine Calmly.is_gf ?_); refine Calmly.mix_gf rfl rfl rfl ?_; first | with_reducible refine Calmly.gf_tt (fun _ _ => ?_) | with_reducible refine Calmly.gf_ff (fun _ _ => ?_) | with_reducible refine Calmly.gf_tf (kept_of hk) (fun _ _ => ?_) | with_reducible refine Calmly.gf_ft (kept_of hk) (fun _ _ => ?_)) | ((with_reducible refine Calmly.is_tail ?_); first | refine Calmly.mix_tail_nil ?_ | refine Calmly.mix_tail rfl (fun _ _ => ?_)) | ((with_reducible refine Calmly.is_kept ?_); refine ⟨kept_of hk, ?_⟩) | (with_reducible refine Calmly.mix_alt ?_ ?_))
                refine (isSmall_any p q _).mono ?_
                rintro e w3 ⟨rfl, hb⟩
                rw [f3]
                replace hk := step_of hk hb
                clear hb
                go_wp2_with (first | ((with_reducible refine Calmly.is_fl ?_); refine Calmly.mix_fl rfl ?_ (fun _ _ => ?_); (first | exact .move _ | exact .load _ _ | exact .fieldAddr _ _ _ (by kernel_rfl) | exact .assign _ | exact .binOp _ _ _ _ _ rfl | exact .indexAddr _ _ _ | exact .len _ _ (by kernel_rfl) | exact .field _ _ _ | exact .extract _ _ | exact .pick _ _ _ | exact .build _ _ | exact .slice _ _ _ _ _ | exact .unOp _ _ _ rfl | exact .index _ _ _ | exact .max _ _ _ rfl rfl | exact .min _ _ _ rfl rfl | exact .nilCheck _ _ rfl)) | ((with_reducible refine Calmly.is_gl ?_); refine Calmly.mix_gl rfl rfl rfl ?_; first | ((first | with_reducible refine Calmly.gl_tt ?_ (fun _ _ => ?_) | with_reducible refine Calmly.gl_ff ?_ (fun _ _ => ?_)); (first | exact .move _ | exact .load _ _ | exact .fieldAddr _ _ _ (by kernel_rfl) | exact .assign _ | exact .binOp _ _ _ _ _ rfl | exact .indexAddr _ _ _ | exact .len _ _ (by kernel_rfl) | exact .field _ _ _ | exact .extract _ _ | exact .pick _ _ _ | exact .build _ _ | exact .slice _ _ _ _ _ | exact .unOp _ _ _ rfl | exact .index _ _ _ | exact .max _ _ _ rfl rfl | exact .min _ _ _ rfl rfl | exact .nilCheck _ _ rfl)) | with_reducible refine Calmly.gl_tf (fun _ _ => ?_) | with_reducible refine Calmly.gl_ft (fun _ _ => ?_)) | ((with_reducible refine Calmly.is_eff ?_); refine Calmly.mix_eff rfl (fun _ _ => ?_)) | ((with_reducible refine Calmly.is_gf ?_); refine Calmly.mix_gf rfl rfl rfl ?_; first | with_reducible refine Calmly.gf_tt (fun _ _ => ?_) | with_reducible refine Calmly.gf_ff (fun _ _ => ?_) | with_reducible refine Calmly.gf_tf (kept_of hk) (fun _ _ => ?_) | with_reducible refine Calmly.gf_ft (kept_of hk) (fun _ _ => ?_)) | ((with_reducible refine Calmly.is_tail ?_); first | refine Calmly.mix_tail_nil ?_ | refine Calmly.mix_tail rfl (fun _ _ => ?_)) | ((with_reducible refine Calmly.is_kept ?_); refine ⟨kept_of hk, ?_⟩) | (with_reducible refine Calmly.mix_alt ?_ ?_))
                refine (isSmall_any r s _).mono ?_
                rintro e w4 ⟨rfl, hb⟩
                rw [f4]
                replace hk := step_of hk hb
                clear hb
                go_wp2_with (first | ((with_reducible refine Calmly.is_fl ?_); refine Calmly.mix_fl rfl ?_ (fun _ _ => ?_); (first | exact .move _ | exact .load _ _ | exact .fieldAddr _ _ _ (by kernel_rfl) | exact .assign _ | exact .binOp _ _ _ _ _ rfl | exact .indexAddr _ _ _ | exact .len _ _ (by kernel_rfl) | exact .field _ _ _ | exact .extract _ _ | exact .pick _ _ _ | exact .build _ _ | exact .slice _ _ _ _ _ | exact .unOp _ _ _ rfl | exact .index _ _ _ | exact .max _ _ _ rfl rfl | exact .min _ _ _ rfl rfl | exact .nilCheck _ _ rfl)) | ((with_reducible refine Calmly.is_gl ?_); refine Calmly.mix_gl rfl rfl rfl ?_; first | ((first | with_reducible refine Calmly.gl_tt ?_ (fun _ _ => ?_) | with_reducible refine Calmly.gl_ff ?_ (fun _ _ => ?_)); (first | exact .move _ | exact .load _ _ | exact .fieldAddr _ _ _ (by kernel_rfl) | exact .assign _ | exact .binOp _ _ _ _ _ rfl | exact .indexAddr _ _ _ | exact .len _ _ (by kernel_rfl) | exact .field _ _ _ | exact .extract _ _ | exact .pick _ _ _ | exact .build _ _ | exact .slice _ _ _ _ _ | exact .unOp _ _ _ rfl | exact .index _ _ _ | exact .max _ _ _ rfl rfl | exact .min _ _ _ rfl rfl | exact .nilCheck _ _ rfl)) | with_reducible refine Calmly.gl_tf (fun _ _ => ?_) | with_reducible refine Calmly.gl_ft (fun _ _ => ?_)) | ((with_reducible refine Calmly.is_eff ?_); refine Calmly.mix_eff rfl (fun _ _ => ?_)) | ((with_reducible refine Calmly.is_gf ?_); refine Calmly.mix_gf rfl rfl rfl ?_; first | with_reducible refine Calmly.gf_tt (fun _ _ => ?_) | with_reducible refine Calmly.gf_ff (fun _ _ => ?_) | with_reducible refine Calmly.gf_tf (kept_of hk) (fun _ _ => ?_) | with_reducible refine Calmly.gf_ft (kept_of hk) (fun _ _ => ?_)) | ((with_reducible refine Calmly.is_tail ?_); first | refine Calmly.mix_tail_nil ?_ | refine Calmly.mix_tail rfl (fun _ _ => ?_)) | ((with_reducible refine Calmly.is_kept ?_); refine ⟨kept_of hk, ?_⟩) | (with_reducible refine Calmly.mix_alt ?_ ?_))
                refine (Whole_any vn _).mono ?_
                rintro e w5 ⟨rfl, hb⟩
                replace hk := step_of hk hb
                clear hb
                go_wp2_with (first | ((with_reducible refine Calmly.is_fl ?_); refine Calmly.mix_fl rfl ?_ (fun _ _ => ?_); (first | exact .move _ | exact .load _ _ | exact .fieldAddr _ _ _ (by kernel_rfl) | exact .assign _ | exact .binOp _ _ _ _ _ rfl | exact .indexAddr _ _ _ | exact .len _ _ (by kernel_rfl) | exact .field _ _ _ | exact .extract _ _ | exact .pick _ _ _ | exact .build _ _ | exact .slice _ _ _ _ _ | exact .unOp _ _ _ rfl | exact .index _ _ _ | exact .max _ _ _ rfl rfl | exact .min _ _ _ rfl rfl | exact .nilCheck _ _ rfl)) | ((with_reducible refine Calmly.is_gl ?_); refine Calmly.mix_gl rfl rfl rfl ?_; first | ((first | with_reducible refine Calmly.gl_tt ?_ (fun _ _ => ?_) | with_reducible refine Calmly.gl_ff ?_ (fun _ _ => ?_)); (first | exact .move _ | exact .load _ _ | exact .fieldAddr _ _ _ (by kernel_rfl) | exact .assign _ | exact .binOp _ _ _ _ _ rfl | exact .indexAddr _ _ _ | exact .len _ _ (by kernel_rfl) | exact .field _ _ _ | exact .extract _ _ | exact .pick _ _ _ | exact .build _ _ | exact .slice _ _ _ _ _ | exact .unOp _ _ _ rfl | exact .index _ _ _ | exact .max _ _ _ rfl rfl | exact .min _ _ _ rfl rfl | exact .nilCheck _ _ rfl)) | with_reducible refine Calmly.gl_tf (fun _ _ => ?_) | with_reducible refine Calmly.gl_ft (fun _ _ => ?_)) | ((with_reducible refine Calmly.is_eff ?_); refine Calmly.mix_eff rfl (fun _ _ => ?_)) | ((with_reducible refine Calmly.is_gf ?_); refine Calmly.mix_gf rfl rfl rfl ?_; first | with_reducible refine Calmly.gf_tt (fun _ _ => ?_) | with_reducible refine Calmly.gf_ff (fun _ _ => ?_) | with_reducible refine Calmly.gf_tf (kept_of hk) (fun _ _ => ?_) | with_reducible refine Calmly.gf_ft (kept_of hk) (fun _ _ => ?_)) | ((with_reducible refine Calmly.is_tail ?_); first | refine Calmly.mix_tail_nil ?_ | refine Calmly.mix_tail rfl (fun _ _ => ?_)) | ((with_reducible refine Calmly.is_kept ?_); refine ⟨kept_of hk, ?_⟩) | (with_reducible refine Calmly.mix_alt ?_ ?_))
                refine (K1.out _).mono ?_
                rintro e w6 ⟨rfl, hb⟩
                replace hk := step_of hk hb
                clear hb
                go_wp2_with (first | ((with_reducible refine Calmly.is_fl ?_); refine Calmly.mix_fl rfl ?_ (fun _ _ => ?_); (first | exact .move _ | exact .load _ _ | exact .fieldAddr _ _ _ (by kernel_rfl) | exact .assign _ | exact .binOp _ _ _ _ _ rfl | exact .indexAddr _ _ _ | exact .len _ _ (by kernel_rfl) | exact .field _ _ _ | exact .extract _ _ | exact .pick _ _ _ | exact .build _ _ | exact .slice _ _ _ _ _ | exact .unOp _ _ _ rfl | exact .index _ _ _ | exact .max _ _ _ rfl rfl | exact .min _ _ _ rfl rfl | exact .nilCheck _ _ rfl)) | ((with_reducible refine Calmly.is_gl ?_); refine Calmly.mix_gl rfl rfl rfl ?_; first | ((first | with_reducible refine Calmly.gl_tt ?_ (fun _ _ => ?_) | with_reducible refine Calmly.gl_ff ?_ (fun _ _ => ?_)); (first | exact .move _ | exact .load _ _ | exact .fieldAddr _ _ _ (by kernel_rfl) | exact .assign _ | exact .binOp _ _ _ _ _ rfl | exact .indexAddr _ _ _ | exact .len _ _ (by kernel_rfl) | exact .field _ _ _ | exact .extract _ _ | exact .pick _ _ _ | exact .build _ _ | exact .slice _ _ _ _ _ | exact .unOp _ _ _ rfl | exact .index _ _ _ | exact .max _ _ _ rfl rfl | exact .min _ _ _ rfl rfl | exact .nilCheck _ _ rfl)) | with_reducible refine Calmly.gl_tf (fun _ _ => ?_) | with_reducible refine Calmly.gl_ft (fun _ _ => ?_)) | ((with_reducible refine Calmly.is_eff ?_); refine Calmly.mix_eff rfl (fun _ _ => ?_)) | ((with_reducible refine Calmly.is_gf ?_); refine Calmly.mix_gf rfl rfl rfl ?_; first | with_reducible refine Calmly.gf_tt (fun _ _ => ?_) | with_reducible refine Calmly.gf_ff (fun _ _ => ?_) | with_reducible refine Calmly.gf_tf (kept_of hk) (fun _ _ => ?_) | with_reducible refine Calmly.gf_ft (kept_of hk) (fun _ _ => ?_)) | ((with_reducible refine Calmly.is_tail ?_); first | refine Calmly.mix_tail_nil ?_ | refine Calmly.mix_tail rfl (fun _ _ => ?_)) | ((with_reducible refine Calmly.is_kept ?_); refine ⟨kept_of hk, ?_⟩) | (with_reducible refine Calmly.mix_alt ?_ ?_))
                refine (Whole_any vn _).mono ?_
                rintro e w7 ⟨rfl, hb⟩
                replace hk := step_of hk hb
                clear hb
                go_wp2_with (first | ((with_reducible refine Calmly.is_fl ?_); refine Calmly.mix_fl rfl ?_ (fun _ _ => ?_); (first | exact .move _ | exact .load _ _ | exact .fieldAddr _ _ _ (by kernel_rfl) | exact .assign _ | exact .binOp _ _ _ _ _ rfl | exact .indexAddr _ _ _ | exact .len _ _ (by kernel_rfl) | exact .field _ _ _ | exact .extract _ _ | exact .pick _ _ _ | exact .build _ _ | exact .slice _ _ _ _ _ | exact .unOp _ _ _ rfl | exact .index _ _ _ | exact .max _ _ _ rfl rfl | exact .min _ _ _ rfl rfl | exact .nilCheck _ _ rfl)) | ((with_reducible refine Calmly.is_gl ?_); refine Calmly.mix_gl rfl rfl rfl ?_; first | ((first | with_reducible refine Calmly.gl_tt ?_ (fun _ _ => ?_) | with_reducible refine Calmly.gl_ff ?_ (fun _ _ => ?_)); (first | exact .move _ | exact .load _ _ | exact .fieldAddr _ _ _ (by kernel_rfl) | exact .assign _ | exact .binOp _ _ _ _ _ rfl | exact .indexAddr _ _ _ | exact .len _ _ (by kernel_rfl) | exact .field _ _ _ | exact .extract _ _ | exact .pick _ _ _ | exact .build _ _ | exact .slice _ _ _ _ _ | exact .unOp _ _ _ rfl | exact .index _ _ _ | exact .max _ _ _ rfl rfl | exact .min _ _ _ rfl rfl | exact .nilCheck _ _ rfl)) | with_reducible refine Calmly.gl_tf (fun _ _ => ?_) | with_reducible refine Calmly.gl_ft (fun _ _ => ?_)) | ((with_reducible refine Calmly.is_eff ?_); refine Calmly.mix_eff rfl (fun _ _ => ?_)) | ((with_reducible refine Calmly.is_gf ?_); refine Calmly.mix_gf rfl rfl rfl ?_; first | with_reducible refine Calmly.gf_tt (fun _ _ => ?_) | with_reducible refine Calmly.gf_ff (fun _ _ => ?_) | with_reducible refine Calmly.gf_tf (kept_of hk) (fun _ _ => ?_) | with_reducible refine Calmly.gf_ft (kept_of hk) (fun _ _ => ?_)) | ((with_reducible refine Calmly.is_tail ?_); first | refine Calmly.mix_tail_nil ?_ | refine Calmly.mix_tail rfl (fun _ _ => ?_)) | ((with_reducible refine Calmly.is_kept ?_); refine ⟨kept_of hk, ?_⟩) | (with_reducible refine Calmly.mix_alt ?_ ?_))
                refine (K2.out _).mono ?_
                rintro e w8 ⟨rfl, hb⟩
                replace hk := step_of hk hb
                clear hb
                go_wp2_with (first | ((with_reducible refine Calmly.is_fl ?_); refine Calmly.mix_fl rfl ?_ (fun _ _ => ?_); (first | exact .move _ | exact .load _ _ | exact .fieldAddr _ _ _ (by kernel_rfl) | exact .assign _ | exact .binOp _ _ _ _ _ rfl | exact .indexAddr _ _ _ | exact .len _ _ (by kernel_rfl) | exact .field _ _ _ | exact .extract _ _ | exact .pick _ _ _ | exact .build _ _ | exact .slice _ _ _ _ _ | exact .unOp _ _ _ rfl | exact .index _ _ _ | exact .max _ _ _ rfl rfl | exact .min _ _ _ rfl rfl | exact .nilCheck _ _ rfl)) | ((with_reducible refine Calmly.is_gl ?_); refine Calmly.mix_gl rfl rfl rfl ?_; first | ((first | with_reducible refine Calmly.gl_tt ?_ (fun _ _ => ?_) | with_reducible refine Calmly.gl_ff ?_ (fun _ _ => ?_)); (first | exact .move _ | exact .load _ _ | exact .fieldAddr _ _ _ (by kernel_rfl) | exact .assign _ | exact .binOp _ _ _ _ _ rfl | exact .indexAddr _ _ _ | exact .len _ _ (by kernel_rfl) | exact .field _ _ _ | exact .extract _ _ | exact .pick _ _ _ | exact .build _ _ | exact .slice _ _ _ _ _ | exact .unOp _ _ _ rfl | exact .index _ _ _ | exact .max _ _ _ rfl rfl | exact .min _ _ _ rfl rfl | exact .nilCheck _ _ rfl)) | with_reducible refine Calmly.gl_tf (fun _ _ => ?_) | with_reducible refine Calmly.gl_ft (fun _ _ => ?_)) | ((with_reducible refine Calmly.is_eff ?_); refine Calmly.mix_eff rfl (fun _ _ => ?_)) | ((with_reducible refine Calmly.is_gf ?_); refine Calmly.mix_gf rfl rfl rfl ?_; first | with_reducible refine Calmly.gf_tt (fun _ _ => ?_) | with_reducible refine Calmly.gf_ff (fun _ _ => ?_) | with_reducible refine Calmly.gf_tf (kept_of hk) (fun _ _ => ?_) | with_reducible refine Calmly.gf_ft (kept_of hk) (fun _ _ => ?_)) | ((with_reducible refine Calmly.is_tail ?_); first | refine Calmly.mix_tail_nil ?_ | refine Calmly.mix_tail rfl (fun _ _ => ?_)) | ((with_reducible refine Calmly.is_kept ?_); refine ⟨kept_of hk, ?_⟩) | (with_reducible refine Calmly.mix_alt ?_ ?_))
                go_ret
                exact ⟨rfl, BW.trans (hk.mono BW.size)⟩
end Go.Proofs.YteigmjlfpmdmoaaGreatDoor

namespace Go.Proofs.YteigmjlfpmdmoaaGreatDoor
open Go.ChangeShapes Go.WideShapes Go.ChangeAt Go.RowKit

set_option maxRecDepth 100000 in
set_option maxHeartbeats 1000000 in
theorem TopModalFree_lifted (os : Os) (started : os.Started) (H : Type) (enc : TypeId × Value → H) :
    ReturnsInHanded {} Tryz.checked os 3 .any (fun w args => (Rows.topModalFreeSpec.pre enc Tryz.prog Tryz.f3 Rows.topModalFreeRow.domain false w args ∧ laidMetH Tryz.prog Rows.topModalFreeRow.laid w) ∧ sizedMet enc Tryz.prog Tryz.f3 (OpenSpec.ofChange Rows.topModalFreeSpec) false w args)
      (Rows.topModalFreeSpec.post enc Tryz.prog Tryz.f3 false true false false) := by
  refine returnsInHanded_laid_shaped (C := Tryz.checked) (X := fun w _ => laidMetH Tryz.prog Rows.topModalFreeRow.laid w) (fun _ _ _ hh h => h.of_heap hh) Tryz.own' started (by kernel_rfl) Tryz.func3
    (ChangeSpec.witness_shaped (enc := enc) (C := Tryz.checked) (os := os) (X := fun w _ => laidMetH Tryz.prog Rows.topModalFreeRow.laid w) false (World.laidAll Tryz.prog os Rows.topModalFreeRow.laid) #[.slice none 0 0, .slice none 0 0, .agg #[.int .i64 0, .int .i64 0]] 8 (World.laidAll_os _ _ _)
      (World.shaped_of_ZipB (by kernel_rfl) (by kernel_rfl)) (by kernel_rfl) (by kernel_rfl) (by kernel_rfl)
      (by rw [MakeChecks.laidMetH_plain _ _ _ (by kernel_rfl)]; exact laidMet_laidAll _ (by kernel_rfl) (by kernel_rfl))) ?_
  intro W base args ds gs before hval0 hW _ _ hL hsh _
  have hval : ∀ (j : Nat) t v, Tryz.f3.params[j]? = some t → args[j]? = some v → Value.okWide Tryz.prog W .any base t v := hval0
  have hW' := hW
  obtain ⟨p, q, hA0, hV, rfl, _, _⟩ := hW
  have hA : DataW.TrodAll enc Tryz.prog W 0 (fun _ => true) true Tryz.f3.params.toList args.toList ds p := hA0
  rw [Tryz.params3] at hA hval
  obtain ⟨v0, v1, v2, d0, d1, d2, p0, p1, p2, rfl, rfl, rfl, h0, h1, h2⟩ := trodAll_three hA
  obtain ⟨rfl, rfl⟩ := trodVars_none hV
  clear hA0 hA hval0
  have hlt : ∀ x ∈ p0 ++ p1 ++ p2, x.block < W.heap.size := fun x hx => by simpa using hW'.lt x (by simpa using hx)
  obtain ⟨a0, n0, c0, l0, rfl, hs0, hw0⟩ := open_nums (hval 0 22 v0 rfl rfl) h0
  obtain ⟨a1, n1, c1, l1, rfl, hs1, hw1⟩ := open_nums (hval 1 22 v1 rfl rfl) h1
  obtain ⟨x2, y2, rfl, hw2, hw2'⟩ := open_pair (hval 2 23 v2 rfl rfl) h2
  have hv : Vars W := vars_of_laid hL hsh
  refine (TopModalFree_walk a0 a1 n0 c0 n1 c1 l0 l1 x2 y2 W hv hs0 hs1 (i64_of hw1)).mono fun e W' ⟨he, hb⟩ => ?_
  subst he
  exact ⟨_, rfl, _, _, _, [], _, [], hW', trodAll_mk1 (shut_bool Tryz.underlying4 _),
    trodAll_mk3 (Below.trod Tryz.laidOut' (by kernel_rfl) (of_decide_eq_true (by kernel_rfl)) h0 hb (fun x hx => hlt x (List.mem_append_left _ (List.mem_append_left _ hx)))) (Below.trod Tryz.laidOut' (by kernel_rfl) (of_decide_eq_true (by kernel_rfl)) h1 hb (fun x hx => hlt x (List.mem_append_left _ (List.mem_append_right _ hx)))) (Below.trod Tryz.laidOut' (by kernel_rfl) (of_decide_eq_true (by kernel_rfl)) h2 hb (fun x hx => hlt x (List.mem_append_right _ hx))),
    rfl, hb.frame _, fun h => by cases h⟩

theorem TopModalFree_holds : Rows.TopModalFreeSaid :=
  OpenClaim.holds_of_wide 3 Tryz.f3 rfl rfl rfl rfl rfl rfl rfl ⟨rfl, rfl, rfl, rfl, rfl⟩ rfl rfl rfl rfl rfl (by kernel_rfl) Tryz.func3 (by kernel_rfl)
    (of_decide_eq_true (by kernel_rfl)) (by unfold Func.isWrapper; first | (rw [if_pos (by decide +kernel)]; kernel_rfl) | (rw [if_neg (by decide +kernel)]; exact ⟨rfl, rfl⟩))
    (fun os started H enc _ => TopModalFree_lifted os started H enc)

theorem TopModalFree_card : Rows.TopModalFreeCardSaid :=
  Claim7.holds_tied_plain_at .later [] [.data, .data, .data, .data, .sentinel, .sentinel, .pinned] true (true, "ce31884720a504e063fead5a5f3e04fd7e098f81d518c8f4f96e756e911421c5") true
    TopModalFree_holds (fun _ h => by cases h) (by kernel_rfl) (fun _ h => by cases h) topModalFree_row_tie rfl ⟨rfl, rfl⟩ (by kernel_rfl) rfl
    (fun f fn hf hfn => by
      obtain rfl : f = 3 := Option.some.inj ((show Tryz.prog.funcNamed "ductility/ductilitytop.TopModalFree" = some 3 by kernel_rfl).symm.trans hf) |>.symm
      obtain rfl : fn = Tryz.f3 := (Option.some.inj (Tryz.func3.symm.trans hfn)).symm
      exact ⟨by kernel_rfl, fun j t ht => by
        rw [Tryz.params3] at ht
        have hm : t ∈ [22, 22, 23] := by simpa using Array.mem_of_getElem? ht
        have hall : ([22, 22, 23].all fun u => !Tryz.prog.wantsStandIn u) = true := by kernel_rfl
        exact (show Tryz.prog.wantsStandIn t = false by simpa using List.all_eq_true.1 hall t hm)⟩)
    (by kernel_rfl)
#print axioms TopModalFree_card
end Go.Proofs.YteigmjlfpmdmoaaGreatDoor
