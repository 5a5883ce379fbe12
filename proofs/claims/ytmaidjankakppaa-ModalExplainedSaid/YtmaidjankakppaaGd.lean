/- Contracts of chapter 6: damaged modes. -/
import Derived.Test.YtmaidjankakppaaGc
namespace Go.Proofs.Ytmaidjankakppaa
open Go.RowKit
open Calmly (Kept)

/-- The indexes at which ranges have nothing in common. -/
def dmTo (l m : List (Int × Int)) : Nat → List Int
  | 0 => []
  | k + 1 => if agreeF (l[k]?.getD (0, 0)) (m[k]?.getD (0, 0)) then dmTo l m k else dmTo l m k ++ [(k : Int)]
theorem dmTo_len (l m : List (Int × Int)) (k : Nat) : (dmTo l m k).length ≤ k := by
  induction k with
  | zero => simp [dmTo]
  | succ k ih =>
    unfold dmTo
    split
    · omega
    · simp
      omega
def dmE (l m : List (Int × Int)) : Int := firstE [rgE l, rgE m, unlessE ((l.length : Int) == (m.length : Int)) 13]

set_option maxRecDepth 100000 in
set_option maxHeartbeats 1000000 in
theorem DamagedIn_err (sa ta : Option Addr) (sn sc tn tc : Nat) (sq tq : List (Int × Int)) (w : World) (h3 : SR w sa sn sc sq) (h4 : SR w ta tn tc tq) (E : Int) (hE : dmE sq tq = E) (hz : E ≠ 0) :
    Calls Try.prog 60 #[.slice sa sn sc, .slice ta tn tc] w fun e w' => e = .returned (.tuple #[.slice none 0 0, .int .i64 E]) ∧ Below w.heap.size w w' := by
  have hz1 : (E != 0) = true := by simpa using hz
  clear hz
  have hE1 : firstE [rgE sq, rgE tq, unlessE ((sn : Int) == (tn : Int)) 13] = E := by
    rw [← hE, show (sn : Int) = (sq.length : Int) by have := h3.len; omega, show (tn : Int) = (tq.length : Int) by have := h4.len; omega]
    rfl
  have HE := Lib.hid hE1
  clear hE1 hE
  go_enter Try.func60, Try.ntmps60
  go_wp2_with fail
  refine (mRangesErr_any sa sn sc sq _ h3 (rgE sq) rfl).mono ?_
  rintro e w1 ⟨rfl, hb1⟩
  go_wp2_with fail
  refine (mRangesErr_any ta tn tc tq _ (h4.keep hb1) (rgE tq) rfl).mono ?_
  rintro e w2 ⟨rfl, hb2⟩
  have B2 := hb1.trans (hb2.mono hb1.size)
  go_wp2_with fail
  refine (unless_any _ _ _).mono ?_
  rintro e w' ⟨rfl, rfl⟩
  go_wp2_with fail
  refine (first_any _ 3 3 _ _ (SI.three _ _ _ _ _ rfl)).mono ?_
  rintro e w' ⟨rfl, rfl⟩
  rw [HE.out]
  go_wp2_with fail
  go_ret2
  exact ⟨rfl, B2.alloc B2.size _⟩

set_option maxRecDepth 100000 in
set_option maxHeartbeats 4000000 in
theorem DamagedIn_ok (sa ta : Option Addr) (sn sc tc : Nat) (sq tq : List (Int × Int)) (w : World) (h3 : SR w sa sn sc sq) (h4 : SR w ta sn tc tq) (hE1 : rgE sq = 0) (hE2 : rgE tq = 0) :
    Calls Try.prog 60 #[.slice sa sn sc, .slice ta sn tc] w fun e w' => (∃ a' n' c', e = .returned (.tuple #[.slice a' n' c', .int .i64 0]) ∧ OwI w' w.heap.size a' n' c' (dmTo sq tq sn)) ∧ Below w.heap.size w w' := by
  obtain ⟨g1, g2⟩ : sn ≤ sq.length ∧ sq.length ≤ sn := by have := h3.len; omega
  obtain ⟨v1, v2, v3⟩ := rgE_ok hE1
  obtain ⟨cb, co, rfl, hcc⟩ := h3.at_ (by omega)
  obtain ⟨db, dof, rfl, hdd⟩ := h4.at_ (by omega)
  have HCC := Lib.hid hcc
  have HDD := Lib.hid hdd
  clear hcc hdd v3
  have hc1 := h3.cap
  have hc2 := h4.cap
  go_enter Try.func60, Try.ntmps60
  go_wp2_with fail
  refine (mRangesErr_any _ sn sc sq _ h3 0 hE1).mono ?_
  rintro e w1 ⟨rfl, hb1⟩
  go_wp2_with fail
  refine (mRangesErr_any _ sn tc tq _ (h4.keep hb1) 0 hE2).mono ?_
  rintro e w2 ⟨rfl, hb2⟩
  have B2 := hb1.trans (hb2.mono hb1.size)
  clear hE1 hE2
  go_wp2_with fail
  refine (unless_any _ _ _).mono ?_
  rintro e w' ⟨rfl, rfl⟩
  go_wp2_with fail
  refine (first_any _ 3 3 _ _ (SI.three _ _ _ _ _ rfl)).mono ?_
  rintro e w' ⟨rfl, rfl⟩
  have h0 : firstE [0, 0, unlessE true 13] = 0 := rfl
  try rw [show ((sn : Int) == (sn : Int)) = true by simp]
  rw [h0]
  have B3 : ∀ o, Below w.heap.size w (w2.alloc o) := fun o => B2.alloc B2.size o
  go_wp2_with fail
  go_loopw [7, 27] (fun x z wr => ∃ (k n' c' : Nat) (a' : Option Addr), k ≤ sn ∧ x = .slice a' n' c' ∧ z = .int .i64 k ∧ OwI wr w.heap.size a' n' c' (dmTo sq tq k) ∧ Below w.heap.size w wr) (fun _ z _ => sn - (intOf z).toNat)
  case atStart => exact ⟨0, 0, 0, none, by omega, rfl, rfl, OwI.nil _ _, B3 _⟩
  case round =>
    clear B2 B3 hb1 hb2
    obtain ⟨k, n', c', a', hk, rfl, rfl, ho, hbr⟩ := hrel
    have hrs := hbr.size
    have hn' : n' ≤ k := by have := ho.len; have := dmTo_len sq tq k; omega
    by_cases hlt : k < sn
    · obtain ⟨y0, y1⟩ := HCC.out k hlt
      obtain ⟨z0, z1⟩ := HDD.out k hlt
      have y0' := cell_keep y0 hbr
      have y1' := cell_keep y1 hbr
      have z0' := cell_keep z0 hbr
      have z1' := cell_keep z1 hbr
      have hlt2 := cell_lt z0'
      clear y0 y1 z0 z1
      have hd : dmTo sq tq (k + 1) = if agreeF (sq[k]?.getD (0, 0)) (tq[k]?.getD (0, 0)) then dmTo sq tq k else dmTo sq tq k ++ [(k : Int)] := rfl
      obtain ⟨aa, haa⟩ : ∃ aa, sq[k]?.getD (0, 0) = aa := ⟨_, rfl⟩
      obtain ⟨bb, hbb⟩ : ∃ bb, tq[k]?.getD (0, 0) = bb := ⟨_, rfl⟩
      rw [haa] at hd y0' y1'
      rw [hbb] at hd z0' z1'
      obtain ⟨l0, h0'⟩ := aa
      obtain ⟨l1, h1'⟩ := bb
      dsimp only at y0' y1' z0' z1'
      have HD := Lib.hid hd
      clear hd haa hbb
      have hi1 : (k : Int) < (sn : Int) := by omega
      have hi0 : (0 : Int) ≤ (k : Int) := by omega
      have hnew : Below wr.heap.size wr (wr.alloc (.cells #[.int .i64 l0, .int .i64 h0'] 63)).drew := ((Below.refl _ _).alloc (Nat.le_refl _) _).drew
      go_wp2_with fail
      refine Calmly.wp_region_mix 6 (.fl 0 <| .fl 1 <| .fl 2 <| .fl 3 <| .fl 4 <| .eff 5 <| .tail [6]) (by kernel_rfl) (by kernel_rfl) ?_
      have hk := Below.refl (wr.alloc (.cells #[.int .i64 l0, .int .i64 h0'] 63)).drew.heap.size (wr.alloc (.cells #[.int .i64 l0, .int .i64 h0'] 63)).drew
      go_wp2_with (first | ((with_reducible refine Calmly.is_fl ?_); refine Calmly.mix_fl rfl ?_ (fun _ _ => ?_); (first | exact .move _ | exact .load _ _ | exact .fieldAddr _ _ _ (by kernel_rfl) | exact .assign _ | exact .binOp _ _ _ _ _ rfl | exact .indexAddr _ _ _ | exact .len _ _ (by kernel_rfl) | exact .field _ _ _ | exact .extract _ _ | exact .pick _ _ _ | exact .build _ _ | exact .slice _ _ _ _ _ | exact .unOp _ _ _ rfl | exact .index _ _ _ | exact .max _ _ _ rfl rfl | exact .min _ _ _ rfl rfl)) | ((with_reducible refine Calmly.is_gl ?_); refine Calmly.mix_gl rfl rfl rfl ?_; first | ((first | with_reducible refine Calmly.gl_tt ?_ (fun _ _ => ?_) | with_reducible refine Calmly.gl_ff ?_ (fun _ _ => ?_)); (first | exact .move _ | exact .load _ _ | exact .fieldAddr _ _ _ (by kernel_rfl) | exact .assign _ | exact .binOp _ _ _ _ _ rfl | exact .indexAddr _ _ _ | exact .len _ _ (by kernel_rfl) | exact .field _ _ _ | exact .extract _ _ | exact .pick _ _ _ | exact .build _ _ | exact .slice _ _ _ _ _ | exact .unOp _ _ _ rfl | exact .index _ _ _ | exact .max _ _ _ rfl rfl | exact .min _ _ _ rfl rfl)) | with_reducible refine Calmly.gl_tf (fun _ _ => ?_) | with_reducible refine Calmly.gl_ft (fun _ _ => ?_)) | ((with_reducible refine Calmly.is_eff ?_); refine Calmly.mix_eff rfl (fun _ _ => ?_)) | ((with_reducible refine Calmly.is_gf ?_); refine Calmly.mix_gf rfl rfl rfl ?_; first | with_reducible refine Calmly.gf_tt (fun _ _ => ?_) | with_reducible refine Calmly.gf_ff (fun _ _ => ?_) | with_reducible refine Calmly.gf_tf (kept_of hk) (fun _ _ => ?_) | with_reducible refine Calmly.gf_ft (kept_of hk) (fun _ _ => ?_)) | ((with_reducible refine Calmly.is_tail ?_); first | refine Calmly.mix_tail_nil ?_ | refine Calmly.mix_tail rfl (fun _ _ => ?_)) | ((with_reducible refine Calmly.is_kept ?_); refine ⟨kept_of hk, ?_⟩) | (with_reducible refine Calmly.mix_alt ?_ ?_))
      refine (agree_any l0 h0' l1 h1' _).mono ?_
      rintro e w5 ⟨rfl, hb5⟩
      replace hk := step_of hk hb5
      have hb6 : Below wr.heap.size wr w5 := hnew.trans (hb5.mono (by show _ ≤ (wr.alloc _).heap.size; simp))
      have ho5 := ho.keep hb6
      have hb7 := hbr.trans (hb6.mono hrs)
      have hs7 := hb7.size
      cases hag : agreeF (l0, h0') (l1, h1')
      · rw [hag] at HD
        go_wp2_with (first | ((with_reducible refine Calmly.is_fl ?_); refine Calmly.mix_fl rfl ?_ (fun _ _ => ?_); (first | exact .move _ | exact .load _ _ | exact .fieldAddr _ _ _ (by kernel_rfl) | exact .assign _ | exact .binOp _ _ _ _ _ rfl | exact .indexAddr _ _ _ | exact .len _ _ (by kernel_rfl) | exact .field _ _ _ | exact .extract _ _ | exact .pick _ _ _ | exact .build _ _ | exact .slice _ _ _ _ _ | exact .unOp _ _ _ rfl | exact .index _ _ _ | exact .max _ _ _ rfl rfl | exact .min _ _ _ rfl rfl)) | ((with_reducible refine Calmly.is_gl ?_); refine Calmly.mix_gl rfl rfl rfl ?_; first | ((first | with_reducible refine Calmly.gl_tt ?_ (fun _ _ => ?_) | with_reducible refine Calmly.gl_ff ?_ (fun _ _ => ?_)); (first | exact .move _ | exact .load _ _ | exact .fieldAddr _ _ _ (by kernel_rfl) | exact .assign _ | exact .binOp _ _ _ _ _ rfl | exact .indexAddr _ _ _ | exact .len _ _ (by kernel_rfl) | exact .field _ _ _ | exact .extract _ _ | exact .pick _ _ _ | exact .build _ _ | exact .slice _ _ _ _ _ | exact .unOp _ _ _ rfl | exact .index _ _ _ | exact .max _ _ _ rfl rfl | exact .min _ _ _ rfl rfl)) | with_reducible refine Calmly.gl_tf (fun _ _ => ?_) | with_reducible refine Calmly.gl_ft (fun _ _ => ?_)) | ((with_reducible refine Calmly.is_eff ?_); refine Calmly.mix_eff rfl (fun _ _ => ?_)) | ((with_reducible refine Calmly.is_gf ?_); refine Calmly.mix_gf rfl rfl rfl ?_; first | with_reducible refine Calmly.gf_tt (fun _ _ => ?_) | with_reducible refine Calmly.gf_ff (fun _ _ => ?_) | with_reducible refine Calmly.gf_tf (kept_of hk) (fun _ _ => ?_) | with_reducible refine Calmly.gf_ft (kept_of hk) (fun _ _ => ?_)) | ((with_reducible refine Calmly.is_tail ?_); first | refine Calmly.mix_tail_nil ?_ | refine Calmly.mix_tail rfl (fun _ _ => ?_)) | ((with_reducible refine Calmly.is_kept ?_); refine ⟨kept_of hk, ?_⟩) | (with_reducible refine Calmly.mix_alt ?_ ?_) | (refine appI (B := w.heap.size) (v := (k : Int)) rfl _ _ rfl ho5 rfl rfl (by omega) (by omega) ?_; intro a2 c2 w6 ho6 hb6' hs6))
        go_roundw
        case rel => exact ⟨k + 1, n' + 1, c2, a2, by omega, rfl, by go_num, by rw [HD.out]; exact ho6, hb7.trans hb6'⟩
        case measure => simp [intOf]; omega
      · rw [hag] at HD
        go_wp2_with (first | ((with_reducible refine Calmly.is_fl ?_); refine Calmly.mix_fl rfl ?_ (fun _ _ => ?_); (first | exact .move _ | exact .load _ _ | exact .fieldAddr _ _ _ (by kernel_rfl) | exact .assign _ | exact .binOp _ _ _ _ _ rfl | exact .indexAddr _ _ _ | exact .len _ _ (by kernel_rfl) | exact .field _ _ _ | exact .extract _ _ | exact .pick _ _ _ | exact .build _ _ | exact .slice _ _ _ _ _ | exact .unOp _ _ _ rfl | exact .index _ _ _ | exact .max _ _ _ rfl rfl | exact .min _ _ _ rfl rfl)) | ((with_reducible refine Calmly.is_gl ?_); refine Calmly.mix_gl rfl rfl rfl ?_; first | ((first | with_reducible refine Calmly.gl_tt ?_ (fun _ _ => ?_) | with_reducible refine Calmly.gl_ff ?_ (fun _ _ => ?_)); (first | exact .move _ | exact .load _ _ | exact .fieldAddr _ _ _ (by kernel_rfl) | exact .assign _ | exact .binOp _ _ _ _ _ rfl | exact .indexAddr _ _ _ | exact .len _ _ (by kernel_rfl) | exact .field _ _ _ | exact .extract _ _ | exact .pick _ _ _ | exact .build _ _ | exact .slice _ _ _ _ _ | exact .unOp _ _ _ rfl | exact .index _ _ _ | exact .max _ _ _ rfl rfl | exact .min _ _ _ rfl rfl)) | with_reducible refine Calmly.gl_tf (fun _ _ => ?_) | with_reducible refine Calmly.gl_ft (fun _ _ => ?_)) | ((with_reducible refine Calmly.is_eff ?_); refine Calmly.mix_eff rfl (fun _ _ => ?_)) | ((with_reducible refine Calmly.is_gf ?_); refine Calmly.mix_gf rfl rfl rfl ?_; first | with_reducible refine Calmly.gf_tt (fun _ _ => ?_) | with_reducible refine Calmly.gf_ff (fun _ _ => ?_) | with_reducible refine Calmly.gf_tf (kept_of hk) (fun _ _ => ?_) | with_reducible refine Calmly.gf_ft (kept_of hk) (fun _ _ => ?_)) | ((with_reducible refine Calmly.is_tail ?_); first | refine Calmly.mix_tail_nil ?_ | refine Calmly.mix_tail rfl (fun _ _ => ?_)) | ((with_reducible refine Calmly.is_kept ?_); refine ⟨kept_of hk, ?_⟩) | (with_reducible refine Calmly.mix_alt ?_ ?_))
        go_roundw
        case rel => exact ⟨k + 1, n', c', a', by omega, rfl, by go_num, by rw [HD.out]; exact ho5, hb7⟩
        case measure => simp [intOf]; omega
    · have hle : (sn : Int) ≤ (k : Int) := by omega
      obtain rfl : k = sn := by omega
      go_wp2_with fail
      go_ret2
      exact ⟨⟨_, _, _, rfl, ho⟩, hbr⟩

set_option maxRecDepth 100000 in
set_option maxHeartbeats 4000000 in
theorem rDamaged_any (sa ta : Option Addr) (sn sc tc : Nat) (sq tq : List (Int × Int)) (w : World) (h3 : SR w sa sn sc sq) (h4 : SR w ta sn tc tq) (hE1 : rgE sq = 0) (hE2 : rgE tq = 0) :
    Calls Try.prog 75 #[.slice sa sn sc, .slice ta sn tc] w fun e w' => (∃ a' n' c', e = .returned (.slice a' n' c') ∧ OwI w' w.heap.size a' n' c' (dmTo sq tq sn)) ∧ Below w.heap.size w w' := by
  obtain ⟨g1, g2⟩ : sn ≤ sq.length ∧ sq.length ≤ sn := by have := h3.len; omega
  obtain ⟨v1, v2, v3⟩ := rgE_ok hE1
  obtain ⟨u1, u2, u3⟩ := rgE_ok hE2
  have V3 := Lib.hid v3
  have U3 := Lib.hid u3
  obtain ⟨cb, co, rfl, hcc⟩ := h3.at_ (by omega)
  obtain ⟨db, dof, rfl, hdd⟩ := h4.at_ (by omega)
  have HCC := Lib.hid hcc
  have HDD := Lib.hid hdd
  clear hcc hdd v3 u3 hE1 hE2 u1 u2
  have hc1 := h3.cap
  have hc2 := h4.cap
  go_enter Try.func75, Try.ntmps75
  go_wp2_with fail
  go_loopw [5, 6] (fun x z wr => ∃ (k n' c' : Nat) (a' : Option Addr), k ≤ sn ∧ x = .slice a' n' c' ∧ z = .int .i64 k ∧ OwI wr w.heap.size a' n' c' (dmTo sq tq k) ∧ Below w.heap.size w wr) (fun _ z _ => sn - (intOf z).toNat)
  case atStart => exact ⟨0, 0, 0, none, by omega, rfl, rfl, OwI.nil _ _, Below.refl _ _⟩
  case round =>
    obtain ⟨k, n', c', a', hk, rfl, rfl, ho, hbr⟩ := hrel
    have hrs := hbr.size
    have hn' : n' ≤ k := by have := ho.len; have := dmTo_len sq tq k; omega
    by_cases hlt : k < sn
    · obtain ⟨y0, y1⟩ := HCC.out k hlt
      obtain ⟨z0, z1⟩ := HDD.out k hlt
      obtain ⟨a1, a2, a3⟩ := V3.out k
      obtain ⟨b1, b2, b3⟩ := U3.out k
      have y0' := cell_keep y0 hbr
      have y1' := cell_keep y1 hbr
      have z0' := cell_keep z0 hbr
      have z1' := cell_keep z1 hbr
      clear y0 y1 z0 z1 a2 a3 b2 b3
      have hd : dmTo sq tq (k + 1) = if agreeF (sq[k]?.getD (0, 0)) (tq[k]?.getD (0, 0)) then dmTo sq tq k else dmTo sq tq k ++ [(k : Int)] := rfl
      obtain ⟨aa, haa⟩ : ∃ aa, sq[k]?.getD (0, 0) = aa := ⟨_, rfl⟩
      obtain ⟨bb, hbb⟩ : ∃ bb, tq[k]?.getD (0, 0) = bb := ⟨_, rfl⟩
      rw [haa] at hd y0' y1' a1
      rw [hbb] at hd z0' z1' b1
      obtain ⟨l0, h0'⟩ := aa
      obtain ⟨l1, h1'⟩ := bb
      dsimp only at y0' y1' z0' z1' a1 b1
      have HD := Lib.hid hd
      clear hd haa hbb
      have hi1 : (k : Int) < (sn : Int) := by omega
      have hi0 : (0 : Int) ≤ (k : Int) := by omega
      go_wp2_with fail
      refine Calmly.wp_region_mix 9 (.fl 0 <| .fl 1 <| .fl 2 <| .fl 3 <| .fl 4 <| .fl 5 <| .fl 6 <| .fl 7 <| .eff 8 <| .tail [9]) (by kernel_rfl) (by kernel_rfl) ?_
      have hk := Below.refl wr.drew.heap.size wr.drew
      go_wp2_with (first | ((with_reducible refine Calmly.is_fl ?_); refine Calmly.mix_fl rfl ?_ (fun _ _ => ?_); (first | exact .move _ | exact .load _ _ | exact .fieldAddr _ _ _ (by kernel_rfl) | exact .assign _ | exact .binOp _ _ _ _ _ rfl | exact .indexAddr _ _ _ | exact .len _ _ (by kernel_rfl) | exact .field _ _ _ | exact .extract _ _ | exact .pick _ _ _ | exact .build _ _ | exact .slice _ _ _ _ _ | exact .unOp _ _ _ rfl | exact .index _ _ _ | exact .max _ _ _ rfl rfl | exact .min _ _ _ rfl rfl)) | ((with_reducible refine Calmly.is_gl ?_); refine Calmly.mix_gl rfl rfl rfl ?_; first | ((first | with_reducible refine Calmly.gl_tt ?_ (fun _ _ => ?_) | with_reducible refine Calmly.gl_ff ?_ (fun _ _ => ?_)); (first | exact .move _ | exact .load _ _ | exact .fieldAddr _ _ _ (by kernel_rfl) | exact .assign _ | exact .binOp _ _ _ _ _ rfl | exact .indexAddr _ _ _ | exact .len _ _ (by kernel_rfl) | exact .field _ _ _ | exact .extract _ _ | exact .pick _ _ _ | exact .build _ _ | exact .slice _ _ _ _ _ | exact .unOp _ _ _ rfl | exact .index _ _ _ | exact .max _ _ _ rfl rfl | exact .min _ _ _ rfl rfl)) | with_reducible refine Calmly.gl_tf (fun _ _ => ?_) | with_reducible refine Calmly.gl_ft (fun _ _ => ?_)) | ((with_reducible refine Calmly.is_eff ?_); refine Calmly.mix_eff rfl (fun _ _ => ?_)) | ((with_reducible refine Calmly.is_gf ?_); refine Calmly.mix_gf rfl rfl rfl ?_; first | with_reducible refine Calmly.gf_tt (fun _ _ => ?_) | with_reducible refine Calmly.gf_ff (fun _ _ => ?_) | with_reducible refine Calmly.gf_tf (kept_of hk) (fun _ _ => ?_) | with_reducible refine Calmly.gf_ft (kept_of hk) (fun _ _ => ?_)) | ((with_reducible refine Calmly.is_tail ?_); first | refine Calmly.mix_tail_nil ?_ | refine Calmly.mix_tail rfl (fun _ _ => ?_)) | ((with_reducible refine Calmly.is_kept ?_); refine ⟨kept_of hk, ?_⟩) | (with_reducible refine Calmly.mix_alt ?_ ?_))
      refine (meet_any l0 h0' l1 h1' _ a1 b1).mono ?_
      rintro e w5 ⟨rfl, hb5⟩
      replace hk := step_of hk hb5
      have ho5 := OwI.keep (w := wr.drew) ho.drew hb5
      have hb7 : Below w.heap.size w w5 := hbr.drew.trans (hb5.mono hrs)
      have hs7 := hb7.size
      cases hag : agreeF (l0, h0') (l1, h1')
      · rw [hag] at HD
        go_wp2_with (first | ((with_reducible refine Calmly.is_fl ?_); refine Calmly.mix_fl rfl ?_ (fun _ _ => ?_); (first | exact .move _ | exact .load _ _ | exact .fieldAddr _ _ _ (by kernel_rfl) | exact .assign _ | exact .binOp _ _ _ _ _ rfl | exact .indexAddr _ _ _ | exact .len _ _ (by kernel_rfl) | exact .field _ _ _ | exact .extract _ _ | exact .pick _ _ _ | exact .build _ _ | exact .slice _ _ _ _ _ | exact .unOp _ _ _ rfl | exact .index _ _ _ | exact .max _ _ _ rfl rfl | exact .min _ _ _ rfl rfl)) | ((with_reducible refine Calmly.is_gl ?_); refine Calmly.mix_gl rfl rfl rfl ?_; first | ((first | with_reducible refine Calmly.gl_tt ?_ (fun _ _ => ?_) | with_reducible refine Calmly.gl_ff ?_ (fun _ _ => ?_)); (first | exact .move _ | exact .load _ _ | exact .fieldAddr _ _ _ (by kernel_rfl) | exact .assign _ | exact .binOp _ _ _ _ _ rfl | exact .indexAddr _ _ _ | exact .len _ _ (by kernel_rfl) | exact .field _ _ _ | exact .extract _ _ | exact .pick _ _ _ | exact .build _ _ | exact .slice _ _ _ _ _ | exact .unOp _ _ _ rfl | exact .index _ _ _ | exact .max _ _ _ rfl rfl | exact .min _ _ _ rfl rfl)) | with_reducible refine Calmly.gl_tf (fun _ _ => ?_) | with_reducible refine Calmly.gl_ft (fun _ _ => ?_)) | ((with_reducible refine Calmly.is_eff ?_); refine Calmly.mix_eff rfl (fun _ _ => ?_)) | ((with_reducible refine Calmly.is_gf ?_); refine Calmly.mix_gf rfl rfl rfl ?_; first | with_reducible refine Calmly.gf_tt (fun _ _ => ?_) | with_reducible refine Calmly.gf_ff (fun _ _ => ?_) | with_reducible refine Calmly.gf_tf (kept_of hk) (fun _ _ => ?_) | with_reducible refine Calmly.gf_ft (kept_of hk) (fun _ _ => ?_)) | ((with_reducible refine Calmly.is_tail ?_); first | refine Calmly.mix_tail_nil ?_ | refine Calmly.mix_tail rfl (fun _ _ => ?_)) | ((with_reducible refine Calmly.is_kept ?_); refine ⟨kept_of hk, ?_⟩) | (with_reducible refine Calmly.mix_alt ?_ ?_) | (refine appI (B := w.heap.size) (v := (k : Int)) rfl _ _ rfl ho5 rfl rfl (by omega) (by omega) ?_; intro a2 c2 w6 ho6 hb6' hs6))
        go_roundw
        case rel => exact ⟨k + 1, n' + 1, c2, a2, by omega, rfl, by go_num, by rw [HD.out]; exact ho6, hb7.trans hb6'⟩
        case measure => simp [intOf]; omega
      · rw [hag] at HD
        go_wp2_with (first | ((with_reducible refine Calmly.is_fl ?_); refine Calmly.mix_fl rfl ?_ (fun _ _ => ?_); (first | exact .move _ | exact .load _ _ | exact .fieldAddr _ _ _ (by kernel_rfl) | exact .assign _ | exact .binOp _ _ _ _ _ rfl | exact .indexAddr _ _ _ | exact .len _ _ (by kernel_rfl) | exact .field _ _ _ | exact .extract _ _ | exact .pick _ _ _ | exact .build _ _ | exact .slice _ _ _ _ _ | exact .unOp _ _ _ rfl | exact .index _ _ _ | exact .max _ _ _ rfl rfl | exact .min _ _ _ rfl rfl)) | ((with_reducible refine Calmly.is_gl ?_); refine Calmly.mix_gl rfl rfl rfl ?_; first | ((first | with_reducible refine Calmly.gl_tt ?_ (fun _ _ => ?_) | with_reducible refine Calmly.gl_ff ?_ (fun _ _ => ?_)); (first | exact .move _ | exact .load _ _ | exact .fieldAddr _ _ _ (by kernel_rfl) | exact .assign _ | exact .binOp _ _ _ _ _ rfl | exact .indexAddr _ _ _ | exact .len _ _ (by kernel_rfl) | exact .field _ _ _ | exact .extract _ _ | exact .pick _ _ _ | exact .build _ _ | exact .slice _ _ _ _ _ | exact .unOp _ _ _ rfl | exact .index _ _ _ | exact .max _ _ _ rfl rfl | exact .min _ _ _ rfl rfl)) | with_reducible refine Calmly.gl_tf (fun _ _ => ?_) | with_reducible refine Calmly.gl_ft (fun _ _ => ?_)) | ((with_reducible refine Calmly.is_eff ?_); refine Calmly.mix_eff rfl (fun _ _ => ?_)) | ((with_reducible refine Calmly.is_gf ?_); refine Calmly.mix_gf rfl rfl rfl ?_; first | with_reducible refine Calmly.gf_tt (fun _ _ => ?_) | with_reducible refine Calmly.gf_ff (fun _ _ => ?_) | with_reducible refine Calmly.gf_tf (kept_of hk) (fun _ _ => ?_) | with_reducible refine Calmly.gf_ft (kept_of hk) (fun _ _ => ?_)) | ((with_reducible refine Calmly.is_tail ?_); first | refine Calmly.mix_tail_nil ?_ | refine Calmly.mix_tail rfl (fun _ _ => ?_)) | ((with_reducible refine Calmly.is_kept ?_); refine ⟨kept_of hk, ?_⟩) | (with_reducible refine Calmly.mix_alt ?_ ?_))
        go_roundw
        case rel => exact ⟨k + 1, n', c', a', by omega, rfl, by go_num, by rw [HD.out]; exact ho5, hb7⟩
        case measure => simp [intOf]; omega
    · have hle : (sn : Int) ≤ (k : Int) := by omega
      obtain rfl : k = sn := by omega
      go_wp2_with fail
      go_ret
      exact ⟨⟨_, _, _, rfl, ho⟩, hbr⟩
end Go.Proofs.Ytmaidjankakppaa
