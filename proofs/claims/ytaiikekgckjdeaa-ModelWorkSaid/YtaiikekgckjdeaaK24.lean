/- Work is not lost: the law's walk. -/
import Derived.Test.YtaiikekgckjdeaaK23
namespace Go.Proofs.Ytaiikekgckjdeaa
open Go.RowKit
open Calmly (Kept)
theorem HbW.move {W : World} {n b7 : Nat} {x z : Int} {sl sl2 : List Sp} {av : Option Addr} {cv : Nat} (h7 : HbW W n b7 x sl) (hs : SSp W av n cv sl2) (hi : In W 64 av) : HbW ((W.setCell ⟨b7, 0, none⟩ (.int .i64 z)).setCell ⟨b7, 1, none⟩ (.slice av n cv)) n b7 z sl2 := by
  obtain ⟨av0, cv0, y, _, _⟩ := h7
  have hB : But 49 W ((W.setCell ⟨b7, 0, none⟩ (.int .i64 z)).setCell ⟨b7, 1, none⟩ (.slice av n cv)) := ⟨by simp, fun b _ hn => by
    have hb : b ≠ b7 := by rintro rfl; exact hn ⟨_, y⟩
    rw [Below.heap_setCell _ _ _ _ hb, Below.heap_setCell _ _ _ _ hb]⟩
  have q := setBlk (setBlk y 0 (.int .i64 z)) 1 (.slice av n cv)
  exact ⟨av, cv, by simpa using q, hs.but hi hB (by decide), hi.but hB (by decide)⟩
theorem kept_allocW {W w : World} {o : Obj} {G : Prop} (h : Below W.heap.size W w) (k : Below W.heap.size W (w.alloc o) → Below w.heap.size w (w.alloc o) → (w.alloc o).heap[w.heap.size]? = some o → G) : Kept W (w.alloc o) ∧ G :=
  ⟨kept_of (h.alloc h.size o), k (h.alloc h.size o) ((Below.refl _ _).alloc (Nat.le_refl _) o) (alloc_new w o)⟩
theorem wp_act5 {P : Program} {c : Code} {Q : Exit → Act → World → Prop} {a : Act} {w : World} (S : Act → Prop) (hS : S a) (h : ∀ b, S b → c.wp P Q b w) : c.wp P Q a w := h a hS
set_option maxRecDepth 100000 in
set_option maxHeartbeats 40000000 in
theorem ModelWork_walk (a ma : Option Addr) (n c mn mc : Nat) (l : List El) (m : List Int) (T : Int) (w : World) (h1 : SEl w a n c l) (h2 : SI w ma mn mc m) :
    Calls Try.prog 4 #[.slice a n c, .slice ma mn mc, .int .i64 T] w fun e w' => e = .returned (.bool true) ∧ Below w.heap.size w w' := by
  have m1 := h1.max
  have q1 := h1.cap
  have m2 := h2.max
  have q2 := h2.cap
  have hln := h1.len
  have hlm := h2.len
  have HLN := Lib.hid hln
  have HLM := Lib.hid hlm
  clear hln hlm
  obtain ⟨SE, hSE⟩ : ∃ E, (sprE l).2 = E := ⟨_, rfl⟩
  have HSE := Lib.hid hSE
  clear hSE
  obtain ⟨TB, hTB⟩ : ∃ E, wIn T 0 100 = E := ⟨_, rfl⟩
  have HTB := Lib.hid hTB
  clear hTB
  go_enter Try.func4, Try.ntmps4
  go_wp2_with fail
  refine (awake_any _).mono ?_
  rintro e w1 ⟨rfl, BW⟩
  by_cases g1 : (4 : Int) < (n : Int)
  case pos =>
    go_wp2_with fail
    go_ret
    exact ⟨ret_bool (by simp), BW⟩
  by_cases g2 : (20 : Int) < (mn : Int)
  case pos =>
    go_wp2_with fail
    go_ret
    exact ⟨ret_bool (by simp), BW⟩
  go_wp2_with fail
  refine (rSpringErr_any a n c l _ (h1.keep BW)).mono ?_
  rintro e w2 ⟨rfl, hs⟩
  replace BW := BW.trans (hs.mono BW.size)
  clear hs
  rw [HSE.out]
  by_cases g3 : SE = 0
  case neg =>
    have b3 : (SE != 0) = true := by simpa using g3
    go_wp2_with fail
    go_ret
    exact ⟨ret_bool (by simp), BW⟩
  subst g3
  go_wp2_with fail
  refine (within_any T 0 100 _).mono ?_
  rintro e w3 ⟨rfl, rfl⟩
  rw [HTB.out]
  cases TB
  · go_wp2_with fail
    go_ret
    exact ⟨ret_bool (by simp), BW⟩
  have hT := wIn_iff.1 HTB.out
  have hsp := sprE_ok HSE.out
  have HSP := Lib.hid hsp
  clear hsp
  go_wp2_with fail
  refine (rBegin_any a n c l _ (h1.keep BW) (by omega)).mono ?_
  rintro e w3 ⟨av, rfl, hob, hs⟩
  replace BW := BW.trans (hs.mono BW.size)
  clear hs
  have y7 := alloc_new w3 (.cells #[.int .i64 0, .slice av n n] 49)
  have hA : Below w3.heap.size w3 (w3.alloc (.cells #[.int .i64 0, .slice av n n] 49)) := (Below.refl _ _).alloc (Nat.le_refl _) _
  go_wp2_with fail
  have hH0 : HbW (w3.alloc (.cells #[.int .i64 0, .slice av n n] 49)) n w3.heap.size 0 (List.replicate n sp0) := ⟨av, n, y7, hob.ss.keep hA, (In.of_owns hob).keep hA⟩
  have hOk0 : HoldOk l 0 (List.replicate n sp0) := by
    have h5 := hold0_ok HSE.out
    rw [bgS, ← HLN.out] at h5
    exact h5
  have hb7 : w3.heap.size < (w3.alloc (.cells #[.int .i64 0, .slice av n n] 49)).heap.size := by simp
  have hw7 := BW.size
  replace BW := BW.trans (hA.mono BW.size)
  obtain ⟨b7, hb7'⟩ : ∃ b, w3.heap.size = b := ⟨_, rfl⟩
  rw [hb7'] at hH0 hw7 hb7 ⊢
  generalize w3.alloc (.cells #[.int .i64 0, .slice av n n] 49) = W at *
  clear hA y7 hb7'
  refine wp_act5 (fun b => ∃ (y29 y30 y31 y32 y33 y34 y35 y36 y37 y38 y39 y40 y41 y42 y43 y44 y45 y46 y47 y48 y49 y50 : Value), b = { tmps := #[.slice a n c, .slice ma mn mc, .int .i64 T, undef, undef, undef, .bool false, .pointer (some ⟨b7, 0, none⟩), .int .i64 0, undef, undef, undef, undef, undef, undef, undef, undef, undef, undef, undef, undef, undef, undef, undef, undef, undef, undef, undef, undef, y29, y30, y31, y32, y33, y34, y35, y36, y37, y38, y39, y40, y41, y42, y43, y44, y45, y46, y47, y48, y49, y50, undef, undef, undef, undef, undef, undef, undef, undef, undef, undef, undef, undef, undef, undef, undef, undef, undef, undef, undef, undef, undef, undef, undef, undef, undef, undef, undef, undef, undef, undef, undef, undef, undef, undef, undef, undef, undef, undef, undef, undef, undef, undef, undef, undef, undef, undef, undef, undef, undef, undef, undef, undef, undef, undef, undef, undef, undef, undef, undef, undef, undef, undef, undef, undef, undef, undef, undef, undef, undef, undef, undef, undef, undef, undef, undef, undef, undef, undef, undef, undef, undef, undef, undef, undef, undef, undef, undef, undef, undef, undef, undef, undef, undef, undef, undef, undef, undef, undef, undef, undef, undef, undef, undef, undef, undef, undef, undef, undef, undef, undef, undef, undef, undef, undef, undef, undef, undef, undef, undef, undef, undef, undef, undef, undef, undef, undef, undef, undef, undef, undef, undef, undef, undef, undef, undef, undef, undef, undef, undef, undef, undef, undef, undef, undef, undef, undef, undef, undef, undef, undef, undef, undef, undef, undef, undef, undef, undef, undef, undef, undef, undef, undef, undef, undef, undef, undef, undef, undef, undef, undef, undef, undef, undef, undef, undef, undef, undef, undef, undef, undef, undef, undef, undef, undef, undef, undef, undef, undef, undef, undef, undef, undef, undef, undef, undef, undef, undef, undef, undef, undef, undef, undef, undef, undef, undef, undef, undef, undef, undef, undef, undef, undef, undef, undef, undef, undef, undef, undef, undef, undef, undef, undef, undef, undef, undef, undef, undef, undef, undef, undef, undef, undef, undef, undef, undef, undef, undef, undef, undef, undef, undef, undef, undef, undef], defers := [] }) ⟨_, _, _, _, _, _, _, _, _, _, _, _, _, _, _, _, _, _, _, _, _, _, rfl⟩ ?_
  rintro _ ⟨y29, y30, y31, y32, y33, y34, y35, y36, y37, y38, y39, y40, y41, y42, y43, y44, y45, y46, y47, y48, y49, y50, rfl⟩
  dsimp only
  go_loopw [8] (fun i wr => ∃ (k : Nat) (x : Int) (sl : List Sp), k ≤ mn ∧ i = .int .i64 (k : Int) ∧ Below w.heap.size w wr ∧ b7 < wr.heap.size ∧ HbW wr n b7 x sl ∧ HoldOk l x sl) (fun i _ => mn - (intOf i).toNat)
  case atStart => exact ⟨0, 0, _, by omega, rfl, BW, hb7, hH0, hOk0⟩
  case round =>
    clear BW hb7 hH0 hOk0 W
    obtain ⟨k, x, sl, hk0, rfl, BW, hb7, hH, hOK⟩ := hrel
    by_cases hlt : k < mn
    case neg =>
      have hle : (mn : Int) ≤ (k : Int) := by omega
      go_wp2_with fail
      go_ret
      exact ⟨ret_bool (by simp), BW⟩
    obtain ⟨mb, mo, rfl, hmc⟩ := (h2.keep BW).at_ (by omega)
    have hmk := hmc k hlt
    obtain ⟨z, hz⟩ : ∃ z, m[k]?.getD 0 = z := ⟨_, rfl⟩
    rw [hz] at hmk
    clear hmc hz
    have hi : (k : Int) < (mn : Int) := by omega
    have hi0 : (0 : Int) ≤ (k : Int) := by omega
    try dsimp only
    go_wp2_with fail
    refine (rPlaceErr_any z _).mono ?_
    rintro e w9 ⟨rfl, rfl⟩
    by_cases hp : plc z = true
    case neg =>
      have hp' : plc z = false := by simpa using hp
      rw [show unlessE (plc z) 2 = 2 by rw [hp']; rfl]
      go_wp2_with fail
      go_ret
      exact ⟨ret_bool (by simp), BW⟩
    rw [show unlessE (plc z) 2 = 0 by rw [hp]; rfl]
    obtain ⟨H, sl2, sl3, EN1, EN2, WK, LS, W3, L3, W4, L4, WB, LB, hF, hpH, k2, k3, e1, e2, e3, e4, e5, e6, e7, e8, e9, e10, e11, e12, e13, hbr⟩ := wkF_of hOK hp hT.1 hT.2
    have HF := Lib.hid hF
    have HPH := Lib.hid hpH
    have HPZ := Lib.hid hp
    have HPX := Lib.hid hOK.at_
    have HOK := Lib.hid hOK
    have HK2 := Lib.hid k2
    have HK3 := Lib.hid k3
    have E1 := Lib.hid e1
    have E2 := Lib.hid e2
    have E3 := Lib.hid e3
    have E4 := Lib.hid e4
    have E5 := Lib.hid e5
    have E6 := Lib.hid e6
    have E7 := Lib.hid e7
    have E8 := Lib.hid e8
    have E9 := Lib.hid e9
    have E10 := Lib.hid e10
    have E11 := Lib.hid e11
    have E12 := Lib.hid e12
    have E13 := Lib.hid e13
    have HBR := Lib.hid hbr
    clear hF hpH hp hOK k2 k3 e1 e2 e3 e4 e5 e6 e7 e8 e9 e10 e11 e12 e13 hbr
    try dsimp only
    go_wp2_with fail
    generalize wr = W at *
    refine Calmly.wp_region_mix 9 (.fl 0 <| .fl 2 <| .eff 1 <| .eff 3 <| .eff 4 <| .fl 5 <| .fl 6 <| .fl 7 <| .fl 8 <| .tail [9]) (by kernel_rfl) (by kernel_rfl) ?_
    have BD : Below W.heap.size W W.drew := (Below.refl _ _).drew
    replace hH := hH.keep BD
    replace hmk := cell_keep hmk BD
    replace hb7 := Nat.lt_of_lt_of_le hb7 BD.size
    replace BW := BW.trans (BD.mono BW.size)
    clear BD
    generalize W.drew = V at *
    have hk := Below.refl V.heap.size V
    obtain ⟨avhH, cvhH, ybhH, yshH, yihH⟩ := hH.ex
    have f0hH := cell_block ybhH 0
    have f1hH := cell_block ybhH 1
    try dsimp only
    go_wp2_with (first | ((with_reducible refine Calmly.is_fl ?_); refine Calmly.mix_fl rfl ?_ (fun _ _ => ?_); (first | exact .move _ | exact .load _ _ | exact .fieldAddr _ _ _ (by kernel_rfl) | exact .assign _ | exact .binOp _ _ _ _ _ rfl | exact .indexAddr _ _ _ | exact .len _ _ (by kernel_rfl) | exact .field _ _ _ | exact .extract _ _ | exact .pick _ _ _ | exact .build _ _ | exact .slice _ _ _ _ _ | exact .unOp _ _ _ rfl | exact .index _ _ _ | exact .max _ _ _ rfl rfl | exact .min _ _ _ rfl rfl | exact .nilCheck _ _ rfl)) | ((with_reducible refine Calmly.is_gl ?_); refine Calmly.mix_gl rfl rfl rfl ?_; first | ((first | with_reducible refine Calmly.gl_tt ?_ (fun _ _ => ?_) | with_reducible refine Calmly.gl_ff ?_ (fun _ _ => ?_)); (first | exact .move _ | exact .load _ _ | exact .fieldAddr _ _ _ (by kernel_rfl) | exact .assign _ | exact .binOp _ _ _ _ _ rfl | exact .indexAddr _ _ _ | exact .len _ _ (by kernel_rfl) | exact .field _ _ _ | exact .extract _ _ | exact .pick _ _ _ | exact .build _ _ | exact .slice _ _ _ _ _ | exact .unOp _ _ _ rfl | exact .index _ _ _ | exact .max _ _ _ rfl rfl | exact .min _ _ _ rfl rfl | exact .nilCheck _ _ rfl)) | with_reducible refine Calmly.gl_tf (fun _ _ => ?_) | with_reducible refine Calmly.gl_ft (fun _ _ => ?_)) | ((with_reducible refine Calmly.is_eff ?_); refine Calmly.mix_eff rfl (fun _ _ => ?_)) | ((with_reducible refine Calmly.is_gf ?_); refine Calmly.mix_gf rfl rfl rfl ?_; first | with_reducible refine Calmly.gf_tt (fun _ _ => ?_) | with_reducible refine Calmly.gf_ff (fun _ _ => ?_) | with_reducible refine Calmly.gf_tf (kept_of hk) (fun _ _ => ?_) | with_reducible refine Calmly.gf_ft (kept_of hk) (fun _ _ => ?_)) | ((with_reducible refine Calmly.is_tail ?_); first | refine Calmly.mix_tail_nil ?_ | refine Calmly.mix_tail rfl (fun _ _ => ?_)) | ((with_reducible refine Calmly.is_kept ?_); refine ⟨kept_of hk, ?_⟩) | (with_reducible refine Calmly.mix_alt ?_ ?_))
    refine (CopySpring_any a n c l _ ((h1.keep BW).keep hk) (by omega)).mono ?_
    rintro e w1 ⟨a1, c1, rfl, ho1, hb1⟩
    replace hk := step_of hk hb1
    try dsimp only
    go_wp2_with (first | ((with_reducible refine Calmly.is_fl ?_); refine Calmly.mix_fl rfl ?_ (fun _ _ => ?_); (first | exact .move _ | exact .load _ _ | exact .fieldAddr _ _ _ (by kernel_rfl) | exact .assign _ | exact .binOp _ _ _ _ _ rfl | exact .indexAddr _ _ _ | exact .len _ _ (by kernel_rfl) | exact .field _ _ _ | exact .extract _ _ | exact .pick _ _ _ | exact .build _ _ | exact .slice _ _ _ _ _ | exact .unOp _ _ _ rfl | exact .index _ _ _ | exact .max _ _ _ rfl rfl | exact .min _ _ _ rfl rfl | exact .nilCheck _ _ rfl)) | ((with_reducible refine Calmly.is_gl ?_); refine Calmly.mix_gl rfl rfl rfl ?_; first | ((first | with_reducible refine Calmly.gl_tt ?_ (fun _ _ => ?_) | with_reducible refine Calmly.gl_ff ?_ (fun _ _ => ?_)); (first | exact .move _ | exact .load _ _ | exact .fieldAddr _ _ _ (by kernel_rfl) | exact .assign _ | exact .binOp _ _ _ _ _ rfl | exact .indexAddr _ _ _ | exact .len _ _ (by kernel_rfl) | exact .field _ _ _ | exact .extract _ _ | exact .pick _ _ _ | exact .build _ _ | exact .slice _ _ _ _ _ | exact .unOp _ _ _ rfl | exact .index _ _ _ | exact .max _ _ _ rfl rfl | exact .min _ _ _ rfl rfl | exact .nilCheck _ _ rfl)) | with_reducible refine Calmly.gl_tf (fun _ _ => ?_) | with_reducible refine Calmly.gl_ft (fun _ _ => ?_)) | ((with_reducible refine Calmly.is_eff ?_); refine Calmly.mix_eff rfl (fun _ _ => ?_)) | ((with_reducible refine Calmly.is_gf ?_); refine Calmly.mix_gf rfl rfl rfl ?_; first | with_reducible refine Calmly.gf_tt (fun _ _ => ?_) | with_reducible refine Calmly.gf_ff (fun _ _ => ?_) | with_reducible refine Calmly.gf_tf (kept_of hk) (fun _ _ => ?_) | with_reducible refine Calmly.gf_ft (kept_of hk) (fun _ _ => ?_)) | ((with_reducible refine Calmly.is_tail ?_); first | refine Calmly.mix_tail_nil ?_ | refine Calmly.mix_tail rfl (fun _ _ => ?_)) | ((with_reducible refine Calmly.is_kept ?_); refine ⟨kept_of hk, ?_⟩) | (with_reducible refine Calmly.mix_alt ?_ ?_))
    refine (CopyHold_any x avhH n cvhH sl _ (yshH.keep hk) (by omega)).mono ?_
    rintro e w2 ⟨a3, c3, rfl, ho2, hb2⟩
    replace hk := step_of hk hb2
    have e1 := ho1.se.keep hb2
    have e2 := ho2.ss
    try dsimp only
    go_wp2_with (first | ((with_reducible refine Calmly.is_fl ?_); refine Calmly.mix_fl rfl ?_ (fun _ _ => ?_); (first | exact .move _ | exact .load _ _ | exact .fieldAddr _ _ _ (by kernel_rfl) | exact .assign _ | exact .binOp _ _ _ _ _ rfl | exact .indexAddr _ _ _ | exact .len _ _ (by kernel_rfl) | exact .field _ _ _ | exact .extract _ _ | exact .pick _ _ _ | exact .build _ _ | exact .slice _ _ _ _ _ | exact .unOp _ _ _ rfl | exact .index _ _ _ | exact .max _ _ _ rfl rfl | exact .min _ _ _ rfl rfl | exact .nilCheck _ _ rfl)) | ((with_reducible refine Calmly.is_gl ?_); refine Calmly.mix_gl rfl rfl rfl ?_; first | ((first | with_reducible refine Calmly.gl_tt ?_ (fun _ _ => ?_) | with_reducible refine Calmly.gl_ff ?_ (fun _ _ => ?_)); (first | exact .move _ | exact .load _ _ | exact .fieldAddr _ _ _ (by kernel_rfl) | exact .assign _ | exact .binOp _ _ _ _ _ rfl | exact .indexAddr _ _ _ | exact .len _ _ (by kernel_rfl) | exact .field _ _ _ | exact .extract _ _ | exact .pick _ _ _ | exact .build _ _ | exact .slice _ _ _ _ _ | exact .unOp _ _ _ rfl | exact .index _ _ _ | exact .max _ _ _ rfl rfl | exact .min _ _ _ rfl rfl | exact .nilCheck _ _ rfl)) | with_reducible refine Calmly.gl_tf (fun _ _ => ?_) | with_reducible refine Calmly.gl_ft (fun _ _ => ?_)) | ((with_reducible refine Calmly.is_eff ?_); refine Calmly.mix_eff rfl (fun _ _ => ?_)) | ((with_reducible refine Calmly.is_gf ?_); refine Calmly.mix_gf rfl rfl rfl ?_; first | with_reducible refine Calmly.gf_tt (fun _ _ => ?_) | with_reducible refine Calmly.gf_ff (fun _ _ => ?_) | with_reducible refine Calmly.gf_tf (kept_of hk) (fun _ _ => ?_) | with_reducible refine Calmly.gf_ft (kept_of hk) (fun _ _ => ?_)) | ((with_reducible refine Calmly.is_tail ?_); first | refine Calmly.mix_tail_nil ?_ | refine Calmly.mix_tail rfl (fun _ _ => ?_)) | ((with_reducible refine Calmly.is_kept ?_); refine ⟨kept_of hk, ?_⟩) | (with_reducible refine Calmly.mix_alt ?_ ?_))
    refine (Energy_ok a1 a3 n c1 n c3 l x sl _ e1 e2 HOK.out).mono ?_
    rintro e w3 ⟨rfl, hb3⟩
    replace hk := step_of hk hb3
    rw [E4.out]
    try dsimp only
    go_wp2_with (first | ((with_reducible refine Calmly.is_fl ?_); refine Calmly.mix_fl rfl ?_ (fun _ _ => ?_); (first | exact .move _ | exact .load _ _ | exact .fieldAddr _ _ _ (by kernel_rfl) | exact .assign _ | exact .binOp _ _ _ _ _ rfl | exact .indexAddr _ _ _ | exact .len _ _ (by kernel_rfl) | exact .field _ _ _ | exact .extract _ _ | exact .pick _ _ _ | exact .build _ _ | exact .slice _ _ _ _ _ | exact .unOp _ _ _ rfl | exact .index _ _ _ | exact .max _ _ _ rfl rfl | exact .min _ _ _ rfl rfl | exact .nilCheck _ _ rfl)) | ((with_reducible refine Calmly.is_gl ?_); refine Calmly.mix_gl rfl rfl rfl ?_; first | ((first | with_reducible refine Calmly.gl_tt ?_ (fun _ _ => ?_) | with_reducible refine Calmly.gl_ff ?_ (fun _ _ => ?_)); (first | exact .move _ | exact .load _ _ | exact .fieldAddr _ _ _ (by kernel_rfl) | exact .assign _ | exact .binOp _ _ _ _ _ rfl | exact .indexAddr _ _ _ | exact .len _ _ (by kernel_rfl) | exact .field _ _ _ | exact .extract _ _ | exact .pick _ _ _ | exact .build _ _ | exact .slice _ _ _ _ _ | exact .unOp _ _ _ rfl | exact .index _ _ _ | exact .max _ _ _ rfl rfl | exact .min _ _ _ rfl rfl | exact .nilCheck _ _ rfl)) | with_reducible refine Calmly.gl_tf (fun _ _ => ?_) | with_reducible refine Calmly.gl_ft (fun _ _ => ?_)) | ((with_reducible refine Calmly.is_eff ?_); refine Calmly.mix_eff rfl (fun _ _ => ?_)) | ((with_reducible refine Calmly.is_gf ?_); refine Calmly.mix_gf rfl rfl rfl ?_; first | with_reducible refine Calmly.gf_tt (fun _ _ => ?_) | with_reducible refine Calmly.gf_ff (fun _ _ => ?_) | with_reducible refine Calmly.gf_tf (kept_of hk) (fun _ _ => ?_) | with_reducible refine Calmly.gf_ft (kept_of hk) (fun _ _ => ?_)) | ((with_reducible refine Calmly.is_tail ?_); first | refine Calmly.mix_tail_nil ?_ | refine Calmly.mix_tail rfl (fun _ _ => ?_)) | ((with_reducible refine Calmly.is_kept ?_); refine ⟨kept_of hk, ?_⟩) | (with_reducible refine Calmly.mix_alt ?_ ?_))
    clear e1 e2 ho1 ho2 hb1 hb2 hb3
    clear f0hH f1hH ybhH yshH yihH
    replace hH := hH.keep hk
    replace hmk := cell_keep hmk hk
    replace hb7 := Nat.lt_of_lt_of_le hb7 hk.size
    replace BW := BW.trans (hk.mono BW.size)
    clear hk
    generalize w3 = W at *
    refine Calmly.wp_region_mix 14 (.fl 0 <| .fl 2 <| .fl 4 <| .fl 5 <| .fl 6 <| .fl 7 <| .alt 1 (.alt 3 (.alt 8 (.fl 9 <| .fl 10 <| .fl 11 <| .eff 12 <| .eff 13 <| .tail [14]) (.eff 12 (.eff 8 <| .fl 9 <| .fl 10 <| .fl 11 <| .eff 13 <| .tail [14]))) (.eff 12 (.eff 3 <| .eff 8 <| .fl 9 <| .fl 10 <| .fl 11 <| .eff 13 <| .tail [14]))) (.eff 12 (.eff 1 <| .eff 3 <| .eff 8 <| .fl 9 <| .fl 10 <| .fl 11 <| .eff 13 <| .tail [14]))) (by kernel_rfl) (by kernel_rfl) ?_
    have BD : Below W.heap.size W W.drew := (Below.refl _ _).drew
    replace hH := hH.keep BD
    replace hmk := cell_keep hmk BD
    replace hb7 := Nat.lt_of_lt_of_le hb7 BD.size
    replace BW := BW.trans (BD.mono BW.size)
    clear BD
    generalize W.drew = V at *
    have hk := Below.refl V.heap.size V
    rename_i K12 hK12
    have hK12' := fun a w (h : Stop _) => hK12 a w h.out
    clear hK12
    have HK12 : ∀ (W : World) (q11 : Nat) (y6 y13 y14 y15 y16 y17 y18 y19 y20 y21 y22 y23 y24 y25 y26 y27 y28 y51 y52 y53 y54 y55 y56 y57 y58 y59 y60 y61 y62 y63 y64 y65 y66 y67 y68 y69 y70 y71 y72 y73 y74 y75 y76 y77 y78 y79 y80 y81 y82 y83 y84 y85 y86 y87 y88 y89 y90 y91 y92 y93 y94 y95 y96 y97 y98 y99 y100 y101 y102 y103 y104 y105 y106 y107 y108 y109 y110 y111 y112 y113 y114 y115 y116 y117 y118 y119 y120 y121 y122 y123 y124 y125 y126 y127 y128 y129 y130 y131 y132 y133 y134 y135 y136 y137 y138 y139 y140 y141 y142 y143 y144 y145 y146 y147 y148 y149 y150 y151 y152 y153 y154 y155 y156 y157 y158 y159 y160 y161 y162 y163 y164 y165 y166 y167 y168 y169 y170 y171 y172 y173 y174 y175 y176 y177 y178 y179 y180 y181 y182 y183 y184 y185 y186 y187 y188 y189 y190 y191 y192 y193 y194 y195 y196 y197 y198 y199 y200 y201 y202 y203 y204 y205 y206 y207 y208 y209 y210 y211 y212 y213 y214 y215 y216 y217 y218 y219 y220 y221 y222 y223 y224 y225 y226 y227 y228 y229 y230 y231 y232 y233 y234 y235 y236 y237 y238 y239 y240 y241 y242 y243 y244 y245 y246 y247 y248 y249 y250 y251 y252 y253 y254 y255 y256 y257 y258 y259 y260 y261 y262 y263 y264 y265 y266 y267 y268 y269 y270 y271 y272 y273 y274 y275 y276 y277 y278 y279 y280 y281 y282 y283 y284 y285 y286 y287 y288 y289 y290 y291 y292 y293 y294 : Value), Below V.heap.size V W → HbW W n q11 z sl2 → K12 { tmps := #[.slice a n c, .slice (some ⟨mb, mo, none⟩) mn mc, .int .i64 T, undef, undef, undef, y6, .pointer (some ⟨b7, 0, none⟩), .int .i64 (k : Int), .int .i64 EN1, .int .i64 0, .pointer (some ⟨q11, 0, none⟩), .int .i64 0, y13, y14, y15, y16, y17, y18, y19, y20, y21, y22, y23, y24, y25, y26, y27, y28, y29, y30, y31, y32, y33, y34, y35, y36, y37, y38, y39, y40, y41, y42, y43, y44, y45, y46, y47, y48, y49, y50, y51, y52, y53, y54, y55, y56, y57, y58, y59, y60, y61, y62, y63, y64, y65, y66, y67, y68, y69, y70, y71, y72, y73, y74, y75, y76, y77, y78, y79, y80, y81, y82, y83, y84, y85, y86, y87, y88, y89, y90, y91, y92, y93, y94, y95, y96, y97, y98, y99, y100, y101, y102, y103, y104, y105, y106, y107, y108, y109, y110, y111, y112, y113, y114, y115, y116, y117, y118, y119, y120, y121, y122, y123, y124, y125, y126, y127, y128, y129, y130, y131, y132, y133, y134, y135, y136, y137, y138, y139, y140, y141, y142, y143, y144, y145, y146, y147, y148, y149, y150, y151, y152, y153, y154, y155, y156, y157, y158, y159, y160, y161, y162, y163, y164, y165, y166, y167, y168, y169, y170, y171, y172, y173, y174, y175, y176, y177, y178, y179, y180, y181, y182, y183, y184, y185, y186, y187, y188, y189, y190, y191, y192, y193, y194, y195, y196, y197, y198, y199, y200, y201, y202, y203, y204, y205, y206, y207, y208, y209, y210, y211, y212, y213, y214, y215, y216, y217, y218, y219, y220, y221, y222, y223, y224, y225, y226, y227, y228, y229, y230, y231, y232, y233, y234, y235, y236, y237, y238, y239, y240, y241, y242, y243, y244, y245, y246, y247, y248, y249, y250, y251, y252, y253, y254, y255, y256, y257, y258, y259, y260, y261, y262, y263, y264, y265, y266, y267, y268, y269, y270, y271, y272, y273, y274, y275, y276, y277, y278, y279, y280, y281, y282, y283, y284, y285, y286, y287, y288, y289, y290, y291, y292, y293, y294], defers := [] } W := by
      skip
      intro W q11 y6 y13 y14 y15 y16 y17 y18 y19 y20 y21 y22 y23 y24 y25 y26 y27 y28 y51 y52 y53 y54 y55 y56 y57 y58 y59 y60 y61 y62 y63 y64 y65 y66 y67 y68 y69 y70 y71 y72 y73 y74 y75 y76 y77 y78 y79 y80 y81 y82 y83 y84 y85 y86 y87 y88 y89 y90 y91 y92 y93 y94 y95 y96 y97 y98 y99 y100 y101 y102 y103 y104 y105 y106 y107 y108 y109 y110 y111 y112 y113 y114 y115 y116 y117 y118 y119 y120 y121 y122 y123 y124 y125 y126 y127 y128 y129 y130 y131 y132 y133 y134 y135 y136 y137 y138 y139 y140 y141 y142 y143 y144 y145 y146 y147 y148 y149 y150 y151 y152 y153 y154 y155 y156 y157 y158 y159 y160 y161 y162 y163 y164 y165 y166 y167 y168 y169 y170 y171 y172 y173 y174 y175 y176 y177 y178 y179 y180 y181 y182 y183 y184 y185 y186 y187 y188 y189 y190 y191 y192 y193 y194 y195 y196 y197 y198 y199 y200 y201 y202 y203 y204 y205 y206 y207 y208 y209 y210 y211 y212 y213 y214 y215 y216 y217 y218 y219 y220 y221 y222 y223 y224 y225 y226 y227 y228 y229 y230 y231 y232 y233 y234 y235 y236 y237 y238 y239 y240 y241 y242 y243 y244 y245 y246 y247 y248 y249 y250 y251 y252 y253 y254 y255 y256 y257 y258 y259 y260 y261 y262 y263 y264 y265 y266 y267 y268 y269 y270 y271 y272 y273 y274 y275 y276 y277 y278 y279 y280 y281 y282 y283 y284 y285 y286 y287 y288 y289 y290 y291 y292 y293 y294 hb hX
      refine hK12' _ _ ⟨?_⟩
      clear hK12'
      replace hH := hH.keep hb
      replace hmk := cell_keep hmk hb
      replace hb7 := Nat.lt_of_lt_of_le hb7 hb.size
      replace BW := BW.trans (hb.mono BW.size)
      clear hb
      clear hk
      clear V
      try dsimp only
      go_wp2_with fail
      refine Calmly.wp_region_mix 14 (.fl 0 <| .fl 2 <| .fl 4 <| .fl 5 <| .fl 6 <| .fl 7 <| .alt 1 (.alt 3 (.alt 8 (.fl 9 <| .fl 10 <| .fl 11 <| .eff 12 <| .eff 13 <| .tail [14]) (.eff 12 (.eff 8 <| .fl 9 <| .fl 10 <| .fl 11 <| .eff 13 <| .tail [14]))) (.eff 12 (.eff 3 <| .eff 8 <| .fl 9 <| .fl 10 <| .fl 11 <| .eff 13 <| .tail [14]))) (.eff 12 (.eff 1 <| .eff 3 <| .eff 8 <| .fl 9 <| .fl 10 <| .fl 11 <| .eff 13 <| .tail [14]))) (by kernel_rfl) (by kernel_rfl) ?_
      have BD : Below W.heap.size W W.drew := (Below.refl _ _).drew
      replace hH := hH.keep BD
      replace hX := hX.keep BD
      replace hmk := cell_keep hmk BD
      replace hb7 := Nat.lt_of_lt_of_le hb7 BD.size
      replace BW := BW.trans (BD.mono BW.size)
      clear BD
      generalize W.drew = V at *
      have hk := Below.refl V.heap.size V
      rename_i K13 hK13
      have hK13' := fun a w (h : Stop _) => hK13 a w h.out
      clear hK13
      have HK13 : ∀ (W : World) (q13 : Nat) (y6 y15 y16 y17 y18 y19 y20 y21 y22 y23 y24 y25 y26 y27 y28 y51 y52 y53 y54 y55 y56 y57 y58 y59 y60 y61 y62 y63 y64 y65 y66 y67 y68 y69 y70 y71 y72 y73 y74 y75 y76 y77 y78 y79 y80 y81 y82 y83 y84 y85 y86 y87 y88 y89 y90 y91 y92 y93 y94 y95 y96 y97 y98 y99 y100 y101 y102 y103 y104 y105 y106 y107 y108 y109 y110 y111 y112 y113 y114 y115 y116 y117 y118 y119 y120 y121 y122 y123 y124 y125 y126 y127 y128 y129 y130 y131 y132 y133 y134 y135 y136 y137 y138 y139 y140 y141 y142 y143 y144 y145 y146 y147 y148 y149 y150 y151 y152 y153 y154 y155 y156 y157 y158 y159 y160 y161 y162 y163 y164 y165 y166 y167 y168 y169 y170 y171 y172 y173 y174 y175 y176 y177 y178 y179 y180 y181 y182 y183 y184 y185 y186 y187 y188 y189 y190 y191 y192 y193 y194 y195 y196 y197 y198 y199 y200 y201 y202 y203 y204 y205 y206 y207 y208 y209 y210 y211 y212 y213 y214 y215 y216 y217 y218 y219 y220 y221 y222 y223 y224 y225 y226 y227 y228 y229 y230 y231 y232 y233 y234 y235 y236 y237 y238 y239 y240 y241 y242 y243 y244 y245 y246 y247 y248 y249 y250 y251 y252 y253 y254 y255 y256 y257 y258 y259 y260 y261 y262 y263 y264 y265 y266 y267 y268 y269 y270 y271 y272 y273 y274 y275 y276 y277 y278 y279 y280 y281 y282 y283 y284 y285 y286 y287 y288 y289 y290 y291 y292 y293 y294 : Value), Below V.heap.size V W → WbW W q13 WK LS → K13 { tmps := #[.slice a n c, .slice (some ⟨mb, mo, none⟩) mn mc, .int .i64 T, undef, undef, undef, y6, .pointer (some ⟨b7, 0, none⟩), .int .i64 (k : Int), .int .i64 EN1, .int .i64 0, .pointer (some ⟨q11, 0, none⟩), .int .i64 0, .pointer (some ⟨q13, 0, none⟩), .int .i64 0, y15, y16, y17, y18, y19, y20, y21, y22, y23, y24, y25, y26, y27, y28, y29, y30, y31, y32, y33, y34, y35, y36, y37, y38, y39, y40, y41, y42, y43, y44, y45, y46, y47, y48, y49, y50, y51, y52, y53, y54, y55, y56, y57, y58, y59, y60, y61, y62, y63, y64, y65, y66, y67, y68, y69, y70, y71, y72, y73, y74, y75, y76, y77, y78, y79, y80, y81, y82, y83, y84, y85, y86, y87, y88, y89, y90, y91, y92, y93, y94, y95, y96, y97, y98, y99, y100, y101, y102, y103, y104, y105, y106, y107, y108, y109, y110, y111, y112, y113, y114, y115, y116, y117, y118, y119, y120, y121, y122, y123, y124, y125, y126, y127, y128, y129, y130, y131, y132, y133, y134, y135, y136, y137, y138, y139, y140, y141, y142, y143, y144, y145, y146, y147, y148, y149, y150, y151, y152, y153, y154, y155, y156, y157, y158, y159, y160, y161, y162, y163, y164, y165, y166, y167, y168, y169, y170, y171, y172, y173, y174, y175, y176, y177, y178, y179, y180, y181, y182, y183, y184, y185, y186, y187, y188, y189, y190, y191, y192, y193, y194, y195, y196, y197, y198, y199, y200, y201, y202, y203, y204, y205, y206, y207, y208, y209, y210, y211, y212, y213, y214, y215, y216, y217, y218, y219, y220, y221, y222, y223, y224, y225, y226, y227, y228, y229, y230, y231, y232, y233, y234, y235, y236, y237, y238, y239, y240, y241, y242, y243, y244, y245, y246, y247, y248, y249, y250, y251, y252, y253, y254, y255, y256, y257, y258, y259, y260, y261, y262, y263, y264, y265, y266, y267, y268, y269, y270, y271, y272, y273, y274, y275, y276, y277, y278, y279, y280, y281, y282, y283, y284, y285, y286, y287, y288, y289, y290, y291, y292, y293, y294], defers := [] } W := by
        skip
        intro W q13 y6 y15 y16 y17 y18 y19 y20 y21 y22 y23 y24 y25 y26 y27 y28 y51 y52 y53 y54 y55 y56 y57 y58 y59 y60 y61 y62 y63 y64 y65 y66 y67 y68 y69 y70 y71 y72 y73 y74 y75 y76 y77 y78 y79 y80 y81 y82 y83 y84 y85 y86 y87 y88 y89 y90 y91 y92 y93 y94 y95 y96 y97 y98 y99 y100 y101 y102 y103 y104 y105 y106 y107 y108 y109 y110 y111 y112 y113 y114 y115 y116 y117 y118 y119 y120 y121 y122 y123 y124 y125 y126 y127 y128 y129 y130 y131 y132 y133 y134 y135 y136 y137 y138 y139 y140 y141 y142 y143 y144 y145 y146 y147 y148 y149 y150 y151 y152 y153 y154 y155 y156 y157 y158 y159 y160 y161 y162 y163 y164 y165 y166 y167 y168 y169 y170 y171 y172 y173 y174 y175 y176 y177 y178 y179 y180 y181 y182 y183 y184 y185 y186 y187 y188 y189 y190 y191 y192 y193 y194 y195 y196 y197 y198 y199 y200 y201 y202 y203 y204 y205 y206 y207 y208 y209 y210 y211 y212 y213 y214 y215 y216 y217 y218 y219 y220 y221 y222 y223 y224 y225 y226 y227 y228 y229 y230 y231 y232 y233 y234 y235 y236 y237 y238 y239 y240 y241 y242 y243 y244 y245 y246 y247 y248 y249 y250 y251 y252 y253 y254 y255 y256 y257 y258 y259 y260 y261 y262 y263 y264 y265 y266 y267 y268 y269 y270 y271 y272 y273 y274 y275 y276 y277 y278 y279 y280 y281 y282 y283 y284 y285 y286 y287 y288 y289 y290 y291 y292 y293 y294 hb hV
        refine hK13' _ _ ⟨?_⟩
        clear hK13'
        replace hH := hH.keep hb
        replace hX := hX.keep hb
        replace hmk := cell_keep hmk hb
        replace hb7 := Nat.lt_of_lt_of_le hb7 hb.size
        replace BW := BW.trans (hb.mono BW.size)
        clear hb
        clear hk
        clear V
        try dsimp only
        go_wp2_with fail
        refine Calmly.wp_region_mix 24 (.fl 0 <| .fl 1 <| .fl 2 <| .gl 3 <| .gl 4 <| .fl 5 <| .fl 6 <| .gl 7 <| .gl 8 <| .fl 9 <| .fl 10 <| .gl 11 <| .gl 12 <| .gf 13 <| .gl 14 <| .fl 15 <| .fl 16 <| .gl 17 <| .gl 18 <| .gl 19 <| .gl 20 <| .gl 21 <| .gl 22 <| .gl 23 <| .tail [24]) (by kernel_rfl) (by kernel_rfl) ?_
        have BD : Below W.heap.size W W.drew := (Below.refl _ _).drew
        replace hH := hH.keep BD
        replace hX := hX.keep BD
        replace hV := hV.keep BD
        replace hmk := cell_keep hmk BD
        replace hb7 := Nat.lt_of_lt_of_le hb7 BD.size
        replace BW := BW.trans (BD.mono BW.size)
        clear BD
        generalize W.drew = V at *
        have hk := Below.refl V.heap.size V
        obtain ⟨avhX, cvhX, ybhX, yshX, yihX⟩ := hX.ex
        have f0hX := cell_block ybhX 0
        have f1hX := cell_block ybhX 1
        try dsimp only
        go_wp2_with (first | ((with_reducible refine Calmly.is_fl ?_); refine Calmly.mix_fl rfl ?_ (fun _ _ => ?_); (first | exact .move _ | exact .load _ _ | exact .fieldAddr _ _ _ (by kernel_rfl) | exact .assign _ | exact .binOp _ _ _ _ _ rfl | exact .indexAddr _ _ _ | exact .len _ _ (by kernel_rfl) | exact .field _ _ _ | exact .extract _ _ | exact .pick _ _ _ | exact .build _ _ | exact .slice _ _ _ _ _ | exact .unOp _ _ _ rfl | exact .index _ _ _ | exact .max _ _ _ rfl rfl | exact .min _ _ _ rfl rfl | exact .nilCheck _ _ rfl)) | ((with_reducible refine Calmly.is_gl ?_); refine Calmly.mix_gl rfl rfl rfl ?_; first | ((first | with_reducible refine Calmly.gl_tt ?_ (fun _ _ => ?_) | with_reducible refine Calmly.gl_ff ?_ (fun _ _ => ?_)); (first | exact .move _ | exact .load _ _ | exact .fieldAddr _ _ _ (by kernel_rfl) | exact .assign _ | exact .binOp _ _ _ _ _ rfl | exact .indexAddr _ _ _ | exact .len _ _ (by kernel_rfl) | exact .field _ _ _ | exact .extract _ _ | exact .pick _ _ _ | exact .build _ _ | exact .slice _ _ _ _ _ | exact .unOp _ _ _ rfl | exact .index _ _ _ | exact .max _ _ _ rfl rfl | exact .min _ _ _ rfl rfl | exact .nilCheck _ _ rfl)) | with_reducible refine Calmly.gl_tf (fun _ _ => ?_) | with_reducible refine Calmly.gl_ft (fun _ _ => ?_)) | ((with_reducible refine Calmly.is_eff ?_); refine Calmly.mix_eff rfl (fun _ _ => ?_)) | ((with_reducible refine Calmly.is_gf ?_); refine Calmly.mix_gf rfl rfl rfl ?_; first | with_reducible refine Calmly.gf_tt (fun _ _ => ?_) | with_reducible refine Calmly.gf_ff (fun _ _ => ?_) | with_reducible refine Calmly.gf_tf (kept_of hk) (fun _ _ => ?_) | with_reducible refine Calmly.gf_ft (kept_of hk) (fun _ _ => ?_)) | ((with_reducible refine Calmly.is_tail ?_); first | refine Calmly.mix_tail_nil ?_ | refine Calmly.mix_tail rfl (fun _ _ => ?_)) | ((with_reducible refine Calmly.is_kept ?_); refine ⟨kept_of hk, ?_⟩) | (with_reducible refine Calmly.mix_alt ?_ ?_))
        refine (rHoldErr_ok a avhX n c n cvhX l z sl2 _ ((h1.keep BW).keep hk) (yshX.keep hk) HK2.out).mono ?_
        rintro e w1 ⟨rfl, hb1⟩
        replace hk := step_of hk hb1
        have cz : (z != z) = false := by simp
        try dsimp only
        go_wp2_with (first | ((with_reducible refine Calmly.is_fl ?_); refine Calmly.mix_fl rfl ?_ (fun _ _ => ?_); (first | exact .move _ | exact .load _ _ | exact .fieldAddr _ _ _ (by kernel_rfl) | exact .assign _ | exact .binOp _ _ _ _ _ rfl | exact .indexAddr _ _ _ | exact .len _ _ (by kernel_rfl) | exact .field _ _ _ | exact .extract _ _ | exact .pick _ _ _ | exact .build _ _ | exact .slice _ _ _ _ _ | exact .unOp _ _ _ rfl | exact .index _ _ _ | exact .max _ _ _ rfl rfl | exact .min _ _ _ rfl rfl | exact .nilCheck _ _ rfl)) | ((with_reducible refine Calmly.is_gl ?_); refine Calmly.mix_gl rfl rfl rfl ?_; first | ((first | with_reducible refine Calmly.gl_tt ?_ (fun _ _ => ?_) | with_reducible refine Calmly.gl_ff ?_ (fun _ _ => ?_)); (first | exact .move _ | exact .load _ _ | exact .fieldAddr _ _ _ (by kernel_rfl) | exact .assign _ | exact .binOp _ _ _ _ _ rfl | exact .indexAddr _ _ _ | exact .len _ _ (by kernel_rfl) | exact .field _ _ _ | exact .extract _ _ | exact .pick _ _ _ | exact .build _ _ | exact .slice _ _ _ _ _ | exact .unOp _ _ _ rfl | exact .index _ _ _ | exact .max _ _ _ rfl rfl | exact .min _ _ _ rfl rfl | exact .nilCheck _ _ rfl)) | with_reducible refine Calmly.gl_tf (fun _ _ => ?_) | with_reducible refine Calmly.gl_ft (fun _ _ => ?_)) | ((with_reducible refine Calmly.is_eff ?_); refine Calmly.mix_eff rfl (fun _ _ => ?_)) | ((with_reducible refine Calmly.is_gf ?_); refine Calmly.mix_gf rfl rfl rfl ?_; first | with_reducible refine Calmly.gf_tt (fun _ _ => ?_) | with_reducible refine Calmly.gf_ff (fun _ _ => ?_) | with_reducible refine Calmly.gf_tf (kept_of hk) (fun _ _ => ?_) | with_reducible refine Calmly.gf_ft (kept_of hk) (fun _ _ => ?_)) | ((with_reducible refine Calmly.is_tail ?_); first | refine Calmly.mix_tail_nil ?_ | refine Calmly.mix_tail rfl (fun _ _ => ?_)) | ((with_reducible refine Calmly.is_kept ?_); refine ⟨kept_of hk, ?_⟩) | (with_reducible refine Calmly.mix_alt ?_ ?_))
        clear hb1 cz
        clear f0hX f1hX ybhX yshX yihX
        replace hH := hH.keep hk
        replace hX := hX.keep hk
        replace hV := hV.keep hk
        replace hmk := cell_keep hmk hk
        replace hb7 := Nat.lt_of_lt_of_le hb7 hk.size
        replace BW := BW.trans (hk.mono BW.size)
        clear hk
        generalize w1 = W at *
        refine Calmly.wp_region_mix 9 (.fl 0 <| .fl 2 <| .eff 1 <| .eff 3 <| .eff 4 <| .fl 5 <| .fl 6 <| .fl 7 <| .fl 8 <| .tail [9]) (by kernel_rfl) (by kernel_rfl) ?_
        have BD : Below W.heap.size W W.drew := (Below.refl _ _).drew
        replace hH := hH.keep BD
        replace hX := hX.keep BD
        replace hV := hV.keep BD
        replace hmk := cell_keep hmk BD
        replace hb7 := Nat.lt_of_lt_of_le hb7 BD.size
        replace BW := BW.trans (BD.mono BW.size)
        clear BD
        generalize W.drew = V at *
        have hk := Below.refl V.heap.size V
        obtain ⟨avhX, cvhX, ybhX, yshX, yihX⟩ := hX.ex
        have f0hX := cell_block ybhX 0
        have f1hX := cell_block ybhX 1
        try dsimp only
        go_wp2_with (first | ((with_reducible refine Calmly.is_fl ?_); refine Calmly.mix_fl rfl ?_ (fun _ _ => ?_); (first | exact .move _ | exact .load _ _ | exact .fieldAddr _ _ _ (by kernel_rfl) | exact .assign _ | exact .binOp _ _ _ _ _ rfl | exact .indexAddr _ _ _ | exact .len _ _ (by kernel_rfl) | exact .field _ _ _ | exact .extract _ _ | exact .pick _ _ _ | exact .build _ _ | exact .slice _ _ _ _ _ | exact .unOp _ _ _ rfl | exact .index _ _ _ | exact .max _ _ _ rfl rfl | exact .min _ _ _ rfl rfl | exact .nilCheck _ _ rfl)) | ((with_reducible refine Calmly.is_gl ?_); refine Calmly.mix_gl rfl rfl rfl ?_; first | ((first | with_reducible refine Calmly.gl_tt ?_ (fun _ _ => ?_) | with_reducible refine Calmly.gl_ff ?_ (fun _ _ => ?_)); (first | exact .move _ | exact .load _ _ | exact .fieldAddr _ _ _ (by kernel_rfl) | exact .assign _ | exact .binOp _ _ _ _ _ rfl | exact .indexAddr _ _ _ | exact .len _ _ (by kernel_rfl) | exact .field _ _ _ | exact .extract _ _ | exact .pick _ _ _ | exact .build _ _ | exact .slice _ _ _ _ _ | exact .unOp _ _ _ rfl | exact .index _ _ _ | exact .max _ _ _ rfl rfl | exact .min _ _ _ rfl rfl | exact .nilCheck _ _ rfl)) | with_reducible refine Calmly.gl_tf (fun _ _ => ?_) | with_reducible refine Calmly.gl_ft (fun _ _ => ?_)) | ((with_reducible refine Calmly.is_eff ?_); refine Calmly.mix_eff rfl (fun _ _ => ?_)) | ((with_reducible refine Calmly.is_gf ?_); refine Calmly.mix_gf rfl rfl rfl ?_; first | with_reducible refine Calmly.gf_tt (fun _ _ => ?_) | with_reducible refine Calmly.gf_ff (fun _ _ => ?_) | with_reducible refine Calmly.gf_tf (kept_of hk) (fun _ _ => ?_) | with_reducible refine Calmly.gf_ft (kept_of hk) (fun _ _ => ?_)) | ((with_reducible refine Calmly.is_tail ?_); first | refine Calmly.mix_tail_nil ?_ | refine Calmly.mix_tail rfl (fun _ _ => ?_)) | ((with_reducible refine Calmly.is_kept ?_); refine ⟨kept_of hk, ?_⟩) | (with_reducible refine Calmly.mix_alt ?_ ?_))
        refine (CopySpring_any a n c l _ ((h1.keep BW).keep hk) (by omega)).mono ?_
        rintro e w1 ⟨a1, c1, rfl, ho1, hb1⟩
        replace hk := step_of hk hb1
        try dsimp only
        go_wp2_with (first | ((with_reducible refine Calmly.is_fl ?_); refine Calmly.mix_fl rfl ?_ (fun _ _ => ?_); (first | exact .move _ | exact .load _ _ | exact .fieldAddr _ _ _ (by kernel_rfl) | exact .assign _ | exact .binOp _ _ _ _ _ rfl | exact .indexAddr _ _ _ | exact .len _ _ (by kernel_rfl) | exact .field _ _ _ | exact .extract _ _ | exact .pick _ _ _ | exact .build _ _ | exact .slice _ _ _ _ _ | exact .unOp _ _ _ rfl | exact .index _ _ _ | exact .max _ _ _ rfl rfl | exact .min _ _ _ rfl rfl | exact .nilCheck _ _ rfl)) | ((with_reducible refine Calmly.is_gl ?_); refine Calmly.mix_gl rfl rfl rfl ?_; first | ((first | with_reducible refine Calmly.gl_tt ?_ (fun _ _ => ?_) | with_reducible refine Calmly.gl_ff ?_ (fun _ _ => ?_)); (first | exact .move _ | exact .load _ _ | exact .fieldAddr _ _ _ (by kernel_rfl) | exact .assign _ | exact .binOp _ _ _ _ _ rfl | exact .indexAddr _ _ _ | exact .len _ _ (by kernel_rfl) | exact .field _ _ _ | exact .extract _ _ | exact .pick _ _ _ | exact .build _ _ | exact .slice _ _ _ _ _ | exact .unOp _ _ _ rfl | exact .index _ _ _ | exact .max _ _ _ rfl rfl | exact .min _ _ _ rfl rfl | exact .nilCheck _ _ rfl)) | with_reducible refine Calmly.gl_tf (fun _ _ => ?_) | with_reducible refine Calmly.gl_ft (fun _ _ => ?_)) | ((with_reducible refine Calmly.is_eff ?_); refine Calmly.mix_eff rfl (fun _ _ => ?_)) | ((with_reducible refine Calmly.is_gf ?_); refine Calmly.mix_gf rfl rfl rfl ?_; first | with_reducible refine Calmly.gf_tt (fun _ _ => ?_) | with_reducible refine Calmly.gf_ff (fun _ _ => ?_) | with_reducible refine Calmly.gf_tf (kept_of hk) (fun _ _ => ?_) | with_reducible refine Calmly.gf_ft (kept_of hk) (fun _ _ => ?_)) | ((with_reducible refine Calmly.is_tail ?_); first | refine Calmly.mix_tail_nil ?_ | refine Calmly.mix_tail rfl (fun _ _ => ?_)) | ((with_reducible refine Calmly.is_kept ?_); refine ⟨kept_of hk, ?_⟩) | (with_reducible refine Calmly.mix_alt ?_ ?_))
        refine (CopyHold_any z avhX n cvhX sl2 _ (yshX.keep hk) (by omega)).mono ?_
        rintro e w2 ⟨a3, c3, rfl, ho2, hb2⟩
        replace hk := step_of hk hb2
        have e1 := ho1.se.keep hb2
        have e2 := ho2.ss
        try dsimp only
        go_wp2_with (first | ((with_reducible refine Calmly.is_fl ?_); refine Calmly.mix_fl rfl ?_ (fun _ _ => ?_); (first | exact .move _ | exact .load _ _ | exact .fieldAddr _ _ _ (by kernel_rfl) | exact .assign _ | exact .binOp _ _ _ _ _ rfl | exact .indexAddr _ _ _ | exact .len _ _ (by kernel_rfl) | exact .field _ _ _ | exact .extract _ _ | exact .pick _ _ _ | exact .build _ _ | exact .slice _ _ _ _ _ | exact .unOp _ _ _ rfl | exact .index _ _ _ | exact .max _ _ _ rfl rfl | exact .min _ _ _ rfl rfl | exact .nilCheck _ _ rfl)) | ((with_reducible refine Calmly.is_gl ?_); refine Calmly.mix_gl rfl rfl rfl ?_; first | ((first | with_reducible refine Calmly.gl_tt ?_ (fun _ _ => ?_) | with_reducible refine Calmly.gl_ff ?_ (fun _ _ => ?_)); (first | exact .move _ | exact .load _ _ | exact .fieldAddr _ _ _ (by kernel_rfl) | exact .assign _ | exact .binOp _ _ _ _ _ rfl | exact .indexAddr _ _ _ | exact .len _ _ (by kernel_rfl) | exact .field _ _ _ | exact .extract _ _ | exact .pick _ _ _ | exact .build _ _ | exact .slice _ _ _ _ _ | exact .unOp _ _ _ rfl | exact .index _ _ _ | exact .max _ _ _ rfl rfl | exact .min _ _ _ rfl rfl | exact .nilCheck _ _ rfl)) | with_reducible refine Calmly.gl_tf (fun _ _ => ?_) | with_reducible refine Calmly.gl_ft (fun _ _ => ?_)) | ((with_reducible refine Calmly.is_eff ?_); refine Calmly.mix_eff rfl (fun _ _ => ?_)) | ((with_reducible refine Calmly.is_gf ?_); refine Calmly.mix_gf rfl rfl rfl ?_; first | with_reducible refine Calmly.gf_tt (fun _ _ => ?_) | with_reducible refine Calmly.gf_ff (fun _ _ => ?_) | with_reducible refine Calmly.gf_tf (kept_of hk) (fun _ _ => ?_) | with_reducible refine Calmly.gf_ft (kept_of hk) (fun _ _ => ?_)) | ((with_reducible refine Calmly.is_tail ?_); first | refine Calmly.mix_tail_nil ?_ | refine Calmly.mix_tail rfl (fun _ _ => ?_)) | ((with_reducible refine Calmly.is_kept ?_); refine ⟨kept_of hk, ?_⟩) | (with_reducible refine Calmly.mix_alt ?_ ?_))
        refine (Energy_ok a1 a3 n c1 n c3 l z sl2 _ e1 e2 HK2.out).mono ?_
        rintro e w3 ⟨rfl, hb3⟩
        replace hk := step_of hk hb3
        rw [E5.out]
        obtain ⟨⟨⟨b1, b2⟩, ⟨b3, b4⟩⟩, ⟨⟨b5, b6⟩, ⟨b8, b9⟩⟩, -, -⟩ := HF.out.bd
        have cx1 : (WK != EN2 - EN1 + LS) = false := by simpa using HF.out.en
        have cx2 : ¬ LS < 0 := by omega
        have hV3 := hV.keep hk
        have f0V := cell_block hV3.blk 0
        have f1V := cell_block hV3.blk 1
        try dsimp only
        go_wp2_with (first | ((with_reducible refine Calmly.is_fl ?_); refine Calmly.mix_fl rfl ?_ (fun _ _ => ?_); (first | exact .move _ | exact .load _ _ | exact .fieldAddr _ _ _ (by kernel_rfl) | exact .assign _ | exact .binOp _ _ _ _ _ rfl | exact .indexAddr _ _ _ | exact .len _ _ (by kernel_rfl) | exact .field _ _ _ | exact .extract _ _ | exact .pick _ _ _ | exact .build _ _ | exact .slice _ _ _ _ _ | exact .unOp _ _ _ rfl | exact .index _ _ _ | exact .max _ _ _ rfl rfl | exact .min _ _ _ rfl rfl | exact .nilCheck _ _ rfl)) | ((with_reducible refine Calmly.is_gl ?_); refine Calmly.mix_gl rfl rfl rfl ?_; first | ((first | with_reducible refine Calmly.gl_tt ?_ (fun _ _ => ?_) | with_reducible refine Calmly.gl_ff ?_ (fun _ _ => ?_)); (first | exact .move _ | exact .load _ _ | exact .fieldAddr _ _ _ (by kernel_rfl) | exact .assign _ | exact .binOp _ _ _ _ _ rfl | exact .indexAddr _ _ _ | exact .len _ _ (by kernel_rfl) | exact .field _ _ _ | exact .extract _ _ | exact .pick _ _ _ | exact .build _ _ | exact .slice _ _ _ _ _ | exact .unOp _ _ _ rfl | exact .index _ _ _ | exact .max _ _ _ rfl rfl | exact .min _ _ _ rfl rfl | exact .nilCheck _ _ rfl)) | with_reducible refine Calmly.gl_tf (fun _ _ => ?_) | with_reducible refine Calmly.gl_ft (fun _ _ => ?_)) | ((with_reducible refine Calmly.is_eff ?_); refine Calmly.mix_eff rfl (fun _ _ => ?_)) | ((with_reducible refine Calmly.is_gf ?_); refine Calmly.mix_gf rfl rfl rfl ?_; first | with_reducible refine Calmly.gf_tt (fun _ _ => ?_) | with_reducible refine Calmly.gf_ff (fun _ _ => ?_) | with_reducible refine Calmly.gf_tf (kept_of hk) (fun _ _ => ?_) | with_reducible refine Calmly.gf_ft (kept_of hk) (fun _ _ => ?_)) | ((with_reducible refine Calmly.is_tail ?_); first | refine Calmly.mix_tail_nil ?_ | refine Calmly.mix_tail rfl (fun _ _ => ?_)) | ((with_reducible refine Calmly.is_kept ?_); refine ⟨kept_of hk, ?_⟩) | (with_reducible refine Calmly.mix_alt ?_ ?_))
        clear e1 e2 ho1 ho2 hb1 hb2 hb3
        clear b1 b2 b3 b4 b5 b6 b8 b9 cx1 cx2 f0V f1V hV3
        clear f0hX f1hX ybhX yshX yihX
        replace hH := hH.keep hk
        replace hX := hX.keep hk
        replace hV := hV.keep hk
        replace hmk := cell_keep hmk hk
        replace hb7 := Nat.lt_of_lt_of_le hb7 hk.size
        replace BW := BW.trans (hk.mono BW.size)
        clear hk
        generalize w3 = W at *
        go_loopw [17] (fun i wr => ∃ j : Nat, j ≤ n ∧ i = .int .i64 (j : Int) ∧ wr = W) (fun i _ => n - (intOf i).toNat)
        case atStart => exact ⟨0, by omega, rfl, rfl⟩
        case round =>
          obtain ⟨j, hj, rfl, rfl⟩ := hrel
          by_cases hjt : j < n
          case pos =>
            have hj1 : (j : Int) < (n : Int) := by omega
            have hj0 : (0 : Int) ≤ (j : Int) := by omega
            obtain ⟨avhH, cvhH, ybhH, yshH, yihH⟩ := hH.ex
            have f0hH := cell_block ybhH 0
            have f1hH := cell_block ybhH 1
            obtain ⟨avhX, cvhX, ybhX, yshX, yihX⟩ := hX.ex
            have f0hX := cell_block ybhX 0
            have f1hX := cell_block ybhX 1
            obtain ⟨g1, o1, rfl, hc1⟩ := yshH.at_ (by omega)
            obtain ⟨g2, o2, rfl, hc2⟩ := yshX.at_ (by omega)
            have p0 := (hc1 j hjt).2
            have p1 := (hc2 j hjt).2
            have hbb := HBR.out j (by have := HLN.out; omega)
            obtain ⟨B1, hB1⟩ : ∃ b, (sl[j]?.getD sp0).2 = b := ⟨_, rfl⟩
            obtain ⟨B2, hB2⟩ : ∃ b, (sl2[j]?.getD sp0).2 = b := ⟨_, rfl⟩
            rw [hB1] at p0 hbb
            rw [hB2] at p1 hbb
            clear hc1 hc2 hB1 hB2
            cases B1
            · go_wp2_with fail
              go_roundw
              case rel => exact ⟨j + 1, by omega, by go_num, by simp⟩
              case measure => simp [intOf]; omega
            · obtain rfl : B2 = true := hbb rfl
              go_wp2_with fail
              go_roundw
              case rel => exact ⟨j + 1, by omega, by go_num, by simp⟩
              case measure => simp [intOf]; omega
          case neg =>
            have hle : (n : Int) ≤ (j : Int) := by omega
            clear hj hjt
            try dsimp only
            go_wp2_with fail
            clear hle
            generalize wr = W at *
            have hbx := plc_ok HPX.out
            have hbz := plc_ok HPZ.out
            have hpr : -(20000 * 100) ≤ (z - x) * T ∧ (z - x) * T ≤ 20000 * 100 := mul_abs (a := z - x) (x := T) (A := 20000) (C := 100) (by omega) (by omega) (by omega) (by omega)
            have hdv : -2000000 ≤ ((z - x) * T).tdiv 100 ∧ ((z - x) * T).tdiv 100 ≤ 2000000 := by
              have h5 := tdiv_bd hpr.1 hpr.2
              omega
            obtain ⟨bx1, bx2⟩ := hbx
            obtain ⟨bz1, bz2⟩ := hbz
            obtain ⟨bp1, bp2⟩ := hpr
            obtain ⟨bd1, bd2⟩ := hdv
            refine Calmly.wp_region_mix 12 (.fl 0 <| .fl 1 <| .fl 2 <| .fl 3 <| .fl 4 <| .fl 5 <| .fl 6 <| .fl 7 <| .fl 8 <| .fl 9 <| .fl 10 <| .fl 11 <| .tail [12, 13]) (by kernel_rfl) (by kernel_rfl) ?_
            have BD : Below W.heap.size W W.drew := (Below.refl _ _).drew
            replace hH := hH.keep BD
            replace hX := hX.keep BD
            replace hV := hV.keep BD
            replace hmk := cell_keep hmk BD
            replace hb7 := Nat.lt_of_lt_of_le hb7 BD.size
            replace BW := BW.trans (BD.mono BW.size)
            clear BD
            generalize W.drew = V at *
            have hk := Below.refl V.heap.size V
            obtain ⟨avhH, cvhH, ybhH, yshH, yihH⟩ := hH.ex
            have f0hH := cell_block ybhH 0
            have f1hH := cell_block ybhH 1
            try dsimp only
            go_wp2_with (first | ((with_reducible refine Calmly.is_fl ?_); refine Calmly.mix_fl rfl ?_ (fun _ _ => ?_); (first | exact .move _ | exact .load _ _ | exact .fieldAddr _ _ _ (by kernel_rfl) | exact .assign _ | exact .binOp _ _ _ _ _ rfl | exact .indexAddr _ _ _ | exact .len _ _ (by kernel_rfl) | exact .field _ _ _ | exact .extract _ _ | exact .pick _ _ _ | exact .build _ _ | exact .slice _ _ _ _ _ | exact .unOp _ _ _ rfl | exact .index _ _ _ | exact .max _ _ _ rfl rfl | exact .min _ _ _ rfl rfl | exact .nilCheck _ _ rfl)) | ((with_reducible refine Calmly.is_gl ?_); refine Calmly.mix_gl rfl rfl rfl ?_; first | ((first | with_reducible refine Calmly.gl_tt ?_ (fun _ _ => ?_) | with_reducible refine Calmly.gl_ff ?_ (fun _ _ => ?_)); (first | exact .move _ | exact .load _ _ | exact .fieldAddr _ _ _ (by kernel_rfl) | exact .assign _ | exact .binOp _ _ _ _ _ rfl | exact .indexAddr _ _ _ | exact .len _ _ (by kernel_rfl) | exact .field _ _ _ | exact .extract _ _ | exact .pick _ _ _ | exact .build _ _ | exact .slice _ _ _ _ _ | exact .unOp _ _ _ rfl | exact .index _ _ _ | exact .max _ _ _ rfl rfl | exact .min _ _ _ rfl rfl | exact .nilCheck _ _ rfl)) | with_reducible refine Calmly.gl_tf (fun _ _ => ?_) | with_reducible refine Calmly.gl_ft (fun _ _ => ?_)) | ((with_reducible refine Calmly.is_eff ?_); refine Calmly.mix_eff rfl (fun _ _ => ?_)) | ((with_reducible refine Calmly.is_gf ?_); refine Calmly.mix_gf rfl rfl rfl ?_; first | with_reducible refine Calmly.gf_tt (fun _ _ => ?_) | with_reducible refine Calmly.gf_ff (fun _ _ => ?_) | with_reducible refine Calmly.gf_tf (kept_of hk) (fun _ _ => ?_) | with_reducible refine Calmly.gf_ft (kept_of hk) (fun _ _ => ?_)) | ((with_reducible refine Calmly.is_tail ?_); first | refine Calmly.mix_tail_nil ?_ | refine Calmly.mix_tail rfl (fun _ _ => ?_)) | ((with_reducible refine Calmly.is_kept ?_); refine ⟨kept_of hk, ?_⟩) | (with_reducible refine Calmly.mix_alt ?_ ?_))
            rw [← HF.out.half]
            clear bx1 bx2 bz1 bz2 bp1 bp2 bd1 bd2 hk
            clear f0hH f1hH ybhH yshH yihH
            generalize V = W at *
            refine Calmly.wp_region_mix 11 (.fl 0 <| .fl 2 <| .fl 4 <| .alt 1 (.alt 3 (.alt 5 (.fl 6 <| .fl 7 <| .fl 8 <| .eff 9 <| .eff 10 <| .tail [11]) (.eff 9 (.eff 5 <| .fl 6 <| .fl 7 <| .fl 8 <| .eff 10 <| .tail [11]))) (.eff 9 (.eff 3 <| .eff 5 <| .fl 6 <| .fl 7 <| .fl 8 <| .eff 10 <| .tail [11]))) (.eff 9 (.eff 1 <| .eff 3 <| .eff 5 <| .fl 6 <| .fl 7 <| .fl 8 <| .eff 10 <| .tail [11]))) (by kernel_rfl) (by kernel_rfl) ?_
            have BD : Below W.heap.size W W.drew := (Below.refl _ _).drew
            replace hH := hH.keep BD
            replace hX := hX.keep BD
            replace hV := hV.keep BD
            replace hmk := cell_keep hmk BD
            replace hb7 := Nat.lt_of_lt_of_le hb7 BD.size
            replace BW := BW.trans (BD.mono BW.size)
            clear BD
            generalize W.drew = V at *
            have hk := Below.refl V.heap.size V
            rename_i K25 hK25
            have hK25' := fun a w (h : Stop _) => hK25 a w h.out
            clear hK25
            have HK25 : ∀ (W : World) (q19 : Nat) (y6 y17 y21 y22 y23 y24 y25 y26 y27 y28 y51 y52 y53 y54 y55 y56 y57 y58 y59 y60 y61 y62 y63 y64 y65 y66 y67 y68 y69 y70 y71 y72 y73 y74 y75 y76 y77 y78 y79 y80 y81 y82 y83 y84 y85 y86 y87 y88 y89 y90 y91 y92 y93 y94 y95 y96 y97 y98 y99 y100 y101 y102 y103 y104 y105 y106 y107 y108 y109 y110 y111 y112 y113 y114 y115 y116 y117 y118 y119 y120 y121 y122 y123 y124 y125 y126 y127 y128 y129 y130 y131 y132 y133 y134 y135 y136 y137 y138 y139 y140 y141 y142 y143 y144 y145 y146 y147 y148 y149 y150 y151 y152 y153 y154 y155 y156 y157 y158 y159 y160 y161 y162 y163 y164 y165 y166 y167 y168 y169 y170 y171 y172 y173 y174 y175 y176 y177 y178 y179 y180 y181 y182 y183 y184 y185 y186 y187 y188 y189 y190 y191 y192 y193 y194 y195 y196 y197 y198 y199 y200 y201 y202 y203 y204 y205 y206 y207 y208 y209 y210 y211 y212 y213 y214 y215 y216 y217 y218 y219 y220 y221 y222 y223 y224 y225 y226 y227 y228 y229 y230 y231 y232 y233 y234 y235 y236 y237 y238 y239 y240 y241 y242 y243 y244 y245 y246 y247 y248 y249 y250 y251 y252 y253 y254 y255 y256 y257 y258 y259 y260 y261 y262 y263 y264 y265 y266 y267 y268 y269 y270 y271 y272 y273 y274 y275 y276 y277 y278 y279 y280 y281 y282 y283 y284 y285 y286 y287 y288 y289 y290 y291 y292 y293 y294 : Value), Below V.heap.size V W → HbW W n q19 H sl3 → K25 { tmps := #[.slice a n c, .slice (some ⟨mb, mo, none⟩) mn mc, .int .i64 T, undef, undef, undef, y6, .pointer (some ⟨b7, 0, none⟩), .int .i64 (k : Int), .int .i64 EN1, .int .i64 0, .pointer (some ⟨q11, 0, none⟩), .int .i64 0, .pointer (some ⟨q13, 0, none⟩), .int .i64 0, .int .i64 EN2, .int .i64 0, y17, .int .i64 H, .pointer (some ⟨q19, 0, none⟩), .int .i64 0, y21, y22, y23, y24, y25, y26, y27, y28, y29, y30, y31, y32, y33, y34, y35, y36, y37, y38, y39, y40, y41, y42, y43, y44, y45, y46, y47, y48, y49, y50, y51, y52, y53, y54, y55, y56, y57, y58, y59, y60, y61, y62, y63, y64, y65, y66, y67, y68, y69, y70, y71, y72, y73, y74, y75, y76, y77, y78, y79, y80, y81, y82, y83, y84, y85, y86, y87, y88, y89, y90, y91, y92, y93, y94, y95, y96, y97, y98, y99, y100, y101, y102, y103, y104, y105, y106, y107, y108, y109, y110, y111, y112, y113, y114, y115, y116, y117, y118, y119, y120, y121, y122, y123, y124, y125, y126, y127, y128, y129, y130, y131, y132, y133, y134, y135, y136, y137, y138, y139, y140, y141, y142, y143, y144, y145, y146, y147, y148, y149, y150, y151, y152, y153, y154, y155, y156, y157, y158, y159, y160, y161, y162, y163, y164, y165, y166, y167, y168, y169, y170, y171, y172, y173, y174, y175, y176, y177, y178, y179, y180, y181, y182, y183, y184, y185, y186, y187, y188, y189, y190, y191, y192, y193, y194, y195, y196, y197, y198, y199, y200, y201, y202, y203, y204, y205, y206, y207, y208, y209, y210, y211, y212, y213, y214, y215, y216, y217, y218, y219, y220, y221, y222, y223, y224, y225, y226, y227, y228, y229, y230, y231, y232, y233, y234, y235, y236, y237, y238, y239, y240, y241, y242, y243, y244, y245, y246, y247, y248, y249, y250, y251, y252, y253, y254, y255, y256, y257, y258, y259, y260, y261, y262, y263, y264, y265, y266, y267, y268, y269, y270, y271, y272, y273, y274, y275, y276, y277, y278, y279, y280, y281, y282, y283, y284, y285, y286, y287, y288, y289, y290, y291, y292, y293, y294], defers := [] } W := by
              skip
              intro W q19 y6 y17 y21 y22 y23 y24 y25 y26 y27 y28 y51 y52 y53 y54 y55 y56 y57 y58 y59 y60 y61 y62 y63 y64 y65 y66 y67 y68 y69 y70 y71 y72 y73 y74 y75 y76 y77 y78 y79 y80 y81 y82 y83 y84 y85 y86 y87 y88 y89 y90 y91 y92 y93 y94 y95 y96 y97 y98 y99 y100 y101 y102 y103 y104 y105 y106 y107 y108 y109 y110 y111 y112 y113 y114 y115 y116 y117 y118 y119 y120 y121 y122 y123 y124 y125 y126 y127 y128 y129 y130 y131 y132 y133 y134 y135 y136 y137 y138 y139 y140 y141 y142 y143 y144 y145 y146 y147 y148 y149 y150 y151 y152 y153 y154 y155 y156 y157 y158 y159 y160 y161 y162 y163 y164 y165 y166 y167 y168 y169 y170 y171 y172 y173 y174 y175 y176 y177 y178 y179 y180 y181 y182 y183 y184 y185 y186 y187 y188 y189 y190 y191 y192 y193 y194 y195 y196 y197 y198 y199 y200 y201 y202 y203 y204 y205 y206 y207 y208 y209 y210 y211 y212 y213 y214 y215 y216 y217 y218 y219 y220 y221 y222 y223 y224 y225 y226 y227 y228 y229 y230 y231 y232 y233 y234 y235 y236 y237 y238 y239 y240 y241 y242 y243 y244 y245 y246 y247 y248 y249 y250 y251 y252 y253 y254 y255 y256 y257 y258 y259 y260 y261 y262 y263 y264 y265 y266 y267 y268 y269 y270 y271 y272 y273 y274 y275 y276 y277 y278 y279 y280 y281 y282 y283 y284 y285 y286 y287 y288 y289 y290 y291 y292 y293 y294 hb hY
              refine hK25' _ _ ⟨?_⟩
              clear hK25'
              replace hH := hH.keep hb
              replace hX := hX.keep hb
              replace hV := hV.keep hb
              replace hmk := cell_keep hmk hb
              replace hb7 := Nat.lt_of_lt_of_le hb7 hb.size
              replace BW := BW.trans (hb.mono BW.size)
              clear hb
              clear hk
              clear V
              try dsimp only
              go_wp2_with fail
              refine Calmly.wp_region_mix 11 (.fl 0 <| .fl 2 <| .fl 4 <| .alt 1 (.alt 3 (.alt 5 (.fl 6 <| .fl 7 <| .fl 8 <| .eff 9 <| .eff 10 <| .tail [11]) (.eff 9 (.eff 5 <| .fl 6 <| .fl 7 <| .fl 8 <| .eff 10 <| .tail [11]))) (.eff 9 (.eff 3 <| .eff 5 <| .fl 6 <| .fl 7 <| .fl 8 <| .eff 10 <| .tail [11]))) (.eff 9 (.eff 1 <| .eff 3 <| .eff 5 <| .fl 6 <| .fl 7 <| .fl 8 <| .eff 10 <| .tail [11]))) (by kernel_rfl) (by kernel_rfl) ?_
              have BD : Below W.heap.size W W.drew := (Below.refl _ _).drew
              replace hH := hH.keep BD
              replace hX := hX.keep BD
              replace hV := hV.keep BD
              replace hY := hY.keep BD
              replace hmk := cell_keep hmk BD
              replace hb7 := Nat.lt_of_lt_of_le hb7 BD.size
              replace BW := BW.trans (BD.mono BW.size)
              clear BD
              generalize W.drew = V at *
              have hk := Below.refl V.heap.size V
              rename_i K26 hK26
              have hK26' := fun a w (h : Stop _) => hK26 a w h.out
              clear hK26
              have HK26 : ∀ (W : World) (q21 : Nat) (y6 y17 y23 y24 y25 y26 y27 y28 y51 y52 y53 y54 y55 y56 y57 y58 y59 y60 y61 y62 y63 y64 y65 y66 y67 y68 y69 y70 y71 y72 y73 y74 y75 y76 y77 y78 y79 y80 y81 y82 y83 y84 y85 y86 y87 y88 y89 y90 y91 y92 y93 y94 y95 y96 y97 y98 y99 y100 y101 y102 y103 y104 y105 y106 y107 y108 y109 y110 y111 y112 y113 y114 y115 y116 y117 y118 y119 y120 y121 y122 y123 y124 y125 y126 y127 y128 y129 y130 y131 y132 y133 y134 y135 y136 y137 y138 y139 y140 y141 y142 y143 y144 y145 y146 y147 y148 y149 y150 y151 y152 y153 y154 y155 y156 y157 y158 y159 y160 y161 y162 y163 y164 y165 y166 y167 y168 y169 y170 y171 y172 y173 y174 y175 y176 y177 y178 y179 y180 y181 y182 y183 y184 y185 y186 y187 y188 y189 y190 y191 y192 y193 y194 y195 y196 y197 y198 y199 y200 y201 y202 y203 y204 y205 y206 y207 y208 y209 y210 y211 y212 y213 y214 y215 y216 y217 y218 y219 y220 y221 y222 y223 y224 y225 y226 y227 y228 y229 y230 y231 y232 y233 y234 y235 y236 y237 y238 y239 y240 y241 y242 y243 y244 y245 y246 y247 y248 y249 y250 y251 y252 y253 y254 y255 y256 y257 y258 y259 y260 y261 y262 y263 y264 y265 y266 y267 y268 y269 y270 y271 y272 y273 y274 y275 y276 y277 y278 y279 y280 y281 y282 y283 y284 y285 y286 y287 y288 y289 y290 y291 y292 y293 y294 : Value), Below V.heap.size V W → WbW W q21 W3 L3 → K26 { tmps := #[.slice a n c, .slice (some ⟨mb, mo, none⟩) mn mc, .int .i64 T, undef, undef, undef, y6, .pointer (some ⟨b7, 0, none⟩), .int .i64 (k : Int), .int .i64 EN1, .int .i64 0, .pointer (some ⟨q11, 0, none⟩), .int .i64 0, .pointer (some ⟨q13, 0, none⟩), .int .i64 0, .int .i64 EN2, .int .i64 0, y17, .int .i64 H, .pointer (some ⟨q19, 0, none⟩), .int .i64 0, .pointer (some ⟨q21, 0, none⟩), .int .i64 0, y23, y24, y25, y26, y27, y28, y29, y30, y31, y32, y33, y34, y35, y36, y37, y38, y39, y40, y41, y42, y43, y44, y45, y46, y47, y48, y49, y50, y51, y52, y53, y54, y55, y56, y57, y58, y59, y60, y61, y62, y63, y64, y65, y66, y67, y68, y69, y70, y71, y72, y73, y74, y75, y76, y77, y78, y79, y80, y81, y82, y83, y84, y85, y86, y87, y88, y89, y90, y91, y92, y93, y94, y95, y96, y97, y98, y99, y100, y101, y102, y103, y104, y105, y106, y107, y108, y109, y110, y111, y112, y113, y114, y115, y116, y117, y118, y119, y120, y121, y122, y123, y124, y125, y126, y127, y128, y129, y130, y131, y132, y133, y134, y135, y136, y137, y138, y139, y140, y141, y142, y143, y144, y145, y146, y147, y148, y149, y150, y151, y152, y153, y154, y155, y156, y157, y158, y159, y160, y161, y162, y163, y164, y165, y166, y167, y168, y169, y170, y171, y172, y173, y174, y175, y176, y177, y178, y179, y180, y181, y182, y183, y184, y185, y186, y187, y188, y189, y190, y191, y192, y193, y194, y195, y196, y197, y198, y199, y200, y201, y202, y203, y204, y205, y206, y207, y208, y209, y210, y211, y212, y213, y214, y215, y216, y217, y218, y219, y220, y221, y222, y223, y224, y225, y226, y227, y228, y229, y230, y231, y232, y233, y234, y235, y236, y237, y238, y239, y240, y241, y242, y243, y244, y245, y246, y247, y248, y249, y250, y251, y252, y253, y254, y255, y256, y257, y258, y259, y260, y261, y262, y263, y264, y265, y266, y267, y268, y269, y270, y271, y272, y273, y274, y275, y276, y277, y278, y279, y280, y281, y282, y283, y284, y285, y286, y287, y288, y289, y290, y291, y292, y293, y294], defers := [] } W := by
                skip
                intro W q21 y6 y17 y23 y24 y25 y26 y27 y28 y51 y52 y53 y54 y55 y56 y57 y58 y59 y60 y61 y62 y63 y64 y65 y66 y67 y68 y69 y70 y71 y72 y73 y74 y75 y76 y77 y78 y79 y80 y81 y82 y83 y84 y85 y86 y87 y88 y89 y90 y91 y92 y93 y94 y95 y96 y97 y98 y99 y100 y101 y102 y103 y104 y105 y106 y107 y108 y109 y110 y111 y112 y113 y114 y115 y116 y117 y118 y119 y120 y121 y122 y123 y124 y125 y126 y127 y128 y129 y130 y131 y132 y133 y134 y135 y136 y137 y138 y139 y140 y141 y142 y143 y144 y145 y146 y147 y148 y149 y150 y151 y152 y153 y154 y155 y156 y157 y158 y159 y160 y161 y162 y163 y164 y165 y166 y167 y168 y169 y170 y171 y172 y173 y174 y175 y176 y177 y178 y179 y180 y181 y182 y183 y184 y185 y186 y187 y188 y189 y190 y191 y192 y193 y194 y195 y196 y197 y198 y199 y200 y201 y202 y203 y204 y205 y206 y207 y208 y209 y210 y211 y212 y213 y214 y215 y216 y217 y218 y219 y220 y221 y222 y223 y224 y225 y226 y227 y228 y229 y230 y231 y232 y233 y234 y235 y236 y237 y238 y239 y240 y241 y242 y243 y244 y245 y246 y247 y248 y249 y250 y251 y252 y253 y254 y255 y256 y257 y258 y259 y260 y261 y262 y263 y264 y265 y266 y267 y268 y269 y270 y271 y272 y273 y274 y275 y276 y277 y278 y279 y280 y281 y282 y283 y284 y285 y286 y287 y288 y289 y290 y291 y292 y293 y294 hb hU
                refine hK26' _ _ ⟨?_⟩
                clear hK26'
                replace hH := hH.keep hb
                replace hX := hX.keep hb
                replace hV := hV.keep hb
                replace hY := hY.keep hb
                replace hmk := cell_keep hmk hb
                replace hb7 := Nat.lt_of_lt_of_le hb7 hb.size
                replace BW := BW.trans (hb.mono BW.size)
                clear hb
                clear hk
                clear V
                obtain ⟨avhY, cvhY, ybhY, yshY, yihY⟩ := hY.ex
                have f0hY := cell_block ybhY 0
                have f1hY := cell_block ybhY 1
                try dsimp only
                go_wp2_with fail
                refine (rHoldErr_ok a avhY n c n cvhY l H sl3 _ (h1.keep BW) yshY HK3.out).mono ?_
                rintro e w1 ⟨rfl, hs⟩
                clear f0hY f1hY ybhY yshY yihY
                replace hH := hH.keep hs
                replace hX := hX.keep hs
                replace hV := hV.keep hs
                replace hY := hY.keep hs
                replace hU := hU.keep hs
                replace hmk := cell_keep hmk hs
                replace hb7 := Nat.lt_of_lt_of_le hb7 hs.size
                replace BW := BW.trans (hs.mono BW.size)
                clear hs
                try dsimp only
                go_wp2_with fail
                generalize w1 = W at *
                refine Calmly.wp_region_mix 14 (.fl 0 <| .fl 2 <| .fl 4 <| .fl 5 <| .fl 6 <| .fl 7 <| .alt 1 (.alt 3 (.alt 8 (.fl 9 <| .fl 10 <| .fl 11 <| .eff 12 <| .eff 13 <| .tail [14]) (.eff 12 (.eff 8 <| .fl 9 <| .fl 10 <| .fl 11 <| .eff 13 <| .tail [14]))) (.eff 12 (.eff 3 <| .eff 8 <| .fl 9 <| .fl 10 <| .fl 11 <| .eff 13 <| .tail [14]))) (.eff 12 (.eff 1 <| .eff 3 <| .eff 8 <| .fl 9 <| .fl 10 <| .fl 11 <| .eff 13 <| .tail [14]))) (by kernel_rfl) (by kernel_rfl) ?_
                have BD : Below W.heap.size W W.drew := (Below.refl _ _).drew
                replace hH := hH.keep BD
                replace hX := hX.keep BD
                replace hV := hV.keep BD
                replace hY := hY.keep BD
                replace hU := hU.keep BD
                replace hmk := cell_keep hmk BD
                replace hb7 := Nat.lt_of_lt_of_le hb7 BD.size
                replace BW := BW.trans (BD.mono BW.size)
                clear BD
                generalize W.drew = V at *
                have hk := Below.refl V.heap.size V
                rename_i K29 hK29
                have hK29' := fun a w (h : Stop _) => hK29 a w h.out
                clear hK29
                have HK29 : ∀ (W : World) (q23 : Nat) (y6 y17 y25 y26 y27 y28 y51 y52 y53 y54 y55 y56 y57 y58 y59 y60 y61 y62 y63 y64 y65 y66 y67 y68 y69 y70 y71 y72 y73 y74 y75 y76 y77 y78 y79 y80 y81 y82 y83 y84 y85 y86 y87 y88 y89 y90 y91 y92 y93 y94 y95 y96 y97 y98 y99 y100 y101 y102 y103 y104 y105 y106 y107 y108 y109 y110 y111 y112 y113 y114 y115 y116 y117 y118 y119 y120 y121 y122 y123 y124 y125 y126 y127 y128 y129 y130 y131 y132 y133 y134 y135 y136 y137 y138 y139 y140 y141 y142 y143 y144 y145 y146 y147 y148 y149 y150 y151 y152 y153 y154 y155 y156 y157 y158 y159 y160 y161 y162 y163 y164 y165 y166 y167 y168 y169 y170 y171 y172 y173 y174 y175 y176 y177 y178 y179 y180 y181 y182 y183 y184 y185 y186 y187 y188 y189 y190 y191 y192 y193 y194 y195 y196 y197 y198 y199 y200 y201 y202 y203 y204 y205 y206 y207 y208 y209 y210 y211 y212 y213 y214 y215 y216 y217 y218 y219 y220 y221 y222 y223 y224 y225 y226 y227 y228 y229 y230 y231 y232 y233 y234 y235 y236 y237 y238 y239 y240 y241 y242 y243 y244 y245 y246 y247 y248 y249 y250 y251 y252 y253 y254 y255 y256 y257 y258 y259 y260 y261 y262 y263 y264 y265 y266 y267 y268 y269 y270 y271 y272 y273 y274 y275 y276 y277 y278 y279 y280 y281 y282 y283 y284 y285 y286 y287 y288 y289 y290 y291 y292 y293 y294 : Value), Below V.heap.size V W → HbW W n q23 z sl2 → K29 { tmps := #[.slice a n c, .slice (some ⟨mb, mo, none⟩) mn mc, .int .i64 T, undef, undef, undef, y6, .pointer (some ⟨b7, 0, none⟩), .int .i64 (k : Int), .int .i64 EN1, .int .i64 0, .pointer (some ⟨q11, 0, none⟩), .int .i64 0, .pointer (some ⟨q13, 0, none⟩), .int .i64 0, .int .i64 EN2, .int .i64 0, y17, .int .i64 H, .pointer (some ⟨q19, 0, none⟩), .int .i64 0, .pointer (some ⟨q21, 0, none⟩), .int .i64 0, .pointer (some ⟨q23, 0, none⟩), .int .i64 0, y25, y26, y27, y28, y29, y30, y31, y32, y33, y34, y35, y36, y37, y38, y39, y40, y41, y42, y43, y44, y45, y46, y47, y48, y49, y50, y51, y52, y53, y54, y55, y56, y57, y58, y59, y60, y61, y62, y63, y64, y65, y66, y67, y68, y69, y70, y71, y72, y73, y74, y75, y76, y77, y78, y79, y80, y81, y82, y83, y84, y85, y86, y87, y88, y89, y90, y91, y92, y93, y94, y95, y96, y97, y98, y99, y100, y101, y102, y103, y104, y105, y106, y107, y108, y109, y110, y111, y112, y113, y114, y115, y116, y117, y118, y119, y120, y121, y122, y123, y124, y125, y126, y127, y128, y129, y130, y131, y132, y133, y134, y135, y136, y137, y138, y139, y140, y141, y142, y143, y144, y145, y146, y147, y148, y149, y150, y151, y152, y153, y154, y155, y156, y157, y158, y159, y160, y161, y162, y163, y164, y165, y166, y167, y168, y169, y170, y171, y172, y173, y174, y175, y176, y177, y178, y179, y180, y181, y182, y183, y184, y185, y186, y187, y188, y189, y190, y191, y192, y193, y194, y195, y196, y197, y198, y199, y200, y201, y202, y203, y204, y205, y206, y207, y208, y209, y210, y211, y212, y213, y214, y215, y216, y217, y218, y219, y220, y221, y222, y223, y224, y225, y226, y227, y228, y229, y230, y231, y232, y233, y234, y235, y236, y237, y238, y239, y240, y241, y242, y243, y244, y245, y246, y247, y248, y249, y250, y251, y252, y253, y254, y255, y256, y257, y258, y259, y260, y261, y262, y263, y264, y265, y266, y267, y268, y269, y270, y271, y272, y273, y274, y275, y276, y277, y278, y279, y280, y281, y282, y283, y284, y285, y286, y287, y288, y289, y290, y291, y292, y293, y294], defers := [] } W := by
                  skip
                  intro W q23 y6 y17 y25 y26 y27 y28 y51 y52 y53 y54 y55 y56 y57 y58 y59 y60 y61 y62 y63 y64 y65 y66 y67 y68 y69 y70 y71 y72 y73 y74 y75 y76 y77 y78 y79 y80 y81 y82 y83 y84 y85 y86 y87 y88 y89 y90 y91 y92 y93 y94 y95 y96 y97 y98 y99 y100 y101 y102 y103 y104 y105 y106 y107 y108 y109 y110 y111 y112 y113 y114 y115 y116 y117 y118 y119 y120 y121 y122 y123 y124 y125 y126 y127 y128 y129 y130 y131 y132 y133 y134 y135 y136 y137 y138 y139 y140 y141 y142 y143 y144 y145 y146 y147 y148 y149 y150 y151 y152 y153 y154 y155 y156 y157 y158 y159 y160 y161 y162 y163 y164 y165 y166 y167 y168 y169 y170 y171 y172 y173 y174 y175 y176 y177 y178 y179 y180 y181 y182 y183 y184 y185 y186 y187 y188 y189 y190 y191 y192 y193 y194 y195 y196 y197 y198 y199 y200 y201 y202 y203 y204 y205 y206 y207 y208 y209 y210 y211 y212 y213 y214 y215 y216 y217 y218 y219 y220 y221 y222 y223 y224 y225 y226 y227 y228 y229 y230 y231 y232 y233 y234 y235 y236 y237 y238 y239 y240 y241 y242 y243 y244 y245 y246 y247 y248 y249 y250 y251 y252 y253 y254 y255 y256 y257 y258 y259 y260 y261 y262 y263 y264 y265 y266 y267 y268 y269 y270 y271 y272 y273 y274 y275 y276 y277 y278 y279 y280 y281 y282 y283 y284 y285 y286 y287 y288 y289 y290 y291 y292 y293 y294 hb hZ
                  refine hK29' _ _ ⟨?_⟩
                  clear hK29'
                  replace hH := hH.keep hb
                  replace hX := hX.keep hb
                  replace hV := hV.keep hb
                  replace hY := hY.keep hb
                  replace hU := hU.keep hb
                  replace hmk := cell_keep hmk hb
                  replace hb7 := Nat.lt_of_lt_of_le hb7 hb.size
                  replace BW := BW.trans (hb.mono BW.size)
                  clear hb
                  clear hk
                  clear V
                  try dsimp only
                  go_wp2_with fail
                  refine Calmly.wp_region_mix 14 (.fl 0 <| .fl 2 <| .fl 4 <| .fl 5 <| .fl 6 <| .fl 7 <| .alt 1 (.alt 3 (.alt 8 (.fl 9 <| .fl 10 <| .fl 11 <| .eff 12 <| .eff 13 <| .tail [14]) (.eff 12 (.eff 8 <| .fl 9 <| .fl 10 <| .fl 11 <| .eff 13 <| .tail [14]))) (.eff 12 (.eff 3 <| .eff 8 <| .fl 9 <| .fl 10 <| .fl 11 <| .eff 13 <| .tail [14]))) (.eff 12 (.eff 1 <| .eff 3 <| .eff 8 <| .fl 9 <| .fl 10 <| .fl 11 <| .eff 13 <| .tail [14]))) (by kernel_rfl) (by kernel_rfl) ?_
                  have BD : Below W.heap.size W W.drew := (Below.refl _ _).drew
                  replace hH := hH.keep BD
                  replace hX := hX.keep BD
                  replace hV := hV.keep BD
                  replace hY := hY.keep BD
                  replace hU := hU.keep BD
                  replace hZ := hZ.keep BD
                  replace hmk := cell_keep hmk BD
                  replace hb7 := Nat.lt_of_lt_of_le hb7 BD.size
                  replace BW := BW.trans (BD.mono BW.size)
                  clear BD
                  generalize W.drew = V at *
                  have hk := Below.refl V.heap.size V
                  rename_i K30 hK30
                  have hK30' := fun a w (h : Stop _) => hK30 a w h.out
                  clear hK30
                  have HK30 : ∀ (W : World) (q25 : Nat) (y6 y17 y27 y28 y51 y52 y53 y54 y55 y56 y57 y58 y59 y60 y61 y62 y63 y64 y65 y66 y67 y68 y69 y70 y71 y72 y73 y74 y75 y76 y77 y78 y79 y80 y81 y82 y83 y84 y85 y86 y87 y88 y89 y90 y91 y92 y93 y94 y95 y96 y97 y98 y99 y100 y101 y102 y103 y104 y105 y106 y107 y108 y109 y110 y111 y112 y113 y114 y115 y116 y117 y118 y119 y120 y121 y122 y123 y124 y125 y126 y127 y128 y129 y130 y131 y132 y133 y134 y135 y136 y137 y138 y139 y140 y141 y142 y143 y144 y145 y146 y147 y148 y149 y150 y151 y152 y153 y154 y155 y156 y157 y158 y159 y160 y161 y162 y163 y164 y165 y166 y167 y168 y169 y170 y171 y172 y173 y174 y175 y176 y177 y178 y179 y180 y181 y182 y183 y184 y185 y186 y187 y188 y189 y190 y191 y192 y193 y194 y195 y196 y197 y198 y199 y200 y201 y202 y203 y204 y205 y206 y207 y208 y209 y210 y211 y212 y213 y214 y215 y216 y217 y218 y219 y220 y221 y222 y223 y224 y225 y226 y227 y228 y229 y230 y231 y232 y233 y234 y235 y236 y237 y238 y239 y240 y241 y242 y243 y244 y245 y246 y247 y248 y249 y250 y251 y252 y253 y254 y255 y256 y257 y258 y259 y260 y261 y262 y263 y264 y265 y266 y267 y268 y269 y270 y271 y272 y273 y274 y275 y276 y277 y278 y279 y280 y281 y282 y283 y284 y285 y286 y287 y288 y289 y290 y291 y292 y293 y294 : Value), Below V.heap.size V W → WbW W q25 W4 L4 → K30 { tmps := #[.slice a n c, .slice (some ⟨mb, mo, none⟩) mn mc, .int .i64 T, undef, undef, undef, y6, .pointer (some ⟨b7, 0, none⟩), .int .i64 (k : Int), .int .i64 EN1, .int .i64 0, .pointer (some ⟨q11, 0, none⟩), .int .i64 0, .pointer (some ⟨q13, 0, none⟩), .int .i64 0, .int .i64 EN2, .int .i64 0, y17, .int .i64 H, .pointer (some ⟨q19, 0, none⟩), .int .i64 0, .pointer (some ⟨q21, 0, none⟩), .int .i64 0, .pointer (some ⟨q23, 0, none⟩), .int .i64 0, .pointer (some ⟨q25, 0, none⟩), .int .i64 0, y27, y28, y29, y30, y31, y32, y33, y34, y35, y36, y37, y38, y39, y40, y41, y42, y43, y44, y45, y46, y47, y48, y49, y50, y51, y52, y53, y54, y55, y56, y57, y58, y59, y60, y61, y62, y63, y64, y65, y66, y67, y68, y69, y70, y71, y72, y73, y74, y75, y76, y77, y78, y79, y80, y81, y82, y83, y84, y85, y86, y87, y88, y89, y90, y91, y92, y93, y94, y95, y96, y97, y98, y99, y100, y101, y102, y103, y104, y105, y106, y107, y108, y109, y110, y111, y112, y113, y114, y115, y116, y117, y118, y119, y120, y121, y122, y123, y124, y125, y126, y127, y128, y129, y130, y131, y132, y133, y134, y135, y136, y137, y138, y139, y140, y141, y142, y143, y144, y145, y146, y147, y148, y149, y150, y151, y152, y153, y154, y155, y156, y157, y158, y159, y160, y161, y162, y163, y164, y165, y166, y167, y168, y169, y170, y171, y172, y173, y174, y175, y176, y177, y178, y179, y180, y181, y182, y183, y184, y185, y186, y187, y188, y189, y190, y191, y192, y193, y194, y195, y196, y197, y198, y199, y200, y201, y202, y203, y204, y205, y206, y207, y208, y209, y210, y211, y212, y213, y214, y215, y216, y217, y218, y219, y220, y221, y222, y223, y224, y225, y226, y227, y228, y229, y230, y231, y232, y233, y234, y235, y236, y237, y238, y239, y240, y241, y242, y243, y244, y245, y246, y247, y248, y249, y250, y251, y252, y253, y254, y255, y256, y257, y258, y259, y260, y261, y262, y263, y264, y265, y266, y267, y268, y269, y270, y271, y272, y273, y274, y275, y276, y277, y278, y279, y280, y281, y282, y283, y284, y285, y286, y287, y288, y289, y290, y291, y292, y293, y294], defers := [] } W := by
                    skip
                    intro W q25 y6 y17 y27 y28 y51 y52 y53 y54 y55 y56 y57 y58 y59 y60 y61 y62 y63 y64 y65 y66 y67 y68 y69 y70 y71 y72 y73 y74 y75 y76 y77 y78 y79 y80 y81 y82 y83 y84 y85 y86 y87 y88 y89 y90 y91 y92 y93 y94 y95 y96 y97 y98 y99 y100 y101 y102 y103 y104 y105 y106 y107 y108 y109 y110 y111 y112 y113 y114 y115 y116 y117 y118 y119 y120 y121 y122 y123 y124 y125 y126 y127 y128 y129 y130 y131 y132 y133 y134 y135 y136 y137 y138 y139 y140 y141 y142 y143 y144 y145 y146 y147 y148 y149 y150 y151 y152 y153 y154 y155 y156 y157 y158 y159 y160 y161 y162 y163 y164 y165 y166 y167 y168 y169 y170 y171 y172 y173 y174 y175 y176 y177 y178 y179 y180 y181 y182 y183 y184 y185 y186 y187 y188 y189 y190 y191 y192 y193 y194 y195 y196 y197 y198 y199 y200 y201 y202 y203 y204 y205 y206 y207 y208 y209 y210 y211 y212 y213 y214 y215 y216 y217 y218 y219 y220 y221 y222 y223 y224 y225 y226 y227 y228 y229 y230 y231 y232 y233 y234 y235 y236 y237 y238 y239 y240 y241 y242 y243 y244 y245 y246 y247 y248 y249 y250 y251 y252 y253 y254 y255 y256 y257 y258 y259 y260 y261 y262 y263 y264 y265 y266 y267 y268 y269 y270 y271 y272 y273 y274 y275 y276 y277 y278 y279 y280 y281 y282 y283 y284 y285 y286 y287 y288 y289 y290 y291 y292 y293 y294 hb hT2
                    refine hK30' _ _ ⟨?_⟩
                    clear hK30'
                    replace hH := hH.keep hb
                    replace hX := hX.keep hb
                    replace hV := hV.keep hb
                    replace hY := hY.keep hb
                    replace hU := hU.keep hb
                    replace hZ := hZ.keep hb
                    replace hmk := cell_keep hmk hb
                    replace hb7 := Nat.lt_of_lt_of_le hb7 hb.size
                    replace BW := BW.trans (hb.mono BW.size)
                    clear hb
                    clear hk
                    clear V
                    obtain ⟨avhZ, cvhZ, ybhZ, yshZ, yihZ⟩ := hZ.ex
                    have f0hZ := cell_block ybhZ 0
                    have f1hZ := cell_block ybhZ 1
                    obtain ⟨avhX, cvhX, ybhX, yshX, yihX⟩ := hX.ex
                    have f0hX := cell_block ybhX 0
                    have f1hX := cell_block ybhX 1
                    try dsimp only
                    go_wp2_with fail
                    refine (sameHold_any z z avhZ avhX n n cvhZ cvhX sl2 sl2 _ yshZ yshX).mono ?_
                    rintro e w1 ⟨rfl, hs⟩
                    rw [show decide (z = z ∧ sl2 = sl2) = true by simp]
                    clear f0hX f1hX ybhX yshX yihX
                    clear f0hZ f1hZ ybhZ yshZ yihZ
                    replace hH := hH.keep hs
                    replace hX := hX.keep hs
                    replace hV := hV.keep hs
                    replace hY := hY.keep hs
                    replace hU := hU.keep hs
                    replace hZ := hZ.keep hs
                    replace hT2 := hT2.keep hs
                    replace hmk := cell_keep hmk hs
                    replace hb7 := Nat.lt_of_lt_of_le hb7 hs.size
                    replace BW := BW.trans (hs.mono BW.size)
                    clear hs
                    obtain ⟨-, ⟨⟨b5, b6⟩, ⟨b8, b9⟩⟩, ⟨⟨b10, b11⟩, ⟨b12, b13⟩⟩, ⟨⟨b14, b15⟩, ⟨b16, b17⟩⟩⟩ := HF.out.bd
                    have cx1 : (W3 + W4 != WK) = false := by simpa using HF.out.add.1
                    have cx2 : (L3 + L4 != LS) = false := by simpa using HF.out.add.2
                    have f0hV := cell_block hV.blk 0
                    have f1hV := cell_block hV.blk 1
                    have f0hU := cell_block hU.blk 0
                    have f1hU := cell_block hU.blk 1
                    have f0hT2 := cell_block hT2.blk 0
                    have f1hT2 := cell_block hT2.blk 1
                    by_cases hL : LS = 0
                    case neg =>
                      have cx3 : (LS == 0) = false := by simpa using hL
                      obtain ⟨av9, cv9, yb9, ys9, yi9⟩ := hX.ex
                      have f90 := cell_block yb9 0
                      have f91 := cell_block yb9 1
                      obtain ⟨av8, cv8, yb8, -, -⟩ := hH.ex
                      have f80 := cell_block yb8 0
                      have f81 := cell_block yb8 1
                      have n80 := frozen_block yb8 0
                      have n81 := frozen_block yb8 1
                      try dsimp only
                      go_wp2_with fail
                      go_roundw
                      case rel =>
                        refine ⟨k + 1, z, sl2, by omega, by go_num, (BW.setCell (p := ⟨b7, 0, none⟩) hw7 (.int .i64 z)).setCell (p := ⟨b7, 1, none⟩) hw7 (.slice av9 n cv9), ?_, hH.move ys9 yi9, HK2.out⟩
                        simp only [World.size_setCell]
                        exact hb7
                      case measure => simp [intOf]; omega
                    case pos =>
                      have cx3 : (LS == 0) = true := by simpa using hL
                      try dsimp only
                      go_wp2_with fail
                      clear b5 b6 b8 b9 b10 b11 b12 b13 b14 b15 b16 b17 cx1 cx2 cx3
                      clear f0hT2 f1hT2
                      clear f0hU f1hU
                      clear f0hV f1hV
                      generalize w1 = W at *
                      have hWB := HF.out.back hL
                      have HWB := Lib.hid hWB
                      clear hWB
                      refine Calmly.wp_region_mix 12 (.fl 0 <| .fl 2 <| .fl 4 <| .fl 5 <| .alt 1 (.alt 3 (.alt 6 (.fl 7 <| .fl 8 <| .fl 9 <| .eff 10 <| .eff 11 <| .tail [12]) (.eff 10 (.eff 6 <| .fl 7 <| .fl 8 <| .fl 9 <| .eff 11 <| .tail [12]))) (.eff 10 (.eff 3 <| .eff 6 <| .fl 7 <| .fl 8 <| .fl 9 <| .eff 11 <| .tail [12]))) (.eff 10 (.eff 1 <| .eff 3 <| .eff 6 <| .fl 7 <| .fl 8 <| .fl 9 <| .eff 11 <| .tail [12]))) (by kernel_rfl) (by kernel_rfl) ?_
                      have BD : Below W.heap.size W W.drew := (Below.refl _ _).drew
                      replace hH := hH.keep BD
                      replace hX := hX.keep BD
                      replace hV := hV.keep BD
                      replace hY := hY.keep BD
                      replace hU := hU.keep BD
                      replace hZ := hZ.keep BD
                      replace hT2 := hT2.keep BD
                      replace hmk := cell_keep hmk BD
                      replace hb7 := Nat.lt_of_lt_of_le hb7 BD.size
                      replace BW := BW.trans (BD.mono BW.size)
                      clear BD
                      generalize W.drew = V at *
                      have hk := Below.refl V.heap.size V
                      rename_i K34 hK34
                      have hK34' := fun a w (h : Stop _) => hK34 a w h.out
                      clear hK34
                      have HK34 : ∀ (W : World) (q27 : Nat) (y6 y17 y51 y52 y53 y54 y55 y56 y57 y58 y59 y60 y61 y62 y63 y64 y65 y66 y67 y68 y69 y70 y71 y72 y73 y74 y75 y76 y77 y78 y79 y80 y81 y82 y83 y84 y85 y86 y87 y88 y89 y90 y91 y92 y93 y94 y95 y96 y97 y98 y99 y100 y101 y102 y103 y104 y105 y106 y107 y108 y109 y110 y111 y112 y113 y114 y115 y116 y117 y118 y119 y120 y121 y122 y123 y124 y125 y126 y127 y128 y129 y130 y131 y132 y133 y134 y135 y136 y137 y138 y139 y140 y141 y142 y143 y144 y145 y146 y147 y148 y149 y150 y151 y152 y153 y154 y155 y156 y157 y158 y159 y160 y161 y162 y163 y164 y165 y166 y167 y168 y169 y170 y171 y172 y173 y174 y175 y176 y177 y178 y179 y180 y181 y182 y183 y184 y185 y186 y187 y188 y189 y190 y191 y192 y193 y194 y195 y196 y197 y198 y199 y200 y201 y202 y203 y204 y205 y206 y207 y208 y209 y210 y211 y212 y213 y214 y215 y216 y217 y218 y219 y220 y221 y222 y223 y224 y225 y226 y227 y228 y229 y230 y231 y232 y233 y234 y235 y236 y237 y238 y239 y240 y241 y242 y243 y244 y245 y246 y247 y248 y249 y250 y251 y252 y253 y254 y255 y256 y257 y258 y259 y260 y261 y262 y263 y264 y265 y266 y267 y268 y269 y270 y271 y272 y273 y274 y275 y276 y277 y278 y279 y280 y281 y282 y283 y284 y285 y286 y287 y288 y289 y290 y291 y292 y293 y294 : Value), Below V.heap.size V W → WbW W q27 WB LB → K34 { tmps := #[.slice a n c, .slice (some ⟨mb, mo, none⟩) mn mc, .int .i64 T, undef, undef, undef, y6, .pointer (some ⟨b7, 0, none⟩), .int .i64 (k : Int), .int .i64 EN1, .int .i64 0, .pointer (some ⟨q11, 0, none⟩), .int .i64 0, .pointer (some ⟨q13, 0, none⟩), .int .i64 0, .int .i64 EN2, .int .i64 0, y17, .int .i64 H, .pointer (some ⟨q19, 0, none⟩), .int .i64 0, .pointer (some ⟨q21, 0, none⟩), .int .i64 0, .pointer (some ⟨q23, 0, none⟩), .int .i64 0, .pointer (some ⟨q25, 0, none⟩), .int .i64 0, .pointer (some ⟨q27, 0, none⟩), .int .i64 0, y29, y30, y31, y32, y33, y34, y35, y36, y37, y38, y39, y40, y41, y42, y43, y44, y45, y46, y47, y48, y49, y50, y51, y52, y53, y54, y55, y56, y57, y58, y59, y60, y61, y62, y63, y64, y65, y66, y67, y68, y69, y70, y71, y72, y73, y74, y75, y76, y77, y78, y79, y80, y81, y82, y83, y84, y85, y86, y87, y88, y89, y90, y91, y92, y93, y94, y95, y96, y97, y98, y99, y100, y101, y102, y103, y104, y105, y106, y107, y108, y109, y110, y111, y112, y113, y114, y115, y116, y117, y118, y119, y120, y121, y122, y123, y124, y125, y126, y127, y128, y129, y130, y131, y132, y133, y134, y135, y136, y137, y138, y139, y140, y141, y142, y143, y144, y145, y146, y147, y148, y149, y150, y151, y152, y153, y154, y155, y156, y157, y158, y159, y160, y161, y162, y163, y164, y165, y166, y167, y168, y169, y170, y171, y172, y173, y174, y175, y176, y177, y178, y179, y180, y181, y182, y183, y184, y185, y186, y187, y188, y189, y190, y191, y192, y193, y194, y195, y196, y197, y198, y199, y200, y201, y202, y203, y204, y205, y206, y207, y208, y209, y210, y211, y212, y213, y214, y215, y216, y217, y218, y219, y220, y221, y222, y223, y224, y225, y226, y227, y228, y229, y230, y231, y232, y233, y234, y235, y236, y237, y238, y239, y240, y241, y242, y243, y244, y245, y246, y247, y248, y249, y250, y251, y252, y253, y254, y255, y256, y257, y258, y259, y260, y261, y262, y263, y264, y265, y266, y267, y268, y269, y270, y271, y272, y273, y274, y275, y276, y277, y278, y279, y280, y281, y282, y283, y284, y285, y286, y287, y288, y289, y290, y291, y292, y293, y294], defers := [] } W := by
                        skip
                        intro W q27 y6 y17 y51 y52 y53 y54 y55 y56 y57 y58 y59 y60 y61 y62 y63 y64 y65 y66 y67 y68 y69 y70 y71 y72 y73 y74 y75 y76 y77 y78 y79 y80 y81 y82 y83 y84 y85 y86 y87 y88 y89 y90 y91 y92 y93 y94 y95 y96 y97 y98 y99 y100 y101 y102 y103 y104 y105 y106 y107 y108 y109 y110 y111 y112 y113 y114 y115 y116 y117 y118 y119 y120 y121 y122 y123 y124 y125 y126 y127 y128 y129 y130 y131 y132 y133 y134 y135 y136 y137 y138 y139 y140 y141 y142 y143 y144 y145 y146 y147 y148 y149 y150 y151 y152 y153 y154 y155 y156 y157 y158 y159 y160 y161 y162 y163 y164 y165 y166 y167 y168 y169 y170 y171 y172 y173 y174 y175 y176 y177 y178 y179 y180 y181 y182 y183 y184 y185 y186 y187 y188 y189 y190 y191 y192 y193 y194 y195 y196 y197 y198 y199 y200 y201 y202 y203 y204 y205 y206 y207 y208 y209 y210 y211 y212 y213 y214 y215 y216 y217 y218 y219 y220 y221 y222 y223 y224 y225 y226 y227 y228 y229 y230 y231 y232 y233 y234 y235 y236 y237 y238 y239 y240 y241 y242 y243 y244 y245 y246 y247 y248 y249 y250 y251 y252 y253 y254 y255 y256 y257 y258 y259 y260 y261 y262 y263 y264 y265 y266 y267 y268 y269 y270 y271 y272 y273 y274 y275 y276 y277 y278 y279 y280 y281 y282 y283 y284 y285 y286 y287 y288 y289 y290 y291 y292 y293 y294 hb hQ
                        refine hK34' _ _ ⟨?_⟩
                        clear hK34'
                        replace hH := hH.keep hb
                        replace hX := hX.keep hb
                        replace hV := hV.keep hb
                        replace hY := hY.keep hb
                        replace hU := hU.keep hb
                        replace hZ := hZ.keep hb
                        replace hT2 := hT2.keep hb
                        replace hmk := cell_keep hmk hb
                        replace hb7 := Nat.lt_of_lt_of_le hb7 hb.size
                        replace BW := BW.trans (hb.mono BW.size)
                        clear hb
                        clear hk
                        clear V
                        obtain ⟨-, ⟨⟨b5, b6⟩, -⟩, -, -⟩ := HF.out.bd
                        have cx1 : (WB != -WK) = false := by simpa using HWB.out.1
                        have cx2 : (LB != 0) = false := by simpa using HWB.out.2
                        have f0hV := cell_block hV.blk 0
                        have f1hV := cell_block hV.blk 1
                        have f0hQ := cell_block hQ.blk 0
                        have f1hQ := cell_block hQ.blk 1
                        obtain ⟨av9, cv9, yb9, ys9, yi9⟩ := hX.ex
                        have f90 := cell_block yb9 0
                        have f91 := cell_block yb9 1
                        obtain ⟨av8, cv8, yb8, -, -⟩ := hH.ex
                        have f80 := cell_block yb8 0
                        have f81 := cell_block yb8 1
                        have n80 := frozen_block yb8 0
                        have n81 := frozen_block yb8 1
                        try dsimp only
                        go_wp2_with fail
                        go_roundw
                        case rel =>
                          refine ⟨k + 1, z, sl2, by omega, by go_num, (BW.setCell (p := ⟨b7, 0, none⟩) hw7 (.int .i64 z)).setCell (p := ⟨b7, 1, none⟩) hw7 (.slice av9 n cv9), ?_, hH.move ys9 yi9, HK2.out⟩
                          simp only [World.size_setCell]
                          exact hb7
                        case measure => simp [intOf]; omega
                      clear hK34'
                      have HK34' := Lib.hid HK34
                      clear HK34
                      have s1 := h1.keep BW
                      obtain ⟨avhX, cvhX, ybhX, yshX, yihX⟩ := hX.ex
                      have f0hX := cell_block ybhX 0
                      have f1hX := cell_block ybhX 1
                      obtain ⟨av8, cv8, yb8, -, -⟩ := hH.ex
                      have f80 := cell_block yb8 0
                      try dsimp only
                      go_wp2_with (first | (refine kept_st2M hk hq z15 (fun hk' ho hn => ?_); replace hk := hk'; clear hk'; clear ho; generalize World.setCell (World.setCell _ _ _) _ _ = W2 at *) | ((with_reducible refine Calmly.is_fl ?_); refine Calmly.mix_fl rfl ?_ (fun _ _ => ?_); (first | exact .move _ | exact .load _ _ | exact .fieldAddr _ _ _ (by kernel_rfl) | exact .assign _ | exact .binOp _ _ _ _ _ rfl | exact .indexAddr _ _ _ | exact .len _ _ (by kernel_rfl) | exact .field _ _ _ | exact .extract _ _ | exact .pick _ _ _ | exact .build _ _ | exact .slice _ _ _ _ _ | exact .unOp _ _ _ rfl | exact .index _ _ _ | exact .max _ _ _ rfl rfl | exact .min _ _ _ rfl rfl | exact .nilCheck _ _ rfl)) | ((with_reducible refine Calmly.is_gl ?_); refine Calmly.mix_gl rfl rfl rfl ?_; first | ((first | with_reducible refine Calmly.gl_tt ?_ (fun _ _ => ?_) | with_reducible refine Calmly.gl_ff ?_ (fun _ _ => ?_)); (first | exact .move _ | exact .load _ _ | exact .fieldAddr _ _ _ (by kernel_rfl) | exact .assign _ | exact .binOp _ _ _ _ _ rfl | exact .indexAddr _ _ _ | exact .len _ _ (by kernel_rfl) | exact .field _ _ _ | exact .extract _ _ | exact .pick _ _ _ | exact .build _ _ | exact .slice _ _ _ _ _ | exact .unOp _ _ _ rfl | exact .index _ _ _ | exact .max _ _ _ rfl rfl | exact .min _ _ _ rfl rfl | exact .nilCheck _ _ rfl)) | with_reducible refine Calmly.gl_tf (fun _ _ => ?_) | with_reducible refine Calmly.gl_ft (fun _ _ => ?_)) | ((with_reducible refine Calmly.is_eff ?_); refine Calmly.mix_eff rfl (fun _ _ => ?_)) | ((with_reducible refine Calmly.is_gf ?_); refine Calmly.mix_gf rfl rfl rfl ?_; first | with_reducible refine Calmly.gf_tt (fun _ _ => ?_) | with_reducible refine Calmly.gf_ff (fun _ _ => ?_) | with_reducible refine Calmly.gf_tf (kept_of hk) (fun _ _ => ?_) | with_reducible refine Calmly.gf_ft (kept_of hk) (fun _ _ => ?_)) | ((with_reducible refine Calmly.is_tail ?_); first | refine Calmly.mix_tail_nil ?_ | refine Calmly.mix_tail rfl (fun _ _ => ?_)) | ((with_reducible refine Calmly.is_kept ?_); refine ⟨kept_of hk, ?_⟩) | (with_reducible refine Calmly.mix_alt ?_ ?_) | (go_at_call 28; refine (CopySpring_any a n c l _ (s1.keep hk) (by omega)).mono ?_; rintro e w1 ⟨a1, c1, rfl, ho1, hb1⟩; replace hk := step_of hk hb1; (try (replace z15 := blk_keep z15 hb1; replace c15 := cell_block z15 0; replace c15' := cell_block z15 1; replace n15 := frozen_block z15 0; replace n15' := frozen_block z15 1)); (try dsimp only)) | (go_at_call 29; refine (CopyHold_any z avhX n cvhX sl2 _ (yshX.keep hk) (by omega)).mono ?_; rintro e w2 ⟨a3, c3, rfl, ho2, hb2⟩; replace hk := step_of hk hb2; have e1 := ho1.se.keep hb2; have e2 := ho2.ss; clear ho1; (try (replace z15 := blk_keep z15 hb2; replace c15 := cell_block z15 0; replace c15' := cell_block z15 1; replace n15 := frozen_block z15 0; replace n15' := frozen_block z15 1)); (try dsimp only)) | (go_at_call 31; refine (WorkTo_ok a1 a3 n c1 n c3 l z x sl2 _ e1 e2 HK2.out HPX.out).mono ?_; rintro e w3 ⟨rfl, hb3⟩; rw [E12.out, E13.out]; replace hk := step_of hk hb3; (try (replace z15 := blk_keep z15 hb3; replace c15 := cell_block z15 0; replace c15' := cell_block z15 1; replace n15 := frozen_block z15 0; replace n15' := frozen_block z15 1)); (try dsimp only)) | (refine kept_allocW hk (fun hk' hA hblk => ?_); (try (have hq15 := fun g o (e : av3 = some (⟨g, o, none⟩ : Addr)) => Nat.ne_of_lt (OwS.lt ho3 g o e))); (try replace ho1 := ho1.keep hA); (try replace e1 := e1.keep hA); (try replace e2 := e2.keep hA); (try replace ho3 := ho3.keep hA); have hq := hk.size; replace hk := hk'; clear hk'; have z15 := hblk; clear hblk; have c15 := cell_block z15 0; have c15' := cell_block z15 1; have n15 := frozen_block z15 0; have n15' := frozen_block z15 1; generalize World.alloc _ _ = X15 at *))
                      all_goals
                        apply HK34'.out
                        · exact hk
                        · exact ⟨hn⟩
                  clear hK30'
                  have HK30' := Lib.hid HK30
                  clear HK30
                  have s1 := h1.keep BW
                  obtain ⟨avhY, cvhY, ybhY, yshY, yihY⟩ := hY.ex
                  have f0hY := cell_block ybhY 0
                  have f1hY := cell_block ybhY 1
                  try dsimp only
                  go_wp2_with (first | (refine kept_st2M hk hq z15 (fun hk' ho hn => ?_); replace hk := hk'; clear hk'; clear ho; generalize World.setCell (World.setCell _ _ _) _ _ = W2 at *) | ((with_reducible refine Calmly.is_fl ?_); refine Calmly.mix_fl rfl ?_ (fun _ _ => ?_); (first | exact .move _ | exact .load _ _ | exact .fieldAddr _ _ _ (by kernel_rfl) | exact .assign _ | exact .binOp _ _ _ _ _ rfl | exact .indexAddr _ _ _ | exact .len _ _ (by kernel_rfl) | exact .field _ _ _ | exact .extract _ _ | exact .pick _ _ _ | exact .build _ _ | exact .slice _ _ _ _ _ | exact .unOp _ _ _ rfl | exact .index _ _ _ | exact .max _ _ _ rfl rfl | exact .min _ _ _ rfl rfl | exact .nilCheck _ _ rfl)) | ((with_reducible refine Calmly.is_gl ?_); refine Calmly.mix_gl rfl rfl rfl ?_; first | ((first | with_reducible refine Calmly.gl_tt ?_ (fun _ _ => ?_) | with_reducible refine Calmly.gl_ff ?_ (fun _ _ => ?_)); (first | exact .move _ | exact .load _ _ | exact .fieldAddr _ _ _ (by kernel_rfl) | exact .assign _ | exact .binOp _ _ _ _ _ rfl | exact .indexAddr _ _ _ | exact .len _ _ (by kernel_rfl) | exact .field _ _ _ | exact .extract _ _ | exact .pick _ _ _ | exact .build _ _ | exact .slice _ _ _ _ _ | exact .unOp _ _ _ rfl | exact .index _ _ _ | exact .max _ _ _ rfl rfl | exact .min _ _ _ rfl rfl | exact .nilCheck _ _ rfl)) | with_reducible refine Calmly.gl_tf (fun _ _ => ?_) | with_reducible refine Calmly.gl_ft (fun _ _ => ?_)) | ((with_reducible refine Calmly.is_eff ?_); refine Calmly.mix_eff rfl (fun _ _ => ?_)) | ((with_reducible refine Calmly.is_gf ?_); refine Calmly.mix_gf rfl rfl rfl ?_; first | with_reducible refine Calmly.gf_tt (fun _ _ => ?_) | with_reducible refine Calmly.gf_ff (fun _ _ => ?_) | with_reducible refine Calmly.gf_tf (kept_of hk) (fun _ _ => ?_) | with_reducible refine Calmly.gf_ft (kept_of hk) (fun _ _ => ?_)) | ((with_reducible refine Calmly.is_tail ?_); first | refine Calmly.mix_tail_nil ?_ | refine Calmly.mix_tail rfl (fun _ _ => ?_)) | ((with_reducible refine Calmly.is_kept ?_); refine ⟨kept_of hk, ?_⟩) | (with_reducible refine Calmly.mix_alt ?_ ?_) | (go_at_call 28; refine (CopySpring_any a n c l _ (s1.keep hk) (by omega)).mono ?_; rintro e w1 ⟨a1, c1, rfl, ho1, hb1⟩; replace hk := step_of hk hb1; (try (replace z15 := blk_keep z15 hb1; replace c15 := cell_block z15 0; replace c15' := cell_block z15 1; replace n15 := frozen_block z15 0; replace n15' := frozen_block z15 1)); (try dsimp only)) | (go_at_call 29; refine (CopyHold_any H avhY n cvhY sl3 _ (yshY.keep hk) (by omega)).mono ?_; rintro e w2 ⟨a3, c3, rfl, ho2, hb2⟩; replace hk := step_of hk hb2; have e1 := ho1.se.keep hb2; have e2 := ho2.ss; clear ho1; (try (replace z15 := blk_keep z15 hb2; replace c15 := cell_block z15 0; replace c15' := cell_block z15 1; replace n15 := frozen_block z15 0; replace n15' := frozen_block z15 1)); (try dsimp only)) | (go_at_call 31; refine (WorkTo_ok a1 a3 n c1 n c3 l H z sl3 _ e1 e2 HK3.out HPZ.out).mono ?_; rintro e w3 ⟨rfl, hb3⟩; rw [E10.out, E11.out]; replace hk := step_of hk hb3; (try (replace z15 := blk_keep z15 hb3; replace c15 := cell_block z15 0; replace c15' := cell_block z15 1; replace n15 := frozen_block z15 0; replace n15' := frozen_block z15 1)); (try dsimp only)) | (refine kept_allocW hk (fun hk' hA hblk => ?_); (try (have hq15 := fun g o (e : av3 = some (⟨g, o, none⟩ : Addr)) => Nat.ne_of_lt (OwS.lt ho3 g o e))); (try replace ho1 := ho1.keep hA); (try replace e1 := e1.keep hA); (try replace e2 := e2.keep hA); (try replace ho3 := ho3.keep hA); have hq := hk.size; replace hk := hk'; clear hk'; have z15 := hblk; clear hblk; have c15 := cell_block z15 0; have c15' := cell_block z15 1; have n15 := frozen_block z15 0; have n15' := frozen_block z15 1; generalize World.alloc _ _ = X15 at *))
                  all_goals
                    apply HK30'.out
                    · exact hk
                    · exact ⟨hn⟩
                clear hK29'
                have HK29' := Lib.hid HK29
                clear HK29
                have s1 := h1.keep BW
                obtain ⟨avhY, cvhY, ybhY, yshY, yihY⟩ := hY.ex
                have f0hY := cell_block ybhY 0
                have f1hY := cell_block ybhY 1
                try dsimp only
                go_wp2_with (first | (refine kept_st2M hk hq z15 (fun hk' ho hn => ?_); replace hk := hk'; clear hk'; replace ho3 := ow_not ho3 ho hq15; clear ho; generalize World.setCell (World.setCell _ _ _) _ _ = W2 at *) | ((with_reducible refine Calmly.is_fl ?_); refine Calmly.mix_fl rfl ?_ (fun _ _ => ?_); (first | exact .move _ | exact .load _ _ | exact .fieldAddr _ _ _ (by kernel_rfl) | exact .assign _ | exact .binOp _ _ _ _ _ rfl | exact .indexAddr _ _ _ | exact .len _ _ (by kernel_rfl) | exact .field _ _ _ | exact .extract _ _ | exact .pick _ _ _ | exact .build _ _ | exact .slice _ _ _ _ _ | exact .unOp _ _ _ rfl | exact .index _ _ _ | exact .max _ _ _ rfl rfl | exact .min _ _ _ rfl rfl | exact .nilCheck _ _ rfl)) | ((with_reducible refine Calmly.is_gl ?_); refine Calmly.mix_gl rfl rfl rfl ?_; first | ((first | with_reducible refine Calmly.gl_tt ?_ (fun _ _ => ?_) | with_reducible refine Calmly.gl_ff ?_ (fun _ _ => ?_)); (first | exact .move _ | exact .load _ _ | exact .fieldAddr _ _ _ (by kernel_rfl) | exact .assign _ | exact .binOp _ _ _ _ _ rfl | exact .indexAddr _ _ _ | exact .len _ _ (by kernel_rfl) | exact .field _ _ _ | exact .extract _ _ | exact .pick _ _ _ | exact .build _ _ | exact .slice _ _ _ _ _ | exact .unOp _ _ _ rfl | exact .index _ _ _ | exact .max _ _ _ rfl rfl | exact .min _ _ _ rfl rfl | exact .nilCheck _ _ rfl)) | with_reducible refine Calmly.gl_tf (fun _ _ => ?_) | with_reducible refine Calmly.gl_ft (fun _ _ => ?_)) | ((with_reducible refine Calmly.is_eff ?_); refine Calmly.mix_eff rfl (fun _ _ => ?_)) | ((with_reducible refine Calmly.is_gf ?_); refine Calmly.mix_gf rfl rfl rfl ?_; first | with_reducible refine Calmly.gf_tt (fun _ _ => ?_) | with_reducible refine Calmly.gf_ff (fun _ _ => ?_) | with_reducible refine Calmly.gf_tf (kept_of hk) (fun _ _ => ?_) | with_reducible refine Calmly.gf_ft (kept_of hk) (fun _ _ => ?_)) | ((with_reducible refine Calmly.is_tail ?_); first | refine Calmly.mix_tail_nil ?_ | refine Calmly.mix_tail rfl (fun _ _ => ?_)) | ((with_reducible refine Calmly.is_kept ?_); refine ⟨kept_of hk, ?_⟩) | (with_reducible refine Calmly.mix_alt ?_ ?_) | (go_at_call 28; refine (CopySpring_any a n c l _ (s1.keep hk) (by omega)).mono ?_; rintro e w1 ⟨a1, c1, rfl, ho1, hb1⟩; replace hk := step_of hk hb1; (try (replace z15 := blk_keep z15 hb1; replace c15 := cell_block z15 0; replace c15' := cell_block z15 1; replace n15 := frozen_block z15 0; replace n15' := frozen_block z15 1)); (try dsimp only)) | (go_at_call 29; refine (CopyHold_any H avhY n cvhY sl3 _ (yshY.keep hk) (by omega)).mono ?_; rintro e w2 ⟨a3, c3, rfl, ho2, hb2⟩; replace hk := step_of hk hb2; have e1 := ho1.se.keep hb2; have e2 := ho2.ss; clear ho1; (try (replace z15 := blk_keep z15 hb2; replace c15 := cell_block z15 0; replace c15' := cell_block z15 1; replace n15 := frozen_block z15 0; replace n15' := frozen_block z15 1)); (try dsimp only)) | (go_at_call 30; refine (MovedTo_ok a1 a3 n c1 c3 l H z sl3 _ e1 e2 HK3.out HPZ.out).mono ?_; rintro e w3 ⟨av3, cv3, rfl, ho3, hb3⟩; rw [E3.out] at ho3; replace hk := step_of hk hb3; (try (have hq15 := fun g o (e : av3 = some (⟨g, o, none⟩ : Addr)) => Nat.ne_of_gt (Nat.lt_of_lt_of_le (blk_lt z15) (ow_ge ho3 e)))); (try (replace z15 := blk_keep z15 hb3; replace c15 := cell_block z15 0; replace c15' := cell_block z15 1; replace n15 := frozen_block z15 0; replace n15' := frozen_block z15 1)); (try dsimp only)) | (refine kept_allocW hk (fun hk' hA hblk => ?_); (try (have hq15 := fun g o (e : av3 = some (⟨g, o, none⟩ : Addr)) => Nat.ne_of_lt (OwS.lt ho3 g o e))); (try replace ho1 := ho1.keep hA); (try replace e1 := e1.keep hA); (try replace e2 := e2.keep hA); (try replace ho3 := ho3.keep hA); have hq := hk.size; replace hk := hk'; clear hk'; have z15 := hblk; clear hblk; have c15 := cell_block z15 0; have c15' := cell_block z15 1; have n15 := frozen_block z15 0; have n15' := frozen_block z15 1; generalize World.alloc _ _ = X15 at *))
                all_goals
                  apply HK29'.out
                  · exact hk
                  · exact ⟨_, _, hn, ho3.ss, In.of_owns ho3⟩
              clear hK26'
              have HK26' := Lib.hid HK26
              clear HK26
              have s1 := h1.keep BW
              obtain ⟨avhH, cvhH, ybhH, yshH, yihH⟩ := hH.ex
              have f0hH := cell_block ybhH 0
              have f1hH := cell_block ybhH 1
              try dsimp only
              go_wp2_with (first | (refine kept_st2M hk hq z15 (fun hk' ho hn => ?_); replace hk := hk'; clear hk'; clear ho; generalize World.setCell (World.setCell _ _ _) _ _ = W2 at *) | ((with_reducible refine Calmly.is_fl ?_); refine Calmly.mix_fl rfl ?_ (fun _ _ => ?_); (first | exact .move _ | exact .load _ _ | exact .fieldAddr _ _ _ (by kernel_rfl) | exact .assign _ | exact .binOp _ _ _ _ _ rfl | exact .indexAddr _ _ _ | exact .len _ _ (by kernel_rfl) | exact .field _ _ _ | exact .extract _ _ | exact .pick _ _ _ | exact .build _ _ | exact .slice _ _ _ _ _ | exact .unOp _ _ _ rfl | exact .index _ _ _ | exact .max _ _ _ rfl rfl | exact .min _ _ _ rfl rfl | exact .nilCheck _ _ rfl)) | ((with_reducible refine Calmly.is_gl ?_); refine Calmly.mix_gl rfl rfl rfl ?_; first | ((first | with_reducible refine Calmly.gl_tt ?_ (fun _ _ => ?_) | with_reducible refine Calmly.gl_ff ?_ (fun _ _ => ?_)); (first | exact .move _ | exact .load _ _ | exact .fieldAddr _ _ _ (by kernel_rfl) | exact .assign _ | exact .binOp _ _ _ _ _ rfl | exact .indexAddr _ _ _ | exact .len _ _ (by kernel_rfl) | exact .field _ _ _ | exact .extract _ _ | exact .pick _ _ _ | exact .build _ _ | exact .slice _ _ _ _ _ | exact .unOp _ _ _ rfl | exact .index _ _ _ | exact .max _ _ _ rfl rfl | exact .min _ _ _ rfl rfl | exact .nilCheck _ _ rfl)) | with_reducible refine Calmly.gl_tf (fun _ _ => ?_) | with_reducible refine Calmly.gl_ft (fun _ _ => ?_)) | ((with_reducible refine Calmly.is_eff ?_); refine Calmly.mix_eff rfl (fun _ _ => ?_)) | ((with_reducible refine Calmly.is_gf ?_); refine Calmly.mix_gf rfl rfl rfl ?_; first | with_reducible refine Calmly.gf_tt (fun _ _ => ?_) | with_reducible refine Calmly.gf_ff (fun _ _ => ?_) | with_reducible refine Calmly.gf_tf (kept_of hk) (fun _ _ => ?_) | with_reducible refine Calmly.gf_ft (kept_of hk) (fun _ _ => ?_)) | ((with_reducible refine Calmly.is_tail ?_); first | refine Calmly.mix_tail_nil ?_ | refine Calmly.mix_tail rfl (fun _ _ => ?_)) | ((with_reducible refine Calmly.is_kept ?_); refine ⟨kept_of hk, ?_⟩) | (with_reducible refine Calmly.mix_alt ?_ ?_) | (go_at_call 28; refine (CopySpring_any a n c l _ (s1.keep hk) (by omega)).mono ?_; rintro e w1 ⟨a1, c1, rfl, ho1, hb1⟩; replace hk := step_of hk hb1; (try (replace z15 := blk_keep z15 hb1; replace c15 := cell_block z15 0; replace c15' := cell_block z15 1; replace n15 := frozen_block z15 0; replace n15' := frozen_block z15 1)); (try dsimp only)) | (go_at_call 29; refine (CopyHold_any x avhH n cvhH sl _ (yshH.keep hk) (by omega)).mono ?_; rintro e w2 ⟨a3, c3, rfl, ho2, hb2⟩; replace hk := step_of hk hb2; have e1 := ho1.se.keep hb2; have e2 := ho2.ss; clear ho1; (try (replace z15 := blk_keep z15 hb2; replace c15 := cell_block z15 0; replace c15' := cell_block z15 1; replace n15 := frozen_block z15 0; replace n15' := frozen_block z15 1)); (try dsimp only)) | (go_at_call 31; refine (WorkTo_ok a1 a3 n c1 n c3 l x H sl _ e1 e2 HOK.out HPH.out).mono ?_; rintro e w3 ⟨rfl, hb3⟩; rw [E8.out, E9.out]; replace hk := step_of hk hb3; (try (replace z15 := blk_keep z15 hb3; replace c15 := cell_block z15 0; replace c15' := cell_block z15 1; replace n15 := frozen_block z15 0; replace n15' := frozen_block z15 1)); (try dsimp only)) | (refine kept_allocW hk (fun hk' hA hblk => ?_); (try (have hq15 := fun g o (e : av3 = some (⟨g, o, none⟩ : Addr)) => Nat.ne_of_lt (OwS.lt ho3 g o e))); (try replace ho1 := ho1.keep hA); (try replace e1 := e1.keep hA); (try replace e2 := e2.keep hA); (try replace ho3 := ho3.keep hA); have hq := hk.size; replace hk := hk'; clear hk'; have z15 := hblk; clear hblk; have c15 := cell_block z15 0; have c15' := cell_block z15 1; have n15 := frozen_block z15 0; have n15' := frozen_block z15 1; generalize World.alloc _ _ = X15 at *))
              all_goals
                apply HK26'.out
                · exact hk
                · exact ⟨hn⟩
            clear hK25'
            have HK25' := Lib.hid HK25
            clear HK25
            have s1 := h1.keep BW
            obtain ⟨avhH, cvhH, ybhH, yshH, yihH⟩ := hH.ex
            have f0hH := cell_block ybhH 0
            have f1hH := cell_block ybhH 1
            try dsimp only
            go_wp2_with (first | (refine kept_st2M hk hq z15 (fun hk' ho hn => ?_); replace hk := hk'; clear hk'; replace ho3 := ow_not ho3 ho hq15; clear ho; generalize World.setCell (World.setCell _ _ _) _ _ = W2 at *) | ((with_reducible refine Calmly.is_fl ?_); refine Calmly.mix_fl rfl ?_ (fun _ _ => ?_); (first | exact .move _ | exact .load _ _ | exact .fieldAddr _ _ _ (by kernel_rfl) | exact .assign _ | exact .binOp _ _ _ _ _ rfl | exact .indexAddr _ _ _ | exact .len _ _ (by kernel_rfl) | exact .field _ _ _ | exact .extract _ _ | exact .pick _ _ _ | exact .build _ _ | exact .slice _ _ _ _ _ | exact .unOp _ _ _ rfl | exact .index _ _ _ | exact .max _ _ _ rfl rfl | exact .min _ _ _ rfl rfl | exact .nilCheck _ _ rfl)) | ((with_reducible refine Calmly.is_gl ?_); refine Calmly.mix_gl rfl rfl rfl ?_; first | ((first | with_reducible refine Calmly.gl_tt ?_ (fun _ _ => ?_) | with_reducible refine Calmly.gl_ff ?_ (fun _ _ => ?_)); (first | exact .move _ | exact .load _ _ | exact .fieldAddr _ _ _ (by kernel_rfl) | exact .assign _ | exact .binOp _ _ _ _ _ rfl | exact .indexAddr _ _ _ | exact .len _ _ (by kernel_rfl) | exact .field _ _ _ | exact .extract _ _ | exact .pick _ _ _ | exact .build _ _ | exact .slice _ _ _ _ _ | exact .unOp _ _ _ rfl | exact .index _ _ _ | exact .max _ _ _ rfl rfl | exact .min _ _ _ rfl rfl | exact .nilCheck _ _ rfl)) | with_reducible refine Calmly.gl_tf (fun _ _ => ?_) | with_reducible refine Calmly.gl_ft (fun _ _ => ?_)) | ((with_reducible refine Calmly.is_eff ?_); refine Calmly.mix_eff rfl (fun _ _ => ?_)) | ((with_reducible refine Calmly.is_gf ?_); refine Calmly.mix_gf rfl rfl rfl ?_; first | with_reducible refine Calmly.gf_tt (fun _ _ => ?_) | with_reducible refine Calmly.gf_ff (fun _ _ => ?_) | with_reducible refine Calmly.gf_tf (kept_of hk) (fun _ _ => ?_) | with_reducible refine Calmly.gf_ft (kept_of hk) (fun _ _ => ?_)) | ((with_reducible refine Calmly.is_tail ?_); first | refine Calmly.mix_tail_nil ?_ | refine Calmly.mix_tail rfl (fun _ _ => ?_)) | ((with_reducible refine Calmly.is_kept ?_); refine ⟨kept_of hk, ?_⟩) | (with_reducible refine Calmly.mix_alt ?_ ?_) | (go_at_call 28; refine (CopySpring_any a n c l _ (s1.keep hk) (by omega)).mono ?_; rintro e w1 ⟨a1, c1, rfl, ho1, hb1⟩; replace hk := step_of hk hb1; (try (replace z15 := blk_keep z15 hb1; replace c15 := cell_block z15 0; replace c15' := cell_block z15 1; replace n15 := frozen_block z15 0; replace n15' := frozen_block z15 1)); (try dsimp only)) | (go_at_call 29; refine (CopyHold_any x avhH n cvhH sl _ (yshH.keep hk) (by omega)).mono ?_; rintro e w2 ⟨a3, c3, rfl, ho2, hb2⟩; replace hk := step_of hk hb2; have e1 := ho1.se.keep hb2; have e2 := ho2.ss; clear ho1; (try (replace z15 := blk_keep z15 hb2; replace c15 := cell_block z15 0; replace c15' := cell_block z15 1; replace n15 := frozen_block z15 0; replace n15' := frozen_block z15 1)); (try dsimp only)) | (go_at_call 30; refine (MovedTo_ok a1 a3 n c1 c3 l x H sl _ e1 e2 HOK.out HPH.out).mono ?_; rintro e w3 ⟨av3, cv3, rfl, ho3, hb3⟩; rw [E2.out] at ho3; replace hk := step_of hk hb3; (try (have hq15 := fun g o (e : av3 = some (⟨g, o, none⟩ : Addr)) => Nat.ne_of_gt (Nat.lt_of_lt_of_le (blk_lt z15) (ow_ge ho3 e)))); (try (replace z15 := blk_keep z15 hb3; replace c15 := cell_block z15 0; replace c15' := cell_block z15 1; replace n15 := frozen_block z15 0; replace n15' := frozen_block z15 1)); (try dsimp only)) | (refine kept_allocW hk (fun hk' hA hblk => ?_); (try (have hq15 := fun g o (e : av3 = some (⟨g, o, none⟩ : Addr)) => Nat.ne_of_lt (OwS.lt ho3 g o e))); (try replace ho1 := ho1.keep hA); (try replace e1 := e1.keep hA); (try replace e2 := e2.keep hA); (try replace ho3 := ho3.keep hA); have hq := hk.size; replace hk := hk'; clear hk'; have z15 := hblk; clear hblk; have c15 := cell_block z15 0; have c15' := cell_block z15 1; have n15 := frozen_block z15 0; have n15' := frozen_block z15 1; generalize World.alloc _ _ = X15 at *))
            all_goals
              apply HK25'.out
              · exact hk
              · exact ⟨_, _, hn, ho3.ss, In.of_owns ho3⟩
      clear hK13'
      have HK13' := Lib.hid HK13
      clear HK13
      have s1 := h1.keep BW
      obtain ⟨avhH, cvhH, ybhH, yshH, yihH⟩ := hH.ex
      have f0hH := cell_block ybhH 0
      have f1hH := cell_block ybhH 1
      try dsimp only
      go_wp2_with (first | (refine kept_st2M hk hq z15 (fun hk' ho hn => ?_); replace hk := hk'; clear hk'; clear ho; generalize World.setCell (World.setCell _ _ _) _ _ = W2 at *) | ((with_reducible refine Calmly.is_fl ?_); refine Calmly.mix_fl rfl ?_ (fun _ _ => ?_); (first | exact .move _ | exact .load _ _ | exact .fieldAddr _ _ _ (by kernel_rfl) | exact .assign _ | exact .binOp _ _ _ _ _ rfl | exact .indexAddr _ _ _ | exact .len _ _ (by kernel_rfl) | exact .field _ _ _ | exact .extract _ _ | exact .pick _ _ _ | exact .build _ _ | exact .slice _ _ _ _ _ | exact .unOp _ _ _ rfl | exact .index _ _ _ | exact .max _ _ _ rfl rfl | exact .min _ _ _ rfl rfl | exact .nilCheck _ _ rfl)) | ((with_reducible refine Calmly.is_gl ?_); refine Calmly.mix_gl rfl rfl rfl ?_; first | ((first | with_reducible refine Calmly.gl_tt ?_ (fun _ _ => ?_) | with_reducible refine Calmly.gl_ff ?_ (fun _ _ => ?_)); (first | exact .move _ | exact .load _ _ | exact .fieldAddr _ _ _ (by kernel_rfl) | exact .assign _ | exact .binOp _ _ _ _ _ rfl | exact .indexAddr _ _ _ | exact .len _ _ (by kernel_rfl) | exact .field _ _ _ | exact .extract _ _ | exact .pick _ _ _ | exact .build _ _ | exact .slice _ _ _ _ _ | exact .unOp _ _ _ rfl | exact .index _ _ _ | exact .max _ _ _ rfl rfl | exact .min _ _ _ rfl rfl | exact .nilCheck _ _ rfl)) | with_reducible refine Calmly.gl_tf (fun _ _ => ?_) | with_reducible refine Calmly.gl_ft (fun _ _ => ?_)) | ((with_reducible refine Calmly.is_eff ?_); refine Calmly.mix_eff rfl (fun _ _ => ?_)) | ((with_reducible refine Calmly.is_gf ?_); refine Calmly.mix_gf rfl rfl rfl ?_; first | with_reducible refine Calmly.gf_tt (fun _ _ => ?_) | with_reducible refine Calmly.gf_ff (fun _ _ => ?_) | with_reducible refine Calmly.gf_tf (kept_of hk) (fun _ _ => ?_) | with_reducible refine Calmly.gf_ft (kept_of hk) (fun _ _ => ?_)) | ((with_reducible refine Calmly.is_tail ?_); first | refine Calmly.mix_tail_nil ?_ | refine Calmly.mix_tail rfl (fun _ _ => ?_)) | ((with_reducible refine Calmly.is_kept ?_); refine ⟨kept_of hk, ?_⟩) | (with_reducible refine Calmly.mix_alt ?_ ?_) | (go_at_call 28; refine (CopySpring_any a n c l _ (s1.keep hk) (by omega)).mono ?_; rintro e w1 ⟨a1, c1, rfl, ho1, hb1⟩; replace hk := step_of hk hb1; (try (replace z15 := blk_keep z15 hb1; replace c15 := cell_block z15 0; replace c15' := cell_block z15 1; replace n15 := frozen_block z15 0; replace n15' := frozen_block z15 1)); (try dsimp only)) | (go_at_call 29; refine (CopyHold_any x avhH n cvhH sl _ (yshH.keep hk) (by omega)).mono ?_; rintro e w2 ⟨a3, c3, rfl, ho2, hb2⟩; replace hk := step_of hk hb2; have e1 := ho1.se.keep hb2; have e2 := ho2.ss; clear ho1; (try (replace z15 := blk_keep z15 hb2; replace c15 := cell_block z15 0; replace c15' := cell_block z15 1; replace n15 := frozen_block z15 0; replace n15' := frozen_block z15 1)); (try dsimp only)) | (go_at_call 31; refine (WorkTo_ok a1 a3 n c1 n c3 l x z sl _ e1 e2 HOK.out HPZ.out).mono ?_; rintro e w3 ⟨rfl, hb3⟩; rw [E6.out, E7.out]; replace hk := step_of hk hb3; (try (replace z15 := blk_keep z15 hb3; replace c15 := cell_block z15 0; replace c15' := cell_block z15 1; replace n15 := frozen_block z15 0; replace n15' := frozen_block z15 1)); (try dsimp only)) | (refine kept_allocW hk (fun hk' hA hblk => ?_); (try (have hq15 := fun g o (e : av3 = some (⟨g, o, none⟩ : Addr)) => Nat.ne_of_lt (OwS.lt ho3 g o e))); (try replace ho1 := ho1.keep hA); (try replace e1 := e1.keep hA); (try replace e2 := e2.keep hA); (try replace ho3 := ho3.keep hA); have hq := hk.size; replace hk := hk'; clear hk'; have z15 := hblk; clear hblk; have c15 := cell_block z15 0; have c15' := cell_block z15 1; have n15 := frozen_block z15 0; have n15' := frozen_block z15 1; generalize World.alloc _ _ = X15 at *))
      all_goals
        apply HK13'.out
        · exact hk
        · exact ⟨hn⟩
    clear hK12'
    have HK12' := Lib.hid HK12
    clear HK12
    have s1 := h1.keep BW
    obtain ⟨avhH, cvhH, ybhH, yshH, yihH⟩ := hH.ex
    have f0hH := cell_block ybhH 0
    have f1hH := cell_block ybhH 1
    try dsimp only
    go_wp2_with (first | (refine kept_st2M hk hq z15 (fun hk' ho hn => ?_); replace hk := hk'; clear hk'; replace ho3 := ow_not ho3 ho hq15; clear ho; generalize World.setCell (World.setCell _ _ _) _ _ = W2 at *) | ((with_reducible refine Calmly.is_fl ?_); refine Calmly.mix_fl rfl ?_ (fun _ _ => ?_); (first | exact .move _ | exact .load _ _ | exact .fieldAddr _ _ _ (by kernel_rfl) | exact .assign _ | exact .binOp _ _ _ _ _ rfl | exact .indexAddr _ _ _ | exact .len _ _ (by kernel_rfl) | exact .field _ _ _ | exact .extract _ _ | exact .pick _ _ _ | exact .build _ _ | exact .slice _ _ _ _ _ | exact .unOp _ _ _ rfl | exact .index _ _ _ | exact .max _ _ _ rfl rfl | exact .min _ _ _ rfl rfl | exact .nilCheck _ _ rfl)) | ((with_reducible refine Calmly.is_gl ?_); refine Calmly.mix_gl rfl rfl rfl ?_; first | ((first | with_reducible refine Calmly.gl_tt ?_ (fun _ _ => ?_) | with_reducible refine Calmly.gl_ff ?_ (fun _ _ => ?_)); (first | exact .move _ | exact .load _ _ | exact .fieldAddr _ _ _ (by kernel_rfl) | exact .assign _ | exact .binOp _ _ _ _ _ rfl | exact .indexAddr _ _ _ | exact .len _ _ (by kernel_rfl) | exact .field _ _ _ | exact .extract _ _ | exact .pick _ _ _ | exact .build _ _ | exact .slice _ _ _ _ _ | exact .unOp _ _ _ rfl | exact .index _ _ _ | exact .max _ _ _ rfl rfl | exact .min _ _ _ rfl rfl | exact .nilCheck _ _ rfl)) | with_reducible refine Calmly.gl_tf (fun _ _ => ?_) | with_reducible refine Calmly.gl_ft (fun _ _ => ?_)) | ((with_reducible refine Calmly.is_eff ?_); refine Calmly.mix_eff rfl (fun _ _ => ?_)) | ((with_reducible refine Calmly.is_gf ?_); refine Calmly.mix_gf rfl rfl rfl ?_; first | with_reducible refine Calmly.gf_tt (fun _ _ => ?_) | with_reducible refine Calmly.gf_ff (fun _ _ => ?_) | with_reducible refine Calmly.gf_tf (kept_of hk) (fun _ _ => ?_) | with_reducible refine Calmly.gf_ft (kept_of hk) (fun _ _ => ?_)) | ((with_reducible refine Calmly.is_tail ?_); first | refine Calmly.mix_tail_nil ?_ | refine Calmly.mix_tail rfl (fun _ _ => ?_)) | ((with_reducible refine Calmly.is_kept ?_); refine ⟨kept_of hk, ?_⟩) | (with_reducible refine Calmly.mix_alt ?_ ?_) | (go_at_call 28; refine (CopySpring_any a n c l _ (s1.keep hk) (by omega)).mono ?_; rintro e w1 ⟨a1, c1, rfl, ho1, hb1⟩; replace hk := step_of hk hb1; (try (replace z15 := blk_keep z15 hb1; replace c15 := cell_block z15 0; replace c15' := cell_block z15 1; replace n15 := frozen_block z15 0; replace n15' := frozen_block z15 1)); (try dsimp only)) | (go_at_call 29; refine (CopyHold_any x avhH n cvhH sl _ (yshH.keep hk) (by omega)).mono ?_; rintro e w2 ⟨a3, c3, rfl, ho2, hb2⟩; replace hk := step_of hk hb2; have e1 := ho1.se.keep hb2; have e2 := ho2.ss; clear ho1; (try (replace z15 := blk_keep z15 hb2; replace c15 := cell_block z15 0; replace c15' := cell_block z15 1; replace n15 := frozen_block z15 0; replace n15' := frozen_block z15 1)); (try dsimp only)) | (go_at_call 30; refine (MovedTo_ok a1 a3 n c1 c3 l x z sl _ e1 e2 HOK.out HPZ.out).mono ?_; rintro e w3 ⟨av3, cv3, rfl, ho3, hb3⟩; rw [E1.out] at ho3; replace hk := step_of hk hb3; (try (have hq15 := fun g o (e : av3 = some (⟨g, o, none⟩ : Addr)) => Nat.ne_of_gt (Nat.lt_of_lt_of_le (blk_lt z15) (ow_ge ho3 e)))); (try (replace z15 := blk_keep z15 hb3; replace c15 := cell_block z15 0; replace c15' := cell_block z15 1; replace n15 := frozen_block z15 0; replace n15' := frozen_block z15 1)); (try dsimp only)) | (refine kept_allocW hk (fun hk' hA hblk => ?_); (try (have hq15 := fun g o (e : av3 = some (⟨g, o, none⟩ : Addr)) => Nat.ne_of_lt (OwS.lt ho3 g o e))); (try replace ho1 := ho1.keep hA); (try replace e1 := e1.keep hA); (try replace e2 := e2.keep hA); (try replace ho3 := ho3.keep hA); have hq := hk.size; replace hk := hk'; clear hk'; have z15 := hblk; clear hblk; have c15 := cell_block z15 0; have c15' := cell_block z15 1; have n15 := frozen_block z15 0; have n15' := frozen_block z15 1; generalize World.alloc _ _ = X15 at *))
    all_goals
      apply HK12'.out
      · exact hk
      · exact ⟨_, _, hn, ho3.ss, In.of_owns ho3⟩
end Go.Proofs.Ytaiikekgckjdeaa
