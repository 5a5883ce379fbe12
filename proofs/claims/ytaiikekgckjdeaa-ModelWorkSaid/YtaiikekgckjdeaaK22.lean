/- Springs are as specified: the law's walk. Printed by gen_m57.py. -/
import Derived.Test.YtaiikekgckjdeaaK21
namespace Go.Proofs.Ytaiikekgckjdeaa
open Go.RowKit
open Calmly (Kept)
theorem kept_alloc2 {W w : World} {o : Obj} {G : Prop} (h : Below W.heap.size W w) (k : Below W.heap.size W (w.alloc o) → Below w.heap.size w (w.alloc o) → (w.alloc o).heap[w.heap.size]? = some o → G) : Kept W (w.alloc o) ∧ G :=
  ⟨kept_of (h.alloc h.size o), k (h.alloc h.size o) ((Below.refl _ _).alloc (Nat.le_refl _) o) (alloc_new w o)⟩
theorem ow_ge {w : World} {B : Nat} {av : Option Addr} {n c : Nat} {xs : List Sp} (h : OwS w B av n c xs) {g o : Nat} (e : av = some ⟨g, o, none⟩) : B ≤ g := by
  subst e
  exact (World.ownsRow.lt h g rfl).1
theorem first_bad {a b : Int} (h : a ≠ 0) : firstE [a, b] = a := by
  show (if a = 0 then _ else a) = a
  rw [if_neg h]
theorem first_ok {a b : Int} (h : a = 0) : firstE [a, b] = b := by
  subst h
  show (if (0 : Int) = 0 then (if b = 0 then 0 else b) else 0) = b
  rw [if_pos rfl]
  split
  · rename_i h; exact h.symm
  · rfl
theorem spr_bad {l : List El} {at1 at2 : Int} {sl : List Sp} (h : (sprE l).2 ≠ 0) : chkE l at1 sl = sprE l ∧ opnE l at1 sl at2 = (sprE l).2 ∧ bbE l at2 = (sprE l).2 := by
  have h1 : chkE l at1 sl = sprE l := by rw [chkE, if_neg h]
  exact ⟨h1, by rw [opnE, h1, first_bad h], by rw [bbE, first_bad h]⟩
theorem chk_hld {l : List El} {at1 : Int} {sl : List Sp} (h : (sprE l).2 = 0) : chkE l at1 sl = hldE l at1 sl := by rw [chkE, if_pos h]
theorem bg_elB {l : List El} {n : Nat} {at2 : Int} (h : ∀ j, j < n → elErr (l[j]?.getD el0) = 0) (hp : plc at2 = true) {i : Nat} (hi : i < n) : ElB (l[i]?.getD el0).1 (l[i]?.getD el0).2.1 ((List.replicate n sp0)[i]?.getD sp0).1 at2 := by
  have h1 := elErr_ok (h i hi)
  have h2 := plc_ok hp
  have h3 : (List.replicate n sp0)[i]?.getD sp0 = sp0 := by simp [hi]
  rw [h3]
  exact ⟨by omega, by omega, by decide, by omega⟩
theorem mv_elB {l : List El} {n : Nat} {at2 : Int} (h : ∀ j, j < n → elErr (l[j]?.getD el0) = 0) (hp : plc at2 = true) {i : Nat} (hi : i < n) : ElB (l[i]?.getD el0).1 (l[i]?.getD el0).2.1 (((List.range n).map (mvRow l (List.replicate n sp0) at2))[i]?.getD sp0).1 at2 := by
  have h1 := elErr_ok (h i hi)
  have h2 := plc_ok hp
  have h3 : (List.replicate n sp0)[i]?.getD sp0 = sp0 := by simp [hi]
  have h4 : ((List.range n).map (mvRow l (List.replicate n sp0) at2))[i]?.getD sp0 = mvRow l (List.replicate n sp0) at2 i := by simp [hi]
  rw [h4]
  have h5 := mvSlip_bd (y := (l[i]?.getD el0).2.1) (s := 0) (at2 := at2) (b := (l[i]?.getD el0).2.2) (br := false) h1.2.1 (by omega) h2
  have h6 : (mvRow l (List.replicate n sp0) at2 i).1 = mvSlip (l[i]?.getD el0).2.1 (l[i]?.getD el0).2.2 0 false at2 := by rw [mvRow, h3]; rfl
  rw [h6]
  exact ⟨by omega, by omega, h5, by omega⟩
set_option maxRecDepth 100000 in
theorem fewEl_any (a a2 : Option Addr) (n c n2 c2 : Nat) (at1 : Int) (w : World) (_ : n ≤ c) (_ : n2 ≤ c2) (_ : c ≤ 9223372036854775807) (_ : c2 ≤ 9223372036854775807) :
    Calls Try.prog 34 #[.slice a n c, .agg #[.int .i64 at1, .slice a2 n2 c2]] w fun e w' => e = .returned (.bool (decide (n ≤ 6 ∧ n2 ≤ 6))) ∧ Below w.heap.size w w' := by
  have y3 := alloc_new w (.cells #[.int .i64 at1, .slice a2 n2 c2] 49)
  have f1 := cell_block y3 1
  have BW : Below w.heap.size w (w.alloc (.cells #[.int .i64 at1, .slice a2 n2 c2] 49)) := (Below.refl _ _).alloc (Nat.le_refl _) _
  by_cases h1 : n ≤ 6
  · have b1 : (n : Int) ≤ 6 := by omega
    by_cases h2 : n2 ≤ 6
    · have b2 : (n2 : Int) ≤ 6 := by omega
      rw [show decide (n ≤ 6 ∧ n2 ≤ 6) = true by simp [h1, h2]]
      go_enter Try.func34, Try.ntmps34
      go_wp2_with fail
      go_ret
      exact ⟨ret_bool (by simp), BW⟩
    · have b2 : ¬ (n2 : Int) ≤ 6 := by omega
      rw [show decide (n ≤ 6 ∧ n2 ≤ 6) = false by simp [h2]]
      go_enter Try.func34, Try.ntmps34
      go_wp2_with fail
      go_ret
      exact ⟨ret_bool (by simp), BW⟩
  · have b1 : ¬ (n : Int) ≤ 6 := by omega
    rw [show decide (n ≤ 6 ∧ n2 ≤ 6) = false by simp [h1]]
    go_enter Try.func34, Try.ntmps34
    go_wp2_with fail
    go_ret
    exact ⟨ret_bool (by simp), BW⟩
set_option maxRecDepth 100000 in
set_option maxHeartbeats 8000000 in
theorem ModelSprings_walk (a a2 : Option Addr) (n c n2 c2 : Nat) (l : List El) (at1 at2 : Int) (sl : List Sp) (w : World) (h1 : SEl w a n c l) (h2 : SSp w a2 n2 c2 sl) :
    Calls Try.prog 5 #[.slice a n c, .agg #[.int .i64 at1, .slice a2 n2 c2], .int .i64 at2] w fun e w' => e = .returned (.bool true) ∧ Below w.heap.size w w' := by
  have m1 := h1.max
  have cc1 := h1.cap
  have m2 := h2.max
  have cc2 := h2.cap
  obtain ⟨SI, hSI⟩ : ∃ x, (sprE l).1 = x := ⟨_, rfl⟩
  obtain ⟨SE, hSE⟩ : ∃ x, (sprE l).2 = x := ⟨_, rfl⟩
  obtain ⟨CI, hCI⟩ : ∃ x, (chkE l at1 sl).1 = x := ⟨_, rfl⟩
  obtain ⟨CE, hCE⟩ : ∃ x, (chkE l at1 sl).2 = x := ⟨_, rfl⟩
  obtain ⟨FO, hFO⟩ : ∃ x, (if (chkE l at1 sl).2 = 0 then frcS l at1 sl else 0) = x := ⟨_, rfl⟩
  obtain ⟨EN, hEN⟩ : ∃ x, (if (chkE l at1 sl).2 = 0 then enrS l at1 sl else 0) = x := ⟨_, rfl⟩
  obtain ⟨OE, hOE⟩ : ∃ x, opnE l at1 sl at2 = x := ⟨_, rfl⟩
  obtain ⟨MA, hMA⟩ : ∃ x, (if opnE l at1 sl at2 = 0 then at2 else 0) = x := ⟨_, rfl⟩
  obtain ⟨MR, hMR⟩ : ∃ x, (if opnE l at1 sl at2 = 0 then mvdS l sl at2 else []) = x := ⟨_, rfl⟩
  obtain ⟨WK, hWK⟩ : ∃ x, (if opnE l at1 sl at2 = 0 then wrkS l sl at1 at2 else 0) = x := ⟨_, rfl⟩
  obtain ⟨LS, hLS⟩ : ∃ x, (if opnE l at1 sl at2 = 0 then losS l sl at2 else 0) = x := ⟨_, rfl⟩
  obtain ⟨BB, hBB⟩ : ∃ x, (if bbE l at2 = 0 then bbS l at2 else 0) = x := ⟨_, rfl⟩
  obtain ⟨BE, hBE⟩ : ∃ x, bbE l at2 = x := ⟨_, rfl⟩
  have HSI := Lib.hid hSI
  have HSE := Lib.hid hSE
  have HCI := Lib.hid hCI
  have HCE := Lib.hid hCE
  have HFO := Lib.hid hFO
  have HEN := Lib.hid hEN
  have HOE := Lib.hid hOE
  have HMA := Lib.hid hMA
  have HMR := Lib.hid hMR
  have HWK := Lib.hid hWK
  have HLS := Lib.hid hLS
  have HBB := Lib.hid hBB
  have HBE := Lib.hid hBE
  clear hSI hSE hCI hCE hFO hEN hOE hMA hMR hWK hLS hBB hBE
  have y4 := alloc_new w (.cells #[.int .i64 at1, .slice a2 n2 c2] 49)
  have BW : Below w.heap.size w (w.alloc (.cells #[.int .i64 at1, .slice a2 n2 c2] 49)) := (Below.refl _ _).alloc (Nat.le_refl _) _
  go_enter Try.func5, Try.ntmps5
  go_wp2_with fail
  refine (awake_any _).mono ?_
  rintro e w1 ⟨rfl, hb1⟩
  replace y4 := blk_keep y4 hb1
  replace BW := BW.trans (hb1.mono BW.size)
  have f0 := cell_block y4 0
  have f1 := cell_block y4 1
  go_wp2_with fail
  refine (fewEl_any a a2 n c n2 c2 at1 _ cc1 cc2 m1 m2).mono ?_
  rintro e w2 ⟨rfl, hb2⟩
  replace y4 := blk_keep y4 hb2
  replace BW := BW.trans (hb2.mono BW.size)
  clear hb1 hb2 f0 f1
  clear w1
  by_cases hfew : n ≤ 6 ∧ n2 ≤ 6
  case neg =>
    have b1 : decide (n ≤ 6 ∧ n2 ≤ 6) = false := by simpa using hfew
    rw [b1]
    go_wp2_with fail
    go_ret
    exact ⟨ret_bool (by simp), BW⟩
  case pos =>
    have b1 : decide (n ≤ 6 ∧ n2 ≤ 6) = true := by simpa using hfew
    rw [b1]
    obtain ⟨hn, hn2⟩ := hfew
    clear b1
    have f0 := cell_block y4 0
    have f1 := cell_block y4 1
    go_wp2_with fail
    refine (CopySpring_any a n c l _ (h1.keep BW) (by omega)).mono ?_
    rintro e w1 ⟨a1, c1, rfl, ho1, hb1⟩
    go_wp2_with fail
    refine (CheckSpring_any a1 n c1 l _ ho1.se).mono ?_
    rintro e w3 ⟨rfl, hb3⟩
    replace y4 := blk_keep (blk_keep y4 hb1) hb3
    replace BW := (BW.trans (hb1.mono BW.size)).trans (hb3.mono (BW.trans (hb1.mono BW.size)).size)
    rw [HSI.out, HSE.out]
    clear f0 f1 ho1
    go_wp2_with fail
    clear hb1 hb3
    generalize w3 = W at *
    refine Calmly.wp_region_mix 9 (.fl 0 <| .fl 2 <| .eff 1 <| .eff 3 <| .eff 4 <| .fl 5 <| .fl 6 <| .fl 7 <| .fl 8 <| .tail [9]) (by kernel_rfl) (by kernel_rfl) ?_
    have BD : Below W.heap.size W W.drew := (Below.refl _ _).drew
    replace y4 := blk_keep y4 BD
    replace BW := BW.trans (BD.mono BW.size)
    clear BD
    generalize W.drew = V at *
    have hk := Below.refl V.heap.size V
    have f0 := cell_block y4 0
    have f1 := cell_block y4 1
    go_wp2_with (first | ((with_reducible refine Calmly.is_fl ?_); refine Calmly.mix_fl rfl ?_ (fun _ _ => ?_); (first | exact .move _ | exact .load _ _ | exact .fieldAddr _ _ _ (by kernel_rfl) | exact .assign _ | exact .binOp _ _ _ _ _ rfl | exact .indexAddr _ _ _ | exact .len _ _ (by kernel_rfl) | exact .field _ _ _ | exact .extract _ _ | exact .pick _ _ _ | exact .build _ _ | exact .slice _ _ _ _ _ | exact .unOp _ _ _ rfl | exact .index _ _ _ | exact .max _ _ _ rfl rfl | exact .min _ _ _ rfl rfl | exact .nilCheck _ _ rfl)) | ((with_reducible refine Calmly.is_gl ?_); refine Calmly.mix_gl rfl rfl rfl ?_; first | ((first | with_reducible refine Calmly.gl_tt ?_ (fun _ _ => ?_) | with_reducible refine Calmly.gl_ff ?_ (fun _ _ => ?_)); (first | exact .move _ | exact .load _ _ | exact .fieldAddr _ _ _ (by kernel_rfl) | exact .assign _ | exact .binOp _ _ _ _ _ rfl | exact .indexAddr _ _ _ | exact .len _ _ (by kernel_rfl) | exact .field _ _ _ | exact .extract _ _ | exact .pick _ _ _ | exact .build _ _ | exact .slice _ _ _ _ _ | exact .unOp _ _ _ rfl | exact .index _ _ _ | exact .max _ _ _ rfl rfl | exact .min _ _ _ rfl rfl | exact .nilCheck _ _ rfl)) | with_reducible refine Calmly.gl_tf (fun _ _ => ?_) | with_reducible refine Calmly.gl_ft (fun _ _ => ?_)) | ((with_reducible refine Calmly.is_eff ?_); refine Calmly.mix_eff rfl (fun _ _ => ?_)) | ((with_reducible refine Calmly.is_gf ?_); refine Calmly.mix_gf rfl rfl rfl ?_; first | with_reducible refine Calmly.gf_tt (fun _ _ => ?_) | with_reducible refine Calmly.gf_ff (fun _ _ => ?_) | with_reducible refine Calmly.gf_tf (kept_of hk) (fun _ _ => ?_) | with_reducible refine Calmly.gf_ft (kept_of hk) (fun _ _ => ?_)) | ((with_reducible refine Calmly.is_tail ?_); first | refine Calmly.mix_tail_nil ?_ | refine Calmly.mix_tail rfl (fun _ _ => ?_)) | ((with_reducible refine Calmly.is_kept ?_); refine ⟨kept_of hk, ?_⟩) | (with_reducible refine Calmly.mix_alt ?_ ?_))
    refine (CopySpring_any a n c l _ ((h1.keep BW).keep hk) (by omega)).mono ?_
    rintro e w1 ⟨a1, c1, rfl, ho1, hb1⟩
    replace hk := step_of hk hb1
    go_wp2_with (first | ((with_reducible refine Calmly.is_fl ?_); refine Calmly.mix_fl rfl ?_ (fun _ _ => ?_); (first | exact .move _ | exact .load _ _ | exact .fieldAddr _ _ _ (by kernel_rfl) | exact .assign _ | exact .binOp _ _ _ _ _ rfl | exact .indexAddr _ _ _ | exact .len _ _ (by kernel_rfl) | exact .field _ _ _ | exact .extract _ _ | exact .pick _ _ _ | exact .build _ _ | exact .slice _ _ _ _ _ | exact .unOp _ _ _ rfl | exact .index _ _ _ | exact .max _ _ _ rfl rfl | exact .min _ _ _ rfl rfl | exact .nilCheck _ _ rfl)) | ((with_reducible refine Calmly.is_gl ?_); refine Calmly.mix_gl rfl rfl rfl ?_; first | ((first | with_reducible refine Calmly.gl_tt ?_ (fun _ _ => ?_) | with_reducible refine Calmly.gl_ff ?_ (fun _ _ => ?_)); (first | exact .move _ | exact .load _ _ | exact .fieldAddr _ _ _ (by kernel_rfl) | exact .assign _ | exact .binOp _ _ _ _ _ rfl | exact .indexAddr _ _ _ | exact .len _ _ (by kernel_rfl) | exact .field _ _ _ | exact .extract _ _ | exact .pick _ _ _ | exact .build _ _ | exact .slice _ _ _ _ _ | exact .unOp _ _ _ rfl | exact .index _ _ _ | exact .max _ _ _ rfl rfl | exact .min _ _ _ rfl rfl | exact .nilCheck _ _ rfl)) | with_reducible refine Calmly.gl_tf (fun _ _ => ?_) | with_reducible refine Calmly.gl_ft (fun _ _ => ?_)) | ((with_reducible refine Calmly.is_eff ?_); refine Calmly.mix_eff rfl (fun _ _ => ?_)) | ((with_reducible refine Calmly.is_gf ?_); refine Calmly.mix_gf rfl rfl rfl ?_; first | with_reducible refine Calmly.gf_tt (fun _ _ => ?_) | with_reducible refine Calmly.gf_ff (fun _ _ => ?_) | with_reducible refine Calmly.gf_tf (kept_of hk) (fun _ _ => ?_) | with_reducible refine Calmly.gf_ft (kept_of hk) (fun _ _ => ?_)) | ((with_reducible refine Calmly.is_tail ?_); first | refine Calmly.mix_tail_nil ?_ | refine Calmly.mix_tail rfl (fun _ _ => ?_)) | ((with_reducible refine Calmly.is_kept ?_); refine ⟨kept_of hk, ?_⟩) | (with_reducible refine Calmly.mix_alt ?_ ?_))
    refine (CopyHold_any at1 a2 n2 c2 sl _ ((h2.keep BW).keep hk) (by omega)).mono ?_
    rintro e w2 ⟨a3, c3, rfl, ho2, hb2⟩
    replace hk := step_of hk hb2
    have e1 := ho1.se.keep hb2
    have e2 := ho2.ss
    go_wp2_with (first | ((with_reducible refine Calmly.is_fl ?_); refine Calmly.mix_fl rfl ?_ (fun _ _ => ?_); (first | exact .move _ | exact .load _ _ | exact .fieldAddr _ _ _ (by kernel_rfl) | exact .assign _ | exact .binOp _ _ _ _ _ rfl | exact .indexAddr _ _ _ | exact .len _ _ (by kernel_rfl) | exact .field _ _ _ | exact .extract _ _ | exact .pick _ _ _ | exact .build _ _ | exact .slice _ _ _ _ _ | exact .unOp _ _ _ rfl | exact .index _ _ _ | exact .max _ _ _ rfl rfl | exact .min _ _ _ rfl rfl | exact .nilCheck _ _ rfl)) | ((with_reducible refine Calmly.is_gl ?_); refine Calmly.mix_gl rfl rfl rfl ?_; first | ((first | with_reducible refine Calmly.gl_tt ?_ (fun _ _ => ?_) | with_reducible refine Calmly.gl_ff ?_ (fun _ _ => ?_)); (first | exact .move _ | exact .load _ _ | exact .fieldAddr _ _ _ (by kernel_rfl) | exact .assign _ | exact .binOp _ _ _ _ _ rfl | exact .indexAddr _ _ _ | exact .len _ _ (by kernel_rfl) | exact .field _ _ _ | exact .extract _ _ | exact .pick _ _ _ | exact .build _ _ | exact .slice _ _ _ _ _ | exact .unOp _ _ _ rfl | exact .index _ _ _ | exact .max _ _ _ rfl rfl | exact .min _ _ _ rfl rfl | exact .nilCheck _ _ rfl)) | with_reducible refine Calmly.gl_tf (fun _ _ => ?_) | with_reducible refine Calmly.gl_ft (fun _ _ => ?_)) | ((with_reducible refine Calmly.is_eff ?_); refine Calmly.mix_eff rfl (fun _ _ => ?_)) | ((with_reducible refine Calmly.is_gf ?_); refine Calmly.mix_gf rfl rfl rfl ?_; first | with_reducible refine Calmly.gf_tt (fun _ _ => ?_) | with_reducible refine Calmly.gf_ff (fun _ _ => ?_) | with_reducible refine Calmly.gf_tf (kept_of hk) (fun _ _ => ?_) | with_reducible refine Calmly.gf_ft (kept_of hk) (fun _ _ => ?_)) | ((with_reducible refine Calmly.is_tail ?_); first | refine Calmly.mix_tail_nil ?_ | refine Calmly.mix_tail rfl (fun _ _ => ?_)) | ((with_reducible refine Calmly.is_kept ?_); refine ⟨kept_of hk, ?_⟩) | (with_reducible refine Calmly.mix_alt ?_ ?_))
    refine (CheckHold_any a1 a3 n c1 n2 c3 l at1 sl _ e1 e2).mono ?_
    rintro e w3 ⟨rfl, hb3⟩
    replace hk := step_of hk hb3
    rw [HCI.out, HCE.out]
    go_wp2_with (first | ((with_reducible refine Calmly.is_fl ?_); refine Calmly.mix_fl rfl ?_ (fun _ _ => ?_); (first | exact .move _ | exact .load _ _ | exact .fieldAddr _ _ _ (by kernel_rfl) | exact .assign _ | exact .binOp _ _ _ _ _ rfl | exact .indexAddr _ _ _ | exact .len _ _ (by kernel_rfl) | exact .field _ _ _ | exact .extract _ _ | exact .pick _ _ _ | exact .build _ _ | exact .slice _ _ _ _ _ | exact .unOp _ _ _ rfl | exact .index _ _ _ | exact .max _ _ _ rfl rfl | exact .min _ _ _ rfl rfl | exact .nilCheck _ _ rfl)) | ((with_reducible refine Calmly.is_gl ?_); refine Calmly.mix_gl rfl rfl rfl ?_; first | ((first | with_reducible refine Calmly.gl_tt ?_ (fun _ _ => ?_) | with_reducible refine Calmly.gl_ff ?_ (fun _ _ => ?_)); (first | exact .move _ | exact .load _ _ | exact .fieldAddr _ _ _ (by kernel_rfl) | exact .assign _ | exact .binOp _ _ _ _ _ rfl | exact .indexAddr _ _ _ | exact .len _ _ (by kernel_rfl) | exact .field _ _ _ | exact .extract _ _ | exact .pick _ _ _ | exact .build _ _ | exact .slice _ _ _ _ _ | exact .unOp _ _ _ rfl | exact .index _ _ _ | exact .max _ _ _ rfl rfl | exact .min _ _ _ rfl rfl | exact .nilCheck _ _ rfl)) | with_reducible refine Calmly.gl_tf (fun _ _ => ?_) | with_reducible refine Calmly.gl_ft (fun _ _ => ?_)) | ((with_reducible refine Calmly.is_eff ?_); refine Calmly.mix_eff rfl (fun _ _ => ?_)) | ((with_reducible refine Calmly.is_gf ?_); refine Calmly.mix_gf rfl rfl rfl ?_; first | with_reducible refine Calmly.gf_tt (fun _ _ => ?_) | with_reducible refine Calmly.gf_ff (fun _ _ => ?_) | with_reducible refine Calmly.gf_tf (kept_of hk) (fun _ _ => ?_) | with_reducible refine Calmly.gf_ft (kept_of hk) (fun _ _ => ?_)) | ((with_reducible refine Calmly.is_tail ?_); first | refine Calmly.mix_tail_nil ?_ | refine Calmly.mix_tail rfl (fun _ _ => ?_)) | ((with_reducible refine Calmly.is_kept ?_); refine ⟨kept_of hk, ?_⟩) | (with_reducible refine Calmly.mix_alt ?_ ?_))
    replace y4 := blk_keep y4 hk
    replace BW := BW.trans (hk.mono BW.size)
    clear hk f0 f1 e1 e2 hb3 hb2 hb1 ho1 ho2
    generalize w3 = W at *
    refine Calmly.wp_region_mix 9 (.fl 0 <| .fl 2 <| .eff 1 <| .eff 3 <| .eff 4 <| .fl 5 <| .fl 6 <| .fl 7 <| .fl 8 <| .tail [9]) (by kernel_rfl) (by kernel_rfl) ?_
    have BD : Below W.heap.size W W.drew := (Below.refl _ _).drew
    replace y4 := blk_keep y4 BD
    replace BW := BW.trans (BD.mono BW.size)
    clear BD
    generalize W.drew = V at *
    have hk := Below.refl V.heap.size V
    have f0 := cell_block y4 0
    have f1 := cell_block y4 1
    go_wp2_with (first | ((with_reducible refine Calmly.is_fl ?_); refine Calmly.mix_fl rfl ?_ (fun _ _ => ?_); (first | exact .move _ | exact .load _ _ | exact .fieldAddr _ _ _ (by kernel_rfl) | exact .assign _ | exact .binOp _ _ _ _ _ rfl | exact .indexAddr _ _ _ | exact .len _ _ (by kernel_rfl) | exact .field _ _ _ | exact .extract _ _ | exact .pick _ _ _ | exact .build _ _ | exact .slice _ _ _ _ _ | exact .unOp _ _ _ rfl | exact .index _ _ _ | exact .max _ _ _ rfl rfl | exact .min _ _ _ rfl rfl | exact .nilCheck _ _ rfl)) | ((with_reducible refine Calmly.is_gl ?_); refine Calmly.mix_gl rfl rfl rfl ?_; first | ((first | with_reducible refine Calmly.gl_tt ?_ (fun _ _ => ?_) | with_reducible refine Calmly.gl_ff ?_ (fun _ _ => ?_)); (first | exact .move _ | exact .load _ _ | exact .fieldAddr _ _ _ (by kernel_rfl) | exact .assign _ | exact .binOp _ _ _ _ _ rfl | exact .indexAddr _ _ _ | exact .len _ _ (by kernel_rfl) | exact .field _ _ _ | exact .extract _ _ | exact .pick _ _ _ | exact .build _ _ | exact .slice _ _ _ _ _ | exact .unOp _ _ _ rfl | exact .index _ _ _ | exact .max _ _ _ rfl rfl | exact .min _ _ _ rfl rfl | exact .nilCheck _ _ rfl)) | with_reducible refine Calmly.gl_tf (fun _ _ => ?_) | with_reducible refine Calmly.gl_ft (fun _ _ => ?_)) | ((with_reducible refine Calmly.is_eff ?_); refine Calmly.mix_eff rfl (fun _ _ => ?_)) | ((with_reducible refine Calmly.is_gf ?_); refine Calmly.mix_gf rfl rfl rfl ?_; first | with_reducible refine Calmly.gf_tt (fun _ _ => ?_) | with_reducible refine Calmly.gf_ff (fun _ _ => ?_) | with_reducible refine Calmly.gf_tf (kept_of hk) (fun _ _ => ?_) | with_reducible refine Calmly.gf_ft (kept_of hk) (fun _ _ => ?_)) | ((with_reducible refine Calmly.is_tail ?_); first | refine Calmly.mix_tail_nil ?_ | refine Calmly.mix_tail rfl (fun _ _ => ?_)) | ((with_reducible refine Calmly.is_kept ?_); refine ⟨kept_of hk, ?_⟩) | (with_reducible refine Calmly.mix_alt ?_ ?_))
    refine (CopySpring_any a n c l _ ((h1.keep BW).keep hk) (by omega)).mono ?_
    rintro e w1 ⟨a1, c1, rfl, ho1, hb1⟩
    replace hk := step_of hk hb1
    go_wp2_with (first | ((with_reducible refine Calmly.is_fl ?_); refine Calmly.mix_fl rfl ?_ (fun _ _ => ?_); (first | exact .move _ | exact .load _ _ | exact .fieldAddr _ _ _ (by kernel_rfl) | exact .assign _ | exact .binOp _ _ _ _ _ rfl | exact .indexAddr _ _ _ | exact .len _ _ (by kernel_rfl) | exact .field _ _ _ | exact .extract _ _ | exact .pick _ _ _ | exact .build _ _ | exact .slice _ _ _ _ _ | exact .unOp _ _ _ rfl | exact .index _ _ _ | exact .max _ _ _ rfl rfl | exact .min _ _ _ rfl rfl | exact .nilCheck _ _ rfl)) | ((with_reducible refine Calmly.is_gl ?_); refine Calmly.mix_gl rfl rfl rfl ?_; first | ((first | with_reducible refine Calmly.gl_tt ?_ (fun _ _ => ?_) | with_reducible refine Calmly.gl_ff ?_ (fun _ _ => ?_)); (first | exact .move _ | exact .load _ _ | exact .fieldAddr _ _ _ (by kernel_rfl) | exact .assign _ | exact .binOp _ _ _ _ _ rfl | exact .indexAddr _ _ _ | exact .len _ _ (by kernel_rfl) | exact .field _ _ _ | exact .extract _ _ | exact .pick _ _ _ | exact .build _ _ | exact .slice _ _ _ _ _ | exact .unOp _ _ _ rfl | exact .index _ _ _ | exact .max _ _ _ rfl rfl | exact .min _ _ _ rfl rfl | exact .nilCheck _ _ rfl)) | with_reducible refine Calmly.gl_tf (fun _ _ => ?_) | with_reducible refine Calmly.gl_ft (fun _ _ => ?_)) | ((with_reducible refine Calmly.is_eff ?_); refine Calmly.mix_eff rfl (fun _ _ => ?_)) | ((with_reducible refine Calmly.is_gf ?_); refine Calmly.mix_gf rfl rfl rfl ?_; first | with_reducible refine Calmly.gf_tt (fun _ _ => ?_) | with_reducible refine Calmly.gf_ff (fun _ _ => ?_) | with_reducible refine Calmly.gf_tf (kept_of hk) (fun _ _ => ?_) | with_reducible refine Calmly.gf_ft (kept_of hk) (fun _ _ => ?_)) | ((with_reducible refine Calmly.is_tail ?_); first | refine Calmly.mix_tail_nil ?_ | refine Calmly.mix_tail rfl (fun _ _ => ?_)) | ((with_reducible refine Calmly.is_kept ?_); refine ⟨kept_of hk, ?_⟩) | (with_reducible refine Calmly.mix_alt ?_ ?_))
    refine (CopyHold_any at1 a2 n2 c2 sl _ ((h2.keep BW).keep hk) (by omega)).mono ?_
    rintro e w2 ⟨a3, c3, rfl, ho2, hb2⟩
    replace hk := step_of hk hb2
    have e1 := ho1.se.keep hb2
    have e2 := ho2.ss
    go_wp2_with (first | ((with_reducible refine Calmly.is_fl ?_); refine Calmly.mix_fl rfl ?_ (fun _ _ => ?_); (first | exact .move _ | exact .load _ _ | exact .fieldAddr _ _ _ (by kernel_rfl) | exact .assign _ | exact .binOp _ _ _ _ _ rfl | exact .indexAddr _ _ _ | exact .len _ _ (by kernel_rfl) | exact .field _ _ _ | exact .extract _ _ | exact .pick _ _ _ | exact .build _ _ | exact .slice _ _ _ _ _ | exact .unOp _ _ _ rfl | exact .index _ _ _ | exact .max _ _ _ rfl rfl | exact .min _ _ _ rfl rfl | exact .nilCheck _ _ rfl)) | ((with_reducible refine Calmly.is_gl ?_); refine Calmly.mix_gl rfl rfl rfl ?_; first | ((first | with_reducible refine Calmly.gl_tt ?_ (fun _ _ => ?_) | with_reducible refine Calmly.gl_ff ?_ (fun _ _ => ?_)); (first | exact .move _ | exact .load _ _ | exact .fieldAddr _ _ _ (by kernel_rfl) | exact .assign _ | exact .binOp _ _ _ _ _ rfl | exact .indexAddr _ _ _ | exact .len _ _ (by kernel_rfl) | exact .field _ _ _ | exact .extract _ _ | exact .pick _ _ _ | exact .build _ _ | exact .slice _ _ _ _ _ | exact .unOp _ _ _ rfl | exact .index _ _ _ | exact .max _ _ _ rfl rfl | exact .min _ _ _ rfl rfl | exact .nilCheck _ _ rfl)) | with_reducible refine Calmly.gl_tf (fun _ _ => ?_) | with_reducible refine Calmly.gl_ft (fun _ _ => ?_)) | ((with_reducible refine Calmly.is_eff ?_); refine Calmly.mix_eff rfl (fun _ _ => ?_)) | ((with_reducible refine Calmly.is_gf ?_); refine Calmly.mix_gf rfl rfl rfl ?_; first | with_reducible refine Calmly.gf_tt (fun _ _ => ?_) | with_reducible refine Calmly.gf_ff (fun _ _ => ?_) | with_reducible refine Calmly.gf_tf (kept_of hk) (fun _ _ => ?_) | with_reducible refine Calmly.gf_ft (kept_of hk) (fun _ _ => ?_)) | ((with_reducible refine Calmly.is_tail ?_); first | refine Calmly.mix_tail_nil ?_ | refine Calmly.mix_tail rfl (fun _ _ => ?_)) | ((with_reducible refine Calmly.is_kept ?_); refine ⟨kept_of hk, ?_⟩) | (with_reducible refine Calmly.mix_alt ?_ ?_))
    refine (ForceOf_any a1 a3 n c1 n2 c3 l at1 sl _ e1 e2).mono ?_
    rintro e w3 ⟨rfl, hb3⟩
    replace hk := step_of hk hb3
    rw [HFO.out, HCE.out]
    go_wp2_with (first | ((with_reducible refine Calmly.is_fl ?_); refine Calmly.mix_fl rfl ?_ (fun _ _ => ?_); (first | exact .move _ | exact .load _ _ | exact .fieldAddr _ _ _ (by kernel_rfl) | exact .assign _ | exact .binOp _ _ _ _ _ rfl | exact .indexAddr _ _ _ | exact .len _ _ (by kernel_rfl) | exact .field _ _ _ | exact .extract _ _ | exact .pick _ _ _ | exact .build _ _ | exact .slice _ _ _ _ _ | exact .unOp _ _ _ rfl | exact .index _ _ _ | exact .max _ _ _ rfl rfl | exact .min _ _ _ rfl rfl | exact .nilCheck _ _ rfl)) | ((with_reducible refine Calmly.is_gl ?_); refine Calmly.mix_gl rfl rfl rfl ?_; first | ((first | with_reducible refine Calmly.gl_tt ?_ (fun _ _ => ?_) | with_reducible refine Calmly.gl_ff ?_ (fun _ _ => ?_)); (first | exact .move _ | exact .load _ _ | exact .fieldAddr _ _ _ (by kernel_rfl) | exact .assign _ | exact .binOp _ _ _ _ _ rfl | exact .indexAddr _ _ _ | exact .len _ _ (by kernel_rfl) | exact .field _ _ _ | exact .extract _ _ | exact .pick _ _ _ | exact .build _ _ | exact .slice _ _ _ _ _ | exact .unOp _ _ _ rfl | exact .index _ _ _ | exact .max _ _ _ rfl rfl | exact .min _ _ _ rfl rfl | exact .nilCheck _ _ rfl)) | with_reducible refine Calmly.gl_tf (fun _ _ => ?_) | with_reducible refine Calmly.gl_ft (fun _ _ => ?_)) | ((with_reducible refine Calmly.is_eff ?_); refine Calmly.mix_eff rfl (fun _ _ => ?_)) | ((with_reducible refine Calmly.is_gf ?_); refine Calmly.mix_gf rfl rfl rfl ?_; first | with_reducible refine Calmly.gf_tt (fun _ _ => ?_) | with_reducible refine Calmly.gf_ff (fun _ _ => ?_) | with_reducible refine Calmly.gf_tf (kept_of hk) (fun _ _ => ?_) | with_reducible refine Calmly.gf_ft (kept_of hk) (fun _ _ => ?_)) | ((with_reducible refine Calmly.is_tail ?_); first | refine Calmly.mix_tail_nil ?_ | refine Calmly.mix_tail rfl (fun _ _ => ?_)) | ((with_reducible refine Calmly.is_kept ?_); refine ⟨kept_of hk, ?_⟩) | (with_reducible refine Calmly.mix_alt ?_ ?_))
    replace y4 := blk_keep y4 hk
    replace BW := BW.trans (hk.mono BW.size)
    clear hk f0 f1 e1 e2 hb3 hb2 hb1 ho1 ho2
    generalize w3 = W at *
    refine Calmly.wp_region_mix 9 (.fl 0 <| .fl 2 <| .eff 1 <| .eff 3 <| .eff 4 <| .fl 5 <| .fl 6 <| .fl 7 <| .fl 8 <| .tail [9]) (by kernel_rfl) (by kernel_rfl) ?_
    have BD : Below W.heap.size W W.drew := (Below.refl _ _).drew
    replace y4 := blk_keep y4 BD
    replace BW := BW.trans (BD.mono BW.size)
    clear BD
    generalize W.drew = V at *
    have hk := Below.refl V.heap.size V
    have f0 := cell_block y4 0
    have f1 := cell_block y4 1
    go_wp2_with (first | ((with_reducible refine Calmly.is_fl ?_); refine Calmly.mix_fl rfl ?_ (fun _ _ => ?_); (first | exact .move _ | exact .load _ _ | exact .fieldAddr _ _ _ (by kernel_rfl) | exact .assign _ | exact .binOp _ _ _ _ _ rfl | exact .indexAddr _ _ _ | exact .len _ _ (by kernel_rfl) | exact .field _ _ _ | exact .extract _ _ | exact .pick _ _ _ | exact .build _ _ | exact .slice _ _ _ _ _ | exact .unOp _ _ _ rfl | exact .index _ _ _ | exact .max _ _ _ rfl rfl | exact .min _ _ _ rfl rfl | exact .nilCheck _ _ rfl)) | ((with_reducible refine Calmly.is_gl ?_); refine Calmly.mix_gl rfl rfl rfl ?_; first | ((first | with_reducible refine Calmly.gl_tt ?_ (fun _ _ => ?_) | with_reducible refine Calmly.gl_ff ?_ (fun _ _ => ?_)); (first | exact .move _ | exact .load _ _ | exact .fieldAddr _ _ _ (by kernel_rfl) | exact .assign _ | exact .binOp _ _ _ _ _ rfl | exact .indexAddr _ _ _ | exact .len _ _ (by kernel_rfl) | exact .field _ _ _ | exact .extract _ _ | exact .pick _ _ _ | exact .build _ _ | exact .slice _ _ _ _ _ | exact .unOp _ _ _ rfl | exact .index _ _ _ | exact .max _ _ _ rfl rfl | exact .min _ _ _ rfl rfl | exact .nilCheck _ _ rfl)) | with_reducible refine Calmly.gl_tf (fun _ _ => ?_) | with_reducible refine Calmly.gl_ft (fun _ _ => ?_)) | ((with_reducible refine Calmly.is_eff ?_); refine Calmly.mix_eff rfl (fun _ _ => ?_)) | ((with_reducible refine Calmly.is_gf ?_); refine Calmly.mix_gf rfl rfl rfl ?_; first | with_reducible refine Calmly.gf_tt (fun _ _ => ?_) | with_reducible refine Calmly.gf_ff (fun _ _ => ?_) | with_reducible refine Calmly.gf_tf (kept_of hk) (fun _ _ => ?_) | with_reducible refine Calmly.gf_ft (kept_of hk) (fun _ _ => ?_)) | ((with_reducible refine Calmly.is_tail ?_); first | refine Calmly.mix_tail_nil ?_ | refine Calmly.mix_tail rfl (fun _ _ => ?_)) | ((with_reducible refine Calmly.is_kept ?_); refine ⟨kept_of hk, ?_⟩) | (with_reducible refine Calmly.mix_alt ?_ ?_))
    refine (CopySpring_any a n c l _ ((h1.keep BW).keep hk) (by omega)).mono ?_
    rintro e w1 ⟨a1, c1, rfl, ho1, hb1⟩
    replace hk := step_of hk hb1
    go_wp2_with (first | ((with_reducible refine Calmly.is_fl ?_); refine Calmly.mix_fl rfl ?_ (fun _ _ => ?_); (first | exact .move _ | exact .load _ _ | exact .fieldAddr _ _ _ (by kernel_rfl) | exact .assign _ | exact .binOp _ _ _ _ _ rfl | exact .indexAddr _ _ _ | exact .len _ _ (by kernel_rfl) | exact .field _ _ _ | exact .extract _ _ | exact .pick _ _ _ | exact .build _ _ | exact .slice _ _ _ _ _ | exact .unOp _ _ _ rfl | exact .index _ _ _ | exact .max _ _ _ rfl rfl | exact .min _ _ _ rfl rfl | exact .nilCheck _ _ rfl)) | ((with_reducible refine Calmly.is_gl ?_); refine Calmly.mix_gl rfl rfl rfl ?_; first | ((first | with_reducible refine Calmly.gl_tt ?_ (fun _ _ => ?_) | with_reducible refine Calmly.gl_ff ?_ (fun _ _ => ?_)); (first | exact .move _ | exact .load _ _ | exact .fieldAddr _ _ _ (by kernel_rfl) | exact .assign _ | exact .binOp _ _ _ _ _ rfl | exact .indexAddr _ _ _ | exact .len _ _ (by kernel_rfl) | exact .field _ _ _ | exact .extract _ _ | exact .pick _ _ _ | exact .build _ _ | exact .slice _ _ _ _ _ | exact .unOp _ _ _ rfl | exact .index _ _ _ | exact .max _ _ _ rfl rfl | exact .min _ _ _ rfl rfl | exact .nilCheck _ _ rfl)) | with_reducible refine Calmly.gl_tf (fun _ _ => ?_) | with_reducible refine Calmly.gl_ft (fun _ _ => ?_)) | ((with_reducible refine Calmly.is_eff ?_); refine Calmly.mix_eff rfl (fun _ _ => ?_)) | ((with_reducible refine Calmly.is_gf ?_); refine Calmly.mix_gf rfl rfl rfl ?_; first | with_reducible refine Calmly.gf_tt (fun _ _ => ?_) | with_reducible refine Calmly.gf_ff (fun _ _ => ?_) | with_reducible refine Calmly.gf_tf (kept_of hk) (fun _ _ => ?_) | with_reducible refine Calmly.gf_ft (kept_of hk) (fun _ _ => ?_)) | ((with_reducible refine Calmly.is_tail ?_); first | refine Calmly.mix_tail_nil ?_ | refine Calmly.mix_tail rfl (fun _ _ => ?_)) | ((with_reducible refine Calmly.is_kept ?_); refine ⟨kept_of hk, ?_⟩) | (with_reducible refine Calmly.mix_alt ?_ ?_))
    refine (CopyHold_any at1 a2 n2 c2 sl _ ((h2.keep BW).keep hk) (by omega)).mono ?_
    rintro e w2 ⟨a3, c3, rfl, ho2, hb2⟩
    replace hk := step_of hk hb2
    have e1 := ho1.se.keep hb2
    have e2 := ho2.ss
    go_wp2_with (first | ((with_reducible refine Calmly.is_fl ?_); refine Calmly.mix_fl rfl ?_ (fun _ _ => ?_); (first | exact .move _ | exact .load _ _ | exact .fieldAddr _ _ _ (by kernel_rfl) | exact .assign _ | exact .binOp _ _ _ _ _ rfl | exact .indexAddr _ _ _ | exact .len _ _ (by kernel_rfl) | exact .field _ _ _ | exact .extract _ _ | exact .pick _ _ _ | exact .build _ _ | exact .slice _ _ _ _ _ | exact .unOp _ _ _ rfl | exact .index _ _ _ | exact .max _ _ _ rfl rfl | exact .min _ _ _ rfl rfl | exact .nilCheck _ _ rfl)) | ((with_reducible refine Calmly.is_gl ?_); refine Calmly.mix_gl rfl rfl rfl ?_; first | ((first | with_reducible refine Calmly.gl_tt ?_ (fun _ _ => ?_) | with_reducible refine Calmly.gl_ff ?_ (fun _ _ => ?_)); (first | exact .move _ | exact .load _ _ | exact .fieldAddr _ _ _ (by kernel_rfl) | exact .assign _ | exact .binOp _ _ _ _ _ rfl | exact .indexAddr _ _ _ | exact .len _ _ (by kernel_rfl) | exact .field _ _ _ | exact .extract _ _ | exact .pick _ _ _ | exact .build _ _ | exact .slice _ _ _ _ _ | exact .unOp _ _ _ rfl | exact .index _ _ _ | exact .max _ _ _ rfl rfl | exact .min _ _ _ rfl rfl | exact .nilCheck _ _ rfl)) | with_reducible refine Calmly.gl_tf (fun _ _ => ?_) | with_reducible refine Calmly.gl_ft (fun _ _ => ?_)) | ((with_reducible refine Calmly.is_eff ?_); refine Calmly.mix_eff rfl (fun _ _ => ?_)) | ((with_reducible refine Calmly.is_gf ?_); refine Calmly.mix_gf rfl rfl rfl ?_; first | with_reducible refine Calmly.gf_tt (fun _ _ => ?_) | with_reducible refine Calmly.gf_ff (fun _ _ => ?_) | with_reducible refine Calmly.gf_tf (kept_of hk) (fun _ _ => ?_) | with_reducible refine Calmly.gf_ft (kept_of hk) (fun _ _ => ?_)) | ((with_reducible refine Calmly.is_tail ?_); first | refine Calmly.mix_tail_nil ?_ | refine Calmly.mix_tail rfl (fun _ _ => ?_)) | ((with_reducible refine Calmly.is_kept ?_); refine ⟨kept_of hk, ?_⟩) | (with_reducible refine Calmly.mix_alt ?_ ?_))
    refine (EnergyOf_any a1 a3 n c1 n2 c3 l at1 sl _ e1 e2).mono ?_
    rintro e w3 ⟨rfl, hb3⟩
    replace hk := step_of hk hb3
    rw [HEN.out, HCE.out]
    go_wp2_with (first | ((with_reducible refine Calmly.is_fl ?_); refine Calmly.mix_fl rfl ?_ (fun _ _ => ?_); (first | exact .move _ | exact .load _ _ | exact .fieldAddr _ _ _ (by kernel_rfl) | exact .assign _ | exact .binOp _ _ _ _ _ rfl | exact .indexAddr _ _ _ | exact .len _ _ (by kernel_rfl) | exact .field _ _ _ | exact .extract _ _ | exact .pick _ _ _ | exact .build _ _ | exact .slice _ _ _ _ _ | exact .unOp _ _ _ rfl | exact .index _ _ _ | exact .max _ _ _ rfl rfl | exact .min _ _ _ rfl rfl | exact .nilCheck _ _ rfl)) | ((with_reducible refine Calmly.is_gl ?_); refine Calmly.mix_gl rfl rfl rfl ?_; first | ((first | with_reducible refine Calmly.gl_tt ?_ (fun _ _ => ?_) | with_reducible refine Calmly.gl_ff ?_ (fun _ _ => ?_)); (first | exact .move _ | exact .load _ _ | exact .fieldAddr _ _ _ (by kernel_rfl) | exact .assign _ | exact .binOp _ _ _ _ _ rfl | exact .indexAddr _ _ _ | exact .len _ _ (by kernel_rfl) | exact .field _ _ _ | exact .extract _ _ | exact .pick _ _ _ | exact .build _ _ | exact .slice _ _ _ _ _ | exact .unOp _ _ _ rfl | exact .index _ _ _ | exact .max _ _ _ rfl rfl | exact .min _ _ _ rfl rfl | exact .nilCheck _ _ rfl)) | with_reducible refine Calmly.gl_tf (fun _ _ => ?_) | with_reducible refine Calmly.gl_ft (fun _ _ => ?_)) | ((with_reducible refine Calmly.is_eff ?_); refine Calmly.mix_eff rfl (fun _ _ => ?_)) | ((with_reducible refine Calmly.is_gf ?_); refine Calmly.mix_gf rfl rfl rfl ?_; first | with_reducible refine Calmly.gf_tt (fun _ _ => ?_) | with_reducible refine Calmly.gf_ff (fun _ _ => ?_) | with_reducible refine Calmly.gf_tf (kept_of hk) (fun _ _ => ?_) | with_reducible refine Calmly.gf_ft (kept_of hk) (fun _ _ => ?_)) | ((with_reducible refine Calmly.is_tail ?_); first | refine Calmly.mix_tail_nil ?_ | refine Calmly.mix_tail rfl (fun _ _ => ?_)) | ((with_reducible refine Calmly.is_kept ?_); refine ⟨kept_of hk, ?_⟩) | (with_reducible refine Calmly.mix_alt ?_ ?_))
    replace y4 := blk_keep y4 hk
    replace BW := BW.trans (hk.mono BW.size)
    clear hk f0 f1 e1 e2 hb3 hb2 hb1 ho1 ho2
    generalize w3 = W at *
    refine Calmly.wp_region_mix 11 (.fl 0 <| .fl 2 <| .fl 4 <| .alt 1 (.alt 3 (.alt 5 (.fl 6 <| .fl 7 <| .fl 8 <| .eff 9 <| .eff 10 <| .tail [11]) (.eff 9 (.eff 5 <| .fl 6 <| .fl 7 <| .fl 8 <| .eff 10 <| .tail [11]))) (.eff 9 (.eff 3 <| .eff 5 <| .fl 6 <| .fl 7 <| .fl 8 <| .eff 10 <| .tail [11]))) (.eff 9 (.eff 1 <| .eff 3 <| .eff 5 <| .fl 6 <| .fl 7 <| .fl 8 <| .eff 10 <| .tail [11]))) (by kernel_rfl) (by kernel_rfl) ?_
    have BD : Below W.heap.size W W.drew := (Below.refl _ _).drew
    replace y4 := blk_keep y4 BD
    replace BW := BW.trans (BD.mono BW.size)
    clear BD
    generalize W.drew = V at *
    have hk := Below.refl V.heap.size V
    have f0 := cell_block y4 0
    have f1 := cell_block y4 1
    rename_i K hK
    have hK' := fun a w (h : Stop _) => hK a w h.out
    clear hK
    have HKK : ∀ (W : World) (q : Nat) (av : Option Addr) (nv cv : Nat) (y24 y25 y26 y27 y28 y29 y30 y31 y32 y33 y34 y35 y36 y37 y38 y39 y40 y41 y42 y43 y44 y45 y46 y47 y48 y49 y50 y51 y52 y53 y54 y55 y56 y57 y58 y59 y60 y61 y62 y63 y64 y65 y66 y67 y68 : Value), Below V.heap.size V W → W.heap[q]? = some (.cells #[.int .i64 MA, .slice av nv cv] 49) → SSp W av nv cv MR → K ⟨#[.slice a n c, .agg #[.int .i64 at1, .slice a2 n2 c2], .int .i64 at2, undef, .pointer (some ⟨w.heap.size, 0, none⟩), undef, .bool false, .int .i64 SI, .int .i64 SE, .int .i64 CI, .int .i64 CE, .int .i64 FO, .int .i64 CE, .int .i64 EN, .int .i64 CE, .pointer (some ⟨q, 0, none⟩), .int .i64 OE, undef, undef, undef, undef, undef, undef, undef, y24, y25, y26, y27, y28, y29, y30, y31, y32, y33, y34, y35, y36, y37, y38, y39, y40, y41, y42, y43, y44, y45, y46, y47, y48, y49, y50, y51, y52, y53, y54, y55, y56, y57, y58, y59, y60, y61, y62, y63, y64, y65, y66, y67, y68, undef, undef, undef, undef, undef, undef, undef, undef, undef, undef, undef, undef, undef, undef, undef, undef, undef, undef, undef, undef, undef, undef, undef, undef, undef, undef, undef, undef, undef, undef, undef, undef, undef, undef, undef, undef, undef, undef, undef, undef, undef, undef, undef, undef, undef, undef, undef, undef, undef, undef, undef, undef, undef, undef, undef, undef, undef, undef, undef, undef, undef, undef, undef, undef, undef, undef, undef, undef, undef, undef, undef, undef, undef, undef, undef, undef, undef, undef, undef, undef, undef, undef, undef, undef, undef, undef, undef, undef, undef, undef, undef, undef, undef, undef, undef, undef, undef, undef, undef, undef, undef, undef, undef, undef, undef, undef, undef, undef, undef, undef, undef, undef, undef, undef, undef, undef, undef, undef, undef, undef, undef, undef, undef, undef, undef, undef, undef, undef, undef, undef, undef, undef, undef, undef, undef, undef, undef, undef, undef, undef, undef, undef, undef, undef, undef, undef, undef, undef, undef, undef, undef, undef, undef, undef, undef, undef, undef, undef, undef, undef, undef, undef, undef, undef, undef, undef, undef, undef, undef, undef, undef, undef, undef, undef, undef, undef, undef, undef, undef, undef, undef, undef, undef, undef, undef, undef, undef, undef, undef, undef, undef, undef, undef, undef, undef, undef, undef, undef, undef, undef, undef, undef, undef, undef, undef, undef, undef, undef, undef, undef, undef, undef, undef, undef, undef, undef, undef, undef, undef, undef, undef, undef, undef, undef, undef, undef, undef, undef, undef, undef, undef, undef], []⟩ W := by
      clear hk f0 f1
      intro W q av nv cv y24 y25 y26 y27 y28 y29 y30 y31 y32 y33 y34 y35 y36 y37 y38 y39 y40 y41 y42 y43 y44 y45 y46 y47 y48 y49 y50 y51 y52 y53 y54 y55 y56 y57 y58 y59 y60 y61 y62 y63 y64 y65 y66 y67 y68 hb zh hrow
      refine hK' _ _ ⟨?_⟩
      clear hK'
      replace y4 := blk_keep y4 hb
      replace BW := BW.trans (hb.mono BW.size)
      clear hb
      clear V
      go_wp2_with fail
      refine Calmly.wp_region_mix 11 (.fl 0 <| .fl 2 <| .fl 4 <| .alt 1 (.alt 3 (.alt 5 (.fl 6 <| .fl 7 <| .fl 8 <| .eff 9 <| .eff 10 <| .tail [11]) (.eff 9 (.eff 5 <| .fl 6 <| .fl 7 <| .fl 8 <| .eff 10 <| .tail [11]))) (.eff 9 (.eff 3 <| .eff 5 <| .fl 6 <| .fl 7 <| .fl 8 <| .eff 10 <| .tail [11]))) (.eff 9 (.eff 1 <| .eff 3 <| .eff 5 <| .fl 6 <| .fl 7 <| .fl 8 <| .eff 10 <| .tail [11]))) (by kernel_rfl) (by kernel_rfl) ?_
      have BD : Below W.heap.size W W.drew := (Below.refl _ _).drew
      replace y4 := blk_keep y4 BD
      replace BW := BW.trans (BD.mono BW.size)
      replace zh := blk_keep zh BD
      replace hrow := hrow.keep BD
      clear BD
      generalize W.drew = V at *
      have hk := Below.refl V.heap.size V
      have f0 := cell_block y4 0
      have f1 := cell_block y4 1
      rename_i K2 hK2
      have hK2' := fun a w (h : Stop _) => hK2 a w h.out
      clear hK2
      have HKK2 : ∀ (W : World) (r : Nat) (y24 y25 y26 y27 y28 y29 y30 y31 y32 y33 y34 y35 y36 y37 y38 y39 y40 y41 y42 y43 y44 y45 y46 y47 y48 y49 y50 y51 y52 y53 y54 y55 y56 y57 y58 y59 y60 y61 y62 y63 y64 y65 y66 y67 y68 y69 y70 y71 y72 y73 y74 y75 y76 y77 : Value), Below V.heap.size V W → W.heap[r]? = some (.cells #[.int .i64 WK, .int .i64 LS] 59) → K2 ⟨#[.slice a n c, .agg #[.int .i64 at1, .slice a2 n2 c2], .int .i64 at2, undef, .pointer (some ⟨w.heap.size, 0, none⟩), undef, .bool false, .int .i64 SI, .int .i64 SE, .int .i64 CI, .int .i64 CE, .int .i64 FO, .int .i64 CE, .int .i64 EN, .int .i64 CE, .pointer (some ⟨q, 0, none⟩), .int .i64 OE, .pointer (some ⟨r, 0, none⟩), .int .i64 OE, undef, undef, undef, undef, undef, y24, y25, y26, y27, y28, y29, y30, y31, y32, y33, y34, y35, y36, y37, y38, y39, y40, y41, y42, y43, y44, y45, y46, y47, y48, y49, y50, y51, y52, y53, y54, y55, y56, y57, y58, y59, y60, y61, y62, y63, y64, y65, y66, y67, y68, y69, y70, y71, y72, y73, y74, y75, y76, y77, undef, undef, undef, undef, undef, undef, undef, undef, undef, undef, undef, undef, undef, undef, undef, undef, undef, undef, undef, undef, undef, undef, undef, undef, undef, undef, undef, undef, undef, undef, undef, undef, undef, undef, undef, undef, undef, undef, undef, undef, undef, undef, undef, undef, undef, undef, undef, undef, undef, undef, undef, undef, undef, undef, undef, undef, undef, undef, undef, undef, undef, undef, undef, undef, undef, undef, undef, undef, undef, undef, undef, undef, undef, undef, undef, undef, undef, undef, undef, undef, undef, undef, undef, undef, undef, undef, undef, undef, undef, undef, undef, undef, undef, undef, undef, undef, undef, undef, undef, undef, undef, undef, undef, undef, undef, undef, undef, undef, undef, undef, undef, undef, undef, undef, undef, undef, undef, undef, undef, undef, undef, undef, undef, undef, undef, undef, undef, undef, undef, undef, undef, undef, undef, undef, undef, undef, undef, undef, undef, undef, undef, undef, undef, undef, undef, undef, undef, undef, undef, undef, undef, undef, undef, undef, undef, undef, undef, undef, undef, undef, undef, undef, undef, undef, undef, undef, undef, undef, undef, undef, undef, undef, undef, undef, undef, undef, undef, undef, undef, undef, undef, undef, undef, undef, undef, undef, undef, undef, undef, undef, undef, undef, undef, undef, undef, undef, undef, undef, undef, undef, undef, undef, undef, undef, undef, undef, undef, undef, undef, undef, undef, undef, undef, undef, undef, undef, undef, undef, undef, undef, undef, undef, undef], []⟩ W := by
        clear hk f0 f1
        intro W r y24 y25 y26 y27 y28 y29 y30 y31 y32 y33 y34 y35 y36 y37 y38 y39 y40 y41 y42 y43 y44 y45 y46 y47 y48 y49 y50 y51 y52 y53 y54 y55 y56 y57 y58 y59 y60 y61 y62 y63 y64 y65 y66 y67 y68 y69 y70 y71 y72 y73 y74 y75 y76 y77 hb zw
        refine hK2' _ _ ⟨?_⟩
        clear hK2'
        replace y4 := blk_keep y4 hb
        replace zh := blk_keep zh hb
        replace hrow := hrow.keep hb
        replace BW := BW.trans (hb.mono BW.size)
        clear hb
        clear V
        go_wp2_with fail
        refine (CopySpring_any a n c l _ (h1.keep BW) (by omega)).mono ?_
        rintro e w1 ⟨a1, c1, rfl, ho1, hs⟩
        replace y4 := blk_keep y4 hs
        replace zh := blk_keep zh hs
        replace zw := blk_keep zw hs
        replace hrow := hrow.keep hs
        replace BW := BW.trans (hs.mono BW.size)
        clear hs
        go_wp2_with fail
        refine (BackboneAt_any a1 n c1 l at2 _ ho1.se).mono ?_
        rintro e w1 ⟨rfl, hs⟩
        replace y4 := blk_keep y4 hs
        replace zh := blk_keep zh hs
        replace zw := blk_keep zw hs
        replace hrow := hrow.keep hs
        replace BW := BW.trans (hs.mono BW.size)
        clear hs
        clear ho1
        rw [HBB.out, HBE.out]
        go_wp2_with fail
        refine (rCheckSpring_any a n c l _ (h1.keep BW)).mono ?_
        rintro e w1 ⟨rfl, hs⟩
        replace y4 := blk_keep y4 hs
        replace zh := blk_keep zh hs
        replace zw := blk_keep zw hs
        replace hrow := hrow.keep hs
        replace BW := BW.trans (hs.mono BW.size)
        clear hs
        rw [HSI.out, HSE.out]
        have cx1 : (SE != SE) = false := by simp
        have cx2 : (SI != SI) = false := by simp
        by_cases hz : SE = 0
        case neg => as_aux_lemma =>
          have g1 : (SE != 0) = true := by simpa using hz
          obtain ⟨k1, k2, k3⟩ := spr_bad (l := l) (at1 := at1) (at2 := at2) (sl := sl) (by rw [HSE.out]; exact hz)
          have hz2 : ¬ (chkE l at1 sl).2 = 0 := by rw [k1, HSE.out]; exact hz
          have hz3 : ¬ opnE l at1 sl at2 = 0 := by rw [k2, HSE.out]; exact hz
          have hz4 : ¬ bbE l at2 = 0 := by rw [k3, HSE.out]; exact hz
          obtain rfl : CI = SI := by rw [← HCI.out, k1, HSI.out]
          have q1 : CE = SE := by rw [← HCE.out, k1, HSE.out]
          have q2 : OE = SE := by rw [← HOE.out, k2, HSE.out]
          have q3 : BE = SE := by rw [← HBE.out, k3, HSE.out]
          have q4 : FO = 0 := by rw [← HFO.out, if_neg hz2]
          have q5 : EN = 0 := by rw [← HEN.out, if_neg hz2]
          have q6 : MA = 0 := by rw [← HMA.out, if_neg hz3]
          have q7 : MR = [] := by rw [← HMR.out, if_neg hz3]
          have q8 : WK = 0 := by rw [← HWK.out, if_neg hz3]
          have q9 : LS = 0 := by rw [← HLS.out, if_neg hz3]
          have q0 : BB = 0 := by rw [← HBB.out, if_neg hz4]
          clear HSI HSE HCI HCE HFO HEN HOE HMA HMR HWK HLS HBB HBE k1 k2 k3 hz2 hz3 hz4 hz
          subst q1 q2 q3 q4 q5 q6 q7 q8 q9 q0
          have zh_0 := cell_block zh 0
          have zh_1 := cell_block zh 1
          have zw_0 := cell_block zw 0
          have zw_1 := cell_block zw 1
          go_wp2_with fail
          clear zh_0 zh_1
          clear zw_0 zw_1
          refine (sameHold_any 0 0 av none nv 0 cv 0 [] [] _ hrow (SSp.nil _)).mono ?_
          rintro e w1 ⟨rfl, hs⟩
          replace y4 := blk_keep y4 hs
          replace zh := blk_keep zh hs
          replace zw := blk_keep zw hs
          replace hrow := hrow.keep hs
          replace BW := BW.trans (hs.mono BW.size)
          clear hs
          have zw_0 := cell_block zw 0
          have zw_1 := cell_block zw 1
          rw [show decide ((0 : Int) = 0 ∧ ([] : List Sp) = []) = true by simp]
          go_wp2_with fail
          go_ret
          exact ⟨ret_bool (by simp), BW⟩
        case pos => as_aux_lemma =>
          subst hz
          have hok := sprE_ok HSE.out
          have hln := h1.len
          have hln2 := h2.len
          have hel : ∀ j, j < n → elErr (l[j]?.getD el0) = 0 := fun j hj => hok.2 j (by omega)
          have hkc := chk_hld (at1 := at1) (sl := sl) HSE.out
          have HEL := Lib.hid hel
          have HKC := Lib.hid hkc
          have HLN := Lib.hid hln
          have HLN2 := Lib.hid hln2
          clear hok hel hkc hln hln2 cx1 cx2
          obtain ⟨PE, hPE⟩ : ∃ x, unlessE (plc at2) 2 = x := ⟨_, rfl⟩
          have hkb : bbE l at2 = PE := by rw [bbE, first_ok HSE.out, hPE]
          have HPE := Lib.hid hPE
          have HKB := Lib.hid hkb
          clear hPE hkb
          go_wp2_with fail
          refine (rPlaceErr_any at2 _).mono ?_
          rintro e w1 ⟨rfl, rfl⟩
          rw [HPE.out]
          by_cases hz : PE = 0
          case neg => as_aux_lemma =>
            have g1 : (PE != 0) = true := by simpa using hz
            have g2 : (PE == 0) = false := by simpa using hz
            have cx0 : (PE != PE) = false := by simp
            have hz4 : ¬ bbE l at2 = 0 := by rw [HKB.out]; exact hz
            have q3 : PE = BE := by rw [← HBE.out, HKB.out]
            have q0 : BB = 0 := by rw [← HBB.out, if_neg hz4]
            have HPZ := Lib.hid hz
            clear hz4 hz HBB HBE
            subst q0
            subst q3
            skip
            have y4_0 := cell_block y4 0
            have y4_1 := cell_block y4 1
            go_wp2_with fail
            clear y4_0 y4_1
            refine (rCheckHold_any a a2 n c n2 c2 l at1 sl _ (h1.keep BW) (h2.keep BW) HEL.out).mono ?_
            rintro e w1 ⟨rfl, hs⟩
            replace y4 := blk_keep y4 hs
            replace zh := blk_keep zh hs
            replace zw := blk_keep zw hs
            replace hrow := hrow.keep hs
            replace BW := BW.trans (hs.mono BW.size)
            clear hs
            rw [← HKC.out, HCI.out, HCE.out]
            have cx1 : (CE != CE) = false := by simp
            have cx2 : (CI != CI) = false := by simp
            by_cases hy : CE = 0
            case neg => as_aux_lemma =>
              have g3 : (CE != 0) = true := by simpa using hy
              have hz2 : ¬ (chkE l at1 sl).2 = 0 := by rw [HCE.out]; exact hy
              have k2 : opnE l at1 sl at2 = CE := by rw [opnE, first_bad hz2, HCE.out]
              have hz3 : ¬ opnE l at1 sl at2 = 0 := by rw [k2]; exact hy
              have q2 : OE = CE := by rw [← HOE.out, k2]
              have q4 : FO = 0 := by rw [← HFO.out, if_neg hz2]
              have q5 : EN = 0 := by rw [← HEN.out, if_neg hz2]
              have q6 : MA = 0 := by rw [← HMA.out, if_neg hz3]
              have q7 : MR = [] := by rw [← HMR.out, if_neg hz3]
              have q8 : WK = 0 := by rw [← HWK.out, if_neg hz3]
              have q9 : LS = 0 := by rw [← HLS.out, if_neg hz3]
              clear HSI HSE HCI HCE HFO HEN HOE HMA HMR HWK HLS k2 hz2 hz3 hy HPE HKB HKC HEL
              subst q2 q4 q5 q6 q7 q8 q9
              have zh_0 := cell_block zh 0
              have zh_1 := cell_block zh 1
              have zw_0 := cell_block zw 0
              have zw_1 := cell_block zw 1
              go_wp2_with fail
              clear zh_0 zh_1
              clear zw_0 zw_1
              refine (sameHold_any 0 0 av none nv 0 cv 0 [] [] _ hrow (SSp.nil _)).mono ?_
              rintro e w1 ⟨rfl, hs⟩
              replace y4 := blk_keep y4 hs
              replace zh := blk_keep zh hs
              replace zw := blk_keep zw hs
              replace hrow := hrow.keep hs
              replace BW := BW.trans (hs.mono BW.size)
              clear hs
              have zw_0 := cell_block zw 0
              have zw_1 := cell_block zw 1
              rw [show decide ((0 : Int) = 0 ∧ ([] : List Sp) = []) = true by simp]
              go_wp2_with fail
              go_ret
              exact ⟨ret_bool (by simp), BW⟩
            case pos => as_aux_lemma =>
              subst hy
              have hH := chkE_ok HCE.out
              obtain rfl : n = n2 := by have := HLN.out; have := HLN2.out; have := hH.same; omega
              have q4 : sumR (fun i => frcE (l[i]?.getD el0).1 (sl[i]?.getD sp0).1 (sl[i]?.getD sp0).2 at1) n = FO := by rw [← HFO.out, if_pos HCE.out, frcS, ← HLN.out]
              have q5 : sumR (fun i => enrE (l[i]?.getD el0).1 (sl[i]?.getD sp0).1 (sl[i]?.getD sp0).2 at1) n = EN := by rw [← HEN.out, if_pos HCE.out, enrS, ← HLN.out]
              have hBB : ∀ x, plc x = true → ∀ i, i < n → ElB (l[i]?.getD el0).1 (l[i]?.getD el0).2.1 (sl[i]?.getD sp0).1 x := fun x hx i hi => hH.elB hx (by have := HLN.out; omega)
              have HB3 := Lib.hid hBB
              have HQ4 := Lib.hid q4
              have HQ5 := Lib.hid q5
              have HAT := Lib.hid (hldE_ok (by rw [← HKC.out]; exact HCE.out)).1
              clear hH q4 q5 hBB cx2
              have y4_0 := cell_block y4 0
              have y4_1 := cell_block y4 1
              go_wp2_with fail
              clear y4_0 y4_1
              refine (rForce_any a a2 n c c2 l at1 sl _ (h1.keep BW) (h2.keep BW) hn (HB3.out at1 HAT.out)).mono ?_
              rintro e w1 ⟨rfl, hs⟩
              replace y4 := blk_keep y4 hs
              replace zh := blk_keep zh hs
              replace zw := blk_keep zw hs
              replace hrow := hrow.keep hs
              replace BW := BW.trans (hs.mono BW.size)
              clear hs
              rw [HQ4.out]
              have cx3 : (FO != FO) = false := by simp
              have y4_0 := cell_block y4 0
              have y4_1 := cell_block y4 1
              go_wp2_with fail
              clear y4_0 y4_1
              refine (rEnergy_any a a2 n c c2 l at1 sl _ (h1.keep BW) (h2.keep BW) hn (HB3.out at1 HAT.out)).mono ?_
              rintro e w1 ⟨rfl, hs⟩
              replace y4 := blk_keep y4 hs
              replace zh := blk_keep zh hs
              replace zw := blk_keep zw hs
              replace hrow := hrow.keep hs
              replace BW := BW.trans (hs.mono BW.size)
              clear hs
              rw [HQ5.out]
              have cx4 : (EN != EN) = false := by simp
              have k2 : opnE l at1 sl at2 = PE := by rw [opnE, first_ok HCE.out, HPE.out]
              have hz3 : ¬ opnE l at1 sl at2 = 0 := by rw [k2]; exact HPZ.out
              have q2 : OE = PE := by rw [← HOE.out, k2]
              have q6 : MA = 0 := by rw [← HMA.out, if_neg hz3]
              have q7 : MR = [] := by rw [← HMR.out, if_neg hz3]
              have q8 : WK = 0 := by rw [← HWK.out, if_neg hz3]
              have q9 : LS = 0 := by rw [← HLS.out, if_neg hz3]
              clear HSI HSE HCI HCE HFO HEN HOE HMA HMR HWK HLS k2 hz3 HPE HKB HKC HEL HQ4 HQ5 HB3 HAT
              subst q2 q6 q7 q8 q9
              have zh_0 := cell_block zh 0
              have zh_1 := cell_block zh 1
              have zw_0 := cell_block zw 0
              have zw_1 := cell_block zw 1
              go_wp2_with fail
              clear zh_0 zh_1
              clear zw_0 zw_1
              refine (sameHold_any 0 0 av none nv 0 cv 0 [] [] _ hrow (SSp.nil _)).mono ?_
              rintro e w1 ⟨rfl, hs⟩
              replace y4 := blk_keep y4 hs
              replace zh := blk_keep zh hs
              replace zw := blk_keep zw hs
              replace hrow := hrow.keep hs
              replace BW := BW.trans (hs.mono BW.size)
              clear hs
              have zw_0 := cell_block zw 0
              have zw_1 := cell_block zw 1
              rw [show decide ((0 : Int) = 0 ∧ ([] : List Sp) = []) = true by simp]
              go_wp2_with fail
              go_ret
              exact ⟨ret_bool (by simp), BW⟩
          case pos => as_aux_lemma =>
            subst hz
            have hp2 : plc at2 = true := by
              cases hp : plc at2
              · have h := HPE.out
                rw [hp] at h
                exact absurd h (by decide)
              · rfl
            have HP2 := Lib.hid hp2
            clear hp2
            have q3 : BE = 0 := by rw [← HBE.out, HKB.out]
            have q0 : sumR (fun i => frcE (l[i]?.getD el0).1 (((List.range n).map (mvRow l (List.replicate n sp0) at2))[i]?.getD sp0).1 (((List.range n).map (mvRow l (List.replicate n sp0) at2))[i]?.getD sp0).2 at2) n = BB := by rw [← HBB.out, if_pos HKB.out, bbS, frcS, mvdS, bgS, ← HLN.out]
            have HQ0 := Lib.hid q0
            clear HBB HBE q0
            subst q3
            go_wp2_with fail
            refine (rBegin_any a n c l _ (h1.keep BW) (by omega)).mono ?_
            rintro e w1 ⟨bv, rfl, hob, hs⟩
            replace y4 := blk_keep y4 hs
            replace zh := blk_keep zh hs
            replace zw := blk_keep zw hs
            replace hrow := hrow.keep hs
            replace BW := BW.trans (hs.mono BW.size)
            clear hs
            go_wp2_with fail
            refine (rMoved_any a bv n c n l 0 at2 (List.replicate n sp0) _ (h1.keep BW) hob.ss hn (fun i hi => bg_elB HEL.out HP2.out hi)).mono ?_
            rintro e w1 ⟨mv, mc, rfl, hom, hs⟩
            replace y4 := blk_keep y4 hs
            replace zh := blk_keep zh hs
            replace zw := blk_keep zw hs
            replace hrow := hrow.keep hs
            replace BW := BW.trans (hs.mono BW.size)
            clear hs
            go_wp2_with fail
            refine (rForce_any a mv n c mc l at2 _ _ (h1.keep BW) hom.ss hn (fun i hi => mv_elB HEL.out HP2.out hi)).mono ?_
            rintro e w1 ⟨rfl, hs⟩
            replace y4 := blk_keep y4 hs
            replace zh := blk_keep zh hs
            replace zw := blk_keep zw hs
            replace hrow := hrow.keep hs
            replace BW := BW.trans (hs.mono BW.size)
            clear hs
            clear hob hom
            rw [HQ0.out]
            have cx0 : (BB != BB) = false := by simp
            have y4_0 := cell_block y4 0
            have y4_1 := cell_block y4 1
            go_wp2_with fail
            clear y4_0 y4_1
            refine (rCheckHold_any a a2 n c n2 c2 l at1 sl _ (h1.keep BW) (h2.keep BW) HEL.out).mono ?_
            rintro e w1 ⟨rfl, hs⟩
            replace y4 := blk_keep y4 hs
            replace zh := blk_keep zh hs
            replace zw := blk_keep zw hs
            replace hrow := hrow.keep hs
            replace BW := BW.trans (hs.mono BW.size)
            clear hs
            rw [← HKC.out, HCI.out, HCE.out]
            have cx1 : (CE != CE) = false := by simp
            have cx2 : (CI != CI) = false := by simp
            by_cases hy : CE = 0
            case neg => as_aux_lemma =>
              have g3 : (CE != 0) = true := by simpa using hy
              have hz2 : ¬ (chkE l at1 sl).2 = 0 := by rw [HCE.out]; exact hy
              have k2 : opnE l at1 sl at2 = CE := by rw [opnE, first_bad hz2, HCE.out]
              have hz3 : ¬ opnE l at1 sl at2 = 0 := by rw [k2]; exact hy
              have q2 : OE = CE := by rw [← HOE.out, k2]
              have q4 : FO = 0 := by rw [← HFO.out, if_neg hz2]
              have q5 : EN = 0 := by rw [← HEN.out, if_neg hz2]
              have q6 : MA = 0 := by rw [← HMA.out, if_neg hz3]
              have q7 : MR = [] := by rw [← HMR.out, if_neg hz3]
              have q8 : WK = 0 := by rw [← HWK.out, if_neg hz3]
              have q9 : LS = 0 := by rw [← HLS.out, if_neg hz3]
              clear HSI HSE HCI HCE HFO HEN HOE HMA HMR HWK HLS k2 hz2 hz3 hy HPE HKB HKC HEL
              subst q2 q4 q5 q6 q7 q8 q9
              have zh_0 := cell_block zh 0
              have zh_1 := cell_block zh 1
              have zw_0 := cell_block zw 0
              have zw_1 := cell_block zw 1
              go_wp2_with fail
              clear zh_0 zh_1
              clear zw_0 zw_1
              refine (sameHold_any 0 0 av none nv 0 cv 0 [] [] _ hrow (SSp.nil _)).mono ?_
              rintro e w1 ⟨rfl, hs⟩
              replace y4 := blk_keep y4 hs
              replace zh := blk_keep zh hs
              replace zw := blk_keep zw hs
              replace hrow := hrow.keep hs
              replace BW := BW.trans (hs.mono BW.size)
              clear hs
              have zw_0 := cell_block zw 0
              have zw_1 := cell_block zw 1
              rw [show decide ((0 : Int) = 0 ∧ ([] : List Sp) = []) = true by simp]
              go_wp2_with fail
              go_ret
              exact ⟨ret_bool (by simp), BW⟩
            case pos => as_aux_lemma =>
              subst hy
              have hH := chkE_ok HCE.out
              obtain rfl : n = n2 := by have := HLN.out; have := HLN2.out; have := hH.same; omega
              have q4 : sumR (fun i => frcE (l[i]?.getD el0).1 (sl[i]?.getD sp0).1 (sl[i]?.getD sp0).2 at1) n = FO := by rw [← HFO.out, if_pos HCE.out, frcS, ← HLN.out]
              have q5 : sumR (fun i => enrE (l[i]?.getD el0).1 (sl[i]?.getD sp0).1 (sl[i]?.getD sp0).2 at1) n = EN := by rw [← HEN.out, if_pos HCE.out, enrS, ← HLN.out]
              have hBB : ∀ x, plc x = true → ∀ i, i < n → ElB (l[i]?.getD el0).1 (l[i]?.getD el0).2.1 (sl[i]?.getD sp0).1 x := fun x hx i hi => hH.elB hx (by have := HLN.out; omega)
              have HB3 := Lib.hid hBB
              have HQ4 := Lib.hid q4
              have HQ5 := Lib.hid q5
              have HAT := Lib.hid (hldE_ok (by rw [← HKC.out]; exact HCE.out)).1
              clear hH q4 q5 hBB cx2
              have y4_0 := cell_block y4 0
              have y4_1 := cell_block y4 1
              go_wp2_with fail
              clear y4_0 y4_1
              refine (rForce_any a a2 n c c2 l at1 sl _ (h1.keep BW) (h2.keep BW) hn (HB3.out at1 HAT.out)).mono ?_
              rintro e w1 ⟨rfl, hs⟩
              replace y4 := blk_keep y4 hs
              replace zh := blk_keep zh hs
              replace zw := blk_keep zw hs
              replace hrow := hrow.keep hs
              replace BW := BW.trans (hs.mono BW.size)
              clear hs
              rw [HQ4.out]
              have cx3 : (FO != FO) = false := by simp
              have y4_0 := cell_block y4 0
              have y4_1 := cell_block y4 1
              go_wp2_with fail
              clear y4_0 y4_1
              refine (rEnergy_any a a2 n c c2 l at1 sl _ (h1.keep BW) (h2.keep BW) hn (HB3.out at1 HAT.out)).mono ?_
              rintro e w1 ⟨rfl, hs⟩
              replace y4 := blk_keep y4 hs
              replace zh := blk_keep zh hs
              replace zw := blk_keep zw hs
              replace hrow := hrow.keep hs
              replace BW := BW.trans (hs.mono BW.size)
              clear hs
              rw [HQ5.out]
              have cx4 : (EN != EN) = false := by simp
              have k2 : opnE l at1 sl at2 = 0 := by rw [opnE, first_ok HCE.out, HPE.out]
              have q2 : OE = 0 := by rw [← HOE.out, k2]
              have q6 : at2 = MA := by rw [← HMA.out, if_pos k2]
              have q7 : MR = (List.range n).map (mvRow l sl at2) := by rw [← HMR.out, if_pos k2, mvdS, ← HLN.out]
              have q8 : sumR (mvW l sl at1 at2) n = WK := by rw [← HWK.out, if_pos k2, wrkS, ← HLN.out]
              have q9 : sumR (mvL l sl at2) n = LS := by rw [← HLS.out, if_pos k2, losS, ← HLN.out]
              have HQ7 := Lib.hid q7
              have HQ8 := Lib.hid q8
              have HQ9 := Lib.hid q9
              clear q7 q8 q9 k2 HOE HMA HMR HWK HLS
              subst q2 q6
              go_wp2_with fail
              refine Calmly.wp_region_mix 21 (.fl 0 <| .fl 1 <| .fl 2 <| .gl 3 <| .gl 4 <| .gl 5 <| .gl 6 <| .gf 7 <| .gf 8 <| .fl 9 <| .fl 10 <| .gl 11 <| .gl 12 <| .fl 13 <| .fl 14 <| .gl 15 <| .gl 16 <| .gl 17 <| .gl 18 <| .gf 19 <| .gf 20 <| .tail [21, 22]) (by kernel_rfl) (by kernel_rfl) ?_
              have BD : Below w1.heap.size w1 w1.drew := (Below.refl _ _).drew
              replace y4 := blk_keep y4 BD
              replace zh := blk_keep zh BD
              replace zw := blk_keep zw BD
              replace hrow := hrow.keep BD
              replace BW := BW.trans (BD.mono BW.size)
              clear BD
              generalize w1.drew = V at *
              have hk := Below.refl V.heap.size V
              have s1 := h1.keep BW
              have s2 := h2.keep BW
              have y4_0 := cell_block y4 0
              have y4_1 := cell_block y4 1
              have zh_0 := cell_block zh 0
              have zh_1 := cell_block zh 1
              have zw_0 := cell_block zw 0
              have zw_1 := cell_block zw 1
              go_wp2_with (first | ((with_reducible refine Calmly.is_fl ?_); refine Calmly.mix_fl rfl ?_ (fun _ _ => ?_); (first | exact .move _ | exact .load _ _ | exact .fieldAddr _ _ _ (by kernel_rfl) | exact .assign _ | exact .binOp _ _ _ _ _ rfl | exact .indexAddr _ _ _ | exact .len _ _ (by kernel_rfl) | exact .field _ _ _ | exact .extract _ _ | exact .pick _ _ _ | exact .build _ _ | exact .slice _ _ _ _ _ | exact .unOp _ _ _ rfl | exact .index _ _ _ | exact .max _ _ _ rfl rfl | exact .min _ _ _ rfl rfl | exact .nilCheck _ _ rfl)) | ((with_reducible refine Calmly.is_gl ?_); refine Calmly.mix_gl rfl rfl rfl ?_; first | ((first | with_reducible refine Calmly.gl_tt ?_ (fun _ _ => ?_) | with_reducible refine Calmly.gl_ff ?_ (fun _ _ => ?_)); (first | exact .move _ | exact .load _ _ | exact .fieldAddr _ _ _ (by kernel_rfl) | exact .assign _ | exact .binOp _ _ _ _ _ rfl | exact .indexAddr _ _ _ | exact .len _ _ (by kernel_rfl) | exact .field _ _ _ | exact .extract _ _ | exact .pick _ _ _ | exact .build _ _ | exact .slice _ _ _ _ _ | exact .unOp _ _ _ rfl | exact .index _ _ _ | exact .max _ _ _ rfl rfl | exact .min _ _ _ rfl rfl | exact .nilCheck _ _ rfl)) | with_reducible refine Calmly.gl_tf (fun _ _ => ?_) | with_reducible refine Calmly.gl_ft (fun _ _ => ?_)) | ((with_reducible refine Calmly.is_eff ?_); refine Calmly.mix_eff rfl (fun _ _ => ?_)) | ((with_reducible refine Calmly.is_gf ?_); refine Calmly.mix_gf rfl rfl rfl ?_; first | with_reducible refine Calmly.gf_tt (fun _ _ => ?_) | with_reducible refine Calmly.gf_ff (fun _ _ => ?_) | with_reducible refine Calmly.gf_tf (kept_of hk) (fun _ _ => ?_) | with_reducible refine Calmly.gf_ft (kept_of hk) (fun _ _ => ?_)) | ((with_reducible refine Calmly.is_tail ?_); first | refine Calmly.mix_tail_nil ?_ | refine Calmly.mix_tail rfl (fun _ _ => ?_)) | ((with_reducible refine Calmly.is_kept ?_); refine ⟨kept_of hk, ?_⟩) | (with_reducible refine Calmly.mix_alt ?_ ?_) | (go_at_call 41; refine (rMoved_any a a2 n c c2 l at1 at2 sl _ (s1.keep hk) (s2.keep hk) hn (HB3.out at2 HP2.out)).mono ?_; rintro e w5 ⟨mv, mc, rfl, hom, hb5⟩; replace hk := step_of hk hb5) | (go_at_call 33; refine (sameHold_any at2 at2 av mv nv n cv mc MR _ _ (hrow.keep hk) hom.ss).mono ?_; rintro e w6 ⟨rfl, hb6⟩; replace hk := step_of hk hb6; rw [show decide (at2 = at2 ∧ MR = (List.range n).map (mvRow l sl at2)) = true by simp [HQ7.out]]) | (go_at_call 44; refine (rWork_any a a2 n c c2 l at1 at2 sl _ (s1.keep hk) (s2.keep hk) hn (HB3.out at1 HAT.out) (HB3.out at2 HP2.out)).mono ?_; rintro e w7 ⟨rfl, hb7⟩; replace hk := step_of hk hb7; rw [HQ8.out, HQ9.out]))
              go_ret
              exact ⟨ret_bool (by simp), BW.trans (hk.mono BW.size)⟩
      clear hK2'
      have HKK2' := Lib.hid HKK2
      clear HKK2
      have s1 := h1.keep BW
      have s2 := h2.keep BW
      go_wp2_with (first | (refine kept_st2M hk hq z15 (fun hk' ho hn => ?_); replace hk := hk'; clear hk'; clear ho; generalize World.setCell (World.setCell _ _ _) _ _ = W2 at *) | ((with_reducible refine Calmly.is_fl ?_); refine Calmly.mix_fl rfl ?_ (fun _ _ => ?_); (first | exact .move _ | exact .load _ _ | exact .fieldAddr _ _ _ (by kernel_rfl) | exact .assign _ | exact .binOp _ _ _ _ _ rfl | exact .indexAddr _ _ _ | exact .len _ _ (by kernel_rfl) | exact .field _ _ _ | exact .extract _ _ | exact .pick _ _ _ | exact .build _ _ | exact .slice _ _ _ _ _ | exact .unOp _ _ _ rfl | exact .index _ _ _ | exact .max _ _ _ rfl rfl | exact .min _ _ _ rfl rfl | exact .nilCheck _ _ rfl)) | ((with_reducible refine Calmly.is_gl ?_); refine Calmly.mix_gl rfl rfl rfl ?_; first | ((first | with_reducible refine Calmly.gl_tt ?_ (fun _ _ => ?_) | with_reducible refine Calmly.gl_ff ?_ (fun _ _ => ?_)); (first | exact .move _ | exact .load _ _ | exact .fieldAddr _ _ _ (by kernel_rfl) | exact .assign _ | exact .binOp _ _ _ _ _ rfl | exact .indexAddr _ _ _ | exact .len _ _ (by kernel_rfl) | exact .field _ _ _ | exact .extract _ _ | exact .pick _ _ _ | exact .build _ _ | exact .slice _ _ _ _ _ | exact .unOp _ _ _ rfl | exact .index _ _ _ | exact .max _ _ _ rfl rfl | exact .min _ _ _ rfl rfl | exact .nilCheck _ _ rfl)) | with_reducible refine Calmly.gl_tf (fun _ _ => ?_) | with_reducible refine Calmly.gl_ft (fun _ _ => ?_)) | ((with_reducible refine Calmly.is_eff ?_); refine Calmly.mix_eff rfl (fun _ _ => ?_)) | ((with_reducible refine Calmly.is_gf ?_); refine Calmly.mix_gf rfl rfl rfl ?_; first | with_reducible refine Calmly.gf_tt (fun _ _ => ?_) | with_reducible refine Calmly.gf_ff (fun _ _ => ?_) | with_reducible refine Calmly.gf_tf (kept_of hk) (fun _ _ => ?_) | with_reducible refine Calmly.gf_ft (kept_of hk) (fun _ _ => ?_)) | ((with_reducible refine Calmly.is_tail ?_); first | refine Calmly.mix_tail_nil ?_ | refine Calmly.mix_tail rfl (fun _ _ => ?_)) | ((with_reducible refine Calmly.is_kept ?_); refine ⟨kept_of hk, ?_⟩) | (with_reducible refine Calmly.mix_alt ?_ ?_) | (go_at_call 28; refine (CopySpring_any a n c l _ (s1.keep hk) (by omega)).mono ?_; rintro e w1 ⟨a1, c1, rfl, ho1, hb1⟩; replace hk := step_of hk hb1; (try (replace z15 := blk_keep z15 hb1; replace c15 := cell_block z15 0; replace c15' := cell_block z15 1; replace n15 := frozen_block z15 0; replace n15' := frozen_block z15 1))) | (go_at_call 29; refine (CopyHold_any at1 a2 n2 c2 sl _ (s2.keep hk) (by omega)).mono ?_; rintro e w2 ⟨a3, c3, rfl, ho2, hb2⟩; replace hk := step_of hk hb2; have e1 := ho1.se.keep hb2; have e2 := ho2.ss; clear ho1; (try (replace z15 := blk_keep z15 hb2; replace c15 := cell_block z15 0; replace c15' := cell_block z15 1; replace n15 := frozen_block z15 0; replace n15' := frozen_block z15 1))) | (go_at_call 31; refine (WorkTo_any a1 a3 n c1 n2 c3 l at1 at2 sl _ e1 e2).mono ?_; rintro e w3 ⟨rfl, hb3⟩; rw [HWK.out, HLS.out, HOE.out]; replace hk := step_of hk hb3; (try (replace z15 := blk_keep z15 hb3; replace c15 := cell_block z15 0; replace c15' := cell_block z15 1; replace n15 := frozen_block z15 0; replace n15' := frozen_block z15 1))) | (refine kept_alloc2 hk (fun hk' hA hblk => ?_); (try (have hq15 := fun g o (e : av = some (⟨g, o, none⟩ : Addr)) => Nat.ne_of_lt (OwS.lt ho3 g o e))); (try replace ho1 := ho1.keep hA); (try replace e1 := e1.keep hA); (try replace e2 := e2.keep hA); (try replace ho3 := ho3.keep hA); have hq := hk.size; replace hk := hk'; clear hk'; have z15 := hblk; clear hblk; have c15 := cell_block z15 0; have c15' := cell_block z15 1; have n15 := frozen_block z15 0; have n15' := frozen_block z15 1; generalize World.alloc _ _ = X15 at *))
      all_goals
        apply HKK2'.out
        · exact hk
        · exact hn
    clear hK'
    have HKK' := Lib.hid HKK
    clear HKK
    have s1 := h1.keep BW
    have s2 := h2.keep BW
    go_wp2_with (first | (refine kept_st2M hk hq z15 (fun hk' ho hn => ?_); replace hk := hk'; clear hk'; replace ho3 := ow_not ho3 ho hq15; clear ho; generalize World.setCell (World.setCell _ _ _) _ _ = W2 at *) | ((with_reducible refine Calmly.is_fl ?_); refine Calmly.mix_fl rfl ?_ (fun _ _ => ?_); (first | exact .move _ | exact .load _ _ | exact .fieldAddr _ _ _ (by kernel_rfl) | exact .assign _ | exact .binOp _ _ _ _ _ rfl | exact .indexAddr _ _ _ | exact .len _ _ (by kernel_rfl) | exact .field _ _ _ | exact .extract _ _ | exact .pick _ _ _ | exact .build _ _ | exact .slice _ _ _ _ _ | exact .unOp _ _ _ rfl | exact .index _ _ _ | exact .max _ _ _ rfl rfl | exact .min _ _ _ rfl rfl | exact .nilCheck _ _ rfl)) | ((with_reducible refine Calmly.is_gl ?_); refine Calmly.mix_gl rfl rfl rfl ?_; first | ((first | with_reducible refine Calmly.gl_tt ?_ (fun _ _ => ?_) | with_reducible refine Calmly.gl_ff ?_ (fun _ _ => ?_)); (first | exact .move _ | exact .load _ _ | exact .fieldAddr _ _ _ (by kernel_rfl) | exact .assign _ | exact .binOp _ _ _ _ _ rfl | exact .indexAddr _ _ _ | exact .len _ _ (by kernel_rfl) | exact .field _ _ _ | exact .extract _ _ | exact .pick _ _ _ | exact .build _ _ | exact .slice _ _ _ _ _ | exact .unOp _ _ _ rfl | exact .index _ _ _ | exact .max _ _ _ rfl rfl | exact .min _ _ _ rfl rfl | exact .nilCheck _ _ rfl)) | with_reducible refine Calmly.gl_tf (fun _ _ => ?_) | with_reducible refine Calmly.gl_ft (fun _ _ => ?_)) | ((with_reducible refine Calmly.is_eff ?_); refine Calmly.mix_eff rfl (fun _ _ => ?_)) | ((with_reducible refine Calmly.is_gf ?_); refine Calmly.mix_gf rfl rfl rfl ?_; first | with_reducible refine Calmly.gf_tt (fun _ _ => ?_) | with_reducible refine Calmly.gf_ff (fun _ _ => ?_) | with_reducible refine Calmly.gf_tf (kept_of hk) (fun _ _ => ?_) | with_reducible refine Calmly.gf_ft (kept_of hk) (fun _ _ => ?_)) | ((with_reducible refine Calmly.is_tail ?_); first | refine Calmly.mix_tail_nil ?_ | refine Calmly.mix_tail rfl (fun _ _ => ?_)) | ((with_reducible refine Calmly.is_kept ?_); refine ⟨kept_of hk, ?_⟩) | (with_reducible refine Calmly.mix_alt ?_ ?_) | (go_at_call 28; refine (CopySpring_any a n c l _ (s1.keep hk) (by omega)).mono ?_; rintro e w1 ⟨a1, c1, rfl, ho1, hb1⟩; replace hk := step_of hk hb1; (try (replace z15 := blk_keep z15 hb1; replace c15 := cell_block z15 0; replace c15' := cell_block z15 1; replace n15 := frozen_block z15 0; replace n15' := frozen_block z15 1))) | (go_at_call 29; refine (CopyHold_any at1 a2 n2 c2 sl _ (s2.keep hk) (by omega)).mono ?_; rintro e w2 ⟨a3, c3, rfl, ho2, hb2⟩; replace hk := step_of hk hb2; have e1 := ho1.se.keep hb2; have e2 := ho2.ss; clear ho1; (try (replace z15 := blk_keep z15 hb2; replace c15 := cell_block z15 0; replace c15' := cell_block z15 1; replace n15 := frozen_block z15 0; replace n15' := frozen_block z15 1))) | (go_at_call 30; refine (MovedTo_any a1 a3 n c1 n2 c3 l at1 at2 sl _ e1 e2).mono ?_; rintro e w3 ⟨av, nv, cv, rfl, ho3, hb3⟩; rw [HMA.out, HOE.out]; rw [HMR.out] at ho3; replace hk := step_of hk hb3; (try (have hq15 := fun g o (e : av = some (⟨g, o, none⟩ : Addr)) => Nat.ne_of_gt (Nat.lt_of_lt_of_le (blk_lt z15) (ow_ge ho3 e)))); (try (replace z15 := blk_keep z15 hb3; replace c15 := cell_block z15 0; replace c15' := cell_block z15 1; replace n15 := frozen_block z15 0; replace n15' := frozen_block z15 1))) | (refine kept_alloc2 hk (fun hk' hA hblk => ?_); (try (have hq15 := fun g o (e : av = some (⟨g, o, none⟩ : Addr)) => Nat.ne_of_lt (OwS.lt ho3 g o e))); (try replace ho1 := ho1.keep hA); (try replace e1 := e1.keep hA); (try replace e2 := e2.keep hA); (try replace ho3 := ho3.keep hA); have hq := hk.size; replace hk := hk'; clear hk'; have z15 := hblk; clear hblk; have c15 := cell_block z15 0; have c15' := cell_block z15 1; have n15 := frozen_block z15 0; have n15' := frozen_block z15 1; generalize World.alloc _ _ = X15 at *))
    all_goals
      apply HKK'.out
      · exact hk
      · exact hn
      · exact ho3.ss
end Go.Proofs.Ytaiikekgckjdeaa
