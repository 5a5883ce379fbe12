/- Steps are as specified: the law's walk. Printed by gen_m82.py. -/
import Derived.Test.YtaiikekgckjdeaaK28
namespace Go.Proofs.Ytaiikekgckjdeaa
open Go.RowKit
open Calmly (Kept)
/-- A box with a state, a box with a balance. -/
structure SbW (W : World) (q : Nat) (s : St) : Prop where
  ex : ∃ x : StR, W.heap[q]? = some (.cells #[hv x.1, hv x.2.1, hv x.2.2] 97) ∧ StV W x s
theorem SbW.keep {W W' : World} {q : Nat} {s : St} (h : SbW W q s) (hb : Below W.heap.size W W') : SbW W' q s := by
  obtain ⟨x, h1, h2⟩ := h
  exact ⟨x, blk_keep h1 hb, h2.keep hb⟩
structure BbW (W : World) (q : Nat) (b : Int × Int × Int × Int) : Prop where
  blk : W.heap[q]? = some (.cells #[.int .i64 b.1, .int .i64 b.2.1, .int .i64 b.2.2.1, .int .i64 b.2.2.2] 103)
theorem BbW.keep {W W' : World} {q : Nat} {b : Int × Int × Int × Int} (h : BbW W q b) (hb : Below W.heap.size W W') : BbW W' q b := ⟨blk_keep h.blk hb⟩
theorem kept_st4M {W w : World} {r : Nat} {x y z u u0 u1 u2 u3 : Value} {t : TypeId} {G : Prop} (h : Below W.heap.size W w) (hr : W.heap.size ≤ r) (p : w.heap[r]? = some (.cells #[u0, u1, u2, u3] t))
    (k : Below W.heap.size W ((((w.setCell ⟨r, 0, none⟩ x).setCell ⟨r, 1, none⟩ y).setCell ⟨r, 2, none⟩ z).setCell ⟨r, 3, none⟩ u) →
      ((((w.setCell ⟨r, 0, none⟩ x).setCell ⟨r, 1, none⟩ y).setCell ⟨r, 2, none⟩ z).setCell ⟨r, 3, none⟩ u).heap[r]? = some (.cells #[x, y, z, u] t) → G) : Kept W ((((w.setCell ⟨r, 0, none⟩ x).setCell ⟨r, 1, none⟩ y).setCell ⟨r, 2, none⟩ z).setCell ⟨r, 3, none⟩ u) ∧ G := by
  have h1 := (((h.setCell (p := ⟨r, 0, none⟩) hr x).setCell (p := ⟨r, 1, none⟩) hr y).setCell (p := ⟨r, 2, none⟩) hr z).setCell (p := ⟨r, 3, none⟩) hr u
  refine ⟨kept_of h1, k h1 ?_⟩
  have := setBlk (setBlk (setBlk (setBlk p 0 x) 1 y) 2 z) 3 u
  simpa using this
/-- Values of a step when there is an error. -/
theorem stp_bad {fs : List Fl} {s : St} {g : Int} (h : opsE fs s g ≠ 0) : stpE fs s g = opsE fs s g ∧ stpS fs s g = ([], [], []) ∧ bal4 fs s g = (0, 0, 0, 0) := by
  have h1 : stpE fs s g = opsE fs s g := by rw [stpE, if_neg h]
  exact ⟨h1, by rw [stpS, if_neg (by rw [h1]; exact h)], by rw [bal4, if_neg h]⟩
set_option maxRecDepth 100000 in
set_option maxHeartbeats 40000000 in
theorem ModelSteps_walk (a a1 a2 a3 : Option Addr) (n c n1 c1 n2 c2 n3 c3 : Nat) (raw : List FlR) (fs : List Fl) (s : St) (g : Int) (w : World) (h1 : FrV w a n c raw fs) (h2 : StW w ((a1, n1, c1), (a2, n2, c2), (a3, n3, c3)) s) :
    Calls Try.prog 8 #[.agg #[.slice a n c], .agg #[.slice a1 n1 c1, .slice a2 n2 c2, .slice a3 n3 c3], .int .i64 g] w fun e w' => e = .returned (.bool true) ∧ Below w.heap.size w w' := by
  have hn := h1.n_
  have q0 := h1.row.cap
  have m0 := h1.row.max
  have q1 := h2.now.cap
  have q2 := h2.bef.cap
  have m1 := h2.now.max
  have m2 := h2.bef.max
  dsimp only at q1 q2 m1 m2
  have hl3 : n3 = s.2.2.length ∧ n3 ≤ c3 ∧ c3 ≤ 9223372036854775807 := by
    obtain ⟨hraw, hH⟩ := h2.hol
    exact ⟨by have := hH.row.len; have := hH.len; dsimp only at *; omega, hH.row.cap, hH.row.max⟩
  obtain ⟨l3, q3, m3⟩ := hl3
  have HN := Lib.hid hn
  have HL3 := Lib.hid l3
  clear hn l3
  obtain ⟨E, hE⟩ : ∃ x, opsE fs s g = x := ⟨_, rfl⟩
  obtain ⟨RE, hRE⟩ : ∃ x, stpE fs s g = x := ⟨_, rfl⟩
  obtain ⟨RS, hRS⟩ : ∃ x, stpS fs s g = x := ⟨_, rfl⟩
  obtain ⟨⟨B1, B2, B3, B4⟩, hB4⟩ : ∃ x, bal4 fs s g = x := ⟨_, rfl⟩
  obtain ⟨SJ, hSJ⟩ : ∃ x, (staE fs s).1 = x := ⟨_, rfl⟩
  obtain ⟨SE, hSE⟩ : ∃ x, (staE fs s).2 = x := ⟨_, rfl⟩
  obtain ⟨FJ, hFJ⟩ : ∃ x, (frmE fs).1 = x := ⟨_, rfl⟩
  obtain ⟨FE, hFE⟩ : ∃ x, (frmE fs).2 = x := ⟨_, rfl⟩
  have HE := Lib.hid hE
  have HRE := Lib.hid hRE
  have HRS := Lib.hid hRS
  have HB4 := Lib.hid hB4
  have HSJ := Lib.hid hSJ
  have HSE := Lib.hid hSE
  have HFJ := Lib.hid hFJ
  have HFE := Lib.hid hFE
  clear hE hRE hRS hB4 hSJ hSE hFJ hFE
  have y3 := blk_keep (alloc_new w (.cells #[.slice a n c] 24)) ((Below.refl _ _).alloc (Nat.le_refl _) (.cells #[.slice a1 n1 c1, .slice a2 n2 c2, .slice a3 n3 c3] 97))
  have y4 := alloc_new (w.alloc (.cells #[.slice a n c] 24)) (.cells #[.slice a1 n1 c1, .slice a2 n2 c2, .slice a3 n3 c3] 97)
  have BW : Below w.heap.size w ((w.alloc (.cells #[.slice a n c] 24)).alloc (.cells #[.slice a1 n1 c1, .slice a2 n2 c2, .slice a3 n3 c3] 97)) := ((Below.refl _ _).alloc (Nat.le_refl _) _).alloc (by simp) _
  simp only [World.size_alloc] at y4
  go_enter Try.func8, Try.ntmps8
  go_wp2_with fail
  generalize (w.alloc (.cells #[.slice a n c] 24)).alloc (.cells #[.slice a1 n1 c1, .slice a2 n2 c2, .slice a3 n3 c3] 97) = W at *
  refine (awake_any _).mono ?_
  rintro e w1 ⟨rfl, hs⟩
  dsimp only
  replace y3 := blk_keep y3 hs
  replace y4 := blk_keep y4 hs
  replace BW := BW.trans (hs.mono BW.size)
  clear hs
  have f0 := cell_block y3 0
  go_wp2_with fail
  refine (Few_any a n c raw fs _ (h1.keep BW)).mono ?_
  rintro e w2 ⟨B, rfl, hB, hs⟩
  dsimp only
  replace y3 := blk_keep y3 hs
  replace y4 := blk_keep y4 hs
  replace BW := BW.trans (hs.mono BW.size)
  clear hs f0
  have g0 := cell_block y4 0
  have g1 := cell_block y4 1
  have g2 := cell_block y4 2
  cases B
  case false =>
    go_wp2_with fail
    go_ret
    exact ⟨ret_bool (by simp), BW⟩
  have hB5 := hB rfl
  have HB5 := Lib.hid hB5
  have hn7 : n ≤ 7 := by have := HN.out; omega
  clear hB hB5
  by_cases d1 : (7 : Int) < (n1 : Int)
  case pos =>
    go_wp2_with fail
    go_ret
    exact ⟨ret_bool (by simp), BW⟩
  by_cases d2 : (7 : Int) < (n2 : Int)
  case pos =>
    go_wp2_with fail
    go_ret
    exact ⟨ret_bool (by simp), BW⟩
  by_cases d3 : (7 : Int) < (n3 : Int)
  case pos =>
    go_wp2_with fail
    go_ret
    exact ⟨ret_bool (by simp), BW⟩
  go_wp2_with fail
  clear g0 g1 g2
  generalize w2 = W at *
  go_loopw [7] (fun i wr => ∃ k : Nat, k ≤ n3 ∧ i = .int .i64 (k : Int) ∧ (∀ j, j < k → (s.2.2[j]?.getD ho0).2.length ≤ 6) ∧ wr = W) (fun i _ => n3 - (intOf i).toNat)
  case atStart => exact ⟨0, by omega, rfl, fun j hj => absurd hj (by omega), rfl⟩
  case round =>
    obtain ⟨k, hk, rfl, hsm, rfl⟩ := hrel
    have HSM := Lib.hid hsm
    clear hsm
    have g2 := cell_block y4 2
    by_cases hlt : k < n3
    case pos =>
      obtain ⟨hraw, hH⟩ := (h2.keep BW).hol
      dsimp only at hH
      obtain ⟨hb, ho, rfl, hch⟩ := hH.row.at_ (by omega)
      obtain ⟨p0, p1⟩ := hch k hlt
      obtain ⟨k0, k1⟩ := hH.hl k (by have := HL3.out; omega)
      obtain ⟨hh, hhh⟩ : ∃ rr, hraw[k]?.getD hor0 = rr := ⟨_, rfl⟩
      obtain ⟨t', ⟨v1, v2, v3⟩⟩ := hh
      rw [hhh] at p0 p1 k0 k1
      dsimp only [hv] at p0 p1 k0 k1
      have hv2 := k1.len
      have hv3 := k1.max
      have hv4 := k1.cap
      have HV2 := Lib.hid hv2
      have hi1 : (k : Int) < (n3 : Int) := by omega
      have hi0 : (0 : Int) ≤ (k : Int) := by omega
      clear hch hhh hH k0 k1 p0 hv2
      by_cases h6 : (6 : Int) < (v2 : Int)
      · go_wp2_with fail
        go_ret
        exact ⟨ret_bool (by simp), BW⟩
      · go_wp2_with fail
        go_roundw
        case rel =>
          refine ⟨k + 1, by omega, by go_num, fun j hj => ?_, by simp⟩
          by_cases e : j = k
          · subst e
            have := HV2.out
            omega
          · exact HSM.out j (by omega)
        case measure => simp [intOf]; omega
    case neg =>
      have hle : (n3 : Int) ≤ (k : Int) := by omega
      obtain rfl : n3 = k := by omega
      have HSL := Lib.hid (fun (i : Nat) (hi : i < n3) => Nat.le_trans (HSM.out i hi) (show 6 ≤ 1000 by decide))
      have HSP := Lib.hid (fun (i : Nat) (hi : i < fs.length) => Nat.le_trans (HB5.out.2 i hi) (show 6 ≤ 1000 by decide))
      clear hlt hk
      go_wp2_with fail
      clear g2 hle
      generalize wr = W at *
      refine Calmly.wp_region_mix 9 (.fl 0 <| .fl 2 <| .eff 1 <| .eff 3 <| .eff 4 <| .fl 5 <| .fl 6 <| .fl 7 <| .fl 8 <| .tail [9]) (by kernel_rfl) (by kernel_rfl) ?_
      have BD : Below W.heap.size W W.drew := (Below.refl _ _).drew
      replace y3 := blk_keep y3 BD
      replace y4 := blk_keep y4 BD
      replace BW := BW.trans (BD.mono BW.size)
      clear BD
      generalize W.drew = V at *
      have hk := Below.refl V.heap.size V
      have f0 := cell_block y3 0
      have g0 := cell_block y4 0
      have g1 := cell_block y4 1
      have g2 := cell_block y4 2
      have hF := h1.keep BW
      have hSt := h2.keep BW
      try dsimp only
      go_wp2_with (first | ((with_reducible refine Calmly.is_fl ?_); refine Calmly.mix_fl rfl ?_ (fun _ _ => ?_); (first | exact .move _ | exact .load _ _ | exact .fieldAddr _ _ _ (by kernel_rfl) | exact .assign _ | exact .binOp _ _ _ _ _ rfl | exact .indexAddr _ _ _ | exact .len _ _ (by kernel_rfl) | exact .field _ _ _ | exact .extract _ _ | exact .pick _ _ _ | exact .build _ _ | exact .slice _ _ _ _ _ | exact .unOp _ _ _ rfl | exact .index _ _ _ | exact .max _ _ _ rfl rfl | exact .min _ _ _ rfl rfl | exact .nilCheck _ _ rfl)) | ((with_reducible refine Calmly.is_gl ?_); refine Calmly.mix_gl rfl rfl rfl ?_; first | ((first | with_reducible refine Calmly.gl_tt ?_ (fun _ _ => ?_) | with_reducible refine Calmly.gl_ff ?_ (fun _ _ => ?_)); (first | exact .move _ | exact .load _ _ | exact .fieldAddr _ _ _ (by kernel_rfl) | exact .assign _ | exact .binOp _ _ _ _ _ rfl | exact .indexAddr _ _ _ | exact .len _ _ (by kernel_rfl) | exact .field _ _ _ | exact .extract _ _ | exact .pick _ _ _ | exact .build _ _ | exact .slice _ _ _ _ _ | exact .unOp _ _ _ rfl | exact .index _ _ _ | exact .max _ _ _ rfl rfl | exact .min _ _ _ rfl rfl | exact .nilCheck _ _ rfl)) | with_reducible refine Calmly.gl_tf (fun _ _ => ?_) | with_reducible refine Calmly.gl_ft (fun _ _ => ?_)) | ((with_reducible refine Calmly.is_eff ?_); refine Calmly.mix_eff rfl (fun _ _ => ?_)) | ((with_reducible refine Calmly.is_gf ?_); refine Calmly.mix_gf rfl rfl rfl ?_; first | with_reducible refine Calmly.gf_tt (fun _ _ => ?_) | with_reducible refine Calmly.gf_ff (fun _ _ => ?_) | with_reducible refine Calmly.gf_tf (kept_of hk) (fun _ _ => ?_) | with_reducible refine Calmly.gf_ft (kept_of hk) (fun _ _ => ?_)) | ((with_reducible refine Calmly.is_tail ?_); first | refine Calmly.mix_tail_nil ?_ | refine Calmly.mix_tail rfl (fun _ _ => ?_)) | ((with_reducible refine Calmly.is_kept ?_); refine ⟨kept_of hk, ?_⟩) | (with_reducible refine Calmly.mix_alt ?_ ?_))
      refine (CopyFrame_any a n c raw fs _ (hF.keep hk) (by omega) HSP.out).mono ?_
      rintro e w1 ⟨a4, c4, raw4, rfl, hF4, hb1⟩
      replace hk := step_of hk hb1
      try dsimp only
      go_wp2_with (first | ((with_reducible refine Calmly.is_fl ?_); refine Calmly.mix_fl rfl ?_ (fun _ _ => ?_); (first | exact .move _ | exact .load _ _ | exact .fieldAddr _ _ _ (by kernel_rfl) | exact .assign _ | exact .binOp _ _ _ _ _ rfl | exact .indexAddr _ _ _ | exact .len _ _ (by kernel_rfl) | exact .field _ _ _ | exact .extract _ _ | exact .pick _ _ _ | exact .build _ _ | exact .slice _ _ _ _ _ | exact .unOp _ _ _ rfl | exact .index _ _ _ | exact .max _ _ _ rfl rfl | exact .min _ _ _ rfl rfl | exact .nilCheck _ _ rfl)) | ((with_reducible refine Calmly.is_gl ?_); refine Calmly.mix_gl rfl rfl rfl ?_; first | ((first | with_reducible refine Calmly.gl_tt ?_ (fun _ _ => ?_) | with_reducible refine Calmly.gl_ff ?_ (fun _ _ => ?_)); (first | exact .move _ | exact .load _ _ | exact .fieldAddr _ _ _ (by kernel_rfl) | exact .assign _ | exact .binOp _ _ _ _ _ rfl | exact .indexAddr _ _ _ | exact .len _ _ (by kernel_rfl) | exact .field _ _ _ | exact .extract _ _ | exact .pick _ _ _ | exact .build _ _ | exact .slice _ _ _ _ _ | exact .unOp _ _ _ rfl | exact .index _ _ _ | exact .max _ _ _ rfl rfl | exact .min _ _ _ rfl rfl | exact .nilCheck _ _ rfl)) | with_reducible refine Calmly.gl_tf (fun _ _ => ?_) | with_reducible refine Calmly.gl_ft (fun _ _ => ?_)) | ((with_reducible refine Calmly.is_eff ?_); refine Calmly.mix_eff rfl (fun _ _ => ?_)) | ((with_reducible refine Calmly.is_gf ?_); refine Calmly.mix_gf rfl rfl rfl ?_; first | with_reducible refine Calmly.gf_tt (fun _ _ => ?_) | with_reducible refine Calmly.gf_ff (fun _ _ => ?_) | with_reducible refine Calmly.gf_tf (kept_of hk) (fun _ _ => ?_) | with_reducible refine Calmly.gf_ft (kept_of hk) (fun _ _ => ?_)) | ((with_reducible refine Calmly.is_tail ?_); first | refine Calmly.mix_tail_nil ?_ | refine Calmly.mix_tail rfl (fun _ _ => ?_)) | ((with_reducible refine Calmly.is_kept ?_); refine ⟨kept_of hk, ?_⟩) | (with_reducible refine Calmly.mix_alt ?_ ?_))
      refine (CopyState_any a1 a2 a3 n1 c1 n2 c2 n3 c3 s _ (hSt.keep hk) (by omega) (by omega) (by omega) HSL.out).mono ?_
      rintro e w3 ⟨⟨⟨p1, p2, p3⟩, ⟨p4, p5, p6⟩, ⟨p7, p8, p9⟩⟩, rfl, hS4, hb2⟩
      dsimp only [hv]
      replace hk := step_of hk hb2
      replace hF4 := hF4.keep hb2
      try dsimp only
      go_wp2_with (first | ((with_reducible refine Calmly.is_fl ?_); refine Calmly.mix_fl rfl ?_ (fun _ _ => ?_); (first | exact .move _ | exact .load _ _ | exact .fieldAddr _ _ _ (by kernel_rfl) | exact .assign _ | exact .binOp _ _ _ _ _ rfl | exact .indexAddr _ _ _ | exact .len _ _ (by kernel_rfl) | exact .field _ _ _ | exact .extract _ _ | exact .pick _ _ _ | exact .build _ _ | exact .slice _ _ _ _ _ | exact .unOp _ _ _ rfl | exact .index _ _ _ | exact .max _ _ _ rfl rfl | exact .min _ _ _ rfl rfl | exact .nilCheck _ _ rfl)) | ((with_reducible refine Calmly.is_gl ?_); refine Calmly.mix_gl rfl rfl rfl ?_; first | ((first | with_reducible refine Calmly.gl_tt ?_ (fun _ _ => ?_) | with_reducible refine Calmly.gl_ff ?_ (fun _ _ => ?_)); (first | exact .move _ | exact .load _ _ | exact .fieldAddr _ _ _ (by kernel_rfl) | exact .assign _ | exact .binOp _ _ _ _ _ rfl | exact .indexAddr _ _ _ | exact .len _ _ (by kernel_rfl) | exact .field _ _ _ | exact .extract _ _ | exact .pick _ _ _ | exact .build _ _ | exact .slice _ _ _ _ _ | exact .unOp _ _ _ rfl | exact .index _ _ _ | exact .max _ _ _ rfl rfl | exact .min _ _ _ rfl rfl | exact .nilCheck _ _ rfl)) | with_reducible refine Calmly.gl_tf (fun _ _ => ?_) | with_reducible refine Calmly.gl_ft (fun _ _ => ?_)) | ((with_reducible refine Calmly.is_eff ?_); refine Calmly.mix_eff rfl (fun _ _ => ?_)) | ((with_reducible refine Calmly.is_gf ?_); refine Calmly.mix_gf rfl rfl rfl ?_; first | with_reducible refine Calmly.gf_tt (fun _ _ => ?_) | with_reducible refine Calmly.gf_ff (fun _ _ => ?_) | with_reducible refine Calmly.gf_tf (kept_of hk) (fun _ _ => ?_) | with_reducible refine Calmly.gf_ft (kept_of hk) (fun _ _ => ?_)) | ((with_reducible refine Calmly.is_tail ?_); first | refine Calmly.mix_tail_nil ?_ | refine Calmly.mix_tail rfl (fun _ _ => ?_)) | ((with_reducible refine Calmly.is_kept ?_); refine ⟨kept_of hk, ?_⟩) | (with_reducible refine Calmly.mix_alt ?_ ?_))
      refine (CheckState_any a4 p1 p4 p7 n c4 p2 p3 p5 p6 p8 p9 raw4 fs s _ hF4 hS4.w).mono ?_
      rintro e w4 ⟨rfl, hb3⟩
      rw [HSJ.out, HSE.out]
      replace hk := step_of hk hb3
      try dsimp only
      go_wp2_with (first | ((with_reducible refine Calmly.is_fl ?_); refine Calmly.mix_fl rfl ?_ (fun _ _ => ?_); (first | exact .move _ | exact .load _ _ | exact .fieldAddr _ _ _ (by kernel_rfl) | exact .assign _ | exact .binOp _ _ _ _ _ rfl | exact .indexAddr _ _ _ | exact .len _ _ (by kernel_rfl) | exact .field _ _ _ | exact .extract _ _ | exact .pick _ _ _ | exact .build _ _ | exact .slice _ _ _ _ _ | exact .unOp _ _ _ rfl | exact .index _ _ _ | exact .max _ _ _ rfl rfl | exact .min _ _ _ rfl rfl | exact .nilCheck _ _ rfl)) | ((with_reducible refine Calmly.is_gl ?_); refine Calmly.mix_gl rfl rfl rfl ?_; first | ((first | with_reducible refine Calmly.gl_tt ?_ (fun _ _ => ?_) | with_reducible refine Calmly.gl_ff ?_ (fun _ _ => ?_)); (first | exact .move _ | exact .load _ _ | exact .fieldAddr _ _ _ (by kernel_rfl) | exact .assign _ | exact .binOp _ _ _ _ _ rfl | exact .indexAddr _ _ _ | exact .len _ _ (by kernel_rfl) | exact .field _ _ _ | exact .extract _ _ | exact .pick _ _ _ | exact .build _ _ | exact .slice _ _ _ _ _ | exact .unOp _ _ _ rfl | exact .index _ _ _ | exact .max _ _ _ rfl rfl | exact .min _ _ _ rfl rfl | exact .nilCheck _ _ rfl)) | with_reducible refine Calmly.gl_tf (fun _ _ => ?_) | with_reducible refine Calmly.gl_ft (fun _ _ => ?_)) | ((with_reducible refine Calmly.is_eff ?_); refine Calmly.mix_eff rfl (fun _ _ => ?_)) | ((with_reducible refine Calmly.is_gf ?_); refine Calmly.mix_gf rfl rfl rfl ?_; first | with_reducible refine Calmly.gf_tt (fun _ _ => ?_) | with_reducible refine Calmly.gf_ff (fun _ _ => ?_) | with_reducible refine Calmly.gf_tf (kept_of hk) (fun _ _ => ?_) | with_reducible refine Calmly.gf_ft (kept_of hk) (fun _ _ => ?_)) | ((with_reducible refine Calmly.is_tail ?_); first | refine Calmly.mix_tail_nil ?_ | refine Calmly.mix_tail rfl (fun _ _ => ?_)) | ((with_reducible refine Calmly.is_kept ?_); refine ⟨kept_of hk, ?_⟩) | (with_reducible refine Calmly.mix_alt ?_ ?_))
      clear f0 g0 g1 g2 hF hSt hF4 hS4 hb1 hb2 hb3
      replace y3 := blk_keep y3 hk
      replace y4 := blk_keep y4 hk
      replace BW := BW.trans (hk.mono BW.size)
      clear hk
      generalize w4 = W at *
      refine Calmly.wp_region_mix 11 (.fl 0 <| .fl 2 <| .fl 4 <| .alt 1 (.alt 3 (.alt 5 (.fl 6 <| .fl 7 <| .fl 8 <| .eff 9 <| .eff 10 <| .tail [11]) (.eff 9 (.eff 5 <| .fl 6 <| .fl 7 <| .fl 8 <| .eff 10 <| .tail [11]))) (.eff 9 (.eff 3 <| .eff 5 <| .fl 6 <| .fl 7 <| .fl 8 <| .eff 10 <| .tail [11]))) (.eff 9 (.eff 1 <| .eff 3 <| .eff 5 <| .fl 6 <| .fl 7 <| .fl 8 <| .eff 10 <| .tail [11]))) (by kernel_rfl) (by kernel_rfl) ?_
      have BD : Below W.heap.size W W.drew := (Below.refl _ _).drew
      replace y3 := blk_keep y3 BD
      replace y4 := blk_keep y4 BD
      replace BW := BW.trans (BD.mono BW.size)
      clear BD
      generalize W.drew = V at *
      have hk := Below.refl V.heap.size V
      have f0 := cell_block y3 0
      have g0 := cell_block y4 0
      have g1 := cell_block y4 1
      have g2 := cell_block y4 2
      have hF := h1.keep BW
      have hSt := h2.keep BW
      rename_i K11 hK11
      have hK11' := fun a w (h : Stop _) => hK11 a w h.out
      clear hK11
      have HK11 : ∀ (W : World) (q10 : Nat) (y5 y6 y7 y12 y13 y14 y15 y16 y17 y18 y19 y20 y21 y22 y23 y24 y25 y26 y27 y28 y29 y30 y31 y32 y33 y34 y35 y36 y37 y38 y39 y40 y41 y42 y43 y44 y45 y46 y47 y48 y49 y50 y51 y52 y53 y54 y55 y56 y57 y58 y59 y60 y61 y62 y63 y64 y65 y66 y67 y68 y69 y70 y71 y72 y73 y74 y75 y76 y77 y78 y79 y80 y81 y82 y83 y84 y85 y86 y87 y88 y89 y90 y91 y92 y93 y94 y95 y96 y97 y98 y99 y100 y101 y102 y103 y104 y105 y106 y107 y108 y109 y110 y111 y112 y113 y114 y115 y116 y117 y118 y119 y120 y121 y122 y123 y124 y125 y126 y127 y128 y129 y130 y131 y132 y133 y134 y135 y136 y137 y138 y139 y140 y141 y142 y143 y144 y145 y146 y147 y148 y149 y150 y151 y152 y153 y154 y155 y156 y157 y158 y159 y160 y161 y162 y163 y164 y165 y166 y167 y168 y169 : Value), Below V.heap.size V W → SbW W q10 RS → K11 { tmps := #[.agg #[.slice a n c], .agg #[.slice a1 n1 c1, .slice a2 n2 c2, .slice a3 n3 c3], .int .i64 g, .pointer (some ⟨w.heap.size, 0, none⟩), .pointer (some ⟨w.heap.size + 1, 0, none⟩), y5, y6, y7, .int .i64 SJ, .int .i64 SE, .pointer (some ⟨q10, 0, none⟩), .int .i64 RE, y12, y13, y14, y15, y16, y17, y18, y19, y20, y21, y22, y23, y24, y25, y26, y27, y28, y29, y30, y31, y32, y33, y34, y35, y36, y37, y38, y39, y40, y41, y42, y43, y44, y45, y46, y47, y48, y49, y50, y51, y52, y53, y54, y55, y56, y57, y58, y59, y60, y61, y62, y63, y64, y65, y66, y67, y68, y69, y70, y71, y72, y73, y74, y75, y76, y77, y78, y79, y80, y81, y82, y83, y84, y85, y86, y87, y88, y89, y90, y91, y92, y93, y94, y95, y96, y97, y98, y99, y100, y101, y102, y103, y104, y105, y106, y107, y108, y109, y110, y111, y112, y113, y114, y115, y116, y117, y118, y119, y120, y121, y122, y123, y124, y125, y126, y127, y128, y129, y130, y131, y132, y133, y134, y135, y136, y137, y138, y139, y140, y141, y142, y143, y144, y145, y146, y147, y148, y149, y150, y151, y152, y153, y154, y155, y156, y157, y158, y159, y160, y161, y162, y163, y164, y165, y166, y167, y168, y169], defers := [] } W := by
        intro W q10 y5 y6 y7 y12 y13 y14 y15 y16 y17 y18 y19 y20 y21 y22 y23 y24 y25 y26 y27 y28 y29 y30 y31 y32 y33 y34 y35 y36 y37 y38 y39 y40 y41 y42 y43 y44 y45 y46 y47 y48 y49 y50 y51 y52 y53 y54 y55 y56 y57 y58 y59 y60 y61 y62 y63 y64 y65 y66 y67 y68 y69 y70 y71 y72 y73 y74 y75 y76 y77 y78 y79 y80 y81 y82 y83 y84 y85 y86 y87 y88 y89 y90 y91 y92 y93 y94 y95 y96 y97 y98 y99 y100 y101 y102 y103 y104 y105 y106 y107 y108 y109 y110 y111 y112 y113 y114 y115 y116 y117 y118 y119 y120 y121 y122 y123 y124 y125 y126 y127 y128 y129 y130 y131 y132 y133 y134 y135 y136 y137 y138 y139 y140 y141 y142 y143 y144 y145 y146 y147 y148 y149 y150 y151 y152 y153 y154 y155 y156 y157 y158 y159 y160 y161 y162 y163 y164 y165 y166 y167 y168 y169 hb hX
        refine hK11' _ _ ⟨?_⟩
        clear hK11' hk f0 g0 g1 g2 hF hSt
        replace y3 := blk_keep y3 hb
        replace y4 := blk_keep y4 hb
        replace BW := BW.trans (hb.mono BW.size)
        clear hb
        clear V
        try dsimp only
        go_wp2_with fail
        refine Calmly.wp_region_mix 11 (.fl 0 <| .fl 2 <| .fl 4 <| .alt 1 (.alt 3 (.alt 5 (.fl 6 <| .fl 7 <| .fl 8 <| .eff 9 <| .eff 10 <| .tail [11]) (.eff 9 (.eff 5 <| .fl 6 <| .fl 7 <| .fl 8 <| .eff 10 <| .tail [11]))) (.eff 9 (.eff 3 <| .eff 5 <| .fl 6 <| .fl 7 <| .fl 8 <| .eff 10 <| .tail [11]))) (.eff 9 (.eff 1 <| .eff 3 <| .eff 5 <| .fl 6 <| .fl 7 <| .fl 8 <| .eff 10 <| .tail [11]))) (by kernel_rfl) (by kernel_rfl) ?_
        have BD : Below W.heap.size W W.drew := (Below.refl _ _).drew
        replace hX := hX.keep BD
        replace y3 := blk_keep y3 BD
        replace y4 := blk_keep y4 BD
        replace BW := BW.trans (BD.mono BW.size)
        clear BD
        generalize W.drew = V at *
        have hk := Below.refl V.heap.size V
        have f0 := cell_block y3 0
        have g0 := cell_block y4 0
        have g1 := cell_block y4 1
        have g2 := cell_block y4 2
        have hF := h1.keep BW
        have hSt := h2.keep BW
        rename_i K12 hK12
        have hK12' := fun a w (h : Stop _) => hK12 a w h.out
        clear hK12
        have HK12 : ∀ (W : World) (q12 : Nat) (y5 y6 y7 y14 y15 y16 y17 y18 y19 y20 y21 y22 y23 y24 y25 y26 y27 y28 y29 y30 y31 y32 y33 y34 y35 y36 y37 y38 y39 y40 y41 y42 y43 y44 y45 y46 y47 y48 y49 y50 y51 y52 y53 y54 y55 y56 y57 y58 y59 y60 y61 y62 y63 y64 y65 y66 y67 y68 y69 y70 y71 y72 y73 y74 y75 y76 y77 y78 y79 y80 y81 y82 y83 y84 y85 y86 y87 y88 y89 y90 y91 y92 y93 y94 y95 y96 y97 y98 y99 y100 y101 y102 y103 y104 y105 y106 y107 y108 y109 y110 y111 y112 y113 y114 y115 y116 y117 y118 y119 y120 y121 y122 y123 y124 y125 y126 y127 y128 y129 y130 y131 y132 y133 y134 y135 y136 y137 y138 y139 y140 y141 y142 y143 y144 y145 y146 y147 y148 y149 y150 y151 y152 y153 y154 y155 y156 y157 y158 y159 y160 y161 y162 y163 y164 y165 y166 y167 y168 y169 : Value), Below V.heap.size V W → BbW W q12 (B1, B2, B3, B4) → K12 { tmps := #[.agg #[.slice a n c], .agg #[.slice a1 n1 c1, .slice a2 n2 c2, .slice a3 n3 c3], .int .i64 g, .pointer (some ⟨w.heap.size, 0, none⟩), .pointer (some ⟨w.heap.size + 1, 0, none⟩), y5, y6, y7, .int .i64 SJ, .int .i64 SE, .pointer (some ⟨q10, 0, none⟩), .int .i64 RE, .pointer (some ⟨q12, 0, none⟩), .int .i64 E, y14, y15, y16, y17, y18, y19, y20, y21, y22, y23, y24, y25, y26, y27, y28, y29, y30, y31, y32, y33, y34, y35, y36, y37, y38, y39, y40, y41, y42, y43, y44, y45, y46, y47, y48, y49, y50, y51, y52, y53, y54, y55, y56, y57, y58, y59, y60, y61, y62, y63, y64, y65, y66, y67, y68, y69, y70, y71, y72, y73, y74, y75, y76, y77, y78, y79, y80, y81, y82, y83, y84, y85, y86, y87, y88, y89, y90, y91, y92, y93, y94, y95, y96, y97, y98, y99, y100, y101, y102, y103, y104, y105, y106, y107, y108, y109, y110, y111, y112, y113, y114, y115, y116, y117, y118, y119, y120, y121, y122, y123, y124, y125, y126, y127, y128, y129, y130, y131, y132, y133, y134, y135, y136, y137, y138, y139, y140, y141, y142, y143, y144, y145, y146, y147, y148, y149, y150, y151, y152, y153, y154, y155, y156, y157, y158, y159, y160, y161, y162, y163, y164, y165, y166, y167, y168, y169], defers := [] } W := by
          intro W q12 y5 y6 y7 y14 y15 y16 y17 y18 y19 y20 y21 y22 y23 y24 y25 y26 y27 y28 y29 y30 y31 y32 y33 y34 y35 y36 y37 y38 y39 y40 y41 y42 y43 y44 y45 y46 y47 y48 y49 y50 y51 y52 y53 y54 y55 y56 y57 y58 y59 y60 y61 y62 y63 y64 y65 y66 y67 y68 y69 y70 y71 y72 y73 y74 y75 y76 y77 y78 y79 y80 y81 y82 y83 y84 y85 y86 y87 y88 y89 y90 y91 y92 y93 y94 y95 y96 y97 y98 y99 y100 y101 y102 y103 y104 y105 y106 y107 y108 y109 y110 y111 y112 y113 y114 y115 y116 y117 y118 y119 y120 y121 y122 y123 y124 y125 y126 y127 y128 y129 y130 y131 y132 y133 y134 y135 y136 y137 y138 y139 y140 y141 y142 y143 y144 y145 y146 y147 y148 y149 y150 y151 y152 y153 y154 y155 y156 y157 y158 y159 y160 y161 y162 y163 y164 y165 y166 y167 y168 y169 hb hV
          refine hK12' _ _ ⟨?_⟩
          clear hK12' hk f0 g0 g1 g2 hF hSt
          replace hX := hX.keep hb
          replace y3 := blk_keep y3 hb
          replace y4 := blk_keep y4 hb
          replace BW := BW.trans (hb.mono BW.size)
          clear hb
          clear V
          have hA : Below W.heap.size W (W.alloc (.cells #[.slice none 0 0, .slice none 0 0, .slice none 0 0] 97)) := (Below.refl _ _).alloc (Nat.le_refl _) _
          have hZ : W.heap.size < W.heap.size + 1 ∧ (W.alloc (.cells #[.slice none 0 0, .slice none 0 0, .slice none 0 0] 97)).heap[W.heap.size]? = some (.cells #[.slice none 0 0, .slice none 0 0, .slice none 0 0] 97) := ⟨by omega, alloc_new _ _⟩
          have hZ2 := hZ.2
          clear hZ
          replace hX := hX.keep hA
          replace hV := hV.keep hA
          replace y3 := blk_keep y3 hA
          replace y4 := blk_keep y4 hA
          replace BW := BW.trans (hA.mono BW.size)
          have f0 := cell_block y3 0
          try dsimp only
          go_wp2_with fail
          obtain ⟨q14, hq14⟩ : ∃ q, W.heap.size = q := ⟨_, rfl⟩
          rw [hq14] at hZ2 ⊢
          clear hA hq14 f0
          generalize W.alloc (.cells #[.slice none 0 0, .slice none 0 0, .slice none 0 0] 97) = W0 at *
          clear W
          generalize W0 = W at *
          have hN : SbW W q14 ([], [], []) := ⟨((none, 0, 0), (none, 0, 0), (none, 0, 0)), hZ2, StV.zero _⟩
          clear hZ2
          refine (rCheckFrame_any a n c raw fs _ (h1.keep BW)).mono ?_
          rintro e w1 ⟨rfl, hs⟩
          rw [HFJ.out, HFE.out]
          dsimp only
          replace hX := hX.keep hs
          replace hV := hV.keep hs
          replace hN := hN.keep hs
          replace y3 := blk_keep y3 hs
          replace y4 := blk_keep y4 hs
          replace BW := BW.trans (hs.mono BW.size)
          clear hs
          generalize w1 = W at *
          by_cases hz : FE = 0
          case neg =>
            have hS1 : SJ = FJ := by rw [← HSJ.out, staE, if_neg (by rw [HFE.out]; exact hz), HFJ.out]
            have hS2 : SE = FE := by rw [← HSE.out, staE, if_neg (by rw [HFE.out]; exact hz), HFE.out]
            have hE2 : E = FE := by rw [← HE.out, opsE, first_bad (by rw [HSE.out, hS2]; exact hz), HSE.out, hS2]
            have b1 : (FE == 0) = false := by simpa using hz
            have b2 : (FE != 0) = true := by simpa using hz
            have hEn : E ≠ 0 := by rw [hE2]; exact hz
            obtain ⟨k1, k2, k3⟩ := stp_bad (fs := fs) (s := s) (g := g) (by rw [HE.out]; exact hEn)
            have hRE : RE = FE := by rw [← HRE.out, k1, HE.out, hE2]
            have hRS : RS = ([], [], []) := by rw [← HRS.out, k2]
            have hBB := HB4.out
            rw [k3] at hBB
            injection hBB with r3 r4
            injection r4 with r4 r5
            injection r5 with r5 r6
            clear k1 k2 k3 hEn HE HRE HRS HB4 hz HSJ HSE HFJ HFE
            subst hRS r3 r4 r5 r6
            skip
            subst hRE
            subst hS1
            skip
            have b3 : (SE != SE) = false := by simp
            have b4 : (SJ != SJ) = false := by simp
            obtain ⟨⟨⟨x1, x2, x3⟩, ⟨x4, x5, x6⟩, ⟨x7, x8, x9⟩⟩, zx, sx⟩ := hX.ex
            obtain ⟨⟨⟨n1', n2', n3'⟩, ⟨n4', n5', n6'⟩, ⟨n7', n8', n9'⟩⟩, zn, sn⟩ := hN.ex
            dsimp only [hv] at zx zn
            have u0 := cell_block zx 0
            have u1 := cell_block zx 1
            have u2 := cell_block zx 2
            have u3 := cell_block zn 0
            have u4 := cell_block zn 1
            have u5 := cell_block zn 2
            have v0 := cell_block hV.blk 0
            have v1 := cell_block hV.blk 1
            have v2 := cell_block hV.blk 2
            have v3 := cell_block hV.blk 3
            skip
            try dsimp only
            go_wp2_with fail
            refine (rSameState_any x1 x4 x7 n1' n4' n7' x2 x3 x5 x6 x8 x9 n2' n3' n5' n6' n8' n9' ([], [], []) ([], [], []) _ sx sn).mono ?_
            rintro e w1 ⟨rfl, hs⟩
            rw [show decide ((([], [], []) : St) = ([], [], [])) = true by simp]
            clear u0 u1 u2 u3 u4 u5 v0 v1 v2 v3
            have hV9 := hV.keep hs
            have v0 := cell_block hV9.blk 0
            have v1 := cell_block hV9.blk 1
            have v2 := cell_block hV9.blk 2
            have v3 := cell_block hV9.blk 3
            replace BW := BW.trans (hs.mono BW.size)
            dsimp only
            try dsimp only
            go_wp2_with fail
            go_ret
            exact ⟨ret_bool (by simp), BW⟩
          case pos =>
            subst hz
            have hS1 : (stfE fs s).1 = SJ := by rw [← HSJ.out, staE, if_pos HFE.out]
            have hS2 : (stfE fs s).2 = SE := by rw [← HSE.out, staE, if_pos HFE.out]
            have HS1 := Lib.hid hS1
            have HS2 := Lib.hid hS2
            clear hS1 hS2
            have f0 := cell_block y3 0
            have g0 := cell_block y4 0
            have g1 := cell_block y4 1
            have g2 := cell_block y4 2
            try dsimp only
            go_wp2_with fail
            refine (rCheckState_any a a1 a2 a3 n c n1 c1 n2 c2 n3 c3 raw fs s _ (h1.keep BW) (h2.keep BW) HFE.out).mono ?_
            rintro e w1 ⟨rfl, hs⟩
            rw [HS1.out, HS2.out]
            dsimp only
            clear f0 g0 g1 g2
            replace hX := hX.keep hs
            replace hV := hV.keep hs
            replace hN := hN.keep hs
            replace y3 := blk_keep y3 hs
            replace y4 := blk_keep y4 hs
            replace BW := BW.trans (hs.mono BW.size)
            clear hs
            generalize w1 = W at *
            by_cases hz : SE = 0
            case neg =>
              have hS1 : SJ = SJ := rfl
              have hS2 : SE = SE := rfl
              have hE2 : E = SE := by rw [← HE.out, opsE, first_bad (by rw [HSE.out]; exact hz), HSE.out]
              have b1 : (SE == 0) = false := by simpa using hz
              have b2 : (SE != 0) = true := by simpa using hz
              have b3 : (SE != SE) = false := by simp
              have b4 : (SJ != SJ) = false := by simp
              have hEn : E ≠ 0 := by rw [hE2]; exact hz
              obtain ⟨k1, k2, k3⟩ := stp_bad (fs := fs) (s := s) (g := g) (by rw [HE.out]; exact hEn)
              have hRE : RE = SE := by rw [← HRE.out, k1, HE.out, hE2]
              have hRS : RS = ([], [], []) := by rw [← HRS.out, k2]
              have hBB := HB4.out
              rw [k3] at hBB
              injection hBB with r3 r4
              injection r4 with r4 r5
              injection r5 with r5 r6
              clear k1 k2 k3 hEn HE HRE HRS HB4 hz HSJ HSE HFJ HFE HS1 HS2
              subst hRS r3 r4 r5 r6
              skip
              subst hRE
              obtain ⟨⟨⟨x1, x2, x3⟩, ⟨x4, x5, x6⟩, ⟨x7, x8, x9⟩⟩, zx, sx⟩ := hX.ex
              obtain ⟨⟨⟨n1', n2', n3'⟩, ⟨n4', n5', n6'⟩, ⟨n7', n8', n9'⟩⟩, zn, sn⟩ := hN.ex
              dsimp only [hv] at zx zn
              have u0 := cell_block zx 0
              have u1 := cell_block zx 1
              have u2 := cell_block zx 2
              have u3 := cell_block zn 0
              have u4 := cell_block zn 1
              have u5 := cell_block zn 2
              have v0 := cell_block hV.blk 0
              have v1 := cell_block hV.blk 1
              have v2 := cell_block hV.blk 2
              have v3 := cell_block hV.blk 3
              skip
              try dsimp only
              go_wp2_with fail
              refine (rSameState_any x1 x4 x7 n1' n4' n7' x2 x3 x5 x6 x8 x9 n2' n3' n5' n6' n8' n9' ([], [], []) ([], [], []) _ sx sn).mono ?_
              rintro e w1 ⟨rfl, hs⟩
              rw [show decide ((([], [], []) : St) = ([], [], [])) = true by simp]
              clear u0 u1 u2 u3 u4 u5 v0 v1 v2 v3
              have hV9 := hV.keep hs
              have v0 := cell_block hV9.blk 0
              have v1 := cell_block hV9.blk 1
              have v2 := cell_block hV9.blk 2
              have v3 := cell_block hV9.blk 3
              replace BW := BW.trans (hs.mono BW.size)
              dsimp only
              try dsimp only
              go_wp2_with fail
              go_ret
              exact ⟨ret_bool (by simp), BW⟩
            case pos =>
              subst hz
              obtain ⟨GE, hGE⟩ : ∃ x, unlessE (grd g) 2 = x := ⟨_, rfl⟩
              have hE2 : E = GE := by rw [← HE.out, opsE, first_ok HSE.out, hGE]
              have HGE := Lib.hid hGE
              have b4 : (SJ != SJ) = false := by simp
              clear hGE
              try dsimp only
              go_wp2_with fail
              refine (rGroundErr_any g _).mono ?_
              rintro e w1 ⟨rfl, rfl⟩
              rw [HGE.out]
              dsimp only
              clear b4
              by_cases hz : GE = 0
              case neg =>
                have hS1 : True := trivial
                have hS2 : True := trivial
                have b1 : (GE == 0) = false := by simpa using hz
                have b2 : (GE != 0) = true := by simpa using hz
                have hEn : E ≠ 0 := by rw [hE2]; exact hz
                obtain ⟨k1, k2, k3⟩ := stp_bad (fs := fs) (s := s) (g := g) (by rw [HE.out]; exact hEn)
                have hRE : RE = GE := by rw [← HRE.out, k1, HE.out, hE2]
                have hRS : RS = ([], [], []) := by rw [← HRS.out, k2]
                have hBB := HB4.out
                rw [k3] at hBB
                injection hBB with r3 r4
                injection r4 with r4 r5
                injection r5 with r5 r6
                clear k1 k2 k3 hEn HE HRE HRS HB4 hz HSJ HSE HFJ HFE HS1 HS2 HGE
                subst hRS r3 r4 r5 r6
                subst hE2
                subst hRE
                obtain ⟨⟨⟨x1, x2, x3⟩, ⟨x4, x5, x6⟩, ⟨x7, x8, x9⟩⟩, zx, sx⟩ := hX.ex
                obtain ⟨⟨⟨n1', n2', n3'⟩, ⟨n4', n5', n6'⟩, ⟨n7', n8', n9'⟩⟩, zn, sn⟩ := hN.ex
                dsimp only [hv] at zx zn
                have u0 := cell_block zx 0
                have u1 := cell_block zx 1
                have u2 := cell_block zx 2
                have u3 := cell_block zn 0
                have u4 := cell_block zn 1
                have u5 := cell_block zn 2
                have v0 := cell_block hV.blk 0
                have v1 := cell_block hV.blk 1
                have v2 := cell_block hV.blk 2
                have v3 := cell_block hV.blk 3
                skip
                try dsimp only
                go_wp2_with fail
                refine (rSameState_any x1 x4 x7 n1' n4' n7' x2 x3 x5 x6 x8 x9 n2' n3' n5' n6' n8' n9' ([], [], []) ([], [], []) _ sx sn).mono ?_
                rintro e w1 ⟨rfl, hs⟩
                rw [show decide ((([], [], []) : St) = ([], [], [])) = true by simp]
                clear u0 u1 u2 u3 u4 u5 v0 v1 v2 v3
                have hV9 := hV.keep hs
                have v0 := cell_block hV9.blk 0
                have v1 := cell_block hV9.blk 1
                have v2 := cell_block hV9.blk 2
                have v3 := cell_block hV9.blk 3
                replace BW := BW.trans (hs.mono BW.size)
                dsimp only
                try dsimp only
                go_wp2_with fail
                go_ret
                exact ⟨ret_bool (by simp), BW⟩
              case pos =>
                subst hz
                subst hE2
                obtain ⟨hok1, hok2, hok3⟩ := ops_ok HE.out
                have hsta := sta_frm hok3
                have hbd := stf_bd hsta.1 hsta.2
                have HOK := Lib.hid hok1
                have HBD := Lib.hid hbd
                obtain ⟨C, hC⟩ : ∃ x, colF (badS fs (nxts fs s g)) 0 fs.length = x := ⟨_, rfl⟩
                have HC := Lib.hid hC
                have hb4 := HB4.out
                rw [bal4, if_pos HE.out, ← HN.out] at hb4
                injection hb4 with r3 r4
                injection r4 with r4 r5
                injection r5 with r5 r6
                have R3 := Lib.hid r3
                have R4 := Lib.hid r4
                have R5 := Lib.hid r5
                have R6 := Lib.hid r6
                have hre : RE = if C < 0 then 0 else 22 := by rw [← HRE.out, stpE, if_pos HE.out, hC]
                have hrs : RS = if RE = 0 then steS fs s (nxts fs s g) else ([], [], []) := by rw [← HRS.out, stpS, HRE.out]
                have HRE2 := Lib.hid hre
                have HRS2 := Lib.hid hrs
                clear hok1 hok3 hsta hbd hC r3 r4 r5 r6 hre hrs
                have f0 := cell_block y3 0
                have g0 := cell_block y4 0
                have g1 := cell_block y4 1
                have g2 := cell_block y4 2
                try dsimp only
                go_wp2_with fail
                refine (rStep_any a a1 a2 a3 n c n1 c1 n2 c2 n3 c3 g raw fs s _ (h1.keep BW) (h2.keep BW) HOK.out hok2).mono ?_
                rintro e w1 ⟨⟨⟨p1, p2, p3⟩, ⟨p4, p5, p6⟩, ⟨p7, p8, p9⟩⟩, rfl, hst, hs⟩
                dsimp only [hv]
                rw [HC.out] at hst ⊢
                clear f0 g0 g1 g2
                replace hX := hX.keep hs
                replace hV := hV.keep hs
                replace hN := hN.keep hs
                replace y3 := blk_keep y3 hs
                replace y4 := blk_keep y4 hs
                replace BW := BW.trans (hs.mono BW.size)
                clear hs
                have hA : Below w1.heap.size w1 (w1.alloc (.cells #[.slice p1 p2 p3, .slice p4 p5 p6, .slice p7 p8 p9] 97)) := (Below.refl _ _).alloc (Nat.le_refl _) _
                have z17 := alloc_new w1 (.cells #[.slice p1 p2 p3, .slice p4 p5 p6, .slice p7 p8 p9] 97)
                replace hst := fun h => (hst h).keep hA
                replace hX := hX.keep hA
                replace hV := hV.keep hA
                replace hN := hN.keep hA
                replace y3 := blk_keep y3 hA
                replace y4 := blk_keep y4 hA
                replace BW := BW.trans (hA.mono BW.size)
                clear hA
                try dsimp only
                go_wp2_with fail
                obtain ⟨q17, hq17⟩ : ∃ q, w1.heap.size = q := ⟨_, rfl⟩
                rw [hq17] at z17 ⊢
                clear hq17
                generalize w1.alloc (.cells #[.slice p1 p2 p3, .slice p4 p5 p6, .slice p7 p8 p9] 97) = W at *
                refine Calmly.wp_region_mix 9 (.fl 0 <| .fl 1 <| .fl 2 <| .gl 3 <| .gl 4 <| .gl 5 <| .gl 6 <| .gf 7 <| .gf 8 <| .tail [9]) (by kernel_rfl) (by kernel_rfl) ?_
                have BD : Below W.heap.size W W.drew := (Below.refl _ _).drew
                replace hst := fun h => (hst h).keep BD
                replace z17 := blk_keep z17 BD
                replace hX := hX.keep BD
                replace hV := hV.keep BD
                replace hN := hN.keep BD
                replace y3 := blk_keep y3 BD
                replace y4 := blk_keep y4 BD
                replace BW := BW.trans (BD.mono BW.size)
                clear BD
                generalize W.drew = V at *
                have hk := Below.refl V.heap.size V
                have f0 := cell_block y3 0
                have g0 := cell_block y4 0
                have g1 := cell_block y4 1
                have g2 := cell_block y4 2
                have v0 := cell_block hV.blk 0
                have v1 := cell_block hV.blk 1
                have v2 := cell_block hV.blk 2
                have v3 := cell_block hV.blk 3
                try dsimp only
                go_wp2_with (first | ((with_reducible refine Calmly.is_fl ?_); refine Calmly.mix_fl rfl ?_ (fun _ _ => ?_); (first | exact .move _ | exact .load _ _ | exact .fieldAddr _ _ _ (by kernel_rfl) | exact .assign _ | exact .binOp _ _ _ _ _ rfl | exact .indexAddr _ _ _ | exact .len _ _ (by kernel_rfl) | exact .field _ _ _ | exact .extract _ _ | exact .pick _ _ _ | exact .build _ _ | exact .slice _ _ _ _ _ | exact .unOp _ _ _ rfl | exact .index _ _ _ | exact .max _ _ _ rfl rfl | exact .min _ _ _ rfl rfl | exact .nilCheck _ _ rfl)) | ((with_reducible refine Calmly.is_gl ?_); refine Calmly.mix_gl rfl rfl rfl ?_; first | ((first | with_reducible refine Calmly.gl_tt ?_ (fun _ _ => ?_) | with_reducible refine Calmly.gl_ff ?_ (fun _ _ => ?_)); (first | exact .move _ | exact .load _ _ | exact .fieldAddr _ _ _ (by kernel_rfl) | exact .assign _ | exact .binOp _ _ _ _ _ rfl | exact .indexAddr _ _ _ | exact .len _ _ (by kernel_rfl) | exact .field _ _ _ | exact .extract _ _ | exact .pick _ _ _ | exact .build _ _ | exact .slice _ _ _ _ _ | exact .unOp _ _ _ rfl | exact .index _ _ _ | exact .max _ _ _ rfl rfl | exact .min _ _ _ rfl rfl | exact .nilCheck _ _ rfl)) | with_reducible refine Calmly.gl_tf (fun _ _ => ?_) | with_reducible refine Calmly.gl_ft (fun _ _ => ?_)) | ((with_reducible refine Calmly.is_eff ?_); refine Calmly.mix_eff rfl (fun _ _ => ?_)) | ((with_reducible refine Calmly.is_gf ?_); refine Calmly.mix_gf rfl rfl rfl ?_; first | with_reducible refine Calmly.gf_tt (fun _ _ => ?_) | with_reducible refine Calmly.gf_ff (fun _ _ => ?_) | with_reducible refine Calmly.gf_tf (kept_of hk) (fun _ _ => ?_) | with_reducible refine Calmly.gf_ft (kept_of hk) (fun _ _ => ?_)) | ((with_reducible refine Calmly.is_tail ?_); first | refine Calmly.mix_tail_nil ?_ | refine Calmly.mix_tail rfl (fun _ _ => ?_)) | ((with_reducible refine Calmly.is_kept ?_); refine ⟨kept_of hk, ?_⟩) | (with_reducible refine Calmly.mix_alt ?_ ?_))
                refine (rBalance_any a a1 a2 a3 n c n1 c1 n2 c2 n3 c3 g raw fs s _ ((h1.keep BW).keep hk) ((h2.keep BW).keep hk) HOK.out hok2 HBD.out.1 HBD.out.2).mono ?_
                rintro e w5 ⟨rfl, hb5⟩
                rw [R3.out, R4.out, R5.out, R6.out]
                replace hk := step_of hk hb5
                dsimp only
                have hX5 := hX.keep hk
                have hN5 := hN.keep hk
                have z17' := blk_keep z17 hk
                obtain ⟨⟨⟨x1, x2, x3⟩, ⟨x4, x5, x6⟩, ⟨x7, x8, x9⟩⟩, zx, sx⟩ := hX5.ex
                obtain ⟨⟨⟨n1', n2', n3'⟩, ⟨n4', n5', n6'⟩, ⟨n7', n8', n9'⟩⟩, zn, sn⟩ := hN5.ex
                dsimp only [hv] at zx zn
                have u0 := cell_block zx 0
                have u1 := cell_block zx 1
                have u2 := cell_block zx 2
                have u3 := cell_block zn 0
                have u4 := cell_block zn 1
                have u5 := cell_block zn 2
                have t0 := cell_block z17' 0
                have t1 := cell_block z17' 1
                have t2 := cell_block z17' 2
                by_cases hC0 : C < 0
                case pos =>
                  have e1 : RE = 0 := by rw [HRE2.out, if_pos hC0]
                  have e2 : RS = steS fs s (nxts fs s g) := by rw [HRS2.out, if_pos e1]
                  have hs5 := (hst hC0).keep hk
                  have E2 := Lib.hid e2
                  have HS5 := Lib.hid hs5
                  have SX := Lib.hid sx
                  clear HRE HRE2 HRS2 HRS hst e2 hs5 sx sn
                  subst e1
                  try dsimp only
                  go_wp2_with (first | ((with_reducible refine Calmly.is_fl ?_); refine Calmly.mix_fl rfl ?_ (fun _ _ => ?_); (first | exact .move _ | exact .load _ _ | exact .fieldAddr _ _ _ (by kernel_rfl) | exact .assign _ | exact .binOp _ _ _ _ _ rfl | exact .indexAddr _ _ _ | exact .len _ _ (by kernel_rfl) | exact .field _ _ _ | exact .extract _ _ | exact .pick _ _ _ | exact .build _ _ | exact .slice _ _ _ _ _ | exact .unOp _ _ _ rfl | exact .index _ _ _ | exact .max _ _ _ rfl rfl | exact .min _ _ _ rfl rfl | exact .nilCheck _ _ rfl)) | ((with_reducible refine Calmly.is_gl ?_); refine Calmly.mix_gl rfl rfl rfl ?_; first | ((first | with_reducible refine Calmly.gl_tt ?_ (fun _ _ => ?_) | with_reducible refine Calmly.gl_ff ?_ (fun _ _ => ?_)); (first | exact .move _ | exact .load _ _ | exact .fieldAddr _ _ _ (by kernel_rfl) | exact .assign _ | exact .binOp _ _ _ _ _ rfl | exact .indexAddr _ _ _ | exact .len _ _ (by kernel_rfl) | exact .field _ _ _ | exact .extract _ _ | exact .pick _ _ _ | exact .build _ _ | exact .slice _ _ _ _ _ | exact .unOp _ _ _ rfl | exact .index _ _ _ | exact .max _ _ _ rfl rfl | exact .min _ _ _ rfl rfl | exact .nilCheck _ _ rfl)) | with_reducible refine Calmly.gl_tf (fun _ _ => ?_) | with_reducible refine Calmly.gl_ft (fun _ _ => ?_)) | ((with_reducible refine Calmly.is_eff ?_); refine Calmly.mix_eff rfl (fun _ _ => ?_)) | ((with_reducible refine Calmly.is_gf ?_); refine Calmly.mix_gf rfl rfl rfl ?_; first | with_reducible refine Calmly.gf_tt (fun _ _ => ?_) | with_reducible refine Calmly.gf_ff (fun _ _ => ?_) | with_reducible refine Calmly.gf_tf (kept_of hk) (fun _ _ => ?_) | with_reducible refine Calmly.gf_ft (kept_of hk) (fun _ _ => ?_)) | ((with_reducible refine Calmly.is_tail ?_); first | refine Calmly.mix_tail_nil ?_ | refine Calmly.mix_tail rfl (fun _ _ => ?_)) | ((with_reducible refine Calmly.is_kept ?_); refine ⟨kept_of hk, ?_⟩) | (with_reducible refine Calmly.mix_alt ?_ ?_))
                  refine (rSameState_any x1 x4 x7 p1 p4 p7 x2 x3 x5 x6 x8 x9 p2 p3 p5 p6 p8 p9 _ _ _ SX.out HS5.out).mono ?_
                  rintro e w6 ⟨rfl, hs⟩
                  rw [show decide (RS = steS fs s (nxts fs s g)) = true by simp [E2.out]]
                  dsimp only
                  try dsimp only
                  go_wp2_with fail
                  go_ret
                  exact ⟨ret_bool (by simp), (BW.trans (hk.mono BW.size)).trans (hs.mono (BW.trans (hk.mono BW.size)).size)⟩
                case neg =>
                  have e1 : RE = 22 := by rw [HRE2.out, if_neg hC0]
                  have e2 : RS = ([], [], []) := by rw [HRS2.out, if_neg (by rw [e1]; decide)]
                  have E2 := Lib.hid e2
                  have SX := Lib.hid sx
                  have SN := Lib.hid sn
                  have hC1 : 0 ≤ C := by omega
                  clear HRE HRE2 HRS2 HRS hst e2 sx sn
                  subst e1
                  try dsimp only
                  go_wp2_with (first | ((with_reducible refine Calmly.is_fl ?_); refine Calmly.mix_fl rfl ?_ (fun _ _ => ?_); (first | exact .move _ | exact .load _ _ | exact .fieldAddr _ _ _ (by kernel_rfl) | exact .assign _ | exact .binOp _ _ _ _ _ rfl | exact .indexAddr _ _ _ | exact .len _ _ (by kernel_rfl) | exact .field _ _ _ | exact .extract _ _ | exact .pick _ _ _ | exact .build _ _ | exact .slice _ _ _ _ _ | exact .unOp _ _ _ rfl | exact .index _ _ _ | exact .max _ _ _ rfl rfl | exact .min _ _ _ rfl rfl | exact .nilCheck _ _ rfl)) | ((with_reducible refine Calmly.is_gl ?_); refine Calmly.mix_gl rfl rfl rfl ?_; first | ((first | with_reducible refine Calmly.gl_tt ?_ (fun _ _ => ?_) | with_reducible refine Calmly.gl_ff ?_ (fun _ _ => ?_)); (first | exact .move _ | exact .load _ _ | exact .fieldAddr _ _ _ (by kernel_rfl) | exact .assign _ | exact .binOp _ _ _ _ _ rfl | exact .indexAddr _ _ _ | exact .len _ _ (by kernel_rfl) | exact .field _ _ _ | exact .extract _ _ | exact .pick _ _ _ | exact .build _ _ | exact .slice _ _ _ _ _ | exact .unOp _ _ _ rfl | exact .index _ _ _ | exact .max _ _ _ rfl rfl | exact .min _ _ _ rfl rfl | exact .nilCheck _ _ rfl)) | with_reducible refine Calmly.gl_tf (fun _ _ => ?_) | with_reducible refine Calmly.gl_ft (fun _ _ => ?_)) | ((with_reducible refine Calmly.is_eff ?_); refine Calmly.mix_eff rfl (fun _ _ => ?_)) | ((with_reducible refine Calmly.is_gf ?_); refine Calmly.mix_gf rfl rfl rfl ?_; first | with_reducible refine Calmly.gf_tt (fun _ _ => ?_) | with_reducible refine Calmly.gf_ff (fun _ _ => ?_) | with_reducible refine Calmly.gf_tf (kept_of hk) (fun _ _ => ?_) | with_reducible refine Calmly.gf_ft (kept_of hk) (fun _ _ => ?_)) | ((with_reducible refine Calmly.is_tail ?_); first | refine Calmly.mix_tail_nil ?_ | refine Calmly.mix_tail rfl (fun _ _ => ?_)) | ((with_reducible refine Calmly.is_kept ?_); refine ⟨kept_of hk, ?_⟩) | (with_reducible refine Calmly.mix_alt ?_ ?_))
                  refine (rSameState_any x1 x4 x7 n1' n4' n7' x2 x3 x5 x6 x8 x9 n2' n3' n5' n6' n8' n9' _ _ _ SX.out SN.out).mono ?_
                  rintro e w6 ⟨rfl, hs⟩
                  rw [show decide (RS = (([], [], []) : St)) = true by simp [E2.out]]
                  dsimp only
                  try dsimp only
                  go_wp2_with fail
                  go_ret
                  exact ⟨ret_bool (by simp), (BW.trans (hk.mono BW.size)).trans (hs.mono (BW.trans (hk.mono BW.size)).size)⟩
        clear hK12'
        have HK12' := Lib.hid HK12
        clear HK12
        try dsimp only
        go_wp2_with (first | ((with_reducible refine kept_st4M hk hq z15 (fun hk' hn => ?_)); replace hk := hk'; clear hk'; generalize World.setCell (World.setCell (World.setCell (World.setCell _ _ _) _ _) _ _) _ _ = W2 at *) | ((with_reducible refine Calmly.is_fl ?_); refine Calmly.mix_fl rfl ?_ (fun _ _ => ?_); (first | exact .move _ | exact .load _ _ | exact .fieldAddr _ _ _ (by kernel_rfl) | exact .assign _ | exact .binOp _ _ _ _ _ rfl | exact .indexAddr _ _ _ | exact .len _ _ (by kernel_rfl) | exact .field _ _ _ | exact .extract _ _ | exact .pick _ _ _ | exact .build _ _ | exact .slice _ _ _ _ _ | exact .unOp _ _ _ rfl | exact .index _ _ _ | exact .max _ _ _ rfl rfl | exact .min _ _ _ rfl rfl | exact .nilCheck _ _ rfl)) | ((with_reducible refine Calmly.is_gl ?_); refine Calmly.mix_gl rfl rfl rfl ?_; first | ((first | with_reducible refine Calmly.gl_tt ?_ (fun _ _ => ?_) | with_reducible refine Calmly.gl_ff ?_ (fun _ _ => ?_)); (first | exact .move _ | exact .load _ _ | exact .fieldAddr _ _ _ (by kernel_rfl) | exact .assign _ | exact .binOp _ _ _ _ _ rfl | exact .indexAddr _ _ _ | exact .len _ _ (by kernel_rfl) | exact .field _ _ _ | exact .extract _ _ | exact .pick _ _ _ | exact .build _ _ | exact .slice _ _ _ _ _ | exact .unOp _ _ _ rfl | exact .index _ _ _ | exact .max _ _ _ rfl rfl | exact .min _ _ _ rfl rfl | exact .nilCheck _ _ rfl)) | with_reducible refine Calmly.gl_tf (fun _ _ => ?_) | with_reducible refine Calmly.gl_ft (fun _ _ => ?_)) | ((with_reducible refine Calmly.is_eff ?_); refine Calmly.mix_eff rfl (fun _ _ => ?_)) | ((with_reducible refine Calmly.is_gf ?_); refine Calmly.mix_gf rfl rfl rfl ?_; first | with_reducible refine Calmly.gf_tt (fun _ _ => ?_) | with_reducible refine Calmly.gf_ff (fun _ _ => ?_) | with_reducible refine Calmly.gf_tf (kept_of hk) (fun _ _ => ?_) | with_reducible refine Calmly.gf_ft (kept_of hk) (fun _ _ => ?_)) | ((with_reducible refine Calmly.is_tail ?_); first | refine Calmly.mix_tail_nil ?_ | refine Calmly.mix_tail rfl (fun _ _ => ?_)) | ((with_reducible refine Calmly.is_kept ?_); refine ⟨kept_of hk, ?_⟩) | (with_reducible refine Calmly.mix_alt ?_ ?_) | (go_at_call 14; refine (CopyFrame_any a n c raw fs _ (hF.keep hk) (by omega) HSP.out).mono ?_; rintro e w1 ⟨a4, c4, raw4, rfl, hF4, hb1⟩; replace hk := step_of hk hb1; (try (replace z15 := blk_keep z15 hb1)); (try have z0 := cell_block z15 0); (try have x0 := frozen_block z15 0); (try have z1 := cell_block z15 1); (try have x1 := frozen_block z15 1); (try have z2 := cell_block z15 2); (try have x2 := frozen_block z15 2); (try have z3 := cell_block z15 3); (try have x3 := frozen_block z15 3); clear hb1; (try dsimp only)) | (go_at_call 56; refine (CopyState_any a1 a2 a3 n1 c1 n2 c2 n3 c3 s _ (hSt.keep hk) (by omega) (by omega) (by omega) HSL.out).mono ?_; rintro e w2 ⟨⟨⟨p1, p2, p3⟩, ⟨p4, p5, p6⟩, ⟨p7, p8, p9⟩⟩, rfl, hS4, hb2⟩; dsimp only [hv]; replace hk := step_of hk hb2; replace hF4 := hF4.keep hb2; (try (replace z15 := blk_keep z15 hb2)); (try have z0 := cell_block z15 0); (try have x0 := frozen_block z15 0); (try have z1 := cell_block z15 1); (try have x1 := frozen_block z15 1); (try have z2 := cell_block z15 2); (try have x2 := frozen_block z15 2); (try have z3 := cell_block z15 3); (try have x3 := frozen_block z15 3); clear hb2; (try dsimp only)) | (go_at_call 58; refine (BalanceOf_any a4 p1 p4 p7 n c4 p2 p3 p5 p6 p8 p9 raw4 fs s g _ hF4 hS4).mono ?_; rintro e w3 ⟨rfl, hb3⟩; rw [HE.out, HB4.out]; dsimp only; replace hk := step_of hk hb3; (try (replace z15 := blk_keep z15 hb3)); (try have z0 := cell_block z15 0); (try have x0 := frozen_block z15 0); (try have z1 := cell_block z15 1); (try have x1 := frozen_block z15 1); (try have z2 := cell_block z15 2); (try have x2 := frozen_block z15 2); (try have z3 := cell_block z15 3); (try have x3 := frozen_block z15 3); clear hb3; (try dsimp only)) | (refine kept_allocW5 hk (fun hk' hA hblk => ?_); (try replace hF4 := hF4.keep hA); (try replace hS4 := hS4.keep hA); (try replace hS5 := hS5.keep hA); have hq := hk.size; replace hk := hk'; clear hk'; have z15 := hblk; clear hblk hA; (try have z0 := cell_block z15 0); (try have x0 := frozen_block z15 0); (try have z1 := cell_block z15 1); (try have x1 := frozen_block z15 1); (try have z2 := cell_block z15 2); (try have x2 := frozen_block z15 2); (try have z3 := cell_block z15 3); (try have x3 := frozen_block z15 3); generalize World.alloc _ (.cells #[.int .i64 0, .int .i64 0, .int .i64 0, .int .i64 0] 103) = X15 at *))
        all_goals
          apply HK12'.out
          · exact hk
          · exact ⟨hn⟩
      clear hK11'
      have HK11' := Lib.hid HK11
      clear HK11
      try dsimp only
      go_wp2_with (first | ((with_reducible refine kept_st3M hk hq z15 (fun hk' ho hn => ?_)); have hS6 := hS5.but (But.set3 (x := .slice r1 r2 r3) (y := .slice r4 r5 r6) (z := .slice r7 r8 r9) z15); replace hk := hk'; clear hk' ho; generalize World.setCell (World.setCell (World.setCell _ _ _) _ _) _ _ = W2 at *) | ((with_reducible refine Calmly.is_fl ?_); refine Calmly.mix_fl rfl ?_ (fun _ _ => ?_); (first | exact .move _ | exact .load _ _ | exact .fieldAddr _ _ _ (by kernel_rfl) | exact .assign _ | exact .binOp _ _ _ _ _ rfl | exact .indexAddr _ _ _ | exact .len _ _ (by kernel_rfl) | exact .field _ _ _ | exact .extract _ _ | exact .pick _ _ _ | exact .build _ _ | exact .slice _ _ _ _ _ | exact .unOp _ _ _ rfl | exact .index _ _ _ | exact .max _ _ _ rfl rfl | exact .min _ _ _ rfl rfl | exact .nilCheck _ _ rfl)) | ((with_reducible refine Calmly.is_gl ?_); refine Calmly.mix_gl rfl rfl rfl ?_; first | ((first | with_reducible refine Calmly.gl_tt ?_ (fun _ _ => ?_) | with_reducible refine Calmly.gl_ff ?_ (fun _ _ => ?_)); (first | exact .move _ | exact .load _ _ | exact .fieldAddr _ _ _ (by kernel_rfl) | exact .assign _ | exact .binOp _ _ _ _ _ rfl | exact .indexAddr _ _ _ | exact .len _ _ (by kernel_rfl) | exact .field _ _ _ | exact .extract _ _ | exact .pick _ _ _ | exact .build _ _ | exact .slice _ _ _ _ _ | exact .unOp _ _ _ rfl | exact .index _ _ _ | exact .max _ _ _ rfl rfl | exact .min _ _ _ rfl rfl | exact .nilCheck _ _ rfl)) | with_reducible refine Calmly.gl_tf (fun _ _ => ?_) | with_reducible refine Calmly.gl_ft (fun _ _ => ?_)) | ((with_reducible refine Calmly.is_eff ?_); refine Calmly.mix_eff rfl (fun _ _ => ?_)) | ((with_reducible refine Calmly.is_gf ?_); refine Calmly.mix_gf rfl rfl rfl ?_; first | with_reducible refine Calmly.gf_tt (fun _ _ => ?_) | with_reducible refine Calmly.gf_ff (fun _ _ => ?_) | with_reducible refine Calmly.gf_tf (kept_of hk) (fun _ _ => ?_) | with_reducible refine Calmly.gf_ft (kept_of hk) (fun _ _ => ?_)) | ((with_reducible refine Calmly.is_tail ?_); first | refine Calmly.mix_tail_nil ?_ | refine Calmly.mix_tail rfl (fun _ _ => ?_)) | ((with_reducible refine Calmly.is_kept ?_); refine ⟨kept_of hk, ?_⟩) | (with_reducible refine Calmly.mix_alt ?_ ?_) | (go_at_call 14; refine (CopyFrame_any a n c raw fs _ (hF.keep hk) (by omega) HSP.out).mono ?_; rintro e w1 ⟨a4, c4, raw4, rfl, hF4, hb1⟩; replace hk := step_of hk hb1; (try (replace z15 := blk_keep z15 hb1)); (try have z0 := cell_block z15 0); (try have x0 := frozen_block z15 0); (try have z1 := cell_block z15 1); (try have x1 := frozen_block z15 1); (try have z2 := cell_block z15 2); (try have x2 := frozen_block z15 2); clear hb1; (try dsimp only)) | (go_at_call 56; refine (CopyState_any a1 a2 a3 n1 c1 n2 c2 n3 c3 s _ (hSt.keep hk) (by omega) (by omega) (by omega) HSL.out).mono ?_; rintro e w2 ⟨⟨⟨p1, p2, p3⟩, ⟨p4, p5, p6⟩, ⟨p7, p8, p9⟩⟩, rfl, hS4, hb2⟩; dsimp only [hv]; replace hk := step_of hk hb2; replace hF4 := hF4.keep hb2; (try (replace z15 := blk_keep z15 hb2)); (try have z0 := cell_block z15 0); (try have x0 := frozen_block z15 0); (try have z1 := cell_block z15 1); (try have x1 := frozen_block z15 1); (try have z2 := cell_block z15 2); (try have x2 := frozen_block z15 2); clear hb2; (try dsimp only)) | (go_at_call 57; refine (StepOf_any a4 p1 p4 p7 n c4 p2 p3 p5 p6 p8 p9 raw4 fs s g _ hF4 hS4).mono ?_; rintro e w3 ⟨⟨⟨r1, r2, r3⟩, ⟨r4, r5, r6⟩, ⟨r7, r8, r9⟩⟩, rfl, hS5, hb3⟩; dsimp only [hv]; rw [HRE.out]; rw [HRS.out] at hS5; replace hk := step_of hk hb3; (try (replace z15 := blk_keep z15 hb3)); (try have z0 := cell_block z15 0); (try have x0 := frozen_block z15 0); (try have z1 := cell_block z15 1); (try have x1 := frozen_block z15 1); (try have z2 := cell_block z15 2); (try have x2 := frozen_block z15 2); clear hb3; (try dsimp only)) | (refine kept_allocW5 hk (fun hk' hA hblk => ?_); (try replace hF4 := hF4.keep hA); (try replace hS4 := hS4.keep hA); (try replace hS5 := hS5.keep hA); have hq := hk.size; replace hk := hk'; clear hk'; have z15 := hblk; clear hblk hA; (try have z0 := cell_block z15 0); (try have x0 := frozen_block z15 0); (try have z1 := cell_block z15 1); (try have x1 := frozen_block z15 1); (try have z2 := cell_block z15 2); (try have x2 := frozen_block z15 2); generalize World.alloc _ (.cells #[.slice none 0 0, .slice none 0 0, .slice none 0 0] 97) = X15 at *))
      all_goals
        apply HK11'.out
        · exact hk
        · exact ⟨((r1, r2, r3), (r4, r5, r6), (r7, r8, r9)), hn, hS6⟩
end Go.Proofs.Ytaiikekgckjdeaa
