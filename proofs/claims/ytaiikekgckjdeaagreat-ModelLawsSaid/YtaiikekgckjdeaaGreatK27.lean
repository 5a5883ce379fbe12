/- The masses that must be added: the reference. -/
import Derived.Test.YtaiikekgckjdeaaGreatK26
namespace Go.Proofs.YtaiikekgckjdeaaGreat
open Go.RowKit Go.Maps
attribute [local go_sem] Oper.semAt_some
open Calmly (Kept)
theorem adX_bd {F D v o X1 X2 NM P Q : Int} (hF : 0 ≤ F ∧ F ≤ 1000000000) (hD : 0 < D ∧ D ≤ 1000000000) (hv : 0 ≤ v ∧ v ≤ 10000) (ho : 0 ≤ o ∧ o ≤ 10000) (e1 : v * F = X1) (e2 : o * D = X2) (e3 : X1 - X2 = NM) (e4 : adX F D v o = (P, Q)) :
    (0 ≤ X1 ∧ X1 ≤ 10000000000000) ∧ (0 ≤ X2 ∧ X2 ≤ 10000000000000) ∧ fracF NM D = (P, Q) ∧ (-10000000000000 ≤ P ∧ P ≤ 10000000000000) ∧ (0 ≤ Q ∧ Q ≤ 1000000000) := by
  have p1 := mulM hv hF
  have p2 := mulM ho (⟨by omega, hD.2⟩ : 0 ≤ D ∧ D ≤ 1000000000)
  rw [e1] at p1
  rw [e2] at p2
  have hax : fracF NM D = (P, Q) := by rw [← e4, adX, e1, e2, e3]
  have hax2 := hax
  unfold fracF at hax2
  injection hax2 with h1 h2
  have hP := Int.natAbs_tdiv_le_natAbs NM (Int.gcd NM D)
  have hQ := Int.natAbs_tdiv_le_natAbs D (Int.gcd NM D)
  have hQ0 := Int.tdiv_nonneg (a := D) (b := Int.gcd NM D) (by omega) (by omega)
  rw [h1] at hP
  rw [h2] at hQ hQ0
  exact ⟨p1, p2, hax, by omega, by omega⟩
theorem kept_allocQ {W w : World} {o : Obj} {G : Prop} (h : Below W.heap.size W w) (k : ∀ q, w.heap.size = q → W.heap.size ≤ q → Below W.heap.size W (w.alloc o) → (w.alloc o).heap[q]? = some o → G) : Kept W (w.alloc o) ∧ G :=
  ⟨kept_of (h.alloc h.size o), k _ rfl h.size (h.alloc h.size o) (alloc_new w o)⟩
theorem risMass_any (n : Int) (w : World) : Calls Tryz.prog 54 #[.int .i64 n] w fun e w' => e = .returned (.bool (ms n)) ∧ w = w' := by
  go_enter Tryz.func54, Tryz.ntmps54
  go_wp2_with fail
  refine (within_any n 0 10000 _).mono ?_
  rintro e w' ⟨rfl, rfl⟩
  go_wp2_with fail
  go_ret
  exact ⟨rfl, rfl⟩
set_option maxRecDepth 100000 in
set_option maxHeartbeats 4000000 in
theorem rAdded_any (n1 d1 n2 d2 n3 d3 : Int) (fa oa : Option Addr) (fn fc on oc : Nat) (full own : List Int) (w : World) (h1 : F64 n1 d1) (h2 : F64 n2 d2) (h3 : F64 n3 d3) (h4 : SI w fa fn fc full) (h5 : SI w oa on oc own) (E F D : Int) (hE : facE n1 d1 n2 d2 n3 d3 (-1) 2 1 = E) (hF : qN E (facV n1 d1 n2 d2 n3 d3 (-1) 2 1) = F) (hD : qD E (facV n1 d1 n2 d2 n3 d3 (-1) 2 1) = D) :
    Calls Tryz.prog 15 #[.agg #[.int .i64 n1, .int .i64 d1, .int .i64 n2, .int .i64 d2, .int .i64 n3, .int .i64 d3], .slice fa fn fc, .slice oa on oc] w fun e w' => ∃ a n c, e = .returned (.tuple #[.slice a n c, .int .i64 (adE E F D full own)]) ∧ SFcR w' a n c (adL E F D full own) ∧ Below w.heap.size w w' := by
  have hfb : E = 0 → (0 ≤ F ∧ F ≤ 1000000000) ∧ (0 < D ∧ D ≤ 1000000000) := fun h => by
    subst h
    rw [← hF, ← hD]
    exact facN_bd hE
  have hrf : E = 0 → FacOk n1 d1 n2 d2 n3 d3 (-1) 2 1 ∧ fcN (facV n1 d1 n2 d2 n3 d3 (-1) 2 1) = F ∧ fcD (facV n1 d1 n2 d2 n3 d3 (-1) 2 1) = D := fun h => by
    subst h
    obtain ⟨k1, k2⟩ := facE_ok hE
    exact ⟨facH_ok k1, by rw [fcN, if_pos k2, ← hF, qN, if_pos rfl], by rw [fcD, if_pos k2, ← hD, qD, if_pos rfl]⟩
  have HE := Lib.hid hE
  have HRF := Lib.hid hrf
  have HFB := Lib.hid hfb
  have l4 := h4.len
  have l5 := h5.len
  have HL4 := Lib.hid l4
  have m4 := h4.max
  have m5 := h5.max
  have c4 := h4.cap
  have c5 := h5.cap
  have hA : adE E F D full own = if adH E fn on ≠ 0 then adH E fn on else if (masE full own).2 ≠ 0 then (masE full own).2 else (adT F D full own).2 := by rw [adE, l4, l5]
  have hB : adL E F D full own = if adE E F D full own = 0 then (List.range full.length).map (adF F D full own) else [] := rfl
  obtain ⟨R, hR⟩ : ∃ x, adE E F D full own = x := ⟨_, rfl⟩
  obtain ⟨L, hL⟩ : ∃ x, adL E F D full own = x := ⟨_, rfl⟩
  rw [hR] at hA hB
  rw [hL] at hB
  rw [hR, hL]
  have HA := Lib.hid hA
  have HB := Lib.hid hB
  clear hE hF hD hfb hrf hA hB hR hL l4 l5
  have y3 := alloc_new w (.cells #[.int .i64 n1, .int .i64 d1, .int .i64 n2, .int .i64 d2, .int .i64 n3, .int .i64 d3] 28)
  have BW : Below w.heap.size w (w.alloc (.cells #[.int .i64 n1, .int .i64 d1, .int .i64 n2, .int .i64 d2, .int .i64 n3, .int .i64 d3] 28)) := (Below.refl _ _).alloc (Nat.le_refl _) _
  go_enter Tryz.func15, Tryz.ntmps15
  go_wp2_with fail
  refine Calmly.wp_region_mix 3 (.fl 0 <| .eff 1 <| .eff 2 <| .tail [3]) (by kernel_rfl) (by kernel_rfl) ?_
  have BD : Below (w.alloc (.cells #[.int .i64 n1, .int .i64 d1, .int .i64 n2, .int .i64 d2, .int .i64 n3, .int .i64 d3] 28)).heap.size (w.alloc (.cells #[.int .i64 n1, .int .i64 d1, .int .i64 n2, .int .i64 d2, .int .i64 n3, .int .i64 d3] 28)) (w.alloc (.cells #[.int .i64 n1, .int .i64 d1, .int .i64 n2, .int .i64 d2, .int .i64 n3, .int .i64 d3] 28)).drew := (Below.refl _ _).drew
  replace y3 := blk_keep y3 BD
  replace BW := BW.trans (BD.mono BW.size)
  clear BD
  generalize (w.alloc (.cells #[.int .i64 n1, .int .i64 d1, .int .i64 n2, .int .i64 d2, .int .i64 n3, .int .i64 d3] 28)).drew = V at *
  have f0 := cell_block y3 0
  have f1 := cell_block y3 1
  have f2 := cell_block y3 2
  have f3 := cell_block y3 3
  have f4 := cell_block y3 4
  have f5 := cell_block y3 5
  have hk := Below.refl V.heap.size V
  go_wp2_with (first | ((with_reducible refine Calmly.is_fl ?_); refine Calmly.mix_fl rfl ?_ (fun _ _ => ?_); (first | exact .move _ | exact .load _ _ | exact .fieldAddr _ _ _ (by kernel_rfl) | exact .assign _ | exact .binOp _ _ _ _ _ rfl | exact .indexAddr _ _ _ | exact .len _ _ (by kernel_rfl) | exact .field _ _ _ | exact .extract _ _ | exact .pick _ _ _ | exact .build _ _ | exact .slice _ _ _ _ _ | exact .unOp _ _ _ rfl | exact .index _ _ _ | exact .max _ _ _ rfl rfl | exact .min _ _ _ rfl rfl | exact .nilCheck _ _ rfl)) | ((with_reducible refine Calmly.is_gl ?_); refine Calmly.mix_gl rfl rfl rfl ?_; first | ((first | with_reducible refine Calmly.gl_tt ?_ (fun _ _ => ?_) | with_reducible refine Calmly.gl_ff ?_ (fun _ _ => ?_)); (first | exact .move _ | exact .load _ _ | exact .fieldAddr _ _ _ (by kernel_rfl) | exact .assign _ | exact .binOp _ _ _ _ _ rfl | exact .indexAddr _ _ _ | exact .len _ _ (by kernel_rfl) | exact .field _ _ _ | exact .extract _ _ | exact .pick _ _ _ | exact .build _ _ | exact .slice _ _ _ _ _ | exact .unOp _ _ _ rfl | exact .index _ _ _ | exact .max _ _ _ rfl rfl | exact .min _ _ _ rfl rfl | exact .nilCheck _ _ rfl)) | with_reducible refine Calmly.gl_tf (fun _ _ => ?_) | with_reducible refine Calmly.gl_ft (fun _ _ => ?_)) | ((with_reducible refine Calmly.is_eff ?_); refine Calmly.mix_eff rfl (fun _ _ => ?_)) | ((with_reducible refine Calmly.is_gf ?_); refine Calmly.mix_gf rfl rfl rfl ?_; first | with_reducible refine Calmly.gf_tt (fun _ _ => ?_) | with_reducible refine Calmly.gf_ff (fun _ _ => ?_) | with_reducible refine Calmly.gf_tf (kept_of hk) (fun _ _ => ?_) | with_reducible refine Calmly.gf_ft (kept_of hk) (fun _ _ => ?_)) | ((with_reducible refine Calmly.is_tail ?_); first | refine Calmly.mix_tail_nil ?_ | refine Calmly.mix_tail rfl (fun _ _ => ?_)) | ((with_reducible refine Calmly.is_kept ?_); refine ⟨kept_of hk, ?_⟩) | (with_reducible refine Calmly.mix_alt ?_ ?_))
  refine (rMass_any _).mono ?_
  rintro e w1 ⟨rfl, hs⟩
  dsimp only
  replace hk := step_of hk hs
  clear hs
  go_wp2_with (first | ((with_reducible refine Calmly.is_fl ?_); refine Calmly.mix_fl rfl ?_ (fun _ _ => ?_); (first | exact .move _ | exact .load _ _ | exact .fieldAddr _ _ _ (by kernel_rfl) | exact .assign _ | exact .binOp _ _ _ _ _ rfl | exact .indexAddr _ _ _ | exact .len _ _ (by kernel_rfl) | exact .field _ _ _ | exact .extract _ _ | exact .pick _ _ _ | exact .build _ _ | exact .slice _ _ _ _ _ | exact .unOp _ _ _ rfl | exact .index _ _ _ | exact .max _ _ _ rfl rfl | exact .min _ _ _ rfl rfl | exact .nilCheck _ _ rfl)) | ((with_reducible refine Calmly.is_gl ?_); refine Calmly.mix_gl rfl rfl rfl ?_; first | ((first | with_reducible refine Calmly.gl_tt ?_ (fun _ _ => ?_) | with_reducible refine Calmly.gl_ff ?_ (fun _ _ => ?_)); (first | exact .move _ | exact .load _ _ | exact .fieldAddr _ _ _ (by kernel_rfl) | exact .assign _ | exact .binOp _ _ _ _ _ rfl | exact .indexAddr _ _ _ | exact .len _ _ (by kernel_rfl) | exact .field _ _ _ | exact .extract _ _ | exact .pick _ _ _ | exact .build _ _ | exact .slice _ _ _ _ _ | exact .unOp _ _ _ rfl | exact .index _ _ _ | exact .max _ _ _ rfl rfl | exact .min _ _ _ rfl rfl | exact .nilCheck _ _ rfl)) | with_reducible refine Calmly.gl_tf (fun _ _ => ?_) | with_reducible refine Calmly.gl_ft (fun _ _ => ?_)) | ((with_reducible refine Calmly.is_eff ?_); refine Calmly.mix_eff rfl (fun _ _ => ?_)) | ((with_reducible refine Calmly.is_gf ?_); refine Calmly.mix_gf rfl rfl rfl ?_; first | with_reducible refine Calmly.gf_tt (fun _ _ => ?_) | with_reducible refine Calmly.gf_ff (fun _ _ => ?_) | with_reducible refine Calmly.gf_tf (kept_of hk) (fun _ _ => ?_) | with_reducible refine Calmly.gf_ft (kept_of hk) (fun _ _ => ?_)) | ((with_reducible refine Calmly.is_tail ?_); first | refine Calmly.mix_tail_nil ?_ | refine Calmly.mix_tail rfl (fun _ _ => ?_)) | ((with_reducible refine Calmly.is_kept ?_); refine ⟨kept_of hk, ?_⟩) | (with_reducible refine Calmly.mix_alt ?_ ?_))
  refine (rFactorErr_any n1 d1 n2 d2 n3 d3 (-1) 2 1 _ h1 h2 h3).mono ?_
  rintro e w2 ⟨rfl, hs⟩
  rw [HE.out]
  dsimp only
  replace hk := step_of hk hs
  clear hs
  replace y3 := blk_keep y3 hk
  replace BW := BW.trans (hk.mono BW.size)
  clear f0 f1 f2 f3 f4 f5
  by_cases hE0 : E = 0
  case neg =>
    have b2 : (E != 0) = true := by simpa using hE0
    have e1 : R = E := by
      have h7 : adH E fn on = E := by
        unfold adH firstE
        rw [if_neg hE0]
      have := HA.out
      rw [h7, if_pos hE0] at this
      exact this
    have e2 : L = [] := by
      have := HB.out
      rw [this, if_neg (by rw [e1]; exact hE0)]
    have E1 := Lib.hid e1
    have E2 := Lib.hid e2
    clear e1 e2 hE0
    go_wp2_with (first | ((with_reducible refine Calmly.is_fl ?_); refine Calmly.mix_fl rfl ?_ (fun _ _ => ?_); (first | exact .move _ | exact .load _ _ | exact .fieldAddr _ _ _ (by kernel_rfl) | exact .assign _ | exact .binOp _ _ _ _ _ rfl | exact .indexAddr _ _ _ | exact .len _ _ (by kernel_rfl) | exact .field _ _ _ | exact .extract _ _ | exact .pick _ _ _ | exact .build _ _ | exact .slice _ _ _ _ _ | exact .unOp _ _ _ rfl | exact .index _ _ _ | exact .max _ _ _ rfl rfl | exact .min _ _ _ rfl rfl | exact .nilCheck _ _ rfl)) | ((with_reducible refine Calmly.is_gl ?_); refine Calmly.mix_gl rfl rfl rfl ?_; first | ((first | with_reducible refine Calmly.gl_tt ?_ (fun _ _ => ?_) | with_reducible refine Calmly.gl_ff ?_ (fun _ _ => ?_)); (first | exact .move _ | exact .load _ _ | exact .fieldAddr _ _ _ (by kernel_rfl) | exact .assign _ | exact .binOp _ _ _ _ _ rfl | exact .indexAddr _ _ _ | exact .len _ _ (by kernel_rfl) | exact .field _ _ _ | exact .extract _ _ | exact .pick _ _ _ | exact .build _ _ | exact .slice _ _ _ _ _ | exact .unOp _ _ _ rfl | exact .index _ _ _ | exact .max _ _ _ rfl rfl | exact .min _ _ _ rfl rfl | exact .nilCheck _ _ rfl)) | with_reducible refine Calmly.gl_tf (fun _ _ => ?_) | with_reducible refine Calmly.gl_ft (fun _ _ => ?_)) | ((with_reducible refine Calmly.is_eff ?_); refine Calmly.mix_eff rfl (fun _ _ => ?_)) | ((with_reducible refine Calmly.is_gf ?_); refine Calmly.mix_gf rfl rfl rfl ?_; first | with_reducible refine Calmly.gf_tt (fun _ _ => ?_) | with_reducible refine Calmly.gf_ff (fun _ _ => ?_) | with_reducible refine Calmly.gf_tf (kept_of hk) (fun _ _ => ?_) | with_reducible refine Calmly.gf_ft (kept_of hk) (fun _ _ => ?_)) | ((with_reducible refine Calmly.is_tail ?_); first | refine Calmly.mix_tail_nil ?_ | refine Calmly.mix_tail rfl (fun _ _ => ?_)) | ((with_reducible refine Calmly.is_kept ?_); refine ⟨kept_of hk, ?_⟩) | (with_reducible refine Calmly.mix_alt ?_ ?_))
    refine bodyPost_ret (v := .tuple #[.slice none 0 0, .int .i64 E]) (by simp [results, Tryz.results15]) rfl ⟨none, 0, 0, by rw [E1.out], by rw [E2.out]; exact SFcR.nil _, BW⟩
  case pos =>
    subst hE0
    obtain ⟨⟨F1, F2⟩, D1, D2⟩ := HFB.out rfl
    obtain ⟨r1, r2, r3⟩ := HRF.out rfl
    have RF1 := Lib.hid r1
    have RF2 := Lib.hid r2
    have RF3 := Lib.hid r3
    clear r1 r2 r3 HFB HRF
    by_cases hno : fn = on
    case neg =>
      have b3 : ((fn : Int) != (on : Int)) = true := by
        simp only [bne_iff_ne, ne_eq]
        omega
      have h7 : adH 0 fn on = 10 := by
        unfold adH firstE firstE
        rw [if_pos rfl]
        have : unlessE ((fn : Int) == (on : Int)) 10 = 10 := by
          unfold unlessE
          rw [if_neg (by simp; omega)]
        rw [this, if_neg (by decide)]
      have e1 : R = 10 := by
        have := HA.out
        rw [h7, if_pos (by decide)] at this
        exact this
      have e2 : L = [] := by
        have := HB.out
        rw [this, if_neg (by rw [e1]; decide)]
      have E1 := Lib.hid e1
      have E2 := Lib.hid e2
      clear e1 e2 hno h7
      go_wp2_with (first | ((with_reducible refine Calmly.is_fl ?_); refine Calmly.mix_fl rfl ?_ (fun _ _ => ?_); (first | exact .move _ | exact .load _ _ | exact .fieldAddr _ _ _ (by kernel_rfl) | exact .assign _ | exact .binOp _ _ _ _ _ rfl | exact .indexAddr _ _ _ | exact .len _ _ (by kernel_rfl) | exact .field _ _ _ | exact .extract _ _ | exact .pick _ _ _ | exact .build _ _ | exact .slice _ _ _ _ _ | exact .unOp _ _ _ rfl | exact .index _ _ _ | exact .max _ _ _ rfl rfl | exact .min _ _ _ rfl rfl | exact .nilCheck _ _ rfl)) | ((with_reducible refine Calmly.is_gl ?_); refine Calmly.mix_gl rfl rfl rfl ?_; first | ((first | with_reducible refine Calmly.gl_tt ?_ (fun _ _ => ?_) | with_reducible refine Calmly.gl_ff ?_ (fun _ _ => ?_)); (first | exact .move _ | exact .load _ _ | exact .fieldAddr _ _ _ (by kernel_rfl) | exact .assign _ | exact .binOp _ _ _ _ _ rfl | exact .indexAddr _ _ _ | exact .len _ _ (by kernel_rfl) | exact .field _ _ _ | exact .extract _ _ | exact .pick _ _ _ | exact .build _ _ | exact .slice _ _ _ _ _ | exact .unOp _ _ _ rfl | exact .index _ _ _ | exact .max _ _ _ rfl rfl | exact .min _ _ _ rfl rfl | exact .nilCheck _ _ rfl)) | with_reducible refine Calmly.gl_tf (fun _ _ => ?_) | with_reducible refine Calmly.gl_ft (fun _ _ => ?_)) | ((with_reducible refine Calmly.is_eff ?_); refine Calmly.mix_eff rfl (fun _ _ => ?_)) | ((with_reducible refine Calmly.is_gf ?_); refine Calmly.mix_gf rfl rfl rfl ?_; first | with_reducible refine Calmly.gf_tt (fun _ _ => ?_) | with_reducible refine Calmly.gf_ff (fun _ _ => ?_) | with_reducible refine Calmly.gf_tf (kept_of hk) (fun _ _ => ?_) | with_reducible refine Calmly.gf_ft (kept_of hk) (fun _ _ => ?_)) | ((with_reducible refine Calmly.is_tail ?_); first | refine Calmly.mix_tail_nil ?_ | refine Calmly.mix_tail rfl (fun _ _ => ?_)) | ((with_reducible refine Calmly.is_kept ?_); refine ⟨kept_of hk, ?_⟩) | (with_reducible refine Calmly.mix_alt ?_ ?_))
      refine bodyPost_ret (v := .tuple #[.slice none 0 0, .int .i64 10]) (by simp [results, Tryz.results15]) rfl ⟨none, 0, 0, by rw [E1.out], by rw [E2.out]; exact SFcR.nil _, BW⟩
    case pos =>
      have b3 : ((fn : Int) != (on : Int)) = false := by
        simp only [bne_eq_false_iff_eq]
        omega
      have g3 : unlessE ((fn : Int) == (on : Int)) 10 = 0 := by
        unfold unlessE
        rw [if_pos (by simp; omega)]
      by_cases hn5 : fn ≤ 5
      case neg =>
        have b4 : (5 : Int) < (fn : Int) := by omega
        have h7 : adH 0 fn on = 8 := by
          unfold adH firstE firstE firstE
          rw [if_pos rfl, g3, if_pos rfl]
          have : unlessE (decide ((fn : Int) ≤ 5)) 8 = 8 := by
            unfold unlessE
            rw [if_neg (by simp; omega)]
          rw [this, if_neg (by decide)]
        have e1 : R = 8 := by
          have := HA.out
          rw [h7, if_pos (by decide)] at this
          exact this
        have e2 : L = [] := by
          have := HB.out
          rw [this, if_neg (by rw [e1]; decide)]
        have E1 := Lib.hid e1
        have E2 := Lib.hid e2
        clear e1 e2 hno h7 hn5 g3
        go_wp2_with (first | ((with_reducible refine Calmly.is_fl ?_); refine Calmly.mix_fl rfl ?_ (fun _ _ => ?_); (first | exact .move _ | exact .load _ _ | exact .fieldAddr _ _ _ (by kernel_rfl) | exact .assign _ | exact .binOp _ _ _ _ _ rfl | exact .indexAddr _ _ _ | exact .len _ _ (by kernel_rfl) | exact .field _ _ _ | exact .extract _ _ | exact .pick _ _ _ | exact .build _ _ | exact .slice _ _ _ _ _ | exact .unOp _ _ _ rfl | exact .index _ _ _ | exact .max _ _ _ rfl rfl | exact .min _ _ _ rfl rfl | exact .nilCheck _ _ rfl)) | ((with_reducible refine Calmly.is_gl ?_); refine Calmly.mix_gl rfl rfl rfl ?_; first | ((first | with_reducible refine Calmly.gl_tt ?_ (fun _ _ => ?_) | with_reducible refine Calmly.gl_ff ?_ (fun _ _ => ?_)); (first | exact .move _ | exact .load _ _ | exact .fieldAddr _ _ _ (by kernel_rfl) | exact .assign _ | exact .binOp _ _ _ _ _ rfl | exact .indexAddr _ _ _ | exact .len _ _ (by kernel_rfl) | exact .field _ _ _ | exact .extract _ _ | exact .pick _ _ _ | exact .build _ _ | exact .slice _ _ _ _ _ | exact .unOp _ _ _ rfl | exact .index _ _ _ | exact .max _ _ _ rfl rfl | exact .min _ _ _ rfl rfl | exact .nilCheck _ _ rfl)) | with_reducible refine Calmly.gl_tf (fun _ _ => ?_) | with_reducible refine Calmly.gl_ft (fun _ _ => ?_)) | ((with_reducible refine Calmly.is_eff ?_); refine Calmly.mix_eff rfl (fun _ _ => ?_)) | ((with_reducible refine Calmly.is_gf ?_); refine Calmly.mix_gf rfl rfl rfl ?_; first | with_reducible refine Calmly.gf_tt (fun _ _ => ?_) | with_reducible refine Calmly.gf_ff (fun _ _ => ?_) | with_reducible refine Calmly.gf_tf (kept_of hk) (fun _ _ => ?_) | with_reducible refine Calmly.gf_ft (kept_of hk) (fun _ _ => ?_)) | ((with_reducible refine Calmly.is_tail ?_); first | refine Calmly.mix_tail_nil ?_ | refine Calmly.mix_tail rfl (fun _ _ => ?_)) | ((with_reducible refine Calmly.is_kept ?_); refine ⟨kept_of hk, ?_⟩) | (with_reducible refine Calmly.mix_alt ?_ ?_))
        refine bodyPost_ret (v := .tuple #[.slice none 0 0, .int .i64 8]) (by simp [results, Tryz.results15]) rfl ⟨none, 0, 0, by rw [E1.out], by rw [E2.out]; exact SFcR.nil _, BW⟩
      case pos =>
        have b4 : ¬ (5 : Int) < (fn : Int) := by omega
        have h7 : adH 0 fn on = 0 := by
          unfold adH firstE firstE firstE firstE
          rw [if_pos rfl, g3, if_pos rfl]
          have : unlessE (decide ((fn : Int) ≤ 5)) 8 = 0 := by
            unfold unlessE
            rw [if_pos (by simp; omega)]
          rw [this, if_pos rfl]
        have e1 : R = if (masE full own).2 ≠ 0 then (masE full own).2 else (adT F D full own).2 := by
          have := HA.out
          rw [h7, if_neg (by decide)] at this
          exact this
        have HA2 := Lib.hid e1
        obtain ⟨M1, M2, hM⟩ : ∃ x y, masE full own = (x, y) := ⟨_, _, rfl⟩
        have hME : eaF (fun i => unlessE (ms (full[i]?.getD 0) && ms (own[i]?.getD 0)) 2) 0 (fn - 0) = (M1, M2) := by rw [← hM, masE, ← HL4.out]; rfl
        have HM := Lib.hid hM
        have HME := Lib.hid hME
        have HNO := Lib.hid hno
        clear e1 h7 g3 hM hME HA hno
        go_wp2_with (first | ((with_reducible refine Calmly.is_fl ?_); refine Calmly.mix_fl rfl ?_ (fun _ _ => ?_); (first | exact .move _ | exact .load _ _ | exact .fieldAddr _ _ _ (by kernel_rfl) | exact .assign _ | exact .binOp _ _ _ _ _ rfl | exact .indexAddr _ _ _ | exact .len _ _ (by kernel_rfl) | exact .field _ _ _ | exact .extract _ _ | exact .pick _ _ _ | exact .build _ _ | exact .slice _ _ _ _ _ | exact .unOp _ _ _ rfl | exact .index _ _ _ | exact .max _ _ _ rfl rfl | exact .min _ _ _ rfl rfl | exact .nilCheck _ _ rfl)) | ((with_reducible refine Calmly.is_gl ?_); refine Calmly.mix_gl rfl rfl rfl ?_; first | ((first | with_reducible refine Calmly.gl_tt ?_ (fun _ _ => ?_) | with_reducible refine Calmly.gl_ff ?_ (fun _ _ => ?_)); (first | exact .move _ | exact .load _ _ | exact .fieldAddr _ _ _ (by kernel_rfl) | exact .assign _ | exact .binOp _ _ _ _ _ rfl | exact .indexAddr _ _ _ | exact .len _ _ (by kernel_rfl) | exact .field _ _ _ | exact .extract _ _ | exact .pick _ _ _ | exact .build _ _ | exact .slice _ _ _ _ _ | exact .unOp _ _ _ rfl | exact .index _ _ _ | exact .max _ _ _ rfl rfl | exact .min _ _ _ rfl rfl | exact .nilCheck _ _ rfl)) | with_reducible refine Calmly.gl_tf (fun _ _ => ?_) | with_reducible refine Calmly.gl_ft (fun _ _ => ?_)) | ((with_reducible refine Calmly.is_eff ?_); refine Calmly.mix_eff rfl (fun _ _ => ?_)) | ((with_reducible refine Calmly.is_gf ?_); refine Calmly.mix_gf rfl rfl rfl ?_; first | with_reducible refine Calmly.gf_tt (fun _ _ => ?_) | with_reducible refine Calmly.gf_ff (fun _ _ => ?_) | with_reducible refine Calmly.gf_tf (kept_of hk) (fun _ _ => ?_) | with_reducible refine Calmly.gf_ft (kept_of hk) (fun _ _ => ?_)) | ((with_reducible refine Calmly.is_tail ?_); first | refine Calmly.mix_tail_nil ?_ | refine Calmly.mix_tail rfl (fun _ _ => ?_)) | ((with_reducible refine Calmly.is_kept ?_); refine ⟨kept_of hk, ?_⟩) | (with_reducible refine Calmly.mix_alt ?_ ?_))
        go_loopw [9] (fun i wr => ∃ k : Nat, k ≤ fn ∧ i = .int .i64 k ∧ eaF (fun i => unlessE (ms (full[i]?.getD 0) && ms (own[i]?.getD 0)) 2) k (fn - k) = (M1, M2) ∧ wr.heap[w.heap.size]? = some (.cells #[.int .i64 n1, .int .i64 d1, .int .i64 n2, .int .i64 d2, .int .i64 n3, .int .i64 d3] 28) ∧ Below w.heap.size w wr) (fun i _ => fn - (intOf i).toNat)
        case atStart => exact ⟨0, by omega, rfl, HME.out, y3, BW⟩
        case round =>
          obtain ⟨k, hk, rfl, ht, y3, BW⟩ := hrel
          have HT := Lib.hid ht
          clear ht
          by_cases hlt : k < fn
          case pos =>
            obtain ⟨fb, fo, rfl, hfc⟩ := (h4.keep BW).at_ (by omega)
            obtain ⟨ob, oo, rfl, hoc⟩ := (h5.keep BW).at_ (by have := HNO.out; omega)
            have p0 := hfc k hlt
            have p1 := hoc k (by have := HNO.out; omega)
            have hi0 : (0 : Int) ≤ (k : Int) := by omega
            have hi1 : (k : Int) < (fn : Int) := by omega
            have hi2 : (k : Int) < (on : Int) := by have := HNO.out; omega
            have hgo : unlessE (ms (full[k]?.getD 0) && ms (own[k]?.getD 0)) 2 = 0 → eaF (fun i => unlessE (ms (full[i]?.getD 0) && ms (own[i]?.getD 0)) 2) (k + 1) (fn - (k + 1)) = (M1, M2) := fun h => (eaF_ok (err := fun i => unlessE (ms (full[i]?.getD 0) && ms (own[i]?.getD 0)) 2) hlt h).symm.trans HT.out
            have hbad : unlessE (ms (full[k]?.getD 0) && ms (own[k]?.getD 0)) 2 ≠ 0 → M2 = unlessE (ms (full[k]?.getD 0) && ms (own[k]?.getD 0)) 2 := fun h => by
              have := HT.out
              rw [eaF_bad (err := fun i => unlessE (ms (full[i]?.getD 0) && ms (own[i]?.getD 0)) 2) hlt h] at this
              exact (congrArg Prod.snd this).symm
            obtain ⟨x, hx⟩ : ∃ x, full[k]?.getD 0 = x := ⟨_, rfl⟩
            obtain ⟨y, hy⟩ : ∃ x, own[k]?.getD 0 = x := ⟨_, rfl⟩
            rw [hx] at p0 hgo hbad
            rw [hy] at p1 hgo hbad
            have HGO := Lib.hid hgo
            have HBAD := Lib.hid hbad
            clear hfc hoc hx hy hgo hbad
            go_wp2_with fail
            refine (risMass_any x _).mono ?_
            rintro e w3 ⟨rfl, rfl⟩
            dsimp only
            obtain ⟨A, hA⟩ : ∃ b, ms x = b := ⟨_, rfl⟩
            rw [hA]
            have HAx := Lib.hid hA
            clear hA
            cases A
            case false =>
              have e0 := HBAD.out (by rw [HAx.out, Bool.false_and]; decide)
              rw [HAx.out, Bool.false_and] at e0
              have e3 : M2 = 2 := e0
              have e1 : R = 2 := by
                have := HA2.out
                rw [HM.out] at this
                rw [this]
                dsimp only
                rw [e3, if_pos (by decide)]
              have e2 : L = [] := by
                have := HB.out
                rw [this, if_neg (by rw [e1]; decide)]
              have E1 := Lib.hid e1
              have E2 := Lib.hid e2
              clear e0 e1 e2 e3
              go_wp2_with fail
              refine bodyPost_ret (v := .tuple #[.slice none 0 0, .int .i64 2]) (by simp [results, Tryz.results15]) rfl ⟨none, 0, 0, by rw [E1.out], by rw [E2.out]; exact SFcR.nil _, BW⟩
            case true =>
              go_wp2_with fail
              refine (risMass_any y _).mono ?_
              rintro e w3 ⟨rfl, rfl⟩
              dsimp only
              obtain ⟨A, hA⟩ : ∃ b, ms y = b := ⟨_, rfl⟩
              rw [hA]
              have HAy := Lib.hid hA
              clear hA
              cases A
              case false =>
                have e0 := HBAD.out (by rw [HAx.out, HAy.out]; decide)
                rw [HAx.out, HAy.out] at e0
                have e3 : M2 = 2 := e0
                have e1 : R = 2 := by
                  have := HA2.out
                  rw [HM.out] at this
                  rw [this]
                  dsimp only
                  rw [e3, if_pos (by decide)]
                have e2 : L = [] := by
                  have := HB.out
                  rw [this, if_neg (by rw [e1]; decide)]
                have E1 := Lib.hid e1
                have E2 := Lib.hid e2
                clear e0 e1 e2 e3
                go_wp2_with fail
                refine bodyPost_ret (v := .tuple #[.slice none 0 0, .int .i64 2]) (by simp [results, Tryz.results15]) rfl ⟨none, 0, 0, by rw [E1.out], by rw [E2.out]; exact SFcR.nil _, BW⟩
              case true =>
                have e0 := HGO.out (by rw [HAx.out, HAy.out]; rfl)
                have E0 := Lib.hid e0
                clear e0
                go_wp2_with fail
                go_roundw
                case rel => exact ⟨k + 1, by omega, by go_num, E0.out, y3, BW⟩
                case measure => simp [intOf]; omega
          case neg =>
            have hle : ¬ (k : Int) < (fn : Int) := by omega
            have e3 : M2 = 0 := by
              have := HT.out
              rw [eaF_end (by omega)] at this
              exact (congrArg Prod.snd this).symm
            subst e3
            have hA3 : R = (adT F D full own).2 := by
              have := HA2.out
              rw [HM.out] at this
              rw [this]
              exact if_neg (by simp)
            have hms : ∀ i, i < fn → (0 ≤ full[i]?.getD 0 ∧ full[i]?.getD 0 ≤ 10000) ∧ (0 ≤ own[i]?.getD 0 ∧ own[i]?.getD 0 ≤ 10000) := fun i hi => by
              have := eaF_all (n := fn) (k := 0) (m := fn) (by omega) (by have := HME.out; rw [Nat.sub_zero] at this; rw [this]) i (by omega) hi
              unfold unlessE at this
              split at this
              · rename_i h
                rw [Bool.and_eq_true] at h
                exact ⟨wIn_iff.1 h.1, wIn_iff.1 h.2⟩
              · cases this
            have HMS := Lib.hid hms
            have HA3 := Lib.hid hA3
            clear hms hA3 HA2 HM HME HT
            go_wp2_with fail
            refine Calmly.wp_region_mix 8 (.fl 0 <| .alt 1 (.alt 2 (.fl 3 <| .fl 4 <| .fl 5 <| .eff 6 <| .eff 7 <| .tail [8]) (.eff 6 (.eff 2 <| .fl 3 <| .fl 4 <| .fl 5 <| .eff 7 <| .tail [8]))) (.eff 6 (.eff 1 <| .eff 2 <| .fl 3 <| .fl 4 <| .fl 5 <| .eff 7 <| .tail [8]))) (by kernel_rfl) (by kernel_rfl) ?_
            have BD : Below wr.heap.size wr wr.drew := (Below.refl _ _).drew
            replace y3 := blk_keep y3 BD
            replace BW := BW.trans (BD.mono BW.size)
            clear BD
            generalize wr.drew = V2 at *
            rename_i K13 hK13
            have hK13' := fun a w (h : Stop _) => hK13 a w h.out
            have HK13 := Lib.hid hK13'
            clear hK13 hK13'
            have f0 := cell_block y3 0
            have f1 := cell_block y3 1
            have f2 := cell_block y3 2
            have f3 := cell_block y3 3
            have f4 := cell_block y3 4
            have f5 := cell_block y3 5
            have hk := Below.refl V2.heap.size V2
            go_wp2_with (first | ((with_reducible refine Calmly.is_fl ?_); refine Calmly.mix_fl rfl ?_ (fun _ _ => ?_); (first | exact .move _ | exact .load _ _ | exact .fieldAddr _ _ _ (by kernel_rfl) | exact .assign _ | exact .binOp _ _ _ _ _ rfl | exact .indexAddr _ _ _ | exact .len _ _ (by kernel_rfl) | exact .field _ _ _ | exact .extract _ _ | exact .pick _ _ _ | exact .build _ _ | exact .slice _ _ _ _ _ | exact .unOp _ _ _ rfl | exact .index _ _ _ | exact .max _ _ _ rfl rfl | exact .min _ _ _ rfl rfl | exact .nilCheck _ _ rfl)) | ((with_reducible refine Calmly.is_gl ?_); refine Calmly.mix_gl rfl rfl rfl ?_; first | ((first | with_reducible refine Calmly.gl_tt ?_ (fun _ _ => ?_) | with_reducible refine Calmly.gl_ff ?_ (fun _ _ => ?_)); (first | exact .move _ | exact .load _ _ | exact .fieldAddr _ _ _ (by kernel_rfl) | exact .assign _ | exact .binOp _ _ _ _ _ rfl | exact .indexAddr _ _ _ | exact .len _ _ (by kernel_rfl) | exact .field _ _ _ | exact .extract _ _ | exact .pick _ _ _ | exact .build _ _ | exact .slice _ _ _ _ _ | exact .unOp _ _ _ rfl | exact .index _ _ _ | exact .max _ _ _ rfl rfl | exact .min _ _ _ rfl rfl | exact .nilCheck _ _ rfl)) | with_reducible refine Calmly.gl_tf (fun _ _ => ?_) | with_reducible refine Calmly.gl_ft (fun _ _ => ?_)) | ((with_reducible refine Calmly.is_eff ?_); refine Calmly.mix_eff rfl (fun _ _ => ?_)) | ((with_reducible refine Calmly.is_gf ?_); refine Calmly.mix_gf rfl rfl rfl ?_; first | with_reducible refine Calmly.gf_tt (fun _ _ => ?_) | with_reducible refine Calmly.gf_ff (fun _ _ => ?_) | with_reducible refine Calmly.gf_tf (kept_of hk) (fun _ _ => ?_) | with_reducible refine Calmly.gf_ft (kept_of hk) (fun _ _ => ?_)) | ((with_reducible refine Calmly.is_tail ?_); first | refine Calmly.mix_tail_nil ?_ | refine Calmly.mix_tail rfl (fun _ _ => ?_)) | ((with_reducible refine Calmly.is_kept ?_); refine ⟨kept_of hk, ?_⟩) | (with_reducible refine Calmly.mix_alt ?_ ?_) | (go_at_call 19; refine (rMass_any _).mono ?_; rintro e w3 ⟨rfl, hs⟩; (try dsimp only); replace hk := step_of hk hs; (try (replace z10 := blk_keep z10 hs)); clear hs) | (go_at_call 55; refine (rFactor_any n1 d1 n2 d2 n3 d3 (-1) 2 1 _ RF1.out).mono ?_; rintro e w4 ⟨rfl, hs⟩; rw [RF2.out, RF3.out]; (try dsimp only); replace hk := step_of hk hs; (try (replace z10 := blk_keep z10 hs)); (try have z0 := cell_block z10 0); (try have z1 := cell_block z10 1); (try have x0' := frozen_block z10 0); (try have x1' := frozen_block z10 1); clear hs) | (refine kept_allocQ hk (fun q10 hq10 hqz hk' z10 => ?_); (try rw [hq10]); clear hq10; replace hk := hk'; clear hk'; have z0 := cell_block z10 0; have z1 := cell_block z10 1; have x0' := frozen_block z10 0; have x1' := frozen_block z10 1; generalize World.alloc _ (.cells #[.int .i64 0, .int .i64 0] 27) = X10 at *) | (refine kept_st2M hk hqz z10 (fun hk' _ z16 => ?_); replace hk := hk'; clear hk' z10 z0 z1 x0' x1'; generalize World.setCell (World.setCell _ ⟨q10, 0, none⟩ (.int .i64 F)) ⟨q10, 1, none⟩ (.int .i64 D) = X16 at *))
            all_goals
              refine HK13.out _ _ ⟨?_⟩
              have hq9 : w.heap.size ≤ q10 := Nat.le_trans BW.size hqz
              have BX := BW.trans (hk.mono BW.size)
              clear HK13 hk hqz f0 f1 f2 f3 f4 f5 y3 BW
              obtain ⟨T1, T2, hT⟩ : ∃ x y, adT F D full own = (x, y) := ⟨_, _, rfl⟩
              have hTE : eaF (fun i => adR (adF F D full own i)) 0 (fn - 0) = (T1, T2) := by rw [← hT, adT, ← HL4.out]; rfl
              have hRT := HA3.out
              rw [hT] at hRT
              dsimp only at hRT
              subst hRT
              have HTE := Lib.hid hTE
              clear hT hTE HA3
              go_wp2_with fail
              go_loopw [13, 12] (fun ii oo wr => ∃ (k : Nat) (av : Option Addr) (cv : Nat), k ≤ fn ∧ ii = .int .i64 k ∧ oo = .slice av k cv ∧ OwFcR wr (q10 + 1) av k cv ((List.range k).map (adF F D full own)) ∧ eaF (fun i => adR (adF F D full own i)) k (fn - k) = (T1, R) ∧ wr.heap[q10]? = some (.cells #[.int .i64 F, .int .i64 D] 27) ∧ Below w.heap.size w wr) (fun ii _ _ => fn - (intOf ii).toNat)
              case atStart => exact ⟨0, none, 0, by omega, rfl, rfl, OwFcR.nil _ _, HTE.out, z16, BX⟩
              case round =>
                clear z16 BX
                obtain ⟨k, av, cv, hk, rfl, rfl, hO, ht, z16, BW⟩ := hrel
                have HT := Lib.hid ht
                clear ht
                by_cases hlt : k < fn
                case pos =>
                  obtain ⟨fb, fo, hfe, hfc⟩ := (h4.keep BW).at_ (by omega)
                  obtain ⟨ob, oo, hoe, hoc⟩ := (h5.keep BW).at_ (by have := HNO.out; omega)
                  have p0 := hfc k hlt
                  have p1 := hoc k (by have := HNO.out; omega)
                  have hi0 : (0 : Int) ≤ (k : Int) := by omega
                  have hi1 : (k : Int) < (fn : Int) := by omega
                  have hi2 : (k : Int) < (on : Int) := by have := HNO.out; omega
                  have hgo : adR (adF F D full own k) = 0 → eaF (fun i => adR (adF F D full own i)) (k + 1) (fn - (k + 1)) = (T1, R) := fun h => (eaF_ok (err := fun i => adR (adF F D full own i)) hlt h).symm.trans HT.out
                  have hbad : adR (adF F D full own k) ≠ 0 → R = adR (adF F D full own k) := fun h => by
                    have := HT.out
                    rw [eaF_bad (err := fun i => adR (adF F D full own i)) hlt h] at this
                    exact (congrArg Prod.snd this).symm
                  obtain ⟨hv, ho⟩ := HMS.out k hlt
                  have hfd : adF F D full own k = adX F D (full[k]?.getD 0) (own[k]?.getD 0) := rfl
                  obtain ⟨v, hx⟩ : ∃ x, full[k]?.getD 0 = x := ⟨_, rfl⟩
                  obtain ⟨o, hy⟩ : ∃ x, own[k]?.getD 0 = x := ⟨_, rfl⟩
                  rw [hx] at p0 hv hfd
                  rw [hy] at p1 ho hfd
                  obtain ⟨⟨P, Q⟩, hPQ⟩ : ∃ x, adX F D v o = x := ⟨_, rfl⟩
                  obtain ⟨X1, e1⟩ : ∃ x, v * F = x := ⟨_, rfl⟩
                  obtain ⟨X2, e2⟩ : ∃ x, o * D = x := ⟨_, rfl⟩
                  obtain ⟨NM, hNM⟩ : ∃ x, X1 - X2 = x := ⟨_, rfl⟩
                  obtain ⟨⟨q1, q2⟩, ⟨q3, q4⟩, hfr, ⟨q5, q6⟩, q7, q8⟩ := adX_bd ⟨F1, F2⟩ ⟨D1, D2⟩ hv ho e1 e2 hNM hPQ
                  rw [hPQ] at hfd
                  rw [hfd] at hgo hbad
                  have HFD := Lib.hid hfd
                  have HFR := Lib.hid hfr
                  have HGO := Lib.hid hgo
                  have HBAD := Lib.hid hbad
                  have hnb : -10000000000000 ≤ NM ∧ NM ≤ 10000000000000 := by omega
                  subst hfe hoe
                  clear hfc hoc hx hy hgo hbad hPQ hfd hfr hv ho
                  have f0 := cell_block z16 0
                  have f1 := cell_block z16 1
                  go_wp2_with fail
                  refine Calmly.wp_region_mix 19 (.fl 0 <| .fl 1 <| .fl 2 <| .fl 3 <| .fl 4 <| .fl 5 <| .fl 6 <| .fl 7 <| .fl 8 <| .fl 9 <| .fl 10 <| .fl 11 <| .fl 12 <| .fl 13 <| .fl 14 <| .fl 15 <| .fl 16 <| .alt 17 (.eff 18 <| .tail [19]) (.eff 18 (.eff 17 <| .tail [19]))) (by kernel_rfl) (by kernel_rfl) ?_
                  have BD : Below wr.heap.size wr wr.drew := (Below.refl _ _).drew
                  replace z16 := blk_keep z16 BD
                  replace hO := hO.keep BD
                  replace BW := BW.trans (BD.mono BW.size)
                  replace p0 := cell_keep p0 BD
                  replace p1 := cell_keep p1 BD
                  clear BD f0 f1
                  generalize wr.drew = V3 at *
                  rename_i K18 hK18
                  have hK18' := fun a w (h : Stop _) => hK18 a w h.out
                  have HK18 := Lib.hid hK18'
                  clear hK18 hK18'
                  have f0 := cell_block z16 0
                  have f1 := cell_block z16 1
                  have hk := Below.refl V3.heap.size V3
                  go_wp2_with (first | ((with_reducible refine Calmly.is_fl ?_); refine Calmly.mix_fl rfl ?_ (fun _ _ => ?_); (first | exact .move _ | exact .load _ _ | exact .fieldAddr _ _ _ (by kernel_rfl) | exact .assign _ | exact .binOp _ _ _ _ _ rfl | exact .indexAddr _ _ _ | exact .len _ _ (by kernel_rfl) | exact .field _ _ _ | exact .extract _ _ | exact .pick _ _ _ | exact .build _ _ | exact .slice _ _ _ _ _ | exact .unOp _ _ _ rfl | exact .index _ _ _ | exact .max _ _ _ rfl rfl | exact .min _ _ _ rfl rfl | exact .nilCheck _ _ rfl)) | ((with_reducible refine Calmly.is_gl ?_); refine Calmly.mix_gl rfl rfl rfl ?_; first | ((first | with_reducible refine Calmly.gl_tt ?_ (fun _ _ => ?_) | with_reducible refine Calmly.gl_ff ?_ (fun _ _ => ?_)); (first | exact .move _ | exact .load _ _ | exact .fieldAddr _ _ _ (by kernel_rfl) | exact .assign _ | exact .binOp _ _ _ _ _ rfl | exact .indexAddr _ _ _ | exact .len _ _ (by kernel_rfl) | exact .field _ _ _ | exact .extract _ _ | exact .pick _ _ _ | exact .build _ _ | exact .slice _ _ _ _ _ | exact .unOp _ _ _ rfl | exact .index _ _ _ | exact .max _ _ _ rfl rfl | exact .min _ _ _ rfl rfl | exact .nilCheck _ _ rfl)) | with_reducible refine Calmly.gl_tf (fun _ _ => ?_) | with_reducible refine Calmly.gl_ft (fun _ _ => ?_)) | ((with_reducible refine Calmly.is_eff ?_); refine Calmly.mix_eff rfl (fun _ _ => ?_)) | ((with_reducible refine Calmly.is_gf ?_); refine Calmly.mix_gf rfl rfl rfl ?_; first | with_reducible refine Calmly.gf_tt (fun _ _ => ?_) | with_reducible refine Calmly.gf_ff (fun _ _ => ?_) | with_reducible refine Calmly.gf_tf (kept_of hk) (fun _ _ => ?_) | with_reducible refine Calmly.gf_ft (kept_of hk) (fun _ _ => ?_)) | ((with_reducible refine Calmly.is_tail ?_); first | refine Calmly.mix_tail_nil ?_ | refine Calmly.mix_tail rfl (fun _ _ => ?_)) | ((with_reducible refine Calmly.is_kept ?_); refine ⟨kept_of hk, ?_⟩) | (with_reducible refine Calmly.mix_alt ?_ ?_) | (go_at_call 56; refine (Lowest_c5 NM D _ (by omega) (by omega) (by omega) (by omega)).mono ?_; rintro e w5 ⟨rfl, hs⟩; rw [HFR.out]; (try dsimp only); replace hk := step_of hk hs; (try (replace z15 := blk_keep z15 hs)); (try have z0 := cell_block z15 0); (try have z1 := cell_block z15 1); (try have x0' := frozen_block z15 0); (try have x1' := frozen_block z15 1); clear hs) | (refine kept_allocQ hk (fun q15 hq15 hqz hk' z15 => ?_); (try rw [hq15]); clear hq15; replace hk := hk'; clear hk'; have z0 := cell_block z15 0; have z1 := cell_block z15 1; have x0' := frozen_block z15 0; have x1' := frozen_block z15 1; generalize World.alloc _ (.cells #[.int .i64 0, .int .i64 0] 27) = X15 at *))
                  all_goals
                    have z17 := two_set2 (x := .int .i64 P) (y := .int .i64 Q) z15
                    have hk9 := (hk.setCell (p := ⟨q15, 0, none⟩) hqz (.int .i64 P)).setCell (p := ⟨q15, 1, none⟩) hqz (.int .i64 Q)
                    replace z16 := blk_keep z16 hk9
                    replace hO := hO.keep hk9
                    replace BW := BW.trans (hk9.mono BW.size)
                    refine HK18.out _ _ ⟨?_⟩
                    clear HK18 hk hk9 hqz z15 z0 z1 x0' x1' f0 f1 p0 p1
                    generalize World.setCell (World.setCell _ ⟨q15, 0, none⟩ (.int .i64 P)) ⟨q15, 1, none⟩ (.int .i64 Q) = W5 at *
                    have f0 := cell_block z17 0
                    have f1 := cell_block z17 1
                    by_cases hs8 : szd P 1000000000 = true
                    case neg =>
                      have b5 : (1000000000 : Int) < (P.natAbs : Int) := by
                        have : wIn P (-1000000000) 1000000000 = false := Bool.eq_false_iff.2 hs8
                        rw [wIn_false] at this
                        omega
                      have hr : adR (P, Q) = 8 := by
                        unfold adR firstE
                        have : unlessE (szd P 1000000000) 8 = 8 := by
                          unfold unlessE
                          rw [if_neg hs8]
                        dsimp only
                        rw [this, if_neg (by decide)]
                      have e1' := HBAD.out (by rw [hr]; decide)
                      rw [hr] at e1'
                      have e2' : L = [] := by
                        have := HB.out
                        rw [this, if_neg (by rw [e1']; decide)]
                      have E1 := Lib.hid e1'
                      have E2 := Lib.hid e2'
                      clear e1' e2' hr hs8
                      go_wp2_with fail
                      refine (size_any P _ (by omega) (by omega)).mono ?_
                      rintro e w6 ⟨rfl, rfl⟩
                      dsimp only
                      go_wp2_with fail
                      refine bodyPost_ret (v := .tuple #[.slice none 0 0, .int .i64 8]) (by simp [results, Tryz.results15]) rfl ⟨none, 0, 0, by rw [E1.out], by rw [E2.out]; exact SFcR.nil _, BW⟩
                    case pos =>
                      have b5 : ¬ (1000000000 : Int) < (P.natAbs : Int) := by
                        have := wIn_iff.1 hs8
                        omega
                      have b6 : ¬ (1000000000 : Int) < Q := by omega
                      have hr : adR (P, Q) = firstE [0, unlessE (decide (0 ≤ P)) 22] := by
                        unfold adR
                        dsimp only
                        have : unlessE (szd P 1000000000) 8 = 0 := by
                          unfold unlessE
                          rw [if_pos hs8]
                        rw [this]
                      by_cases hP0 : P < 0
                      case pos =>
                        have hr2 : adR (P, Q) = 22 := by
                          have : unlessE (decide (0 ≤ P)) 22 = 22 := by
                            unfold unlessE
                            rw [if_neg (by simp; omega)]
                          rw [hr, this]
                          rfl
                        have e1' := HBAD.out (by rw [hr2]; decide)
                        rw [hr2] at e1'
                        have e2' : L = [] := by
                          have := HB.out
                          rw [this, if_neg (by rw [e1']; decide)]
                        have E1 := Lib.hid e1'
                        have E2 := Lib.hid e2'
                        clear e1' e2' hr hr2 hs8
                        go_wp2_with fail
                        refine (size_any P _ (by omega) (by omega)).mono ?_
                        rintro e w6 ⟨rfl, rfl⟩
                        dsimp only
                        go_wp2_with fail
                        refine bodyPost_ret (v := .tuple #[.slice none 0 0, .int .i64 22]) (by simp [results, Tryz.results15]) rfl ⟨none, 0, 0, by rw [E1.out], by rw [E2.out]; exact SFcR.nil _, BW⟩
                      case neg =>
                        have hr2 : adR (P, Q) = 0 := by
                          have : unlessE (decide (0 ≤ P)) 22 = 0 := by
                            unfold unlessE
                            rw [if_pos (by simp; omega)]
                          rw [hr, this]
                          rfl
                        have e1' := HGO.out hr2
                        have E1 := Lib.hid e1'
                        have o1 := hO.sr.max
                        have o2 := hO.sr.cap
                        have hO' : World.ownsRow W5 (q10 + 1) 27 2 (.slice av k cv) k (((List.range k).map (adF F D full own)).flatMap encFcR) := hO
                        have hB1 : q10 + 1 ≤ W5.heap.size := blk_lt z16
                        have hmq : q10 < W5.heap.size := blk_lt z16
                        have hneq : ∀ g, av = some ⟨g, 0, none⟩ → q10 ≠ g := fun g hg => by
                          subst hg
                          have := (World.ownsRow.lt hO g rfl).1
                          omega
                        have HNQ := Lib.hid hneq
                        have HOO := Lib.hid hO'
                        clear e1' hr hr2 hs8 hneq hO
                        go_wp2_with fail
                        refine (size_any P _ (by omega) (by omega)).mono ?_
                        rintro e w6 ⟨rfl, rfl⟩
                        dsimp only
                        go_wp2_with (at_builtin; go_loud (refine appRecG W5 39 27 (new := [.int .i64 P, .int .i64 Q]) rfl rfl _ _ rfl Tryz.underlying39 Tryz.info_fcr rfl (by decide) (by decide) HOO.out rfl rfl rfl (oneCell_FcR (P, Q)) (by omega) hB1 (fun a9 c9 w9 ho9 hb9 hsm9 => ?_)))
                        have hO9 : OwFcR w9 (q10 + 1) a9 (k + 1) c9 ((List.range (k + 1)).map (adF F D full own)) := by
                          rw [List.range_succ, List.map_append]
                          simpa [OwFcR, encFcR, HFD.out] using ho9
                        have z18 := (hsm9 q10 hmq HNQ.out).trans z16
                        have BW9 := BW.trans (hb9.mono (by omega))
                        go_roundw
                        case rel => exact ⟨k + 1, a9, c9, by omega, by go_num, rfl, hO9, E1.out, z18, BW9⟩
                        case measure => simp [intOf]; omega
                case neg =>
                  obtain rfl : k = fn := by omega
                  have hle : ¬ (k : Int) < (k : Int) := by omega
                  have e3 : R = 0 := by
                    have := HT.out
                    rw [eaF_end (by omega)] at this
                    exact (congrArg Prod.snd this).symm
                  subst e3
                  have e2 : L = (List.range k).map (adF F D full own) := by
                    have := HB.out
                    rw [this, if_pos rfl, HL4.out]
                  have E2 := Lib.hid e2
                  have HO := Lib.hid hO.sr
                  clear e2 hO
                  go_wp2_with fail
                  refine bodyPost_ret (v := .tuple #[.slice av k cv, .int .i64 0]) (by simp [results, Tryz.results15]) rfl ⟨av, k, cv, rfl, by rw [E2.out]; exact HO.out, BW⟩
end Go.Proofs.YtaiikekgckjdeaaGreat
