/- Contract of chapter 2: DurationOf. The law MotionRecords, walked. -/
import Derived.Test.YtiibdndchkbefaaK12
namespace Go.Proofs.Ytiibdndchkbefaa
open Go.RowKit
open Calmly (Kept)

theorem dur_F {rE s1 s2 G F x : Int} (hG : firstE [rE, s1, s2] = G) (hF : (if rE = 0 then (if s1 = 0 then (if s2 = 0 then x else s2) else s1) else rE) = F) :
    (G ≠ 0 → F = G) ∧ (G = 0 → rE = 0 ∧ s1 = 0 ∧ s2 = 0 ∧ F = x) := by
  subst hG hF
  by_cases h1 : rE = 0
  · by_cases h2 : s1 = 0
    · by_cases h3 : s2 = 0
      · subst h1 h2 h3
        exact ⟨fun h => absurd rfl h, fun _ => ⟨rfl, rfl, rfl, rfl⟩⟩
      · have e : firstE [rE, s1, s2] = s2 := by rw [firstE, if_pos h1, firstE, if_pos h2, firstE, if_neg h3]
        rw [e, if_pos h1, if_pos h2, if_neg h3]
        exact ⟨fun _ => rfl, fun h => absurd h h3⟩
    · have e : firstE [rE, s1, s2] = s1 := by rw [firstE, if_pos h1, firstE, if_neg h2]
      rw [e, if_pos h1, if_neg h2]
      exact ⟨fun _ => rfl, fun h => absurd h h2⟩
  · have e : firstE [rE, s1, s2] = rE := by rw [firstE, if_neg h1]
    rw [e, if_neg h1]
    exact ⟨fun _ => rfl, fun h => absurd h h1⟩
theorem sq_get {xs : List Int} (hb : ∀ j : Nat, -1000 ≤ xs[j]?.getD 0 ∧ xs[j]?.getD 0 ≤ 1000) (n j : Nat) : -1000000000 ≤ (sqL xs n)[j]?.getD 0 ∧ (sqL xs n)[j]?.getD 0 ≤ 1000000000 := by
  rcases Nat.lt_or_ge j n with h | h
  · rw [sqL_get _ _ _ h]
    have := sq_bd (hb j).1 (hb j).2
    omega
  · rw [List.getElem?_eq_none (by rw [sqL_len]; exact h)]
    simp

set_option maxRecDepth 100000 in
set_option maxHeartbeats 4000000 in
theorem DurationOf_any (step : Int) (a : Option Addr) (n c : Nat) (xs : List Int) (p q p' q' : Int) (w : World) (h1 : SI w a n c xs) (hp1 : -9223372036854775808 ≤ p) (hp2 : p ≤ 9223372036854775807) (hq2 : q ≤ 9223372036854775807) (hp1' : -9223372036854775808 ≤ p') (hp2' : p' ≤ 9223372036854775807) (hq2' : q' ≤ 9223372036854775807)
    (F E : Int) (lo hi : Nat) (hF : (if (recF step xs).2 = 0 then shsE p q p' q' else (recF step xs).2) = F) (hno : F ≠ 0 → E = F ∧ lo = 0 ∧ hi = 0) (hok : F = 0 → E = 0 ∧ FirstAt xs n p q lo ∧ FirstAt xs n p' q' hi) :
    Calls Try.prog 52 #[.agg #[.int .i64 step, .slice a n c], .agg #[.int .i64 p, .int .i64 q, .int .i64 p', .int .i64 q']] w fun r w' => r = .returned (.tuple #[.agg #[.int .i64 (lo : Int), .int .i64 (hi : Int)], .int .i64 E]) ∧ Below w.heap.size w w' := by
  have hA : ∀ (A : World) (o : Obj), Below A.heap.size A (A.alloc o) := fun A o => (Below.refl _ _).alloc (Nat.le_refl _) _
  obtain ⟨l1, l2⟩ : n ≤ xs.length ∧ xs.length ≤ n := by have := h1.len; omega
  have m1 := h1.max
  have c1 := h1.cap
  obtain ⟨rE, hrE⟩ : ∃ x, (recF step xs).2 = x := ⟨_, rfl⟩
  obtain ⟨s1, hs1⟩ : ∃ x, shrE p q = x := ⟨_, rfl⟩
  obtain ⟨s2, hs2⟩ : ∃ x, shrE p' q' = x := ⟨_, rfl⟩
  obtain ⟨G, hG⟩ : ∃ x, firstE [rE, s1, s2] = x := ⟨_, rfl⟩
  unfold shsE at hF
  rw [hrE, hs1, hs2] at hF
  obtain ⟨hG1, hG2⟩ := dur_F hG hF
  have HRE := Lib.hid hrE
  have HS1 := Lib.hid hs1
  have HS2 := Lib.hid hs2
  have HG := Lib.hid hG
  have HG1 := Lib.hid hG1
  have HG2 := Lib.hid hG2
  have HNO := Lib.hid hno
  have HOK := Lib.hid hok
  clear hrE hs1 hs2 hG hG1 hG2 hF hno hok
  obtain ⟨W, hW⟩ : ∃ W, ((w.alloc (.cells #[.int .i64 step, .slice a n c] 24)).alloc (.cells #[.int .i64 p, .int .i64 q, .int .i64 p', .int .i64 q'] 88)).alloc (.cells #[.int .i64 0, .int .i64 0] 47) = W := ⟨_, rfl⟩
  have BW : Below w.heap.size w W := by rw [← hW]; exact (((Below.refl _ _).alloc (Nat.le_refl _) _).alloc (by simp) _).alloc (by simp; omega) _
  have x2 : W.heap[w.heap.size]? = some (.cells #[.int .i64 step, .slice a n c] 24) := by
    rw [← hW]
    exact blk_keep (blk_keep (alloc_new w _) (hA _ _)) (hA _ _)
  have x3 : W.heap[w.heap.size + 1]? = some (.cells #[.int .i64 p, .int .i64 q, .int .i64 p', .int .i64 q'] 88) := by
    rw [← hW]
    have := alloc_new (w.alloc (.cells #[.int .i64 step, .slice a n c] 24)) (.cells #[.int .i64 p, .int .i64 q, .int .i64 p', .int .i64 q'] 88)
    simp only [World.size_alloc] at this
    exact blk_keep this (hA _ _)
  have x4 : W.heap[w.heap.size + 1 + 1]? = some (.cells #[.int .i64 0, .int .i64 0] 47) := by
    rw [← hW]
    have := alloc_new ((w.alloc (.cells #[.int .i64 step, .slice a n c] 24)).alloc (.cells #[.int .i64 p, .int .i64 q, .int .i64 p', .int .i64 q'] 88)) (.cells #[.int .i64 0, .int .i64 0] 47)
    simpa only [World.size_alloc] using this
  have HW := Lib.hid hW
  clear hW
  go_enter Try.func52, Try.ntmps52
  go_wp2_with fail
  rw [HW.out]
  refine Calmly.wp_region_mix 10 (.fl 0 <| .fl 2 <| .fl 3 <| .fl 5 <| .fl 6 <| .eff 1 <| .eff 4 <| .eff 7 <| .eff 8 <| .eff 9 <| .tail [10]) (by kernel_rfl) (by kernel_rfl) ?_
  replace x2 := blk_keep x2 (Below.refl _ _).drew
  replace x3 := blk_keep x3 (Below.refl _ _).drew
  replace x4 := blk_keep x4 (Below.refl _ _).drew
  replace BW := BW.drew
  generalize World.drew _ = V at x2 x3 x4 BW ⊢
  have f0 := cell_block x2 0
  have f1 := cell_block x2 1
  have g0 := cell_block x3 0
  have g1 := cell_block x3 1
  have g2 := cell_block x3 2
  have g3 := cell_block x3 3
  have hk := Below.refl V.heap.size V
  have M0 := Lib.hid True.intro
  go_wp2_with (first | ((with_reducible refine Calmly.is_fl ?_); refine Calmly.mix_fl rfl ?_ (fun _ _ => ?_); (first | exact .move _ | exact .load _ _ | exact .fieldAddr _ _ _ (by kernel_rfl) | exact .assign _ | exact .binOp _ _ _ _ _ rfl | exact .indexAddr _ _ _ | exact .len _ _ (by kernel_rfl) | exact .field _ _ _ | exact .extract _ _ | exact .pick _ _ _ | exact .build _ _ | exact .slice _ _ _ _ _ | exact .unOp _ _ _ rfl | exact .index _ _ _ | exact .max _ _ _ rfl rfl | exact .min _ _ _ rfl rfl)) | ((with_reducible refine Calmly.is_gl ?_); refine Calmly.mix_gl rfl rfl rfl ?_; first | ((first | with_reducible refine Calmly.gl_tt ?_ (fun _ _ => ?_) | with_reducible refine Calmly.gl_ff ?_ (fun _ _ => ?_)); (first | exact .move _ | exact .load _ _ | exact .fieldAddr _ _ _ (by kernel_rfl) | exact .assign _ | exact .binOp _ _ _ _ _ rfl | exact .indexAddr _ _ _ | exact .len _ _ (by kernel_rfl) | exact .field _ _ _ | exact .extract _ _ | exact .pick _ _ _ | exact .build _ _ | exact .slice _ _ _ _ _ | exact .unOp _ _ _ rfl | exact .index _ _ _ | exact .max _ _ _ rfl rfl | exact .min _ _ _ rfl rfl)) | with_reducible refine Calmly.gl_tf (fun _ _ => ?_) | with_reducible refine Calmly.gl_ft (fun _ _ => ?_)) | ((with_reducible refine Calmly.is_eff ?_); refine Calmly.mix_eff rfl (fun _ _ => ?_)) | ((with_reducible refine Calmly.is_gf ?_); refine Calmly.mix_gf rfl rfl rfl ?_; first | with_reducible refine Calmly.gf_tt (fun _ _ => ?_) | with_reducible refine Calmly.gf_ff (fun _ _ => ?_) | with_reducible refine Calmly.gf_tf (kept_of hk) (fun _ _ => ?_) | with_reducible refine Calmly.gf_ft (kept_of hk) (fun _ _ => ?_)) | ((with_reducible refine Calmly.is_kept ?_); refine ⟨kept_of hk, ?_⟩) | (with_reducible refine Calmly.mix_alt ?_ ?_) | (refine kept_alloc hk (fun hk' hblk hge => ?_); replace hk := hk'; clear hk') | (go_at_call 92; refine (recordErr_any step a n c xs _ ((h1.keep BW).keep hk) rE HRE.out).mono ?_; rintro e w1 ⟨rfl, hs⟩; replace hk := step_of hk hs; clear hs) | (have _ := M0.out; clear M0; go_at_call 110; refine (nShareErr_any p q _ hp1 hp2 hq2 s1 HS1.out).mono ?_; rintro e w2 ⟨rfl, hs⟩; replace hk := step_of hk hs; clear hs) | (go_at_call 110; refine (nShareErr_any p' q' _ hp1' hp2' hq2' s2 HS2.out).mono ?_; rintro e w3 ⟨rfl, hs⟩; replace hk := step_of hk hs; clear hs))
  refine (nFirst_any _ 3 3 _ _ (SI.three _ _ _ _ _ (by simp))).mono ?_
  rintro e w4 ⟨rfl, rfl⟩
  rw [HG.out]
  replace BW := BW.trans (hk.mono BW.size)
  replace x2 := blk_keep x2 hk
  replace x3 := blk_keep x3 hk
  replace x4 := blk_keep x4 hk
  clear f0 f1 g0 g1 g2 g3 hge hblk
  generalize World.alloc _ _ = V2 at hk x2 x3 x4 BW ⊢
  have f0 := cell_block x2 0
  have f1 := cell_block x2 1
  have g0 := cell_block x3 0
  have g1 := cell_block x3 1
  have g2 := cell_block x3 2
  have g3 := cell_block x3 3
  have r0 := cell_block x4 0
  have r1 := cell_block x4 1
  have r2 := frozen_block x4 0
  have r3 := frozen_block x4 1
  by_cases hz : G = 0
  case neg =>
    have hFG := HG1.out hz
    obtain ⟨z1, z2, z3⟩ := HNO.out (by rw [hFG]; exact hz)
    rw [hFG] at z1
    have b1 : (G != 0) = true := by simpa using hz
    subst z1 z2 z3
    clear hz hFG
    go_wp2_with (first | ((with_reducible refine Calmly.is_fl ?_); refine Calmly.mix_fl rfl ?_ (fun _ _ => ?_); (first | exact .move _ | exact .load _ _ | exact .fieldAddr _ _ _ (by kernel_rfl) | exact .assign _ | exact .binOp _ _ _ _ _ rfl | exact .indexAddr _ _ _ | exact .len _ _ (by kernel_rfl) | exact .field _ _ _ | exact .extract _ _ | exact .pick _ _ _ | exact .build _ _ | exact .slice _ _ _ _ _ | exact .unOp _ _ _ rfl | exact .index _ _ _ | exact .max _ _ _ rfl rfl | exact .min _ _ _ rfl rfl)) | ((with_reducible refine Calmly.is_gl ?_); refine Calmly.mix_gl rfl rfl rfl ?_; first | ((first | with_reducible refine Calmly.gl_tt ?_ (fun _ _ => ?_) | with_reducible refine Calmly.gl_ff ?_ (fun _ _ => ?_)); (first | exact .move _ | exact .load _ _ | exact .fieldAddr _ _ _ (by kernel_rfl) | exact .assign _ | exact .binOp _ _ _ _ _ rfl | exact .indexAddr _ _ _ | exact .len _ _ (by kernel_rfl) | exact .field _ _ _ | exact .extract _ _ | exact .pick _ _ _ | exact .build _ _ | exact .slice _ _ _ _ _ | exact .unOp _ _ _ rfl | exact .index _ _ _ | exact .max _ _ _ rfl rfl | exact .min _ _ _ rfl rfl)) | with_reducible refine Calmly.gl_tf (fun _ _ => ?_) | with_reducible refine Calmly.gl_ft (fun _ _ => ?_)) | ((with_reducible refine Calmly.is_eff ?_); refine Calmly.mix_eff rfl (fun _ _ => ?_)) | ((with_reducible refine Calmly.is_gf ?_); refine Calmly.mix_gf rfl rfl rfl ?_; first | with_reducible refine Calmly.gf_tt (fun _ _ => ?_) | with_reducible refine Calmly.gf_ff (fun _ _ => ?_) | with_reducible refine Calmly.gf_tf (kept_of hk) (fun _ _ => ?_) | with_reducible refine Calmly.gf_ft (kept_of hk) (fun _ _ => ?_)) | ((with_reducible refine Calmly.is_tail ?_); first | refine Calmly.mix_tail_nil ?_ | refine Calmly.mix_tail rfl (fun _ _ => ?_)) | ((with_reducible refine Calmly.is_kept ?_); refine ⟨kept_of hk, ?_⟩) | (with_reducible refine Calmly.mix_alt ?_ ?_))
    obtain ⟨s1', s2', _, _⟩ := set2 (x := .int .i64 0) (y := .int .i64 0) r0 r1
    refine bodyPost_ret (v := .tuple #[.agg #[.int .i64 0, .int .i64 0], .int .i64 E]) (by simp [results, Try.results52, go_sem, s1', s2']) rfl ⟨rfl, ?_⟩
    exact (BW.setCell (by simp; omega) _).setCell (by simp; omega) _
  obtain ⟨z1, z2, z3, z4⟩ := HG2.out hz
  subst z1 z2 z3 hz
  obtain ⟨k1, k2, k3, k4⟩ := shrE_ok HS1.out
  obtain ⟨j1, j2, j3, j4⟩ := shrE_ok HS2.out
  obtain ⟨i1, i2⟩ := frac_mul (show -1000000 ≤ p by omega) (by omega) (show -1000000 ≤ q' by omega) (by omega)
  obtain ⟨i3, i4⟩ := frac_mul (show -1000000 ≤ p' by omega) (by omega) (show -1000000 ≤ q by omega) (by omega)
  obtain ⟨v1, v2, v3, v4, v5⟩ := recF_ok HRE.out
  have H5 := Lib.hid v5
  have hn0 : 0 < n := by omega
  have hn : n ≤ 24 := by omega
  have HZ4 := Lib.hid z4
  clear v1 v2 v3 v4 v5 z4 HG HG1 HG2
  by_cases hc : p' * q < p * q'
  · have hFF : F = 9 := by rw [HZ4.out, if_pos hc]
    obtain ⟨z1, z2, z3⟩ := HNO.out (by rw [hFF]; decide)
    rw [hFF] at z1
    subst z1 z2 z3
    clear hFF HZ4
    go_wp2_with (first | ((with_reducible refine Calmly.is_fl ?_); refine Calmly.mix_fl rfl ?_ (fun _ _ => ?_); (first | exact .move _ | exact .load _ _ | exact .fieldAddr _ _ _ (by kernel_rfl) | exact .assign _ | exact .binOp _ _ _ _ _ rfl | exact .indexAddr _ _ _ | exact .len _ _ (by kernel_rfl) | exact .field _ _ _ | exact .extract _ _ | exact .pick _ _ _ | exact .build _ _ | exact .slice _ _ _ _ _ | exact .unOp _ _ _ rfl | exact .index _ _ _ | exact .max _ _ _ rfl rfl | exact .min _ _ _ rfl rfl)) | ((with_reducible refine Calmly.is_gl ?_); refine Calmly.mix_gl rfl rfl rfl ?_; first | ((first | with_reducible refine Calmly.gl_tt ?_ (fun _ _ => ?_) | with_reducible refine Calmly.gl_ff ?_ (fun _ _ => ?_)); (first | exact .move _ | exact .load _ _ | exact .fieldAddr _ _ _ (by kernel_rfl) | exact .assign _ | exact .binOp _ _ _ _ _ rfl | exact .indexAddr _ _ _ | exact .len _ _ (by kernel_rfl) | exact .field _ _ _ | exact .extract _ _ | exact .pick _ _ _ | exact .build _ _ | exact .slice _ _ _ _ _ | exact .unOp _ _ _ rfl | exact .index _ _ _ | exact .max _ _ _ rfl rfl | exact .min _ _ _ rfl rfl)) | with_reducible refine Calmly.gl_tf (fun _ _ => ?_) | with_reducible refine Calmly.gl_ft (fun _ _ => ?_)) | ((with_reducible refine Calmly.is_eff ?_); refine Calmly.mix_eff rfl (fun _ _ => ?_)) | ((with_reducible refine Calmly.is_gf ?_); refine Calmly.mix_gf rfl rfl rfl ?_; first | with_reducible refine Calmly.gf_tt (fun _ _ => ?_) | with_reducible refine Calmly.gf_ff (fun _ _ => ?_) | with_reducible refine Calmly.gf_tf (kept_of hk) (fun _ _ => ?_) | with_reducible refine Calmly.gf_ft (kept_of hk) (fun _ _ => ?_)) | ((with_reducible refine Calmly.is_tail ?_); first | refine Calmly.mix_tail_nil ?_ | refine Calmly.mix_tail rfl (fun _ _ => ?_)) | ((with_reducible refine Calmly.is_kept ?_); refine ⟨kept_of hk, ?_⟩) | (with_reducible refine Calmly.mix_alt ?_ ?_))
    obtain ⟨s1', s2', _, _⟩ := set2 (x := .int .i64 0) (y := .int .i64 0) r0 r1
    refine bodyPost_ret (v := .tuple #[.agg #[.int .i64 0, .int .i64 0], .int .i64 9]) (by simp [results, Try.results52, go_sem, s1', s2']) rfl ⟨rfl, ?_⟩
    exact (BW.setCell (by simp; omega) _).setCell (by simp; omega) _
  have hFF : F = 0 := by rw [HZ4.out, if_neg hc]
  obtain ⟨z1, z2, z3⟩ := HOK.out hFF
  subst z1
  have HT1 := Lib.hid z2
  have HT2 := Lib.hid z3
  have hc' : p * q' ≤ p' * q := by omega
  clear hFF HZ4 z2 z3 hc HNO HOK
  go_wp2_with (first | ((with_reducible refine Calmly.is_fl ?_); refine Calmly.mix_fl rfl ?_ (fun _ _ => ?_); (first | exact .move _ | exact .load _ _ | exact .fieldAddr _ _ _ (by kernel_rfl) | exact .assign _ | exact .binOp _ _ _ _ _ rfl | exact .indexAddr _ _ _ | exact .len _ _ (by kernel_rfl) | exact .field _ _ _ | exact .extract _ _ | exact .pick _ _ _ | exact .build _ _ | exact .slice _ _ _ _ _ | exact .unOp _ _ _ rfl | exact .index _ _ _ | exact .max _ _ _ rfl rfl | exact .min _ _ _ rfl rfl)) | ((with_reducible refine Calmly.is_gl ?_); refine Calmly.mix_gl rfl rfl rfl ?_; first | ((first | with_reducible refine Calmly.gl_tt ?_ (fun _ _ => ?_) | with_reducible refine Calmly.gl_ff ?_ (fun _ _ => ?_)); (first | exact .move _ | exact .load _ _ | exact .fieldAddr _ _ _ (by kernel_rfl) | exact .assign _ | exact .binOp _ _ _ _ _ rfl | exact .indexAddr _ _ _ | exact .len _ _ (by kernel_rfl) | exact .field _ _ _ | exact .extract _ _ | exact .pick _ _ _ | exact .build _ _ | exact .slice _ _ _ _ _ | exact .unOp _ _ _ rfl | exact .index _ _ _ | exact .max _ _ _ rfl rfl | exact .min _ _ _ rfl rfl)) | with_reducible refine Calmly.gl_tf (fun _ _ => ?_) | with_reducible refine Calmly.gl_ft (fun _ _ => ?_)) | ((with_reducible refine Calmly.is_eff ?_); refine Calmly.mix_eff rfl (fun _ _ => ?_)) | ((with_reducible refine Calmly.is_gf ?_); refine Calmly.mix_gf rfl rfl rfl ?_; first | with_reducible refine Calmly.gf_tt (fun _ _ => ?_) | with_reducible refine Calmly.gf_ff (fun _ _ => ?_) | with_reducible refine Calmly.gf_tf (kept_of hk) (fun _ _ => ?_) | with_reducible refine Calmly.gf_ft (kept_of hk) (fun _ _ => ?_)) | ((with_reducible refine Calmly.is_tail ?_); first | refine Calmly.mix_tail_nil ?_ | refine Calmly.mix_tail rfl (fun _ _ => ?_)) | ((with_reducible refine Calmly.is_kept ?_); refine ⟨kept_of hk, ?_⟩) | (with_reducible refine Calmly.mix_alt ?_ ?_))
  go_loopw [46, 7] (fun i s wr => ∃ (k : Nat) (a' : Option Addr) (c' : Nat), k ≤ n ∧ i = .int .i64 k ∧ s = .slice a' k c' ∧ OwI wr V2.heap.size a' k c' (sqL xs k) ∧ Below V2.heap.size V2 wr) (fun i _ _ => n - (intOf i).toNat)
  case atStart => exact ⟨0, none, 0, by omega, rfl, rfl, OwI.nil _ _, Below.refl _ _⟩
  case round =>
    obtain ⟨k, a', c', hkn, rfl, rfl, how, hbr⟩ := hrel
    have hrs := hbr.size
    have hcap := how.si.cap
    have hmax := how.si.max
    have BR := BW.trans (hbr.mono BW.size)
    by_cases hlt : k < n
    · obtain ⟨ba, oa, rfl, hca⟩ := (h1.keep BR).at_ (by omega)
      have ea := hca k hlt
      have hx := H5.out k
      obtain ⟨x, hxx⟩ : ∃ x, xs[k]?.getD 0 = x := ⟨_, rfl⟩
      rw [hxx] at ea hx
      obtain ⟨sx1, sx2⟩ := sq_bd hx.1 hx.2
      have hsu := sqL_succ xs k
      rw [hxx] at hsu
      have HSU := Lib.hid hsu
      have hi : (k : Int) < (n : Int) := by omega
      have hi0 : (0 : Int) ≤ (k : Int) := by omega
      clear hca hxx hsu f0 f1 g0 g1 g2 g3 r0 r1 r2 r3
      go_wp2_with (first | (at_builtin; refine appI rfl _ _ rfl how rfl rfl (by omega) (by omega) ?_; intro a2 c2 w5 ho5 hb5 hs5))
      go_roundw
      case rel => exact ⟨k + 1, a2, c2, by omega, by go_num, rfl, by rw [HSU.out]; exact ho5, hbr.trans hb5⟩
      case measure => simp [intOf]; omega
    · obtain rfl : n = k := by omega
      have hle : (n : Int) ≤ (n : Int) := by omega
      replace x3 := blk_keep x3 hbr
      replace x4 := blk_keep x4 hbr
      clear f0 f1 g0 g1 g2 g3 r0 r1 r2 r3
      have hsq := sq_get H5.out n
      have HSQ := Lib.hid hsq
      clear hsq
      go_wp2_with fail
      refine (sums_any a' n c' (sqL xs n) _ how.si (by omega) HSQ.out).mono ?_
      rintro e w6 ⟨a6, c6, rfl, ow6, hs⟩
      replace x3 := blk_keep x3 hs
      replace x4 := blk_keep x4 hs
      have BQ := BR.trans (hs.mono BR.size)
      clear hs how hbr BR hrs
      have hs := hA w6 (.cells #[.slice a6 n c6] 22)
      have y10 := alloc_new w6 (.cells #[.slice a6 n c6] 22)
      have s6 : SI (w6.alloc (.cells #[.slice a6 n c6] 22)) a6 n c6 (enL xs n) := ow6.si.keep hs
      replace x3 := blk_keep x3 hs
      replace x4 := blk_keep x4 hs
      replace BQ := BQ.trans (hs.mono BQ.size)
      have hc6 := s6.cap
      have hm6 := s6.max
      obtain ⟨b6, o6, rfl, hcc⟩ := s6.at_ hn0
      have ee := hcc (n - 1) (by omega)
      rw [enL_get _ _ _ (by omega), show n - 1 + 1 = n by omega] at ee
      have hn1 : ((n : Int) - 1).toNat = n - 1 := by omega
      have hn2 : (0 : Int) ≤ (n : Int) - 1 := by omega
      have hn3 : (n : Int) - 1 < (n : Int) := by omega
      obtain ⟨T, hT⟩ : ∃ T, eT xs n = T := ⟨_, rfl⟩
      rw [hT] at ee
      have HT := Lib.hid hT
      clear hs ow6 hcc hT
      have t0 := cell_block y10 0
      go_wp2_with fail
      have hs := hA (w6.alloc (.cells #[.slice (some ⟨b6, o6, none⟩) n c6] 22)) (.cells #[.int .i64 T] 3)
      have y11 := alloc_new (w6.alloc (.cells #[.slice (some ⟨b6, o6, none⟩) n c6] 22)) (.cells #[.int .i64 T] 3)
      simp only [World.size_alloc] at y11
      replace x3 := blk_keep x3 hs
      replace x4 := blk_keep x4 hs
      replace y10 := blk_keep y10 hs
      replace s6 := s6.keep hs
      replace BQ := BQ.trans (hs.mono BQ.size)
      clear hs t0 ee
      refine Calmly.wp_region_mix 8 (.fl 0 <| .fl 1 <| .fl 2 <| .fl 4 <| .fl 5 <| .fl 6 <| .eff 3 <| .eff 7 <| .tail [8, 9, 10]) (by kernel_rfl) (by kernel_rfl) ?_
      replace x3 := blk_keep x3 (Below.refl _ _).drew
      replace x4 := blk_keep x4 (Below.refl _ _).drew
      replace y10 := blk_keep y10 (Below.refl _ _).drew
      replace y11 := blk_keep y11 (Below.refl _ _).drew
      replace s6 := s6.keep (Below.refl _ _).drew
      replace BQ := BQ.drew
      generalize World.drew _ = V3 at x3 x4 y10 y11 s6 BQ ⊢
      rw [← HT.out] at y11
      have g0 := cell_block x3 0
      have g1 := cell_block x3 1
      have g2 := cell_block x3 2
      have g3 := cell_block x3 3
      have hk := Below.refl V3.heap.size V3
      have M0 := Lib.hid True.intro
      go_wp2_with (first | ((with_reducible refine Calmly.is_fl ?_); refine Calmly.mix_fl rfl ?_ (fun _ _ => ?_); (first | exact .move _ | exact .load _ _ | exact .fieldAddr _ _ _ (by kernel_rfl) | exact .assign _ | exact .binOp _ _ _ _ _ rfl | exact .indexAddr _ _ _ | exact .len _ _ (by kernel_rfl) | exact .field _ _ _ | exact .extract _ _ | exact .pick _ _ _ | exact .build _ _ | exact .slice _ _ _ _ _ | exact .unOp _ _ _ rfl | exact .index _ _ _ | exact .max _ _ _ rfl rfl | exact .min _ _ _ rfl rfl)) | ((with_reducible refine Calmly.is_gl ?_); refine Calmly.mix_gl rfl rfl rfl ?_; first | ((first | with_reducible refine Calmly.gl_tt ?_ (fun _ _ => ?_) | with_reducible refine Calmly.gl_ff ?_ (fun _ _ => ?_)); (first | exact .move _ | exact .load _ _ | exact .fieldAddr _ _ _ (by kernel_rfl) | exact .assign _ | exact .binOp _ _ _ _ _ rfl | exact .indexAddr _ _ _ | exact .len _ _ (by kernel_rfl) | exact .field _ _ _ | exact .extract _ _ | exact .pick _ _ _ | exact .build _ _ | exact .slice _ _ _ _ _ | exact .unOp _ _ _ rfl | exact .index _ _ _ | exact .max _ _ _ rfl rfl | exact .min _ _ _ rfl rfl)) | with_reducible refine Calmly.gl_tf (fun _ _ => ?_) | with_reducible refine Calmly.gl_ft (fun _ _ => ?_)) | ((with_reducible refine Calmly.is_eff ?_); refine Calmly.mix_eff rfl (fun _ _ => ?_)) | ((with_reducible refine Calmly.is_gf ?_); refine Calmly.mix_gf rfl rfl rfl ?_; first | with_reducible refine Calmly.gf_tt (fun _ _ => ?_) | with_reducible refine Calmly.gf_ff (fun _ _ => ?_) | with_reducible refine Calmly.gf_tf (kept_of hk) (fun _ _ => ?_) | with_reducible refine Calmly.gf_ft (kept_of hk) (fun _ _ => ?_)) | ((with_reducible refine Calmly.is_tail ?_); first | refine Calmly.mix_tail_nil ?_ | refine Calmly.mix_tail rfl (fun _ _ => ?_)) | ((with_reducible refine Calmly.is_kept ?_); refine ⟨kept_of hk, ?_⟩) | (with_reducible refine Calmly.mix_alt ?_ ?_) | (have _ := M0.out; clear M0; go_at_call 112; refine (reach_any xs n _ c6 p q lo _ _ _ (s6.keep hk) (blk_keep y10 hk) (blk_keep y11 hk) (by omega) H5.out k1 k2 k4 HT1.out).mono ?_; rintro e w7 ⟨rfl, hs⟩; replace hk := step_of hk hs; clear hs) | (go_at_call 112; refine (reach_any xs n _ c6 p' q' hi _ _ _ (s6.keep hk) (blk_keep y10 hk) (blk_keep y11 hk) (by omega) H5.out j1 j2 j4 HT2.out).mono ?_; rintro e w8 ⟨rfl, hs⟩; replace hk := step_of hk hs; clear hs; replace x4 := blk_keep x4 hk; have r0 := cell_block x4 0; have r1 := cell_block x4 1; have r2 := frozen_block x4 0; have r3 := frozen_block x4 1))
      obtain ⟨s1', s2', _, _⟩ := set2 (x := .int .i64 (lo : Int)) (y := .int .i64 (hi : Int)) r0 r1
      refine bodyPost_ret (v := .tuple #[.agg #[.int .i64 (lo : Int), .int .i64 (hi : Int)], .int .i64 0]) (by simp [results, Try.results52, go_sem, s1', s2']) rfl ⟨rfl, ?_⟩
      exact ((BQ.trans (hk.mono BQ.size)).setCell (by simp; omega) _).setCell (by simp; omega) _
end Go.Proofs.Ytiibdndchkbefaa

namespace Go.Proofs.Ytiibdndchkbefaa
open Go.RowKit
open Calmly (Kept)

theorem decide_refl (l : List Int) : decide (l = l) = true := by simp

set_option maxRecDepth 100000 in
set_option maxHeartbeats 4000000 in
theorem MotionRecords_walk (step : Int) (a : Option Addr) (n c : Nat) (xs : List Int) (w : World) (h1 : SI w a n c xs) :
    Calls Try.prog 5 #[.agg #[.int .i64 step, .slice a n c]] w fun e w' => e = .returned (.bool true) ∧ Below w.heap.size w w' := by
  have hA : ∀ (A : World) (o : Obj), Below A.heap.size A (A.alloc o) := fun A o => (Below.refl _ _).alloc (Nat.le_refl _) _
  obtain ⟨l1, l2⟩ : n ≤ xs.length ∧ xs.length ≤ n := by have := h1.len; omega
  have m1 := h1.max
  have c1 := h1.cap
  have x1 := alloc_new w (.cells #[.int .i64 step, .slice a n c] 24)
  have BW := hA w (.cells #[.int .i64 step, .slice a n c] 24)
  go_enter Try.func5, Try.ntmps5
  go_wp2_with fail
  refine (awake_any _).mono ?_
  rintro e w1 ⟨rfl, hs⟩
  replace x1 := blk_keep x1 hs
  replace BW := BW.trans (hs.mono BW.size)
  clear hs
  have f0 := cell_block x1 0
  have f1 := cell_block x1 1
  go_wp2_with fail
  refine (few_any step a n c _ c1 m1).mono ?_
  rintro e w2 ⟨rfl, hs⟩
  replace x1 := blk_keep x1 hs
  replace BW := BW.trans (hs.mono BW.size)
  clear hs f0 f1
  have f0 := cell_block x1 0
  have f1 := cell_block x1 1
  by_cases hn : n ≤ 26
  case neg =>
    rw [show decide (n ≤ 26) = false from by simpa using hn]
    go_wp2_with fail
    go_ret
    exact ⟨rfl, BW⟩
  rw [show decide (n ≤ 26) = true from by simpa using hn]
  obtain ⟨I, E, hR⟩ : ∃ I E, recF step xs = (I, E) := ⟨_, _, rfl⟩
  obtain ⟨X1, hX1, hX1'⟩ : ∃ X : List Int, (E ≠ 0 → X = []) ∧ (E = 0 → X = sumsF xs) := by
    by_cases h : E = 0
    · exact ⟨_, fun hh => absurd h hh, fun _ => rfl⟩
    · exact ⟨_, fun _ => rfl, fun hh => absurd hh h⟩
  obtain ⟨X2, hX2, hX2'⟩ : ∃ X : List Int, (E ≠ 0 → X = []) ∧ (E = 0 → X = sumsF (sumsF xs)) := by
    by_cases h : E = 0
    · exact ⟨_, fun hh => absurd h hh, fun _ => rfl⟩
    · exact ⟨_, fun _ => rfl, fun hh => absurd hh h⟩
  obtain ⟨V, D, hV, hV'⟩ : ∃ V D : Int, (E ≠ 0 → V = 0 ∧ D = 0) ∧ (E = 0 → sumT xs n = V ∧ sumT (sumsF xs) n = D) := by
    by_cases h : E = 0
    · exact ⟨_, _, fun hh => absurd h hh, fun _ => ⟨rfl, rfl⟩⟩
    · exact ⟨_, _, fun _ => ⟨rfl, rfl⟩, fun hh => absurd hh h⟩
  have HR := Lib.hid hR
  have HX1 := Lib.hid hX1
  have HX1' := Lib.hid hX1'
  have HX2 := Lib.hid hX2
  have HX2' := Lib.hid hX2'
  have HV := Lib.hid hV
  have HV' := Lib.hid hV'
  clear hR hX1 hX1' hX2 hX2' hV hV'
  go_wp2_with fail
  refine (copy_any step a n c xs _ (h1.keep BW) (by omega)).mono ?_
  rintro e w3 ⟨a3, c3, rfl, s3, hs⟩
  replace x1 := blk_keep x1 hs
  replace BW := BW.trans (hs.mono BW.size)
  clear hs f0 f1
  have f0 := cell_block x1 0
  have f1 := cell_block x1 1
  go_wp2_with fail
  refine (CheckRecord_any step a3 n c3 xs _ s3 I E HR.out).mono ?_
  rintro e w4 ⟨rfl, hs⟩
  replace x1 := blk_keep x1 hs
  replace BW := BW.trans (hs.mono BW.size)
  clear hs f0 f1 s3
  have f0 := cell_block x1 0
  have f1 := cell_block x1 1
  go_wp2_with fail
  refine (copy_any step a n c xs _ (h1.keep BW) (by omega)).mono ?_
  rintro e w5 ⟨a5, c5, rfl, s5, hs⟩
  replace x1 := blk_keep x1 hs
  replace BW := BW.trans (hs.mono BW.size)
  clear hs f0 f1
  have f0 := cell_block x1 0
  have f1 := cell_block x1 1
  go_wp2_with fail
  refine (VelocitiesOf_any step a5 n c5 xs _ s5 E X1 (by rw [HR.out]) HX1.out HX1'.out).mono ?_
  rintro e w6 ⟨av, nv, cv, rfl, sv, hs⟩
  replace x1 := blk_keep x1 hs
  replace BW := BW.trans (hs.mono BW.size)
  clear hs f0 f1 s5
  have f0 := cell_block x1 0
  have f1 := cell_block x1 1
  go_wp2_with fail
  refine (copy_any step a n c xs _ (h1.keep BW) (by omega)).mono ?_
  rintro e w7 ⟨a7, c7, rfl, s7, hs⟩
  replace x1 := blk_keep x1 hs
  replace BW := BW.trans (hs.mono BW.size)
  replace sv := sv.keep hs
  clear hs f0 f1
  have f0 := cell_block x1 0
  have f1 := cell_block x1 1
  go_wp2_with fail
  refine (DisplacementsOf_any step a7 n c7 xs _ s7 E X2 (by rw [HR.out]) HX2.out HX2'.out).mono ?_
  rintro e w8 ⟨ad, nd, cd, rfl, sd, hs⟩
  replace x1 := blk_keep x1 hs
  replace BW := BW.trans (hs.mono BW.size)
  replace sv := sv.keep hs
  clear hs f0 f1 s7
  have f0 := cell_block x1 0
  have f1 := cell_block x1 1
  go_wp2_with fail
  refine (copy_any step a n c xs _ (h1.keep BW) (by omega)).mono ?_
  rintro e w9 ⟨a9, c9, rfl, s9, hs⟩
  replace x1 := blk_keep x1 hs
  replace BW := BW.trans (hs.mono BW.size)
  replace sv := sv.keep hs
  replace sd := sd.keep hs
  clear hs f0 f1
  have f0 := cell_block x1 0
  have f1 := cell_block x1 1
  go_wp2_with fail
  refine (EndOf_any step a9 n c9 xs _ s9 E V D (by rw [HR.out]) HV.out HV'.out).mono ?_
  rintro e w10 ⟨rfl, hs⟩
  replace x1 := blk_keep x1 hs
  have hbl := blk_lt x1
  have hk := hA w10 (.cells #[.int .i64 V, .int .i64 D] 58)
  have y1 := alloc_new w10 (.cells #[.int .i64 V, .int .i64 D] 58)
  replace x1 := blk_keep x1 hk
  replace BW := BW.trans (hs.mono BW.size)
  replace BW := BW.trans (hk.mono BW.size)
  replace sv := (sv.keep hs).keep hk
  replace sd := (sd.keep hs).keep hk
  clear hs f0 f1 s9 hk
  have f0 := cell_block x1 0
  have f1 := cell_block x1 1
  go_wp2_with fail
  obtain ⟨bx, hbx⟩ : ∃ b, w10.heap.size = b := ⟨_, rfl⟩
  obtain ⟨W, hW⟩ : ∃ W, w10.alloc (.cells #[.int .i64 V, .int .i64 D] 58) = W := ⟨_, rfl⟩
  rw [hW] at x1 y1 BW sv sd f0 f1 ⊢
  rw [hbx] at y1 hbl ⊢
  clear hW hbx
  refine (rCheckRecord_any step a n c xs _ (h1.keep BW) I E HR.out).mono ?_
  rintro e w11 ⟨rfl, hs⟩
  replace x1 := blk_keep x1 hs
  replace y1 := blk_keep y1 hs
  replace BW := BW.trans (hs.mono BW.size)
  replace sv := sv.keep hs
  replace sd := sd.keep hs
  clear hs f0 f1
  have f0 := cell_block x1 0
  have f1 := cell_block x1 1
  have f2 := cell_block y1 0
  have f3 := cell_block y1 1
  by_cases hz : E = 0
  case neg =>
    obtain ⟨rfl, rfl⟩ := HV.out hz
    have e1 := sv.len
    have e2 := sd.len
    rw [HX1.out hz] at e1
    rw [HX2.out hz] at e2
    obtain rfl : nv = 0 := e1
    obtain rfl : nd = 0 := e2
    have b1 : (E != 0) = true := by simpa using hz
    clear hz
    go_wp2_with fail
    go_ret
    exact ⟨rfl, BW⟩
  subst hz
  have e1 := sv.len
  have e2 := sd.len
  have q1 := HX1'.out rfl
  have q2 := HX2'.out rfl
  obtain ⟨q3, q4⟩ := HV'.out rfl
  subst q1 q2
  rw [sumsF_len] at e1
  rw [sumsF_len, sumsF_len] at e2
  obtain rfl : n = nv := by omega
  obtain rfl : n = nd := by omega
  obtain ⟨g1, g2, g3, g4, g5⟩ := recF_ok (step := step) (xs := xs) (by rw [HR.out])
  have H5 := Lib.hid g5
  have Q3 := Lib.hid q3
  have Q4 := Lib.hid q4
  have hn0 : 0 < n := by omega
  have hlv : (sumsF xs)[n - 1]?.getD 0 = V := by rw [sumsF_get xs (n - 1) (by omega), ← q3]; congr 1; omega
  have hld : (sumsF (sumsF xs))[n - 1]?.getD 0 = D := by rw [sumsF_get (sumsF xs) (n - 1) (by rw [sumsF_len]; omega), ← q4]; congr 1; omega
  have HLV := Lib.hid hlv
  have HLD := Lib.hid hld
  clear g1 g2 g3 g4 g5 q3 q4 e1 e2 hlv hld
  go_wp2_with fail
  refine Calmly.wp_region_mix 33 (.fl 0 <| .fl 1 <| .fl 2 <| .gl 3 <| .gl 4 <| .gl 5 <| .gf 6 <| .gf 7 <| .gl 8 <| .fl 9 <| .fl 10 <| .gl 11 <| .gl 12 <| .fl 13 <| .fl 14 <| .gl 15 <| .gl 16 <| .gl 17 <| .gf 18 <| .gf 19 <| .gl 20 <| .fl 21 <| .fl 22 <| .gl 23 <| .gl 24 <| .fl 25 <| .fl 26 <| .gl 27 <| .gl 28 <| .gl 29 <| .gf 30 <| .gf 31 <| .fl 32 <| .tail []) (by kernel_rfl) (by kernel_rfl) ?_
  have hkd : Below w11.heap.size w11 w11.drew := (Below.refl _ _).drew
  generalize w11.drew = U at hkd ⊢
  replace x1 := blk_keep x1 hkd
  replace y1 := blk_keep y1 hkd
  replace BW := BW.trans (hkd.mono BW.size)
  replace sv := sv.keep hkd
  replace sd := sd.keep hkd
  clear f0 f1 f2 f3 hkd
  have f0 := cell_block x1 0
  have f1 := cell_block x1 1
  have f2 := cell_block y1 0
  have f3 := cell_block y1 1
  have hk := Below.refl U.heap.size U
  have S1 := Lib.hid True.intro
  go_wp2_with (first | ((with_reducible refine Calmly.is_fl ?_); refine Calmly.mix_fl rfl ?_ (fun _ _ => ?_); (first | exact .move _ | exact .load _ _ | exact .fieldAddr _ _ _ (by kernel_rfl) | exact .assign _ | exact .binOp _ _ _ _ _ rfl | exact .indexAddr _ _ _ | exact .len _ _ (by kernel_rfl) | exact .field _ _ _ | exact .extract _ _ | exact .pick _ _ _ | exact .build _ _ | exact .slice _ _ _ _ _ | exact .unOp _ _ _ rfl | exact .index _ _ _ | exact .max _ _ _ rfl rfl | exact .min _ _ _ rfl rfl)) | ((with_reducible refine Calmly.is_gl ?_); refine Calmly.mix_gl rfl rfl rfl ?_; first | ((first | with_reducible refine Calmly.gl_tt ?_ (fun _ _ => ?_) | with_reducible refine Calmly.gl_ff ?_ (fun _ _ => ?_)); (first | exact .move _ | exact .load _ _ | exact .fieldAddr _ _ _ (by kernel_rfl) | exact .assign _ | exact .binOp _ _ _ _ _ rfl | exact .indexAddr _ _ _ | exact .len _ _ (by kernel_rfl) | exact .field _ _ _ | exact .extract _ _ | exact .pick _ _ _ | exact .build _ _ | exact .slice _ _ _ _ _ | exact .unOp _ _ _ rfl | exact .index _ _ _ | exact .max _ _ _ rfl rfl | exact .min _ _ _ rfl rfl)) | with_reducible refine Calmly.gl_tf (fun _ _ => ?_) | with_reducible refine Calmly.gl_ft (fun _ _ => ?_)) | ((with_reducible refine Calmly.is_eff ?_); refine Calmly.mix_eff rfl (fun _ _ => ?_)) | ((with_reducible refine Calmly.is_gf ?_); refine Calmly.mix_gf rfl rfl rfl ?_; first | with_reducible refine Calmly.gf_tt (fun _ _ => ?_) | with_reducible refine Calmly.gf_ff (fun _ _ => ?_) | with_reducible refine Calmly.gf_tf (kept_of hk) (fun _ _ => ?_) | with_reducible refine Calmly.gf_ft (kept_of hk) (fun _ _ => ?_)) | ((with_reducible refine Calmly.is_tail ?_); first | refine Calmly.mix_tail_nil ?_ | refine Calmly.mix_tail rfl (fun _ _ => ?_)) | ((with_reducible refine Calmly.is_kept ?_); refine ⟨kept_of hk, ?_⟩) | (with_reducible refine Calmly.mix_alt ?_ ?_) | (go_at_call 35; refine (rVelocities_any a n c xs _ ((h1.keep BW).keep hk) (by omega) (fun j => by have := H5.out j; omega)).mono ?_; rintro e u1 ⟨a11, c11, rfl, s11, hs1⟩; replace hk := step_of hk hs1) | (go_at_call 25; have _ := S1.out; clear S1; refine (ints_any av a11 n n cv c11 _ _ _ (sv.keep hk) s11).mono ?_; rintro e u2 ⟨rfl, q2, rfl⟩; rw [decide_refl]; replace hk := below_drewN hk q2) | (go_at_call 36; refine (rDisplacements_any a n c xs _ ((h1.keep BW).keep hk) (by omega) H5.out).mono ?_; rintro e u3 ⟨a12, c12, rfl, s12, hs2⟩; replace hk := step_of hk hs2) | (go_at_call 25; refine (ints_any ad a12 n n cd c12 _ _ _ (sd.keep hk) s12).mono ?_; rintro e u2 ⟨rfl, q3, rfl⟩; rw [decide_refl]; replace hk := below_drewN hk q3) | (go_at_call 37; refine (rEnd_any a n c xs _ ((h1.keep BW).keep hk) hn (fun j => by have := H5.out j; omega) V D Q3.out Q4.out).mono ?_; rintro e u4 ⟨rfl, hs3⟩; replace hk := step_of hk hs3))
  have hkd : Below U.heap.size U u4.drew := hk.trans ((Below.refl _ _).drew.mono hk.size)
  replace y1 := blk_keep y1 hkd
  replace BW := BW.trans (hkd.mono BW.size)
  replace sv := sv.keep hkd
  replace sd := sd.keep hkd
  clear f0 f1 f2 f3 hk hs1 hs2 hs3 s11 s12 x1
  obtain ⟨bv, ov, rfl, hcv⟩ := sv.at_ hn0
  obtain ⟨bd, od, rfl, hcd⟩ := sd.at_ hn0
  have ev := hcv (n - 1) (by omega)
  have ed := hcd (n - 1) (by omega)
  rw [HLV.out] at ev
  rw [HLD.out] at ed
  have hn1 : ((n : Int) - 1).toNat = n - 1 := by omega
  have hn2 : (0 : Int) ≤ (n : Int) - 1 := by omega
  have hn3 : (n : Int) - 1 < (n : Int) := by omega
  clear hcv hcd
  refine Calmly.wp_region_mix 19 (.fl 0 <| .fl 1 <| .fl 2 <| .fl 3 <| .fl 4 <| .fl 5 <| .fl 6 <| .fl 7 <| .fl 8 <| .fl 9 <| .gl 10 <| .gl 11 <| .gl 12 <| .gl 13 <| .gl 14 <| .gl 15 <| .gl 16 <| .gl 17 <| .gl 18 <| .tail [19, 20]) (by kernel_rfl) (by kernel_rfl) ?_
  generalize u4.drew = Z at y1 BW sv sd ev ed ⊢
  have f2 := cell_block y1 0
  have f3 := cell_block y1 1
  have hk := Below.refl Z.heap.size Z
  go_wp2_with (first | ((with_reducible refine Calmly.is_fl ?_); refine Calmly.mix_fl rfl ?_ (fun _ _ => ?_); (first | exact .move _ | exact .load _ _ | exact .fieldAddr _ _ _ (by kernel_rfl) | exact .assign _ | exact .binOp _ _ _ _ _ rfl | exact .indexAddr _ _ _ | exact .len _ _ (by kernel_rfl) | exact .field _ _ _ | exact .extract _ _ | exact .pick _ _ _ | exact .build _ _ | exact .slice _ _ _ _ _ | exact .unOp _ _ _ rfl | exact .index _ _ _ | exact .max _ _ _ rfl rfl | exact .min _ _ _ rfl rfl)) | ((with_reducible refine Calmly.is_gl ?_); refine Calmly.mix_gl rfl rfl rfl ?_; first | ((first | with_reducible refine Calmly.gl_tt ?_ (fun _ _ => ?_) | with_reducible refine Calmly.gl_ff ?_ (fun _ _ => ?_)); (first | exact .move _ | exact .load _ _ | exact .fieldAddr _ _ _ (by kernel_rfl) | exact .assign _ | exact .binOp _ _ _ _ _ rfl | exact .indexAddr _ _ _ | exact .len _ _ (by kernel_rfl) | exact .field _ _ _ | exact .extract _ _ | exact .pick _ _ _ | exact .build _ _ | exact .slice _ _ _ _ _ | exact .unOp _ _ _ rfl | exact .index _ _ _ | exact .max _ _ _ rfl rfl | exact .min _ _ _ rfl rfl)) | with_reducible refine Calmly.gl_tf (fun _ _ => ?_) | with_reducible refine Calmly.gl_ft (fun _ _ => ?_)) | ((with_reducible refine Calmly.is_eff ?_); refine Calmly.mix_eff rfl (fun _ _ => ?_)) | ((with_reducible refine Calmly.is_gf ?_); refine Calmly.mix_gf rfl rfl rfl ?_; first | with_reducible refine Calmly.gf_tt (fun _ _ => ?_) | with_reducible refine Calmly.gf_ff (fun _ _ => ?_) | with_reducible refine Calmly.gf_tf (kept_of hk) (fun _ _ => ?_) | with_reducible refine Calmly.gf_ft (kept_of hk) (fun _ _ => ?_)) | ((with_reducible refine Calmly.is_tail ?_); first | refine Calmly.mix_tail_nil ?_ | refine Calmly.mix_tail rfl (fun _ _ => ?_)) | ((with_reducible refine Calmly.is_kept ?_); refine ⟨kept_of hk, ?_⟩) | (with_reducible refine Calmly.mix_alt ?_ ?_))
  go_ret
  exact ⟨rfl, BW⟩
end Go.Proofs.Ytiibdndchkbefaa
