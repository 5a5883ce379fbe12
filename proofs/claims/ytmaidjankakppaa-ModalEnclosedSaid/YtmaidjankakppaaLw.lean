/- Contract of the base package: fractions in lowest terms (for texts that need no decays). -/
import Derived.Test.YtmaidjankakppaaDc
namespace Go.Proofs.Ytmaidjankakppaa
open Go.RowKit
open Calmly (Kept)

set_option maxRecDepth 100000 in
set_option maxHeartbeats 4000000 in
theorem Lowest_lw (x y : Int) (w : World) (hx1 : -9223372036854775807 ≤ x) (hx2 : x ≤ 9223372036854775807) (hy1 : 0 < y) (hy2 : y ≤ 9223372036854775807) :
    Calls Try.prog 62 #[.int .i64 x, .int .i64 y] w fun e w' => e = .returned (.agg #[.int .i64 (fracF x y).1, .int .i64 (fracF x y).2]) ∧ Below w.heap.size w w' := by
  have hb : ∀ o, Below w.heap.size w (w.alloc o) := fun o => (Below.refl _ _).alloc (Nat.le_refl _) _
  have hnew := alloc_new w (.cells #[.int .i64 0, .int .i64 0] 34)
  go_enter Try.func62, Try.ntmps62
  go_wp2_with fail
  refine (gcd_any x y _ (by omega) (by omega) (by omega) (by omega)).mono ?_
  rintro e w1 ⟨rfl, k, rfl⟩
  have hg0 : (0 : Int) < Int.gcd x y := by have := Int.gcd_pos_of_ne_zero_right (a := x) (b := y) (by omega); omega
  have hg1 : (Int.gcd x y : Int) ≤ 9223372036854775807 := by have := Int.gcd_le_right x hy1; omega
  obtain ⟨g, hgg⟩ : ∃ g : Int, (Int.gcd x y : Int) = g := ⟨_, rfl⟩
  have hf : fracF x y = (x.tdiv g, y.tdiv g) := by unfold fracF; rw [hgg]
  have HF := Lib.hid hf
  rw [hgg] at hg0 hg1 ⊢
  clear hf hgg
  have hg2 : (g == 0) = false := by simp; omega
  have b1 : -9223372036854775807 ≤ x.tdiv g ∧ x.tdiv g ≤ 9223372036854775807 := by
    have := Int.natAbs_tdiv_le_natAbs x g
    omega
  have b2 : -9223372036854775807 ≤ y.tdiv g ∧ y.tdiv g ≤ 9223372036854775807 := by
    have := Int.natAbs_tdiv_le_natAbs y g
    omega
  obtain ⟨b11, b12⟩ := b1
  obtain ⟨b21, b22⟩ := b2
  have hy0 : 0 ≤ y := by omega
  go_wp2_with fail
  refine Calmly.wp_region_mix 6 (.fl 0 <| .fl 1 <| .fl 2 <| .fl 3 <| .fl 4 <| .fl 5 <| .tail [6, 7]) (by kernel_rfl) (by kernel_rfl) ?_
  go_wp2_with (first | ((with_reducible refine Calmly.is_fl ?_); refine Calmly.mix_fl rfl ?_ (fun _ _ => ?_); (first | exact .move _ | exact .load _ _ | exact .fieldAddr _ _ _ (by kernel_rfl) | exact .assign _ | exact .binOp _ _ _ _ _ rfl | exact .indexAddr _ _ _ | exact .len _ _ (by kernel_rfl) | exact .field _ _ _ | exact .extract _ _ | exact .pick _ _ _ | exact .build _ _ | exact .slice _ _ _ _ _ | exact .unOp _ _ _ rfl | exact .index _ _ _ | exact .max _ _ _ rfl rfl | exact .min _ _ _ rfl rfl)) | ((with_reducible refine Calmly.is_gl ?_); refine Calmly.mix_gl rfl rfl rfl ?_; first | ((first | with_reducible refine Calmly.gl_tt ?_ (fun _ _ => ?_) | with_reducible refine Calmly.gl_ff ?_ (fun _ _ => ?_)); (first | exact .move _ | exact .load _ _ | exact .fieldAddr _ _ _ (by kernel_rfl) | exact .assign _ | exact .binOp _ _ _ _ _ rfl | exact .indexAddr _ _ _ | exact .len _ _ (by kernel_rfl) | exact .field _ _ _ | exact .extract _ _ | exact .pick _ _ _ | exact .build _ _ | exact .slice _ _ _ _ _ | exact .unOp _ _ _ rfl | exact .index _ _ _ | exact .max _ _ _ rfl rfl | exact .min _ _ _ rfl rfl)) | with_reducible refine Calmly.gl_tf (fun _ _ => ?_) | with_reducible refine Calmly.gl_ft (fun _ _ => ?_)) | ((with_reducible refine Calmly.is_eff ?_); refine Calmly.mix_eff rfl (fun _ _ => ?_)) | ((with_reducible refine Calmly.is_gf ?_); refine Calmly.mix_gf rfl rfl rfl ?_; first | with_reducible refine Calmly.gf_tt (fun _ _ => ?_) | with_reducible refine Calmly.gf_ff (fun _ _ => ?_) | with_reducible refine Calmly.gf_tf (kept_of hk) (fun _ _ => ?_) | with_reducible refine Calmly.gf_ft (kept_of hk) (fun _ _ => ?_)) | ((with_reducible refine Calmly.is_tail ?_); first | refine Calmly.mix_tail_nil ?_ | refine Calmly.mix_tail rfl (fun _ _ => ?_)) | ((with_reducible refine Calmly.is_kept ?_); refine ⟨kept_of hk, ?_⟩) | (with_reducible refine Calmly.mix_alt ?_ ?_))
  refine bodyPost_ret (v := .agg #[.int .i64 (x.tdiv g), .int .i64 (y.tdiv g)]) (by simp [results, Try.results62, go_sem]) rfl ⟨by rw [HF.out], ?_⟩
  exact ((below_drewN ((Below.refl _ _).alloc (Nat.le_refl _) _) k).drew.setCell (by simp) _).setCell (by simp) _
end Go.Proofs.Ytmaidjankakppaa
