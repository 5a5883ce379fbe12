/- Contracts of chapter 6: equal rows of ranges. -/
import Derived.Test.YtmaidjankakppaaJe
namespace Go.Proofs.Ytmaidjankakppaa
open Go.RowKit
open Calmly (Kept)

theorem take_stepR {xs ys : List (Int × Int)} (k : Nat) (h : xs.take k = ys.take k) (hx : k < xs.length) (hy : k < ys.length) (he : xs[k]?.getD (0, 0) = ys[k]?.getD (0, 0)) : xs.take (k + 1) = ys.take (k + 1) := by
  simp only [List.getElem?_eq_getElem hx, List.getElem?_eq_getElem hy, Option.getD_some] at he
  rw [List.take_add_one, List.take_add_one, h, List.getElem?_eq_getElem hx, List.getElem?_eq_getElem hy, he]
theorem eq_of_takeR {xs ys : List (Int × Int)} (k : Nat) (h : xs.take k = ys.take k) (hx : xs.length ≤ k) (hy : ys.length ≤ k) : xs = ys := by
  rwa [List.take_of_length_le hx, List.take_of_length_le hy] at h

set_option maxRecDepth 100000 in
set_option maxHeartbeats 1000000 in
theorem ranges_any (a b : Option Addr) (n m c d : Nat) (xs ys : List (Int × Int)) (w : World) (h1 : SR w a n c xs) (h2 : SR w b m d ys) :
    Calls Try.prog 65 #[.slice a n c, .slice b m d] w fun e w' => e = .returned (.bool (decide (xs = ys))) ∧ ∃ n, w' = w.drewN n := by
  obtain ⟨l1, l2⟩ : n ≤ xs.length ∧ xs.length ≤ n := by have := h1.len; omega
  obtain ⟨k1, k2⟩ : m ≤ ys.length ∧ ys.length ≤ m := by have := h2.len; omega
  have m1 := h1.max
  have m2 := h2.max
  have c1 := h1.cap
  have c2 := h2.cap
  by_cases he : n = m
  · subst he
    go_enter Try.func65, Try.ntmps65
    go_wp2_with fail
    go_loopw [5] (fun i wr => ∃ k : Nat, k ≤ n ∧ i = .int .i64 k ∧ xs.take k = ys.take k ∧ ∃ n, wr = w.drewN n) (fun i _ => n - (intOf i).toNat)
    case atStart => exact ⟨0, by omega, rfl, rfl, 0, rfl⟩
    case round =>
      obtain ⟨k, hk, rfl, ht, q, rfl⟩ := hrel
      have HT := Lib.hid ht
      clear ht
      by_cases hlt : k < n
      · obtain ⟨b1, o1, rfl, hc1⟩ := h1.at_ (by omega)
        obtain ⟨b2, o2, rfl, hc2⟩ := h2.at_ (by omega)
        obtain ⟨e1, e2⟩ := hc1 k hlt
        obtain ⟨e3, e4⟩ := hc2 k hlt
        clear hc1 hc2
        obtain ⟨p, hp⟩ : ∃ p, xs[k]?.getD (0, 0) = p := ⟨_, rfl⟩
        obtain ⟨r, hr⟩ : ∃ r, ys[k]?.getD (0, 0) = r := ⟨_, rfl⟩
        have HX := Lib.hid hp
        have HY := Lib.hid hr
        rw [hp] at e1 e2
        rw [hr] at e3 e4
        clear hp hr
        obtain ⟨p1, p2⟩ := p
        obtain ⟨r1, r2⟩ := r
        dsimp only at e1 e2 e3 e4
        have hi : (k : Int) < (n : Int) := by omega
        have hi0 : (0 : Int) ≤ (k : Int) := by omega
        by_cases hq : p1 = r1 ∧ p2 = r2
        · obtain ⟨rfl, rfl⟩ := hq
          go_wp2_with fail
          refine Calmly.wp_region_mix 8 (.fl 0 <| .fl 1 <| .fl 2 <| .fl 3 <| .fl 4 <| .fl 5 <| .fl 6 <| .fl 7 <| .tail [8]) (by kernel_rfl) (by kernel_rfl) ?_
          go_wp2_with (first | ((with_reducible refine Calmly.is_fl ?_); refine Calmly.mix_fl rfl ?_ (fun _ _ => ?_); (first | exact .move _ | exact .load _ _ | exact .fieldAddr _ _ _ (by kernel_rfl) | exact .assign _ | exact .binOp _ _ _ _ _ rfl | exact .indexAddr _ _ _ | exact .len _ _ (by kernel_rfl) | exact .field _ _ _ | exact .extract _ _ | exact .pick _ _ _ | exact .build _ _ | exact .slice _ _ _ _ _ | exact .unOp _ _ _ rfl | exact .index _ _ _ | exact .max _ _ _ rfl rfl | exact .min _ _ _ rfl rfl)) | ((with_reducible refine Calmly.is_gl ?_); refine Calmly.mix_gl rfl rfl rfl ?_; first | ((first | with_reducible refine Calmly.gl_tt ?_ (fun _ _ => ?_) | with_reducible refine Calmly.gl_ff ?_ (fun _ _ => ?_)); (first | exact .move _ | exact .load _ _ | exact .fieldAddr _ _ _ (by kernel_rfl) | exact .assign _ | exact .binOp _ _ _ _ _ rfl | exact .indexAddr _ _ _ | exact .len _ _ (by kernel_rfl) | exact .field _ _ _ | exact .extract _ _ | exact .pick _ _ _ | exact .build _ _ | exact .slice _ _ _ _ _ | exact .unOp _ _ _ rfl | exact .index _ _ _ | exact .max _ _ _ rfl rfl | exact .min _ _ _ rfl rfl)) | with_reducible refine Calmly.gl_tf (fun _ _ => ?_) | with_reducible refine Calmly.gl_ft (fun _ _ => ?_)) | ((with_reducible refine Calmly.is_eff ?_); refine Calmly.mix_eff rfl (fun _ _ => ?_)) | ((with_reducible refine Calmly.is_gf ?_); refine Calmly.mix_gf rfl rfl rfl ?_; first | with_reducible refine Calmly.gf_tt (fun _ _ => ?_) | with_reducible refine Calmly.gf_ff (fun _ _ => ?_) | with_reducible refine Calmly.gf_tf (kept_of hk) (fun _ _ => ?_) | with_reducible refine Calmly.gf_ft (kept_of hk) (fun _ _ => ?_)) | ((with_reducible refine Calmly.is_tail ?_); first | refine Calmly.mix_tail_nil ?_ | refine Calmly.mix_tail rfl (fun _ _ => ?_)) | ((with_reducible refine Calmly.is_kept ?_); refine ⟨kept_of hk, ?_⟩) | (with_reducible refine Calmly.mix_alt ?_ ?_))
          go_roundw
          case rel => exact ⟨k + 1, by omega, by go_num, take_stepR k HT.out (by omega) (by omega) (by rw [HX.out, HY.out]), q + 1, rfl⟩
          case measure => simp [intOf]; omega
        · have hxy : ¬ xs = ys := fun h => by
            subst h
            have := HX.out.symm.trans HY.out
            simp only [Prod.mk.injEq] at this
            exact hq this
          have HN := Lib.hid hxy
          clear hxy
          go_wp2_with fail
          refine Calmly.wp_region_mix 8 (.fl 0 <| .fl 1 <| .fl 2 <| .fl 3 <| .fl 4 <| .fl 5 <| .fl 6 <| .fl 7 <| .tail [8]) (by kernel_rfl) (by kernel_rfl) ?_
          go_wp2_with (first | ((with_reducible refine Calmly.is_fl ?_); refine Calmly.mix_fl rfl ?_ (fun _ _ => ?_); (first | exact .move _ | exact .load _ _ | exact .fieldAddr _ _ _ (by kernel_rfl) | exact .assign _ | exact .binOp _ _ _ _ _ rfl | exact .indexAddr _ _ _ | exact .len _ _ (by kernel_rfl) | exact .field _ _ _ | exact .extract _ _ | exact .pick _ _ _ | exact .build _ _ | exact .slice _ _ _ _ _ | exact .unOp _ _ _ rfl | exact .index _ _ _ | exact .max _ _ _ rfl rfl | exact .min _ _ _ rfl rfl)) | ((with_reducible refine Calmly.is_gl ?_); refine Calmly.mix_gl rfl rfl rfl ?_; first | ((first | with_reducible refine Calmly.gl_tt ?_ (fun _ _ => ?_) | with_reducible refine Calmly.gl_ff ?_ (fun _ _ => ?_)); (first | exact .move _ | exact .load _ _ | exact .fieldAddr _ _ _ (by kernel_rfl) | exact .assign _ | exact .binOp _ _ _ _ _ rfl | exact .indexAddr _ _ _ | exact .len _ _ (by kernel_rfl) | exact .field _ _ _ | exact .extract _ _ | exact .pick _ _ _ | exact .build _ _ | exact .slice _ _ _ _ _ | exact .unOp _ _ _ rfl | exact .index _ _ _ | exact .max _ _ _ rfl rfl | exact .min _ _ _ rfl rfl)) | with_reducible refine Calmly.gl_tf (fun _ _ => ?_) | with_reducible refine Calmly.gl_ft (fun _ _ => ?_)) | ((with_reducible refine Calmly.is_eff ?_); refine Calmly.mix_eff rfl (fun _ _ => ?_)) | ((with_reducible refine Calmly.is_gf ?_); refine Calmly.mix_gf rfl rfl rfl ?_; first | with_reducible refine Calmly.gf_tt (fun _ _ => ?_) | with_reducible refine Calmly.gf_ff (fun _ _ => ?_) | with_reducible refine Calmly.gf_tf (kept_of hk) (fun _ _ => ?_) | with_reducible refine Calmly.gf_ft (kept_of hk) (fun _ _ => ?_)) | ((with_reducible refine Calmly.is_tail ?_); first | refine Calmly.mix_tail_nil ?_ | refine Calmly.mix_tail rfl (fun _ _ => ?_)) | ((with_reducible refine Calmly.is_kept ?_); refine ⟨kept_of hk, ?_⟩) | (with_reducible refine Calmly.mix_alt ?_ ?_))
          all_goals go_ret
          all_goals refine ⟨ret_bool ?_, q + 1, rfl⟩
          all_goals exact (decide_eq_false HN.out).symm
      · go_wp2
        go_ret
        refine ⟨ret_bool ?_, q, rfl⟩
        have := eq_of_takeR k HT.out (by omega) (by omega)
        simp [this]
  · go_enter Try.func65, Try.ntmps65
    go_wp2
    go_ret
    refine ⟨ret_bool ?_, 0, rfl⟩
    have : ¬ xs = ys := fun h => by subst h; omega
    simp [this]
end Go.Proofs.Ytmaidjankakppaa
