/- Contracts of chapter 6: the reference of decays: the error, the copy, equal rows of ranges, fractions in lowest terms. -/
import Derived.Test.YtmaidjankakppaaJd
namespace Go.Proofs.Ytmaidjankakppaa
open Go.RowKit
open Calmly (Kept)

theorem decayE_cases (xs : List Int) (off : Int) : decayE xs off = if xs.length = 0 then 10 else if 60 < xs.length then 8 else if xs.any odd1 = true then 2 else if wIn off 0 10000 = true then 0 else 2 := by
  unfold decayE
  rw [firstE, firstE_three]
  generalize xs.any odd1 = b
  generalize wIn off 0 10000 = c
  generalize xs.length = l
  by_cases h0 : l = 0
  · subst h0
    cases b <;> cases c <;> rfl
  · have e0 : 0 < l := by omega
    by_cases h6 : 60 < l
    · have e1 : ¬ ((l : Int) ≤ 60) := by omega
      simp [h0, h6, e0, e1, unlessE]
    · have e1 : (l : Int) ≤ 60 := by omega
      cases b <;> cases c <;> simp [h0, h6, e0, e1, unlessE]

set_option maxRecDepth 100000 in
set_option maxHeartbeats 4000000 in
theorem DecayErr_any (a : Option Addr) (n c : Nat) (xs : List Int) (off : Int) (w : World) (h1 : SI w a n c xs) :
    Calls Try.prog 53 #[.agg #[.slice a n c, .int .i64 off]] w fun e w' => e = .returned (.int .i64 (decayE xs off)) ∧ Below w.heap.size w w' := by
  obtain ⟨l1, l2⟩ : n ≤ xs.length ∧ xs.length ≤ n := by have := h1.len; omega
  have m1 := h1.max
  have c1 := h1.cap
  have hb : ∀ o, Below w.heap.size w (w.alloc o) := fun o => (Below.refl _ _).alloc (Nat.le_refl _) _
  have hd := decayE_cases xs off
  have HD := Lib.hid hd
  clear hd
  rcases Nat.eq_zero_or_pos n with rfl | h0
  · go_enter Try.func53, Try.ntmps53
    go_wp2_with fail
    go_ret
    exact ⟨ret_int (by rw [HD.out, if_pos (by omega)]), hb _⟩
  · have t0 : ((n : Int) == 0) = false := by simp; omega
    by_cases h6 : 60 < n
    · have t1 : (60 : Int) < (n : Int) := by omega
      go_enter Try.func53, Try.ntmps53
      go_wp2_with fail
      go_ret
      exact ⟨ret_int (by rw [HD.out, if_neg (by omega), if_pos (by omega)]), hb _⟩
    · have t1 : (n : Int) ≤ 60 := by omega
      have hnew := alloc_new w (.cells #[.slice a n c, .int .i64 off] 87)
      obtain ⟨wa, hwa⟩ : ∃ x, x = w.alloc (.cells #[.slice a n c, .int .i64 off] 87) := ⟨_, rfl⟩
      have hba : Below w.heap.size w wa := hwa ▸ hb _
      rw [← hwa] at hnew
      have d0 : wa.cell? ⟨w.heap.size, 0, none⟩ = some (.slice a n c) := cell_block hnew 0
      have d1 : wa.cell? ⟨w.heap.size, 1, none⟩ = some (.int .i64 off) := cell_block hnew 1
      go_enter Try.func53, Try.ntmps53
      go_wp2_with fail
      rw [← hwa]
      clear hwa
      go_loop [3] (fun i => ∃ k : Nat, k ≤ n ∧ i = .int .i64 k ∧ ∀ j, j < k → odd1 (xs[j]?.getD 0) = false) (fun i => n - (intOf i).toNat)
      case atStart => exact ⟨0, by omega, rfl, fun j hj => by omega⟩
      case round =>
        obtain ⟨k, hk, rfl, ht⟩ := hrel
        have HT := Lib.hid ht
        clear ht
        by_cases hlt : k < n
        · obtain ⟨b1, o1, rfl, hc1⟩ := h1.at_ (by omega)
          have e1 := cell_keep (hc1 k hlt) hba
          clear hc1
          have hi : (k : Int) < (n : Int) := by omega
          have hi0 : (0 : Int) ≤ (k : Int) := by omega
          have hx : xs[k]? = some (xs[k]?.getD 0) := by
            have : k < xs.length := by omega
            simp [this]
          have HX := Lib.hid hx
          clear hx
          obtain ⟨x, hxx⟩ : ∃ x, xs[k]?.getD 0 = x := ⟨_, rfl⟩
          rw [hxx] at e1 HX
          have HXX := Lib.hid hxx
          clear hxx
          cases ho : wIn x (-10000) 10000
          · go_wp2_with (first | (go_at_call 44; refine (within_any _ _ _ _).mono ?_; rintro e w' ⟨rfl, rfl⟩))
            go_ret
            refine ⟨ret_int ?_, hba⟩
            have : xs.any odd1 = true := List.any_eq_true.2 ⟨x, List.mem_of_getElem? HX.out, by unfold odd1; rw [ho]; rfl⟩
            rw [HD.out, if_neg (by omega), if_neg (by omega), if_pos this]
          · go_wp2_with (first | (go_at_call 44; refine (within_any _ _ _ _).mono ?_; rintro e w' ⟨rfl, rfl⟩))
            go_round
            case rel => exact ⟨k + 1, by omega, by go_num, fun j hj => if h : j = k then by subst h; rw [HXX.out]; unfold odd1; rw [ho]; rfl else HT.out j (by omega)⟩
            case measure => simp [intOf]; omega
        · have hle : (n : Int) ≤ (k : Int) := by omega
          have hany : xs.any odd1 = false := by
            rw [List.any_eq_false]
            intro x hx
            obtain ⟨j, hj, rfl⟩ := List.mem_iff_getElem.1 hx
            have := HT.out j (by omega)
            simp [hj] at this
            simp [this]
          have HA := Lib.hid hany
          clear hany
          cases ho : wIn off 0 10000
          · go_wp2_with (first | (go_at_call 44; refine (within_any _ _ _ _).mono ?_; rintro e w' ⟨rfl, rfl⟩))
            go_ret
            refine ⟨ret_int ?_, hba⟩
            rw [HD.out, if_neg (by omega), if_neg (by omega), HA.out, ho]
            rfl
          · go_wp2_with (first | (go_at_call 44; refine (within_any _ _ _ _).mono ?_; rintro e w' ⟨rfl, rfl⟩))
            go_ret
            refine ⟨ret_int ?_, hba⟩
            rw [HD.out, if_neg (by omega), if_neg (by omega), HA.out, ho]
            rfl

set_option maxRecDepth 100000 in
set_option maxHeartbeats 4000000 in
theorem CopyDecay_any (a : Option Addr) (n c : Nat) (xs : List Int) (off : Int) (w : World) (h1 : SI w a n c xs) (hn : n ≤ 1099511627776) :
    Calls Try.prog 55 #[.agg #[.slice a n c, .int .i64 off]] w fun e w' => ∃ a' c', e = .returned (.agg #[.slice a' n c', .int .i64 off]) ∧ SI w' a' n c' xs ∧ Below w.heap.size w w' := by
  have hb : ∀ o o', Below w.heap.size w ((w.alloc o).alloc o') := fun o o' => ((Below.refl _ _).alloc (Nat.le_refl _) _).alloc (by simp) _
  go_enter Try.func55, Try.ntmps55
  go_wp2_with fail
  refine (copyInts_any a n c xs _ (h1.keep (hb _ _)) hn).mono ?_
  rintro e w1 ⟨a', c', rfl, ho1, hb1⟩
  obtain ⟨x1, x2⟩ := box2 (w := w) (o := .cells #[.slice a n c, .int .i64 off] 87) (o' := .cells #[.slice none 0 0, .int .i64 0] 87) hb1
  have hs1 := blk_lt x2
  have f0 : w1.cell? ⟨w.heap.size, 0, none⟩ = some (.slice a n c) := cell_block x1 0
  have f1 : w1.cell? ⟨w.heap.size, 1, none⟩ = some (.int .i64 off) := cell_block x1 1
  have r0 := frozen_block x1 0
  have r1 := frozen_block x1 1
  have g0 : w1.cell? ⟨w.heap.size + 1, 0, none⟩ = some (.slice none 0 0) := cell_block x2 0
  have g1 : w1.cell? ⟨w.heap.size + 1, 1, none⟩ = some (.int .i64 0) := cell_block x2 1
  have g2 := frozen_block x2 0
  have g3 := frozen_block x2 1
  have hsz := hb1.size
  have hsz2 : w.heap.size + 2 ≤ ((w.alloc (.cells #[.slice a n c, .int .i64 off] 87)).alloc (.cells #[.slice none 0 0, .int .i64 0] 87)).heap.size := by simp
  have q0 : (w1.setCell ⟨w.heap.size, 0, none⟩ (.slice a' n c')).cell? ⟨w.heap.size + 1, 0, none⟩ = some (.slice none 0 0) := by rw [World.cell?_setCell_other _ _ _ _ (by simp)]; exact g0
  have q1 : (w1.setCell ⟨w.heap.size, 0, none⟩ (.slice a' n c')).cell? ⟨w.heap.size + 1, 1, none⟩ = some (.int .i64 0) := by rw [World.cell?_setCell_other _ _ _ _ (by simp)]; exact g1
  obtain ⟨s0, s1, _, _⟩ := set2 (x := .slice a' n c') (y := .int .i64 off) q0 q1
  have hbw := (hb (.cells #[.slice a n c, .int .i64 off] 87) (.cells #[.slice none 0 0, .int .i64 0] 87)).trans (hb1.mono (by omega))
  go_wp2_with fail
  refine bodyPost_ret (v := .agg #[.slice a' n c', .int .i64 off]) (by simp [results, Try.results55, go_sem, s0, s1]) rfl ⟨a', c', rfl, ?_, ?_⟩
  · exact (((ho1.under (by omega) _).under (by omega) _).under (by omega) _).si
  · exact ((hbw.setCell (by simp) _).setCell (by simp) _).setCell (by simp) _

set_option maxRecDepth 100000 in
set_option maxHeartbeats 4000000 in
theorem Lowest_any (x y : Int) (w : World) (hx1 : -9223372036854775807 ≤ x) (hx2 : x ≤ 9223372036854775807) (hy1 : 0 < y) (hy2 : y ≤ 9223372036854775807) :
    Calls Try.prog 62 #[.int .i64 x, .int .i64 y] w fun e w' => e = .returned (.agg #[.int .i64 (fracF x y).1, .int .i64 (fracF x y).2]) ∧ Below w.heap.size w w' := by
  have hb : ∀ o, Below w.heap.size w (w.alloc o) := fun o => (Below.refl _ _).alloc (Nat.le_refl _) _
  have hnew := alloc_new w (.cells #[.int .i64 0, .int .i64 0] 34)
  go_enter Try.func62, Try.ntmps62
  go_wp2_with fail
  refine (gcd_any x y _ (by omega) (by omega) (by omega) (by omega)).mono ?_
  rintro e w1 ⟨rfl, k, rfl⟩
  have hg0 : (0 : Int) < Int.gcd x y := by have := Int.gcd_pos_of_ne_zero_right (a := x) (b := y) (by omega); omega
  have hg1 : (Int.gcd x y : Int) ≤ 9223372036854775807 := by have := Int.gcd_le_right x hy1; omega
  obtain ⟨g, hgg⟩ : ∃ g : Int, (Int.gcd x y : Int) = g := ⟨_, rfl⟩
  have hf : fracF x y = (x.tdiv g, y.tdiv g) := by unfold fracF; rw [hgg]
  have HF := Lib.hid hf
  rw [hgg] at hg0 hg1 ⊢
  clear hf hgg
  have hg2 : (g == 0) = false := by simp; omega
  have b1 : -9223372036854775807 ≤ x.tdiv g ∧ x.tdiv g ≤ 9223372036854775807 := by
    have := Int.natAbs_tdiv_le_natAbs x g
    omega
  have b2 : -9223372036854775807 ≤ y.tdiv g ∧ y.tdiv g ≤ 9223372036854775807 := by
    have := Int.natAbs_tdiv_le_natAbs y g
    omega
  obtain ⟨b11, b12⟩ := b1
  obtain ⟨b21, b22⟩ := b2
  have hy0 : 0 ≤ y := by omega
  go_wp2_with fail
  refine Calmly.wp_region_mix 6 (.fl 0 <| .fl 1 <| .fl 2 <| .fl 3 <| .fl 4 <| .fl 5 <| .tail [6, 7]) (by kernel_rfl) (by kernel_rfl) ?_
  go_wp2_with (first | ((with_reducible refine Calmly.is_fl ?_); refine Calmly.mix_fl rfl ?_ (fun _ _ => ?_); (first | exact .move _ | exact .load _ _ | exact .fieldAddr _ _ _ (by kernel_rfl) | exact .assign _ | exact .binOp _ _ _ _ _ rfl | exact .indexAddr _ _ _ | exact .len _ _ (by kernel_rfl) | exact .field _ _ _ | exact .extract _ _ | exact .pick _ _ _ | exact .build _ _ | exact .slice _ _ _ _ _ | exact .unOp _ _ _ rfl | exact .index _ _ _ | exact .max _ _ _ rfl rfl | exact .min _ _ _ rfl rfl)) | ((with_reducible refine Calmly.is_gl ?_); refine Calmly.mix_gl rfl rfl rfl ?_; first | ((first | with_reducible refine Calmly.gl_tt ?_ (fun _ _ => ?_) | with_reducible refine Calmly.gl_ff ?_ (fun _ _ => ?_)); (first | exact .move _ | exact .load _ _ | exact .fieldAddr _ _ _ (by kernel_rfl) | exact .assign _ | exact .binOp _ _ _ _ _ rfl | exact .indexAddr _ _ _ | exact .len _ _ (by kernel_rfl) | exact .field _ _ _ | exact .extract _ _ | exact .pick _ _ _ | exact .build _ _ | exact .slice _ _ _ _ _ | exact .unOp _ _ _ rfl | exact .index _ _ _ | exact .max _ _ _ rfl rfl | exact .min _ _ _ rfl rfl)) | with_reducible refine Calmly.gl_tf (fun _ _ => ?_) | with_reducible refine Calmly.gl_ft (fun _ _ => ?_)) | ((with_reducible refine Calmly.is_eff ?_); refine Calmly.mix_eff rfl (fun _ _ => ?_)) | ((with_reducible refine Calmly.is_gf ?_); refine Calmly.mix_gf rfl rfl rfl ?_; first | with_reducible refine Calmly.gf_tt (fun _ _ => ?_) | with_reducible refine Calmly.gf_ff (fun _ _ => ?_) | with_reducible refine Calmly.gf_tf (kept_of hk) (fun _ _ => ?_) | with_reducible refine Calmly.gf_ft (kept_of hk) (fun _ _ => ?_)) | ((with_reducible refine Calmly.is_tail ?_); first | refine Calmly.mix_tail_nil ?_ | refine Calmly.mix_tail rfl (fun _ _ => ?_)) | ((with_reducible refine Calmly.is_kept ?_); refine ⟨kept_of hk, ?_⟩) | (with_reducible refine Calmly.mix_alt ?_ ?_))
  refine bodyPost_ret (v := .agg #[.int .i64 (x.tdiv g), .int .i64 (y.tdiv g)]) (by simp [results, Try.results62, go_sem]) rfl ⟨by rw [HF.out], ?_⟩
  exact ((below_drewN ((Below.refl _ _).alloc (Nat.le_refl _) _) k).drew.setCell (by simp) _).setCell (by simp) _
end Go.Proofs.Ytmaidjankakppaa
