/- Contracts of chapter 2: shares. Contracts of chapter 2: durations. -/
import Derived.Test.YtiibdndchkbefaaK11
namespace Go.Proofs.Ytiibdndchkbefaa
open Go.RowKit
open Calmly (Kept)

set_option maxRecDepth 100000 in
set_option maxHeartbeats 1000000 in
theorem gcd_min (a b : Int) (w : World) (ha1 : -9223372036854775808 ≤ a) (ha2 : a ≤ 9223372036854775807) (hb0 : 0 < b) (hb2 : b ≤ 9223372036854775807) :
    Calls Try.prog 167 #[.int .i64 a, .int .i64 b] w fun e w' => e = .returned (.int .i64 (Int.gcd a b)) ∧ ∃ n, w' = w.drewN n := by
  go_enter Try.func167, Try.ntmps167
  go_wp2
  go_loopw [0, 1] (fun x y wr => ∃ p q : Int, x = .int .i64 p ∧ y = .int .i64 q ∧ Int.gcd p q = Int.gcd a b ∧ (q = 0 → -9223372036854775807 ≤ p) ∧ -9223372036854775808 ≤ p ∧ p ≤ 9223372036854775807 ∧ -9223372036854775807 ≤ q ∧ q ≤ 9223372036854775807 ∧ ∃ n, wr = w.drewN n) (fun _ y _ => (intOf y).natAbs)
  case atStart => exact ⟨a, b, rfl, rfl, rfl, by omega, ha1, ha2, by omega, hb2, 0, rfl⟩
  case round =>
    obtain ⟨p, q, rfl, rfl, hg, hp0, hp1, hp2, hq1, hq2, n, rfl⟩ := hrel
    have HG := Lib.hid hg
    clear hg
    by_cases hz : q = 0
    · have hb : (q != 0) = false := by simp [hz]
      have hp1' := hp0 hz
      have Hz := Lib.hid hz
      clear hz hp0
      go_wp2_with (first | (go_at_call 117; refine (size_any _ _ hp1' hp2).mono ?_; rintro e w' ⟨rfl, rfl⟩))
      go_ret
      refine ⟨ret_int ?_, n, rfl⟩
      have := HG.out
      rw [Hz.out] at this
      simp at this
      omega
    · have hb : (q != 0) = true := by simpa using hz
      have h1 := tmod_bd (a := p) hz hq1 hq2
      have h2 := tmod_lt (a := p) hz
      have hc : (q == 0) = false := by simpa using hz
      clear hp0
      go_wp2_with fail
      refine Calmly.wp_region_mix 5 (.fl 0 <| .fl 1 <| .fl 2 <| .fl 3 <| .fl 4 <| .tail [5]) (by kernel_rfl) (by kernel_rfl) ?_
      go_wp2_with (first | ((with_reducible refine Calmly.is_fl ?_); refine Calmly.mix_fl rfl ?_ (fun _ _ => ?_); (first | exact .move _ | exact .load _ _ | exact .fieldAddr _ _ _ (by kernel_rfl) | exact .assign _ | exact .binOp _ _ _ _ _ rfl | exact .indexAddr _ _ _ | exact .len _ _ (by kernel_rfl) | exact .field _ _ _ | exact .extract _ _ | exact .pick _ _ _ | exact .build _ _ | exact .slice _ _ _ _ _ | exact .unOp _ _ _ rfl | exact .index _ _ _ | exact .max _ _ _ rfl rfl | exact .min _ _ _ rfl rfl)) | ((with_reducible refine Calmly.is_gl ?_); refine Calmly.mix_gl rfl rfl rfl ?_; first | ((first | with_reducible refine Calmly.gl_tt ?_ (fun _ _ => ?_) | with_reducible refine Calmly.gl_ff ?_ (fun _ _ => ?_)); (first | exact .move _ | exact .load _ _ | exact .fieldAddr _ _ _ (by kernel_rfl) | exact .assign _ | exact .binOp _ _ _ _ _ rfl | exact .indexAddr _ _ _ | exact .len _ _ (by kernel_rfl) | exact .field _ _ _ | exact .extract _ _ | exact .pick _ _ _ | exact .build _ _ | exact .slice _ _ _ _ _ | exact .unOp _ _ _ rfl | exact .index _ _ _ | exact .max _ _ _ rfl rfl | exact .min _ _ _ rfl rfl)) | with_reducible refine Calmly.gl_tf (fun _ _ => ?_) | with_reducible refine Calmly.gl_ft (fun _ _ => ?_)) | ((with_reducible refine Calmly.is_eff ?_); refine Calmly.mix_eff rfl (fun _ _ => ?_)) | ((with_reducible refine Calmly.is_gf ?_); refine Calmly.mix_gf rfl rfl rfl ?_; first | with_reducible refine Calmly.gf_tt (fun _ _ => ?_) | with_reducible refine Calmly.gf_ff (fun _ _ => ?_) | with_reducible refine Calmly.gf_tf (kept_of hk) (fun _ _ => ?_) | with_reducible refine Calmly.gf_ft (kept_of hk) (fun _ _ => ?_)) | ((with_reducible refine Calmly.is_tail ?_); first | refine Calmly.mix_tail_nil ?_ | refine Calmly.mix_tail rfl (fun _ _ => ?_)) | ((with_reducible refine Calmly.is_kept ?_); refine ⟨kept_of hk, ?_⟩) | (with_reducible refine Calmly.mix_alt ?_ ?_))
      go_roundw
      case rel => exact ⟨q, p.tmod q, rfl, rfl, by rw [gcd_step]; exact HG.out, by omega, by omega, hq2, h1.1, h1.2, n + 1, rfl⟩
      case measure => simpa [intOf] using h2

set_option maxRecDepth 100000 in
set_option maxHeartbeats 1000000 in
theorem isLowest_min (x y : Int) (w : World) (hx1 : -9223372036854775808 ≤ x) (hx2 : x ≤ 9223372036854775807) (hy2 : y ≤ 9223372036854775807) :
    Calls Try.prog 153 #[.agg #[.int .i64 x, .int .i64 y]] w fun e w' => e = .returned (.bool (isLow x y)) ∧ Below w.heap.size w w' := by
  have hb : ∀ o, Below w.heap.size w (w.alloc o) := fun o => (Below.refl _ _).alloc (Nat.le_refl _) _
  by_cases h : 0 < y
  · go_enter Try.func153, Try.ntmps153
    go_wp2_with fail
    refine (gcd_min x y _ hx1 hx2 h hy2).mono ?_
    rintro e w1 ⟨rfl, k, rfl⟩
    go_wp2_with fail
    go_ret
    refine ⟨ret_bool ?_, below_drewN (hb _) k⟩
    unfold isLow
    rw [decide_eq_true h]
    rfl
  · have h' : y ≤ 0 := by omega
    go_enter Try.func153, Try.ntmps153
    go_wp2_with fail
    go_ret
    refine ⟨ret_bool ?_, hb _⟩
    unfold isLow
    rw [decide_eq_false (by omega)]
    rfl

set_option maxRecDepth 100000 in
set_option maxHeartbeats 1000000 in
theorem nDivisor_two (a : Option Addr) (c : Nat) (x y : Int) (w : World) (hs : SI w a 2 c [x, y]) (hx1 : -9223372036854775808 ≤ x) (hx2 : x ≤ 9223372036854775807) (hy0 : 0 < y) (hy2 : y ≤ 9223372036854775807) :
    Calls Try.prog 125 #[.slice a 2 c] w fun e w' => e = .returned (.int .i64 (Int.gcd x y)) ∧ ∃ n, w' = w.drewN n := by
  have m1 := hs.max
  have c1 := hs.cap
  obtain ⟨b1, o1, rfl, hc1⟩ := hs.at_ (by omega)
  have e0 := hc1 0 (by omega)
  have e1 := hc1 1 (by omega)
  simp only [Nat.add_zero] at e0
  clear hc1
  go_enter Try.func125, Try.ntmps125
  go_wp2
  go_loopw [3, 8] (fun g i wr => ∃ p : Int, g = .int .i64 p ∧ ((i = .int .i64 0 ∧ p = 0) ∨ (i = .int .i64 1 ∧ p = x) ∨ (i = .int .i64 2 ∧ p.natAbs = Int.gcd x y ∧ -9223372036854775807 ≤ p ∧ p ≤ 9223372036854775807)) ∧ ∃ n, wr = w.drewN n) (fun _ i _ => 2 - (intOf i).toNat)
  case atStart => exact ⟨0, rfl, .inl ⟨rfl, rfl⟩, 0, rfl⟩
  case round =>
    obtain ⟨p, rfl, hrel, q, rfl⟩ := hrel
    rcases hrel with ⟨rfl, rfl⟩ | ⟨rfl, rfl⟩ | ⟨rfl, hg, hp1, hp2⟩
    · go_wp2_with fail
      go_loopw [3, 5] (fun g y wr => ∃ (u v : Int), g = .int .i64 u ∧ y = .int .i64 v ∧ ((u = 0 ∧ v = x) ∨ (u = x ∧ v = 0)) ∧ ∃ n, wr = w.drewN n) (fun _ y _ => (intOf y).natAbs)
      case atStart => exact ⟨0, x, rfl, rfl, .inl ⟨rfl, rfl⟩, q, rfl⟩
      case round =>
        obtain ⟨u, v, rfl, rfl, huv, q', rfl⟩ := hrel
        by_cases hz : v = 0
        · have hu : u = x := by rcases huv with ⟨h1, h2⟩ | ⟨h1, h2⟩ <;> omega
          subst hz hu
          go_wp2_with fail
          go_round
          case rel => exact ⟨_, rfl, .inr (.inl ⟨by go_num, rfl⟩), q', rfl⟩
          case measure => simp [intOf]
        · obtain ⟨hu, hv⟩ : u = 0 ∧ v = x := by rcases huv with h | h <;> omega
          subst hu hv
          have hb : (v != 0) = true := by simpa using hz
          have hc : (v == 0) = false := by simpa using hz
          have h1 : (0 : Int).tmod v = 0 := Int.zero_tmod v
          have h2 : 0 < v.natAbs := by omega
          go_wp2_with fail
          refine Calmly.wp_region_mix 5 (.fl 0 <| .fl 1 <| .fl 2 <| .fl 3 <| .fl 4 <| .tail [5]) (by kernel_rfl) (by kernel_rfl) ?_
          go_wp2_with (first | ((with_reducible refine Calmly.is_fl ?_); refine Calmly.mix_fl rfl ?_ (fun _ _ => ?_); (first | exact .move _ | exact .load _ _ | exact .fieldAddr _ _ _ (by kernel_rfl) | exact .assign _ | exact .binOp _ _ _ _ _ rfl | exact .indexAddr _ _ _ | exact .len _ _ (by kernel_rfl) | exact .field _ _ _ | exact .extract _ _ | exact .pick _ _ _ | exact .build _ _ | exact .slice _ _ _ _ _ | exact .unOp _ _ _ rfl | exact .index _ _ _ | exact .max _ _ _ rfl rfl | exact .min _ _ _ rfl rfl)) | ((with_reducible refine Calmly.is_gl ?_); refine Calmly.mix_gl rfl rfl rfl ?_; first | ((first | with_reducible refine Calmly.gl_tt ?_ (fun _ _ => ?_) | with_reducible refine Calmly.gl_ff ?_ (fun _ _ => ?_)); (first | exact .move _ | exact .load _ _ | exact .fieldAddr _ _ _ (by kernel_rfl) | exact .assign _ | exact .binOp _ _ _ _ _ rfl | exact .indexAddr _ _ _ | exact .len _ _ (by kernel_rfl) | exact .field _ _ _ | exact .extract _ _ | exact .pick _ _ _ | exact .build _ _ | exact .slice _ _ _ _ _ | exact .unOp _ _ _ rfl | exact .index _ _ _ | exact .max _ _ _ rfl rfl | exact .min _ _ _ rfl rfl)) | with_reducible refine Calmly.gl_tf (fun _ _ => ?_) | with_reducible refine Calmly.gl_ft (fun _ _ => ?_)) | ((with_reducible refine Calmly.is_eff ?_); refine Calmly.mix_eff rfl (fun _ _ => ?_)) | ((with_reducible refine Calmly.is_gf ?_); refine Calmly.mix_gf rfl rfl rfl ?_; first | with_reducible refine Calmly.gf_tt (fun _ _ => ?_) | with_reducible refine Calmly.gf_ff (fun _ _ => ?_) | with_reducible refine Calmly.gf_tf (kept_of hk) (fun _ _ => ?_) | with_reducible refine Calmly.gf_ft (kept_of hk) (fun _ _ => ?_)) | ((with_reducible refine Calmly.is_tail ?_); first | refine Calmly.mix_tail_nil ?_ | refine Calmly.mix_tail rfl (fun _ _ => ?_)) | ((with_reducible refine Calmly.is_kept ?_); refine ⟨kept_of hk, ?_⟩) | (with_reducible refine Calmly.mix_alt ?_ ?_))
          go_roundw
          case rel => exact ⟨v, 0, rfl, by first | rfl | rw [h1], .inr ⟨rfl, rfl⟩, q' + 1, rfl⟩
          case measure => simpa [intOf] using h2
    · go_wp2_with fail
      go_loopw [3, 5] (fun g z wr => ∃ (u v : Int), g = .int .i64 u ∧ z = .int .i64 v ∧ Int.gcd u v = Int.gcd p y ∧ (v = 0 → -9223372036854775807 ≤ u) ∧ -9223372036854775808 ≤ u ∧ u ≤ 9223372036854775807 ∧ -9223372036854775807 ≤ v ∧ v ≤ 9223372036854775807 ∧ ∃ n, wr = w.drewN n) (fun _ z _ => (intOf z).natAbs)
      case atStart => exact ⟨p, y, rfl, rfl, rfl, by omega, hx1, hx2, by omega, hy2, q, rfl⟩
      case round =>
        obtain ⟨u, v, rfl, rfl, hg, hu0, hu1, hu2, hv1, hv2, q', rfl⟩ := hrel
        have HG := Lib.hid hg
        clear hg
        by_cases hz : v = 0
        · have hu1' := hu0 hz
          subst hz
          clear hu0
          go_wp2_with fail
          go_round
          case rel =>
            refine ⟨_, rfl, .inr (.inr ⟨by go_num, ?_, hu1', hu2⟩), q', rfl⟩
            have := HG.out
            simpa [Int.gcd] using this
          case measure => simp [intOf]
        · have hb : (v != 0) = true := by simpa using hz
          have h1 := tmod_bd (a := u) hz hv1 hv2
          have h2 := tmod_lt (a := u) hz
          have hc : (v == 0) = false := by simpa using hz
          clear hu0
          go_wp2_with fail
          refine Calmly.wp_region_mix 5 (.fl 0 <| .fl 1 <| .fl 2 <| .fl 3 <| .fl 4 <| .tail [5]) (by kernel_rfl) (by kernel_rfl) ?_
          go_wp2_with (first | ((with_reducible refine Calmly.is_fl ?_); refine Calmly.mix_fl rfl ?_ (fun _ _ => ?_); (first | exact .move _ | exact .load _ _ | exact .fieldAddr _ _ _ (by kernel_rfl) | exact .assign _ | exact .binOp _ _ _ _ _ rfl | exact .indexAddr _ _ _ | exact .len _ _ (by kernel_rfl) | exact .field _ _ _ | exact .extract _ _ | exact .pick _ _ _ | exact .build _ _ | exact .slice _ _ _ _ _ | exact .unOp _ _ _ rfl | exact .index _ _ _ | exact .max _ _ _ rfl rfl | exact .min _ _ _ rfl rfl)) | ((with_reducible refine Calmly.is_gl ?_); refine Calmly.mix_gl rfl rfl rfl ?_; first | ((first | with_reducible refine Calmly.gl_tt ?_ (fun _ _ => ?_) | with_reducible refine Calmly.gl_ff ?_ (fun _ _ => ?_)); (first | exact .move _ | exact .load _ _ | exact .fieldAddr _ _ _ (by kernel_rfl) | exact .assign _ | exact .binOp _ _ _ _ _ rfl | exact .indexAddr _ _ _ | exact .len _ _ (by kernel_rfl) | exact .field _ _ _ | exact .extract _ _ | exact .pick _ _ _ | exact .build _ _ | exact .slice _ _ _ _ _ | exact .unOp _ _ _ rfl | exact .index _ _ _ | exact .max _ _ _ rfl rfl | exact .min _ _ _ rfl rfl)) | with_reducible refine Calmly.gl_tf (fun _ _ => ?_) | with_reducible refine Calmly.gl_ft (fun _ _ => ?_)) | ((with_reducible refine Calmly.is_eff ?_); refine Calmly.mix_eff rfl (fun _ _ => ?_)) | ((with_reducible refine Calmly.is_gf ?_); refine Calmly.mix_gf rfl rfl rfl ?_; first | with_reducible refine Calmly.gf_tt (fun _ _ => ?_) | with_reducible refine Calmly.gf_ff (fun _ _ => ?_) | with_reducible refine Calmly.gf_tf (kept_of hk) (fun _ _ => ?_) | with_reducible refine Calmly.gf_ft (kept_of hk) (fun _ _ => ?_)) | ((with_reducible refine Calmly.is_tail ?_); first | refine Calmly.mix_tail_nil ?_ | refine Calmly.mix_tail rfl (fun _ _ => ?_)) | ((with_reducible refine Calmly.is_kept ?_); refine ⟨kept_of hk, ?_⟩) | (with_reducible refine Calmly.mix_alt ?_ ?_))
          go_roundw
          case rel => exact ⟨v, u.tmod v, rfl, rfl, by rw [gcd_step]; exact HG.out, by omega, by omega, hv2, h1.1, h1.2, q' + 1, rfl⟩
          case measure => simpa [intOf] using h2
    · go_wp2_with fail
      refine (nSize_any p _ hp1 hp2).mono ?_
      rintro e w1 ⟨rfl, rfl⟩
      go_wp2_with fail
      go_ret
      exact ⟨ret_int (by first | rfl | rw [hg]), q, rfl⟩

set_option maxRecDepth 100000 in
set_option maxHeartbeats 1000000 in
theorem nLowest_min (x y : Int) (w : World) (hx1 : -9223372036854775808 ≤ x) (hx2 : x ≤ 9223372036854775807) (hy2 : y ≤ 9223372036854775807) :
    Calls Try.prog 152 #[.agg #[.int .i64 x, .int .i64 y]] w fun e w' => e = .returned (.bool (isLow x y)) ∧ Below w.heap.size w w' := by
  have hb : ∀ o, Below w.heap.size w (w.alloc o) := fun o => (Below.refl _ _).alloc (Nat.le_refl _) _
  by_cases h : 0 < y
  · go_enter Try.func152, Try.ntmps152
    go_wp2_with fail
    refine (nDivisor_two _ 2 x y _ (SI.two _ _ _ _ (by simp)) hx1 hx2 h hy2).mono ?_
    rintro e w1 ⟨rfl, k, rfl⟩
    go_wp2_with fail
    go_ret
    refine ⟨ret_bool ?_, below_drewN ((hb _).alloc (by simp) _) k⟩
    unfold isLow
    rw [decide_eq_true h]
    rfl
  · have h' : y ≤ 0 := by omega
    go_enter Try.func152, Try.ntmps152
    go_wp2_with fail
    go_ret
    refine ⟨ret_bool ?_, hb _⟩
    unfold isLow
    rw [decide_eq_false (by omega)]
    rfl

set_option maxRecDepth 100000 in
set_option maxHeartbeats 1000000 in
theorem nShareErr_any (p q : Int) (w : World) (hp1 : -9223372036854775808 ≤ p) (hp2 : p ≤ 9223372036854775807) (hq2 : q ≤ 9223372036854775807) (E : Int) (hE : shrE p q = E) :
    Calls Try.prog 110 #[.agg #[.int .i64 p, .int .i64 q]] w fun e w' => e = .returned (.int .i64 E) ∧ Below w.heap.size w w' := by
  have x1 := alloc_new w (.cells #[.int .i64 p, .int .i64 q] 86)
  have BW : Below w.heap.size w (w.alloc (.cells #[.int .i64 p, .int .i64 q] 86)) := (Below.refl _ _).alloc (Nat.le_refl _) _
  obtain ⟨lo, hlo⟩ : ∃ x, isLow p q = x := ⟨_, rfl⟩
  obtain ⟨b, hb⟩ : ∃ x, wIn p 0 q = x := ⟨_, rfl⟩
  unfold shrE at hE
  rw [hlo, hb] at hE
  have HLO := Lib.hid hlo
  have HB := Lib.hid hb
  have HE := Lib.hid hE
  clear hlo hb hE
  go_enter Try.func110, Try.ntmps110
  go_wp2_with fail
  refine Calmly.wp_region_mix 16 (.fl 0 <| .fl 3 <| .fl 4 <| .fl 5 <| .fl 6 <| .eff 1 <| .eff 2 <| .eff 7 <| .fl 8 <| .gl 9 <| .gl 10 <| .gl 11 <| .fl 12 <| .eff 13 <| .eff 14 <| .eff 15 <| .tail [16]) (by kernel_rfl) (by kernel_rfl) ?_
  replace BW := BW.drew
  replace x1 := blk_keep x1 (Below.refl _ _).drew
  generalize World.drew _ = V at x1 BW ⊢
  have f0 := cell_block x1 0
  have f1 := cell_block x1 1
  have hk := Below.refl V.heap.size V
  cases b
  · go_wp2_with (first | ((with_reducible refine Calmly.is_fl ?_); refine Calmly.mix_fl rfl ?_ (fun _ _ => ?_); (first | exact .move _ | exact .load _ _ | exact .fieldAddr _ _ _ (by kernel_rfl) | exact .assign _ | exact .binOp _ _ _ _ _ rfl | exact .indexAddr _ _ _ | exact .len _ _ (by kernel_rfl) | exact .field _ _ _ | exact .extract _ _ | exact .pick _ _ _ | exact .build _ _ | exact .slice _ _ _ _ _ | exact .unOp _ _ _ rfl | exact .index _ _ _ | exact .max _ _ _ rfl rfl | exact .min _ _ _ rfl rfl)) | ((with_reducible refine Calmly.is_gl ?_); refine Calmly.mix_gl rfl rfl rfl ?_; first | ((first | with_reducible refine Calmly.gl_tt ?_ (fun _ _ => ?_) | with_reducible refine Calmly.gl_ff ?_ (fun _ _ => ?_)); (first | exact .move _ | exact .load _ _ | exact .fieldAddr _ _ _ (by kernel_rfl) | exact .assign _ | exact .binOp _ _ _ _ _ rfl | exact .indexAddr _ _ _ | exact .len _ _ (by kernel_rfl) | exact .field _ _ _ | exact .extract _ _ | exact .pick _ _ _ | exact .build _ _ | exact .slice _ _ _ _ _ | exact .unOp _ _ _ rfl | exact .index _ _ _ | exact .max _ _ _ rfl rfl | exact .min _ _ _ rfl rfl)) | with_reducible refine Calmly.gl_tf (fun _ _ => ?_) | with_reducible refine Calmly.gl_ft (fun _ _ => ?_)) | ((with_reducible refine Calmly.is_eff ?_); refine Calmly.mix_eff rfl (fun _ _ => ?_)) | ((with_reducible refine Calmly.is_gf ?_); refine Calmly.mix_gf rfl rfl rfl ?_; first | with_reducible refine Calmly.gf_tt (fun _ _ => ?_) | with_reducible refine Calmly.gf_ff (fun _ _ => ?_) | with_reducible refine Calmly.gf_tf (kept_of hk) (fun _ _ => ?_) | with_reducible refine Calmly.gf_ft (kept_of hk) (fun _ _ => ?_)) | ((with_reducible refine Calmly.is_kept ?_); refine ⟨kept_of hk, ?_⟩) | (with_reducible refine Calmly.mix_alt ?_ ?_) | (refine kept_alloc hk (fun hk' hblk hge => ?_); replace hk := hk'; clear hk') | (go_at_call 152; refine (nLowest_min p q _ hp1 hp2 hq2).mono ?_; rintro e w1 ⟨rfl, hs⟩; rw [HLO.out]; replace hk := step_of hk hs; clear hs) | (go_at_call 90; refine (nUnless_any _ _ _).mono ?_; rintro e w1 ⟨rfl, rfl⟩) | (go_at_call 94; refine (nWithin_any _ _ _ _).mono ?_; rintro e w1 ⟨rfl, rfl⟩; rw [HB.out]))
    refine (nFirst_any _ 2 2 _ _ (SI.two _ _ _ _ (by simp))).mono ?_
    rintro e w2 ⟨rfl, rfl⟩
    go_wp2_with (first | ((with_reducible refine Calmly.is_fl ?_); refine Calmly.mix_fl rfl ?_ (fun _ _ => ?_); (first | exact .move _ | exact .load _ _ | exact .fieldAddr _ _ _ (by kernel_rfl) | exact .assign _ | exact .binOp _ _ _ _ _ rfl | exact .indexAddr _ _ _ | exact .len _ _ (by kernel_rfl) | exact .field _ _ _ | exact .extract _ _ | exact .pick _ _ _ | exact .build _ _ | exact .slice _ _ _ _ _ | exact .unOp _ _ _ rfl | exact .index _ _ _ | exact .max _ _ _ rfl rfl | exact .min _ _ _ rfl rfl)) | ((with_reducible refine Calmly.is_gl ?_); refine Calmly.mix_gl rfl rfl rfl ?_; first | ((first | with_reducible refine Calmly.gl_tt ?_ (fun _ _ => ?_) | with_reducible refine Calmly.gl_ff ?_ (fun _ _ => ?_)); (first | exact .move _ | exact .load _ _ | exact .fieldAddr _ _ _ (by kernel_rfl) | exact .assign _ | exact .binOp _ _ _ _ _ rfl | exact .indexAddr _ _ _ | exact .len _ _ (by kernel_rfl) | exact .field _ _ _ | exact .extract _ _ | exact .pick _ _ _ | exact .build _ _ | exact .slice _ _ _ _ _ | exact .unOp _ _ _ rfl | exact .index _ _ _ | exact .max _ _ _ rfl rfl | exact .min _ _ _ rfl rfl)) | with_reducible refine Calmly.gl_tf (fun _ _ => ?_) | with_reducible refine Calmly.gl_ft (fun _ _ => ?_)) | ((with_reducible refine Calmly.is_eff ?_); refine Calmly.mix_eff rfl (fun _ _ => ?_)) | ((with_reducible refine Calmly.is_gf ?_); refine Calmly.mix_gf rfl rfl rfl ?_; first | with_reducible refine Calmly.gf_tt (fun _ _ => ?_) | with_reducible refine Calmly.gf_ff (fun _ _ => ?_) | with_reducible refine Calmly.gf_tf (kept_of hk) (fun _ _ => ?_) | with_reducible refine Calmly.gf_ft (kept_of hk) (fun _ _ => ?_)) | ((with_reducible refine Calmly.is_tail ?_); first | refine Calmly.mix_tail_nil ?_ | refine Calmly.mix_tail rfl (fun _ _ => ?_)) | ((with_reducible refine Calmly.is_kept ?_); refine ⟨kept_of hk, ?_⟩) | (with_reducible refine Calmly.mix_alt ?_ ?_))
    go_ret
    exact ⟨ret_int HE.out, BW.trans (hk.mono BW.size)⟩
  · go_wp2_with (first | ((with_reducible refine Calmly.is_fl ?_); refine Calmly.mix_fl rfl ?_ (fun _ _ => ?_); (first | exact .move _ | exact .load _ _ | exact .fieldAddr _ _ _ (by kernel_rfl) | exact .assign _ | exact .binOp _ _ _ _ _ rfl | exact .indexAddr _ _ _ | exact .len _ _ (by kernel_rfl) | exact .field _ _ _ | exact .extract _ _ | exact .pick _ _ _ | exact .build _ _ | exact .slice _ _ _ _ _ | exact .unOp _ _ _ rfl | exact .index _ _ _ | exact .max _ _ _ rfl rfl | exact .min _ _ _ rfl rfl)) | ((with_reducible refine Calmly.is_gl ?_); refine Calmly.mix_gl rfl rfl rfl ?_; first | ((first | with_reducible refine Calmly.gl_tt ?_ (fun _ _ => ?_) | with_reducible refine Calmly.gl_ff ?_ (fun _ _ => ?_)); (first | exact .move _ | exact .load _ _ | exact .fieldAddr _ _ _ (by kernel_rfl) | exact .assign _ | exact .binOp _ _ _ _ _ rfl | exact .indexAddr _ _ _ | exact .len _ _ (by kernel_rfl) | exact .field _ _ _ | exact .extract _ _ | exact .pick _ _ _ | exact .build _ _ | exact .slice _ _ _ _ _ | exact .unOp _ _ _ rfl | exact .index _ _ _ | exact .max _ _ _ rfl rfl | exact .min _ _ _ rfl rfl)) | with_reducible refine Calmly.gl_tf (fun _ _ => ?_) | with_reducible refine Calmly.gl_ft (fun _ _ => ?_)) | ((with_reducible refine Calmly.is_eff ?_); refine Calmly.mix_eff rfl (fun _ _ => ?_)) | ((with_reducible refine Calmly.is_gf ?_); refine Calmly.mix_gf rfl rfl rfl ?_; first | with_reducible refine Calmly.gf_tt (fun _ _ => ?_) | with_reducible refine Calmly.gf_ff (fun _ _ => ?_) | with_reducible refine Calmly.gf_tf (kept_of hk) (fun _ _ => ?_) | with_reducible refine Calmly.gf_ft (kept_of hk) (fun _ _ => ?_)) | ((with_reducible refine Calmly.is_kept ?_); refine ⟨kept_of hk, ?_⟩) | (with_reducible refine Calmly.mix_alt ?_ ?_) | (refine kept_alloc hk (fun hk' hblk hge => ?_); replace hk := hk'; clear hk') | (go_at_call 152; refine (nLowest_min p q _ hp1 hp2 hq2).mono ?_; rintro e w1 ⟨rfl, hs⟩; rw [HLO.out]; replace hk := step_of hk hs; clear hs) | (go_at_call 90; refine (nUnless_any _ _ _).mono ?_; rintro e w1 ⟨rfl, rfl⟩) | (go_at_call 94; refine (nWithin_any _ _ _ _).mono ?_; rintro e w1 ⟨rfl, rfl⟩; rw [HB.out]))
    refine (nFirst_any _ 2 2 _ _ (SI.two _ _ _ _ (by simp))).mono ?_
    rintro e w2 ⟨rfl, rfl⟩
    go_wp2_with (first | ((with_reducible refine Calmly.is_fl ?_); refine Calmly.mix_fl rfl ?_ (fun _ _ => ?_); (first | exact .move _ | exact .load _ _ | exact .fieldAddr _ _ _ (by kernel_rfl) | exact .assign _ | exact .binOp _ _ _ _ _ rfl | exact .indexAddr _ _ _ | exact .len _ _ (by kernel_rfl) | exact .field _ _ _ | exact .extract _ _ | exact .pick _ _ _ | exact .build _ _ | exact .slice _ _ _ _ _ | exact .unOp _ _ _ rfl | exact .index _ _ _ | exact .max _ _ _ rfl rfl | exact .min _ _ _ rfl rfl)) | ((with_reducible refine Calmly.is_gl ?_); refine Calmly.mix_gl rfl rfl rfl ?_; first | ((first | with_reducible refine Calmly.gl_tt ?_ (fun _ _ => ?_) | with_reducible refine Calmly.gl_ff ?_ (fun _ _ => ?_)); (first | exact .move _ | exact .load _ _ | exact .fieldAddr _ _ _ (by kernel_rfl) | exact .assign _ | exact .binOp _ _ _ _ _ rfl | exact .indexAddr _ _ _ | exact .len _ _ (by kernel_rfl) | exact .field _ _ _ | exact .extract _ _ | exact .pick _ _ _ | exact .build _ _ | exact .slice _ _ _ _ _ | exact .unOp _ _ _ rfl | exact .index _ _ _ | exact .max _ _ _ rfl rfl | exact .min _ _ _ rfl rfl)) | with_reducible refine Calmly.gl_tf (fun _ _ => ?_) | with_reducible refine Calmly.gl_ft (fun _ _ => ?_)) | ((with_reducible refine Calmly.is_eff ?_); refine Calmly.mix_eff rfl (fun _ _ => ?_)) | ((with_reducible refine Calmly.is_gf ?_); refine Calmly.mix_gf rfl rfl rfl ?_; first | with_reducible refine Calmly.gf_tt (fun _ _ => ?_) | with_reducible refine Calmly.gf_ff (fun _ _ => ?_) | with_reducible refine Calmly.gf_tf (kept_of hk) (fun _ _ => ?_) | with_reducible refine Calmly.gf_ft (kept_of hk) (fun _ _ => ?_)) | ((with_reducible refine Calmly.is_tail ?_); first | refine Calmly.mix_tail_nil ?_ | refine Calmly.mix_tail rfl (fun _ _ => ?_)) | ((with_reducible refine Calmly.is_kept ?_); refine ⟨kept_of hk, ?_⟩) | (with_reducible refine Calmly.mix_alt ?_ ?_))
    go_ret
    exact ⟨ret_int (by simpa using HE.out), BW.trans (hk.mono BW.size)⟩

set_option maxRecDepth 100000 in
set_option maxHeartbeats 1000000 in
theorem rShareErr_any (p q : Int) (w : World) (hp1 : -9223372036854775808 ≤ p) (hp2 : p ≤ 9223372036854775807) (hq2 : q ≤ 9223372036854775807) (E : Int) (hE : shrE p q = E) :
    Calls Try.prog 114 #[.agg #[.int .i64 p, .int .i64 q]] w fun e w' => e = .returned (.int .i64 E) ∧ Below w.heap.size w w' := by
  have BW : Below w.heap.size w (w.alloc (.cells #[.int .i64 p, .int .i64 q] 86)) := (Below.refl _ _).alloc (Nat.le_refl _) _
  have x1 := alloc_new w (.cells #[.int .i64 p, .int .i64 q] 86)
  obtain ⟨lo, hlo⟩ : ∃ x, isLow p q = x := ⟨_, rfl⟩
  obtain ⟨b, hb⟩ : ∃ x, wIn p 0 q = x := ⟨_, rfl⟩
  unfold shrE at hE
  rw [hlo, hb] at hE
  have HLO := Lib.hid hlo
  have HB := Lib.hid hb
  have HE := Lib.hid hE
  clear hlo hb hE
  go_enter Try.func114, Try.ntmps114
  go_wp2_with fail
  refine (isLowest_min p q _ hp1 hp2 hq2).mono ?_
  rintro e w1 ⟨rfl, hs⟩
  rw [HLO.out]
  replace x1 := blk_keep x1 hs
  replace BW := BW.trans (hs.mono BW.size)
  clear hs
  have f0 := cell_block x1 0
  have f1 := cell_block x1 1
  cases lo
  · go_wp2_with fail
    go_ret
    exact ⟨ret_int (by rw [← HE.out]; rfl), BW⟩
  · go_wp2_with fail
    refine (within_any _ _ _ _).mono ?_
    rintro e w2 ⟨rfl, rfl⟩
    rw [HB.out]
    cases b
    · go_wp2_with fail
      go_ret
      exact ⟨ret_int (by rw [← HE.out]; rfl), BW⟩
    · by_cases h : q ≤ 1000
      · go_wp2_with fail
        go_ret
        exact ⟨ret_int (by rw [← HE.out, decide_eq_true h]; rfl), BW⟩
      · have h' : 1000 < q := by omega
        go_wp2_with fail
        go_ret
        exact ⟨ret_int (by rw [← HE.out, decide_eq_false (by omega)]; rfl), BW⟩

/-- The error of two shares. -/
def shsE (p q p' q' : Int) : Int := if shrE p q = 0 then (if shrE p' q' = 0 then (if p' * q < p * q' then 9 else 0) else shrE p' q') else shrE p q
set_option maxRecDepth 100000 in
set_option maxHeartbeats 1000000 in
theorem rSharesErr_any (p q p' q' : Int) (w : World) (hp1 : -9223372036854775808 ≤ p) (hp2 : p ≤ 9223372036854775807) (hq2 : q ≤ 9223372036854775807) (hp1' : -9223372036854775808 ≤ p') (hp2' : p' ≤ 9223372036854775807) (hq2' : q' ≤ 9223372036854775807) (E : Int) (hE : shsE p q p' q' = E) :
    Calls Try.prog 53 #[.agg #[.int .i64 p, .int .i64 q, .int .i64 p', .int .i64 q']] w fun e w' => e = .returned (.int .i64 E) ∧ Below w.heap.size w w' := by
  have BW : Below w.heap.size w (w.alloc (.cells #[.int .i64 p, .int .i64 q, .int .i64 p', .int .i64 q'] 88)) := (Below.refl _ _).alloc (Nat.le_refl _) _
  have x1 := alloc_new w (.cells #[.int .i64 p, .int .i64 q, .int .i64 p', .int .i64 q'] 88)
  obtain ⟨E1, hE1⟩ : ∃ x, shrE p q = x := ⟨_, rfl⟩
  obtain ⟨E2, hE2⟩ : ∃ x, shrE p' q' = x := ⟨_, rfl⟩
  unfold shsE at hE
  rw [hE1, hE2] at hE
  have HE := Lib.hid hE
  have HE1 := Lib.hid hE1
  have HE2 := Lib.hid hE2
  clear hE hE1 hE2
  go_enter Try.func53, Try.ntmps53
  go_wp2_with fail
  refine (rShareErr_any p q _ hp1 hp2 hq2 E1 HE1.out).mono ?_
  rintro e w1 ⟨rfl, hs⟩
  replace x1 := blk_keep x1 hs
  replace BW := BW.trans (hs.mono BW.size)
  clear hs
  have f0 := cell_block x1 0
  have f1 := cell_block x1 1
  have f2 := cell_block x1 2
  have f3 := cell_block x1 3
  by_cases hz : E1 = 0
  case neg =>
    have b1 : (E1 != 0) = true := by simpa using hz
    have hEE : E = E1 := by rw [← HE.out, if_neg hz]
    clear hz
    go_wp2_with fail
    go_ret
    exact ⟨ret_int hEE.symm, BW⟩
  subst hz
  go_wp2_with fail
  refine (rShareErr_any p' q' _ hp1' hp2' hq2' E2 HE2.out).mono ?_
  rintro e w2 ⟨rfl, hs⟩
  replace x1 := blk_keep x1 hs
  replace BW := BW.trans (hs.mono BW.size)
  clear hs f0 f1 f2 f3
  have f0 := cell_block x1 0
  have f1 := cell_block x1 1
  have f2 := cell_block x1 2
  have f3 := cell_block x1 3
  by_cases hz : E2 = 0
  case neg =>
    have b1 : (E2 != 0) = true := by simpa using hz
    have hEE : E = E2 := by simpa [hz] using HE.out.symm
    clear hz
    go_wp2_with fail
    go_ret
    exact ⟨ret_int hEE.symm, BW⟩
  subst hz
  obtain ⟨k1, k2, k3, k4⟩ := shrE_ok HE1.out
  obtain ⟨j1, j2, j3, j4⟩ := shrE_ok HE2.out
  go_wp2_with fail
  refine (Cmp_fr p q p' q' _ (by omega) (by omega) (by omega) (by omega) (by omega) (by omega) (by omega) (by omega)).mono ?_
  rintro e w3 ⟨rfl, hs⟩
  replace BW := BW.trans (hs.mono BW.size)
  by_cases hc : p' * q < p * q'
  · have hcc : cmpQ (p * q') (p' * q) = 1 := by unfold cmpQ; rw [if_neg (by omega), if_pos hc]
    rw [hcc]
    have hEE : E = 9 := by simpa [hc] using HE.out.symm
    clear hc hcc
    go_wp2_with fail
    go_ret
    exact ⟨ret_int hEE.symm, BW⟩
  · obtain ⟨cc, hcc⟩ : ∃ cc, cmpQ (p * q') (p' * q) = cc := ⟨_, rfl⟩
    have hc0 : cc ≤ 0 := by rw [← hcc]; unfold cmpQ; split <;> (try split) <;> omega
    rw [hcc]
    have hEE : E = 0 := by simpa [hc] using HE.out.symm
    clear hc hcc
    go_wp2_with fail
    go_ret
    exact ⟨ret_int hEE.symm, BW⟩
end Go.Proofs.Ytiibdndchkbefaa

namespace Go.Proofs.Ytiibdndchkbefaa
open Go.RowKit
open Calmly (Kept)

/-- The first index at which a share is reached. -/
def FirstAt (xs : List Int) (n : Nat) (p q : Int) (t : Nat) : Prop := t < n ∧ rchP xs n p q t = true ∧ ∀ j, j < t → rchP xs n p q j = false
theorem en_bd {xs : List Int} (hb : ∀ j : Nat, -1000 ≤ xs[j]?.getD 0 ∧ xs[j]?.getD 0 ≤ 1000) {k : Nat} (hk : k ≤ 26) : 0 ≤ eT xs k ∧ eT xs k ≤ 26000000 := by
  have := eT_bd hb k
  omega
theorem sh_mul {e q : Int} (h1 : 0 ≤ e) (h2 : e ≤ 26000000) (h3 : 0 ≤ q) (h4 : q ≤ 1000) : 0 ≤ e * q ∧ e * q ≤ 26000000000 := by
  refine ⟨Int.mul_nonneg h1 h3, ?_⟩
  have := pr_bd (c := e) (a := q) (C := 26000000) (A := 1000) (by omega) h2 (by omega) h4
  omega
/-- The energies of a record, one after the other. -/
def enL (xs : List Int) (n : Nat) : List Int := sumsF (sqL xs n)
theorem enL_len (xs : List Int) (n : Nat) : (enL xs n).length = n := by unfold enL; rw [sumsF_len, sqL_len]
theorem enL_get (xs : List Int) (n k : Nat) (h : k < n) : (enL xs n)[k]?.getD 0 = eT xs (k + 1) := by
  unfold enL
  rw [sumsF_get _ _ (by rw [sqL_len]; exact h), sumT_sqL _ _ _ (by omega)]

set_option maxRecDepth 100000 in
set_option maxHeartbeats 400000 in
theorem atLeast_any (e p q W : Int) (b3 b2 : Nat) (w : World) (h3 : w.heap[b3]? = some (.cells #[.int .i64 p, .int .i64 q] 86)) (h2 : w.heap[b2]? = some (.cells #[.int .i64 W] 3)) (he1 : 0 ≤ e * q) (he2 : e * q ≤ 26000000000) (hw1 : 0 ≤ p * W) (hw2 : p * W ≤ 26000000000) :
    Calls Try.prog 113 #[.int .i64 e, .pointer (some ⟨b3, 0, none⟩), .pointer (some ⟨b2, 0, none⟩)] w fun r w' => r = .returned (.bool (decide (p * W ≤ e * q))) ∧ w = w' := by
  have f0 := cell_block h3 0
  have f1 := cell_block h3 1
  have f2 := cell_block h2 0
  go_enter Try.func113, Try.ntmps113
  go_wp2_with fail
  go_ret
  exact ⟨rfl, rfl⟩

set_option maxRecDepth 100000 in
set_option maxHeartbeats 1000000 in
theorem indexAt_any (xs : List Int) (n : Nat) (a : Option Addr) (c : Nat) (p q : Int) (t b3 b2 : Nat) (w : World) (h1 : SI w a n c (enL xs n)) (h3 : w.heap[b3]? = some (.cells #[.int .i64 p, .int .i64 q] 86)) (h2 : w.heap[b2]? = some (.cells #[.int .i64 (eT xs n)] 3)) (hn : n ≤ 26) (hb : ∀ j : Nat, -1000 ≤ xs[j]?.getD 0 ∧ xs[j]?.getD 0 ≤ 1000)
    (hp0 : 0 ≤ p) (hpq : p ≤ q) (hq : q ≤ 1000) (ht : FirstAt xs n p q t) :
    Calls Try.prog 95 #[.slice a n c, .func (.func 113) #[] #[.pointer (some ⟨b3, 0, none⟩), .pointer (some ⟨b2, 0, none⟩)]] w fun e w' => e = .returned (.int .i64 (t : Int)) ∧ w = w' := by
  have m1 := h1.max
  have c1 := h1.cap
  obtain ⟨ht1, ht2, ht3⟩ := ht
  have HT3 := Lib.hid ht3
  have HB := Lib.hid hb
  obtain ⟨w1, w2⟩ := en_bd hb hn
  have hpw := sh_mul w1 w2 hp0 (by omega : p ≤ 1000)
  rw [Int.mul_comm] at hpw
  obtain ⟨pw1, pw2⟩ := hpw
  unfold rchP at ht2
  obtain ⟨W, hW⟩ : ∃ x, eT xs n = x := ⟨_, rfl⟩
  rw [hW] at h2 ht2 w1 w2 pw1 pw2
  have HT2 := Lib.hid ht2
  have HW := Lib.hid hW
  clear ht2 ht3 hb hW
  go_enter Try.func95, Try.ntmps95
  go_wp2_with fail
  go_loop [8] (fun i => ∃ k : Nat, k ≤ t ∧ i = .int .i64 k) (fun i => n - (intOf i).toNat)
  case atStart => exact ⟨0, by omega, rfl⟩
  case round =>
    obtain ⟨k, hk, rfl⟩ := hrel
    obtain ⟨b1, o1, rfl, hc1⟩ := h1.at_ (by omega)
    have e1 := hc1 k (by omega)
    rw [enL_get _ _ _ (by omega)] at e1
    clear hc1
    have hi : (k : Int) < (n : Int) := by omega
    have hi0 : (0 : Int) ≤ (k : Int) := by omega
    obtain ⟨v1, v2⟩ := en_bd HB.out (k := k + 1) (by omega)
    obtain ⟨x, hx⟩ : ∃ x, eT xs (k + 1) = x := ⟨_, rfl⟩
    rw [hx] at e1 v1 v2
    obtain ⟨xq1, xq2⟩ := sh_mul v1 v2 (by omega : 0 ≤ q) hq
    have HX := Lib.hid hx
    clear hx
    by_cases hlt : k < t
    · have hd : decide (p * W ≤ x * q) = false := by
        have := HT3.out k hlt
        unfold rchP at this
        rw [HW.out, HX.out] at this
        exact this
      have HD := Lib.hid hd
      clear hd
      go_wp2_with fail
      refine (atLeast_any x p q W b3 b2 _ h3 h2 xq1 xq2 pw1 pw2).mono ?_
      rintro e w1 ⟨rfl, rfl⟩
      rw [HD.out]
      go_wp2_with fail
      go_round
      case rel => exact ⟨k + 1, by omega, by go_num⟩
      case measure => simp [intOf]; omega
    · obtain rfl : t = k := by omega
      have hd : decide (p * W ≤ x * q) = true := by
        have := HT2.out
        rw [HX.out] at this
        exact this
      have HD := Lib.hid hd
      clear hd
      go_wp2_with fail
      refine (atLeast_any x p q W b3 b2 _ h3 h2 xq1 xq2 pw1 pw2).mono ?_
      rintro e w1 ⟨rfl, rfl⟩
      rw [HD.out]
      go_wp2_with fail
      go_ret
      exact ⟨rfl, rfl⟩

set_option maxRecDepth 100000 in
set_option maxHeartbeats 1000000 in
theorem reach_any (xs : List Int) (n : Nat) (a : Option Addr) (c : Nat) (p q : Int) (t b10 b11 : Nat) (w : World) (h1 : SI w a n c (enL xs n)) (h3 : w.heap[b10]? = some (.cells #[.slice a n c] 22)) (h2 : w.heap[b11]? = some (.cells #[.int .i64 (eT xs n)] 3)) (hn : n ≤ 26) (hb : ∀ j : Nat, -1000 ≤ xs[j]?.getD 0 ∧ xs[j]?.getD 0 ≤ 1000)
    (hp0 : 0 ≤ p) (hpq : p ≤ q) (hq : q ≤ 1000) (ht : FirstAt xs n p q t) :
    Calls Try.prog 112 #[.agg #[.int .i64 p, .int .i64 q], .pointer (some ⟨b10, 0, none⟩), .pointer (some ⟨b11, 0, none⟩)] w fun e w' => e = .returned (.int .i64 (t : Int)) ∧ Below w.heap.size w w' := by
  have hs : Below w.heap.size w (w.alloc (.cells #[.int .i64 p, .int .i64 q] 86)) := (Below.refl _ _).alloc (Nat.le_refl _) _
  have x3 := alloc_new w (.cells #[.int .i64 p, .int .i64 q] 86)
  have y1 := blk_keep h3 hs
  have y2 := blk_keep h2 hs
  have f0 := cell_block y1 0
  have HT := Lib.hid ht
  have HB := Lib.hid hb
  clear ht hb
  go_enter Try.func112, Try.ntmps112
  go_wp2_with fail
  refine (indexAt_any xs n a c p q t _ b11 _ (h1.keep hs) x3 y2 hn HB.out hp0 hpq hq HT.out).mono ?_
  rintro e w1 ⟨rfl, rfl⟩
  go_wp2_with fail
  go_ret
  exact ⟨rfl, hs⟩

set_option maxRecDepth 100000 in
set_option maxHeartbeats 1000000 in
theorem rEnergy_any (a : Option Addr) (n c : Nat) (xs : List Int) (k : Nat) (K : Int) (w : World) (h1 : SI w a n c xs) (hn : n ≤ 26) (hb : ∀ j : Nat, -1000 ≤ xs[j]?.getD 0 ∧ xs[j]?.getD 0 ≤ 1000) (hk : k ≤ n) (hK : K = (k : Int)) :
    Calls Try.prog 154 #[.slice a n c, .int .i64 K] w fun e w' => e = .returned (.int .i64 (eT xs k)) ∧ Below w.heap.size w w' := by
  have m1 := h1.max
  have c1 := h1.cap
  have HB := Lib.hid hb
  obtain ⟨R, hR⟩ : ∃ x, eT xs k = x := ⟨_, rfl⟩
  rw [hR]
  have HR := Lib.hid hR
  clear hb hR
  subst hK
  go_enter Try.func154, Try.ntmps154
  go_wp2_with fail
  go_loopw [6, 5] (fun i s wr => ∃ j : Nat, j ≤ k ∧ i = .int .i64 j ∧ s = .int .i64 (eT xs j) ∧ ∃ q, wr = w.drewN q) (fun i _ _ => k - (intOf i).toNat)
  case atStart => exact ⟨0, by omega, rfl, rfl, 0, rfl⟩
  case round =>
    obtain ⟨j, hj, rfl, rfl, q, rfl⟩ := hrel
    obtain ⟨v1, v2⟩ := en_bd HB.out (k := j) (by omega)
    have hx := HB.out j
    have hs := sq_bd hx.1 hx.2
    have he : eT xs (j + 1) = eT xs j + xs[j]?.getD 0 * xs[j]?.getD 0 := rfl
    obtain ⟨s, hss⟩ : ∃ x, eT xs j = x := ⟨_, rfl⟩
    obtain ⟨x, hxx⟩ : ∃ x, xs[j]?.getD 0 = x := ⟨_, rfl⟩
    rw [hss] at v1 v2 he ⊢
    rw [hxx] at hx hs he
    obtain ⟨hx1, hx2⟩ := hx
    obtain ⟨hs1, hs2⟩ := hs
    have HE := Lib.hid he
    have HXX := Lib.hid hxx
    have HSS := Lib.hid hss
    clear he hxx hss
    by_cases hlt : j < k
    · obtain ⟨b1, o1, rfl, hc1⟩ := (h1.keep (below_drewN (Below.refl _ _) q)).at_ (by omega)
      have e1 := hc1 j (by omega)
      rw [HXX.out] at e1
      clear hc1
      have hi : (j : Int) < (k : Int) := by omega
      have hi2 : (j : Int) < (n : Int) := by omega
      have hi0 : (0 : Int) ≤ (j : Int) := by omega
      go_wp2_with fail
      refine Calmly.wp_region_mix 10 (.fl 0 <| .fl 1 <| .fl 2 <| .fl 3 <| .fl 4 <| .fl 5 <| .fl 6 <| .fl 7 <| .fl 8 <| .fl 9 <| .tail [10, 11]) (by kernel_rfl) (by kernel_rfl) ?_
      have e1' : (w.drewN q).drew.cell? ⟨b1, o1 + j, none⟩ = some (.int .i64 x) := e1
      have e1'' : (w.drewN (q + 1)).cell? ⟨b1, o1 + j, none⟩ = some (.int .i64 x) := e1
      have hk := Below.refl (w.drewN q).drew.heap.size (w.drewN q).drew
      go_wp2_with (first | ((with_reducible refine Calmly.is_fl ?_); refine Calmly.mix_fl rfl ?_ (fun _ _ => ?_); (first | exact .move _ | exact .load _ _ | exact .fieldAddr _ _ _ (by kernel_rfl) | exact .assign _ | exact .binOp _ _ _ _ _ rfl | exact .indexAddr _ _ _ | exact .len _ _ (by kernel_rfl) | exact .field _ _ _ | exact .extract _ _ | exact .pick _ _ _ | exact .build _ _ | exact .slice _ _ _ _ _ | exact .unOp _ _ _ rfl | exact .index _ _ _ | exact .max _ _ _ rfl rfl | exact .min _ _ _ rfl rfl)) | ((with_reducible refine Calmly.is_gl ?_); refine Calmly.mix_gl rfl rfl rfl ?_; first | ((first | with_reducible refine Calmly.gl_tt ?_ (fun _ _ => ?_) | with_reducible refine Calmly.gl_ff ?_ (fun _ _ => ?_)); (first | exact .move _ | exact .load _ _ | exact .fieldAddr _ _ _ (by kernel_rfl) | exact .assign _ | exact .binOp _ _ _ _ _ rfl | exact .indexAddr _ _ _ | exact .len _ _ (by kernel_rfl) | exact .field _ _ _ | exact .extract _ _ | exact .pick _ _ _ | exact .build _ _ | exact .slice _ _ _ _ _ | exact .unOp _ _ _ rfl | exact .index _ _ _ | exact .max _ _ _ rfl rfl | exact .min _ _ _ rfl rfl)) | with_reducible refine Calmly.gl_tf (fun _ _ => ?_) | with_reducible refine Calmly.gl_ft (fun _ _ => ?_)) | ((with_reducible refine Calmly.is_eff ?_); refine Calmly.mix_eff rfl (fun _ _ => ?_)) | ((with_reducible refine Calmly.is_gf ?_); refine Calmly.mix_gf rfl rfl rfl ?_; first | with_reducible refine Calmly.gf_tt (fun _ _ => ?_) | with_reducible refine Calmly.gf_ff (fun _ _ => ?_) | with_reducible refine Calmly.gf_tf (kept_of hk) (fun _ _ => ?_) | with_reducible refine Calmly.gf_ft (kept_of hk) (fun _ _ => ?_)) | ((with_reducible refine Calmly.is_tail ?_); first | refine Calmly.mix_tail_nil ?_ | refine Calmly.mix_tail rfl (fun _ _ => ?_)) | ((with_reducible refine Calmly.is_kept ?_); refine ⟨kept_of hk, ?_⟩) | (with_reducible refine Calmly.mix_alt ?_ ?_))
      go_roundw
      case rel => exact ⟨j + 1, by omega, by go_num, by rw [HE.out], q + 1, rfl⟩
      case measure => simp [intOf]; omega
    · obtain rfl : j = k := by omega
      have hle : (j : Int) ≤ (j : Int) := by omega
      go_wp2_with fail
      go_ret
      exact ⟨ret_int (by rw [← HR.out, HSS.out]), below_drewN (Below.refl _ _) q⟩

set_option maxRecDepth 100000 in
set_option maxHeartbeats 2000000 in
theorem rReached_any (a : Option Addr) (n c : Nat) (xs : List Int) (p q : Int) (t : Nat) (w : World) (h1 : SI w a n c xs) (hn : n ≤ 26) (hb : ∀ j : Nat, -1000 ≤ xs[j]?.getD 0 ∧ xs[j]?.getD 0 ≤ 1000)
    (hp0 : 0 ≤ p) (hpq : p ≤ q) (hq : q ≤ 1000) (ht : FirstAt xs n p q t) :
    Calls Try.prog 115 #[.slice a n c, .agg #[.int .i64 p, .int .i64 q]] w fun e w' => e = .returned (.int .i64 (t : Int)) ∧ Below w.heap.size w w' := by
  have hA : ∀ (A : World) (o : Obj), Below A.heap.size A (A.alloc o) := fun A o => (Below.refl _ _).alloc (Nat.le_refl _) _
  have m1 := h1.max
  have c1 := h1.cap
  obtain ⟨ht1, ht2, ht3⟩ := ht
  have HT3 := Lib.hid ht3
  have HB := Lib.hid hb
  obtain ⟨w1, w2⟩ := en_bd hb hn
  have hpw := sh_mul w1 w2 hp0 (by omega : p ≤ 1000)
  obtain ⟨pw1, pw2⟩ := hpw
  unfold rchP at ht2
  obtain ⟨W, hW⟩ : ∃ x, eT xs n = x := ⟨_, rfl⟩
  rw [hW] at ht2 w1 w2 pw1 pw2
  have HT2 := Lib.hid ht2
  have HW := Lib.hid hW
  have x3 := alloc_new w (.cells #[.int .i64 p, .int .i64 q] 86)
  have BW := hA w (.cells #[.int .i64 p, .int .i64 q] 86)
  clear ht2 ht3 hb hW
  go_enter Try.func115, Try.ntmps115
  go_wp2_with fail
  go_loopw [5] (fun i wr => ∃ k : Nat, k ≤ t ∧ i = .int .i64 k ∧ wr.heap[w.heap.size]? = some (.cells #[.int .i64 p, .int .i64 q] 86) ∧ Below w.heap.size w wr) (fun i _ => n - (intOf i).toNat)
  case atStart => exact ⟨0, by omega, rfl, x3, BW⟩
  case round =>
    obtain ⟨k, hk, rfl, x3', hbr⟩ := hrel
    clear x3 BW
    have hi : (k : Int) < (n : Int) := by omega
    have hi0 : (0 : Int) ≤ (k : Int) := by omega
    have hi1 : (k : Int) + 1 ≤ 9223372036854775807 := by omega
    obtain ⟨v1, v2⟩ := en_bd HB.out (k := k + 1) (by omega)
    obtain ⟨x, hx⟩ : ∃ x, eT xs (k + 1) = x := ⟨_, rfl⟩
    rw [hx] at v1 v2
    obtain ⟨xq1, xq2⟩ := sh_mul v1 v2 (by omega : 0 ≤ q) hq
    have HX := Lib.hid hx
    clear hx
    have hrs := hbr.size
    by_cases hlt : k < t
    case' pos =>
      have hd : decide (W * p ≤ x * q) = false := by
        have := HT3.out k hlt
        unfold rchP at this
        rw [HW.out, HX.out, Int.mul_comm] at this
        exact this
    case' neg =>
      obtain rfl : k = t := by omega
      have hd' : W * p ≤ x * q := by
        have := of_decide_eq_true HT2.out
        rw [HX.out, Int.mul_comm] at this
        exact this
    case pos =>
      go_wp2_with fail
      refine Calmly.wp_region_mix 14 (.fl 0 <| .fl 1 <| .fl 2 <| .fl 4 <| .fl 5 <| .fl 7 <| .fl 8 <| .fl 9 <| .fl 11 <| .fl 12 <| .eff 3 <| .fl 6 <| .eff 10 <| .fl 13 <| .tail [14]) (by kernel_rfl) (by kernel_rfl) ?_
      have hs := (Below.refl wr.heap.size wr).drew
      replace x3' := blk_keep x3' hs
      replace hbr := hbr.trans (hs.mono hrs)
      clear hs
      generalize wr.drew = V at x3' hbr ⊢
      have f0 := cell_block x3' 0
      have f1 := cell_block x3' 1
      have hk := Below.refl V.heap.size V
      have M0 := Lib.hid True.intro
      go_wp2_with (first | ((with_reducible refine Calmly.is_fl ?_); refine Calmly.mix_fl rfl ?_ (fun _ _ => ?_); (first | exact .move _ | exact .load _ _ | exact .fieldAddr _ _ _ (by kernel_rfl) | exact .assign _ | exact .binOp _ _ _ _ _ rfl | exact .indexAddr _ _ _ | exact .len _ _ (by kernel_rfl) | exact .field _ _ _ | exact .extract _ _ | exact .pick _ _ _ | exact .build _ _ | exact .slice _ _ _ _ _ | exact .unOp _ _ _ rfl | exact .index _ _ _ | exact .max _ _ _ rfl rfl | exact .min _ _ _ rfl rfl)) | ((with_reducible refine Calmly.is_gl ?_); refine Calmly.mix_gl rfl rfl rfl ?_; first | ((first | with_reducible refine Calmly.gl_tt ?_ (fun _ _ => ?_) | with_reducible refine Calmly.gl_ff ?_ (fun _ _ => ?_)); (first | exact .move _ | exact .load _ _ | exact .fieldAddr _ _ _ (by kernel_rfl) | exact .assign _ | exact .binOp _ _ _ _ _ rfl | exact .indexAddr _ _ _ | exact .len _ _ (by kernel_rfl) | exact .field _ _ _ | exact .extract _ _ | exact .pick _ _ _ | exact .build _ _ | exact .slice _ _ _ _ _ | exact .unOp _ _ _ rfl | exact .index _ _ _ | exact .max _ _ _ rfl rfl | exact .min _ _ _ rfl rfl)) | with_reducible refine Calmly.gl_tf (fun _ _ => ?_) | with_reducible refine Calmly.gl_ft (fun _ _ => ?_)) | ((with_reducible refine Calmly.is_eff ?_); refine Calmly.mix_eff rfl (fun _ _ => ?_)) | ((with_reducible refine Calmly.is_gf ?_); refine Calmly.mix_gf rfl rfl rfl ?_; first | with_reducible refine Calmly.gf_tt (fun _ _ => ?_) | with_reducible refine Calmly.gf_ff (fun _ _ => ?_) | with_reducible refine Calmly.gf_tf (kept_of hk) (fun _ _ => ?_) | with_reducible refine Calmly.gf_ft (kept_of hk) (fun _ _ => ?_)) | ((with_reducible refine Calmly.is_tail ?_); first | refine Calmly.mix_tail_nil ?_ | refine Calmly.mix_tail rfl (fun _ _ => ?_)) | ((with_reducible refine Calmly.is_kept ?_); refine ⟨kept_of hk, ?_⟩) | (with_reducible refine Calmly.mix_alt ?_ ?_) | (have _ := M0.out; clear M0; go_at_call 154; refine (rEnergy_any a n c xs (k + 1) _ _ ((h1.keep hbr).keep hk) hn HB.out (by omega) (by go_num)).mono ?_; rintro e w5 ⟨rfl, hs⟩; rw [HX.out]; replace hk := step_of hk hs; clear hs) | (go_at_call 154; refine (rEnergy_any a n c xs n _ _ ((h1.keep hbr).keep hk) hn HB.out (Nat.le_refl _) rfl).mono ?_; rintro e w6 ⟨rfl, hs⟩; rw [HW.out]; replace hk := step_of hk hs; clear hs))
      exact ⟨⟨k + 1, by omega, by go_num, blk_keep x3' hk, hbr.trans (hk.mono hbr.size)⟩, by simp [intOf]; omega⟩
    case neg =>
      go_wp2_with fail
      refine Calmly.wp_region_mix 14 (.fl 0 <| .fl 1 <| .fl 2 <| .fl 4 <| .fl 5 <| .fl 7 <| .fl 8 <| .fl 9 <| .fl 11 <| .fl 12 <| .eff 3 <| .fl 6 <| .eff 10 <| .fl 13 <| .tail [14]) (by kernel_rfl) (by kernel_rfl) ?_
      have hs := (Below.refl wr.heap.size wr).drew
      replace x3' := blk_keep x3' hs
      replace hbr := hbr.trans (hs.mono hrs)
      clear hs
      generalize wr.drew = V at x3' hbr ⊢
      have f0 := cell_block x3' 0
      have f1 := cell_block x3' 1
      have hk := Below.refl V.heap.size V
      have M0 := Lib.hid True.intro
      go_wp2_with (first | ((with_reducible refine Calmly.is_fl ?_); refine Calmly.mix_fl rfl ?_ (fun _ _ => ?_); (first | exact .move _ | exact .load _ _ | exact .fieldAddr _ _ _ (by kernel_rfl) | exact .assign _ | exact .binOp _ _ _ _ _ rfl | exact .indexAddr _ _ _ | exact .len _ _ (by kernel_rfl) | exact .field _ _ _ | exact .extract _ _ | exact .pick _ _ _ | exact .build _ _ | exact .slice _ _ _ _ _ | exact .unOp _ _ _ rfl | exact .index _ _ _ | exact .max _ _ _ rfl rfl | exact .min _ _ _ rfl rfl)) | ((with_reducible refine Calmly.is_gl ?_); refine Calmly.mix_gl rfl rfl rfl ?_; first | ((first | with_reducible refine Calmly.gl_tt ?_ (fun _ _ => ?_) | with_reducible refine Calmly.gl_ff ?_ (fun _ _ => ?_)); (first | exact .move _ | exact .load _ _ | exact .fieldAddr _ _ _ (by kernel_rfl) | exact .assign _ | exact .binOp _ _ _ _ _ rfl | exact .indexAddr _ _ _ | exact .len _ _ (by kernel_rfl) | exact .field _ _ _ | exact .extract _ _ | exact .pick _ _ _ | exact .build _ _ | exact .slice _ _ _ _ _ | exact .unOp _ _ _ rfl | exact .index _ _ _ | exact .max _ _ _ rfl rfl | exact .min _ _ _ rfl rfl)) | with_reducible refine Calmly.gl_tf (fun _ _ => ?_) | with_reducible refine Calmly.gl_ft (fun _ _ => ?_)) | ((with_reducible refine Calmly.is_eff ?_); refine Calmly.mix_eff rfl (fun _ _ => ?_)) | ((with_reducible refine Calmly.is_gf ?_); refine Calmly.mix_gf rfl rfl rfl ?_; first | with_reducible refine Calmly.gf_tt (fun _ _ => ?_) | with_reducible refine Calmly.gf_ff (fun _ _ => ?_) | with_reducible refine Calmly.gf_tf (kept_of hk) (fun _ _ => ?_) | with_reducible refine Calmly.gf_ft (kept_of hk) (fun _ _ => ?_)) | ((with_reducible refine Calmly.is_tail ?_); first | refine Calmly.mix_tail_nil ?_ | refine Calmly.mix_tail rfl (fun _ _ => ?_)) | ((with_reducible refine Calmly.is_kept ?_); refine ⟨kept_of hk, ?_⟩) | (with_reducible refine Calmly.mix_alt ?_ ?_) | (have _ := M0.out; clear M0; go_at_call 154; refine (rEnergy_any a n c xs (k + 1) _ _ ((h1.keep hbr).keep hk) hn HB.out (by omega) (by go_num)).mono ?_; rintro e w5 ⟨rfl, hs⟩; rw [HX.out]; replace hk := step_of hk hs; clear hs) | (go_at_call 154; refine (rEnergy_any a n c xs n _ _ ((h1.keep hbr).keep hk) hn HB.out (Nat.le_refl _) rfl).mono ?_; rintro e w6 ⟨rfl, hs⟩; rw [HW.out]; replace hk := step_of hk hs; clear hs))
      go_ret
      exact ⟨rfl, hbr.trans (hk.mono hbr.size)⟩

set_option maxRecDepth 100000 in
set_option maxHeartbeats 2000000 in
theorem rDuration_any (a : Option Addr) (n c : Nat) (xs : List Int) (p q p' q' : Int) (t t' : Nat) (w : World) (h1 : SI w a n c xs) (hn : n ≤ 26) (hb : ∀ j : Nat, -1000 ≤ xs[j]?.getD 0 ∧ xs[j]?.getD 0 ≤ 1000)
    (hp0 : 0 ≤ p) (hpq : p ≤ q) (hq : q ≤ 1000) (ht : FirstAt xs n p q t) (hp0' : 0 ≤ p') (hpq' : p' ≤ q') (hq' : q' ≤ 1000) (ht' : FirstAt xs n p' q' t') :
    Calls Try.prog 54 #[.slice a n c, .agg #[.int .i64 p, .int .i64 q, .int .i64 p', .int .i64 q']] w fun e w' => e = .returned (.agg #[.int .i64 (t : Int), .int .i64 (t' : Int)]) ∧ Below w.heap.size w w' := by
  have hA : ∀ (A : World) (o : Obj), Below A.heap.size A (A.alloc o) := fun A o => (Below.refl _ _).alloc (Nat.le_refl _) _
  have x3 := box1 (w := w) (o := .cells #[.int .i64 p, .int .i64 q, .int .i64 p', .int .i64 q'] 88) (hA (w.alloc (.cells #[.int .i64 p, .int .i64 q, .int .i64 p', .int .i64 q'] 88)) (.cells #[.int .i64 0, .int .i64 0] 47))
  have x4 := alloc_new (w.alloc (.cells #[.int .i64 p, .int .i64 q, .int .i64 p', .int .i64 q'] 88)) (.cells #[.int .i64 0, .int .i64 0] 47)
  have BW := (hA w (.cells #[.int .i64 p, .int .i64 q, .int .i64 p', .int .i64 q'] 88)).alloc (by simp) (.cells #[.int .i64 0, .int .i64 0] 47)
  simp only [World.size_alloc] at x4
  have HT := Lib.hid ht
  have HT' := Lib.hid ht'
  have HB := Lib.hid hb
  clear ht ht' hb
  go_enter Try.func54, Try.ntmps54
  go_wp2_with fail
  refine Calmly.wp_region_mix 8 (.fl 0 <| .fl 1 <| .fl 2 <| .fl 4 <| .fl 5 <| .fl 6 <| .eff 3 <| .eff 7 <| .tail [8, 9]) (by kernel_rfl) (by kernel_rfl) ?_
  replace x3 := blk_keep x3 (Below.refl _ _).drew
  replace x4 := blk_keep x4 (Below.refl _ _).drew
  replace BW := BW.drew
  generalize World.drew _ = V at x3 x4 BW ⊢
  have f0 := cell_block x3 0
  have f1 := cell_block x3 1
  have f2 := cell_block x3 2
  have f3 := cell_block x3 3
  have hk := Below.refl V.heap.size V
  have M0 := Lib.hid True.intro
  go_wp2_with (first | ((with_reducible refine Calmly.is_fl ?_); refine Calmly.mix_fl rfl ?_ (fun _ _ => ?_); (first | exact .move _ | exact .load _ _ | exact .fieldAddr _ _ _ (by kernel_rfl) | exact .assign _ | exact .binOp _ _ _ _ _ rfl | exact .indexAddr _ _ _ | exact .len _ _ (by kernel_rfl) | exact .field _ _ _ | exact .extract _ _ | exact .pick _ _ _ | exact .build _ _ | exact .slice _ _ _ _ _ | exact .unOp _ _ _ rfl | exact .index _ _ _ | exact .max _ _ _ rfl rfl | exact .min _ _ _ rfl rfl)) | ((with_reducible refine Calmly.is_gl ?_); refine Calmly.mix_gl rfl rfl rfl ?_; first | ((first | with_reducible refine Calmly.gl_tt ?_ (fun _ _ => ?_) | with_reducible refine Calmly.gl_ff ?_ (fun _ _ => ?_)); (first | exact .move _ | exact .load _ _ | exact .fieldAddr _ _ _ (by kernel_rfl) | exact .assign _ | exact .binOp _ _ _ _ _ rfl | exact .indexAddr _ _ _ | exact .len _ _ (by kernel_rfl) | exact .field _ _ _ | exact .extract _ _ | exact .pick _ _ _ | exact .build _ _ | exact .slice _ _ _ _ _ | exact .unOp _ _ _ rfl | exact .index _ _ _ | exact .max _ _ _ rfl rfl | exact .min _ _ _ rfl rfl)) | with_reducible refine Calmly.gl_tf (fun _ _ => ?_) | with_reducible refine Calmly.gl_ft (fun _ _ => ?_)) | ((with_reducible refine Calmly.is_eff ?_); refine Calmly.mix_eff rfl (fun _ _ => ?_)) | ((with_reducible refine Calmly.is_gf ?_); refine Calmly.mix_gf rfl rfl rfl ?_; first | with_reducible refine Calmly.gf_tt (fun _ _ => ?_) | with_reducible refine Calmly.gf_ff (fun _ _ => ?_) | with_reducible refine Calmly.gf_tf (kept_of hk) (fun _ _ => ?_) | with_reducible refine Calmly.gf_ft (kept_of hk) (fun _ _ => ?_)) | ((with_reducible refine Calmly.is_tail ?_); first | refine Calmly.mix_tail_nil ?_ | refine Calmly.mix_tail rfl (fun _ _ => ?_)) | ((with_reducible refine Calmly.is_kept ?_); refine ⟨kept_of hk, ?_⟩) | (with_reducible refine Calmly.mix_alt ?_ ?_) | (have _ := M0.out; clear M0; go_at_call 115; refine (rReached_any a n c xs p q t _ ((h1.keep BW).keep hk) hn HB.out hp0 hpq hq HT.out).mono ?_; rintro e w5 ⟨rfl, hs⟩; replace hk := step_of hk hs; clear hs) | (go_at_call 115; refine (rReached_any a n c xs p' q' t' _ ((h1.keep BW).keep hk) hn HB.out hp0' hpq' hq' HT'.out).mono ?_; rintro e w6 ⟨rfl, hs⟩; replace hk := step_of hk hs; clear hs; replace x4 := blk_keep x4 hk; have r0 := cell_block x4 0; have r1 := cell_block x4 1; have r2 := frozen_block x4 0; have r3 := frozen_block x4 1))
  obtain ⟨s1, s2, _, _⟩ := set2 (x := .int .i64 (t : Int)) (y := .int .i64 (t' : Int)) r0 r1
  refine bodyPost_ret (v := .agg #[.int .i64 (t : Int), .int .i64 (t' : Int)]) (by simp [results, Try.results54, go_sem, s1, s2]) rfl ⟨rfl, ?_⟩
  exact ((BW.trans (hk.mono BW.size)).setCell (by simp) _).setCell (by simp) _
end Go.Proofs.Ytiibdndchkbefaa
