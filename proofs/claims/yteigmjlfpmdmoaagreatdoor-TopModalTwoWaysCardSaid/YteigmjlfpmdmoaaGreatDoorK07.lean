/- Contracts of chapter 6: two lists of numbers in a text. Words that the packages share: errors in their order, the greatest common divisor of a list, short lists as a call lays them. Contracts of the small functions of chapter 6's package. Contracts of chapter 6's package: frames. Contracts of chapter 6: a frame checked by the program. Words that the packages share: rows of the call's own under stores below them, what a call laid before it called another one, cells that are stored into. Contracts of chapter 6: a frame opened, copied, and its limits. -/
import Derived.Test.YteigmjlfpmdmoaaGreatDoorK06
namespace Go.Proofs.YteigmjlfpmdmoaaGreatDoor
open Go.RowKit
open Calmly (Kept)

theorem both_cut (d : Nat) (bl : Bool) (s : List UInt8) : ∃ x y b, Lib.cut s [59] = (x, y, b) ∧ x.length ≤ s.length ∧ y.length ≤ s.length ∧ (b = true → bothF d bl s = (numsF d false (cutB 32 x)).bind fun m => (numsF d bl (cutB 32 y)).map fun k => (m, k)) ∧ (b = false → bothF d bl s = none) := by
  rcases idx_cases 59 s with ⟨_, h⟩ | ⟨x, y, rfl, h, _⟩
  · exact ⟨s, [], false, cut_miss h, Nat.le_refl _, Nat.zero_le _, (fun e => absurd e (by decide)), fun _ => bothF_miss h⟩
  · exact ⟨x, y, true, cut_hit h, by simp, by simp; omega, fun _ => bothF_hit x y h, (fun e => absurd e (by decide))⟩

set_option maxRecDepth 100000 in
set_option maxHeartbeats 4000000 in
theorem both_any (s : List UInt8) (d : Nat) (bl : Bool) (w : World) (hv : Vars w) (hs : s.length ≤ 1000000) (hd : d ≤ 17) :
    Calls Tryz.prog 56 #[.string (bs s), .int .i64 (d : Int), .bool bl] w fun e w' => ∃ a n c b m k, e = .returned (.tuple #[.agg #[.slice a n c, .slice b m k], .bool (bothF d bl s).isSome]) ∧ (∀ x y, bothF d bl s = some (x, y) → SI w' a n c x ∧ In w' 3 a ∧ SI w' b m k y ∧ In w' 3 b) ∧ Below w.heap.size w w' := by
  obtain ⟨x, y, b, hcut, lx, ly, hb1, hb2⟩ := both_cut d bl s
  have HB1 := Lib.hid hb1
  have HB2 := Lib.hid hb2
  clear hb1 hb2
  have BA : Below w.heap.size w (w.alloc (.cells #[.slice none 0 0, .slice none 0 0] 103)) := (Below.refl _ _).alloc (Nat.le_refl _) _
  have y0 := alloc_new w (.cells #[.slice none 0 0, .slice none 0 0] 103)
  go_enter Tryz.func56, Tryz.ntmps56
  go_wp2_with fail
  generalize w.alloc (.cells #[.slice none 0 0, .slice none 0 0] 103) = W at *
  refine (cut_any s 59 W (hv.keep BA) hs hcut).mono ?_
  rintro e w1 ⟨rfl, h1⟩
  dsimp only
  replace y0 := blk_keep y0 h1
  have B1 := BA.trans (h1.mono BA.size)
  clear h1 BA
  go_wp2_with fail
  refine (numbers_any x d false w1 (hv.keep B1) (by omega) hd).mono ?_
  rintro e w2 ⟨a, n, c, rfl, s2, i2, h2⟩
  dsimp only
  replace y0 := blk_keep y0 h2
  have B2 := B1.trans (h2.mono B1.size)
  clear h2 B1
  go_wp2_with fail
  refine (numbers_any y d bl w2 (hv.keep B2) (by omega) hd).mono ?_
  rintro e w3 ⟨a', n', c', rfl, s3, i3, h3⟩
  dsimp only
  replace y0 := blk_keep y0 h3
  replace s2 := s2.keep h3
  replace i2 := i2.keep h3
  have B3 := B2.trans (h3.mono B2.size)
  clear h3 B2
  have f0 := cell_block y0 0
  have f1 := cell_block y0 1
  have r0 := frozen_block y0 0
  have r1 := frozen_block y0 1
  have hT : BlkT w3 w.heap.size 103 := ⟨_, y0⟩
  obtain ⟨p, hp⟩ : ∃ p, numsF d false (cutB 32 x) = p := ⟨_, rfl⟩
  obtain ⟨q, hq⟩ : ∃ q, numsF d bl (cutB 32 y) = q := ⟨_, rfl⟩
  rw [hp] at s2 ⊢
  rw [hq] at s3 ⊢
  have HP := Lib.hid hp
  have HQ := Lib.hid hq
  clear hp hq
  have hbx : ∀ (u v : Value), Below w.heap.size w ((w3.setCell ⟨w.heap.size, 0, none⟩ u).setCell ⟨w.heap.size, 1, none⟩ v) := fun u v => (B3.setCell (p := ⟨w.heap.size, 0, none⟩) (Nat.le_refl _) u).setCell (p := ⟨w.heap.size, 1, none⟩) (Nat.le_refl _) v
  have hsi : ∀ (u v : Value) (a : Option Addr) (n c : Nat) (l : List Int), SI w3 a n c l → In w3 3 a → SI ((w3.setCell ⟨w.heap.size, 0, none⟩ u).setCell ⟨w.heap.size, 1, none⟩ v) a n c l ∧ In ((w3.setCell ⟨w.heap.size, 0, none⟩ u).setCell ⟨w.heap.size, 1, none⟩ v) 3 a := fun _ _ _ _ _ _ h i => ⟨Sl.set (Sl.set h i hT (by decide)) (i.set _ _) (hT.set _ _) (by decide), (i.set _ _).set _ _⟩
  have HBX := Lib.hid hbx
  have HSI := Lib.hid hsi
  clear hbx hsi
  obtain ⟨g0, g1, _, _⟩ := set2 (x := .slice a n c) (y := .slice a' n' c') (show _ = some (.slice none 0 0) from f0) (show _ = some (.slice none 0 0) from f1)
  have G0 := Lib.hid g0
  have G1 := Lib.hid g1
  clear g0 g1
  cases b
  · go_wp2_with fail
    have g0 := G0.out
    have g1 := G1.out
    refine bodyPost_ret (v := .tuple #[.agg #[.slice a n c, .slice a' n' c'], .bool false]) (by simp [results, Tryz.results56, go_sem, g0, g1]) rfl ⟨a, n, c, a', n', c', ?_, fun u v h => ?_, HBX.out _ _⟩
    · rw [HB2.out (by first | rfl | trivial)]; rfl
    · rw [HB2.out (by first | rfl | trivial)] at h; cases h
  · cases p with
    | none =>
      go_wp2_with fail
      have g0 := G0.out
      have g1 := G1.out
      refine bodyPost_ret (v := .tuple #[.agg #[.slice a n c, .slice a' n' c'], .bool false]) (by simp [results, Tryz.results56, go_sem, g0, g1]) rfl ⟨a, n, c, a', n', c', ?_, fun u v h => ?_, HBX.out _ _⟩
      · rw [HB1.out (by first | rfl | trivial), HP.out]; rfl
      · rw [HB1.out (by first | rfl | trivial), HP.out] at h; cases h
    | some m =>
      go_wp2_with fail
      have g0 := G0.out
      have g1 := G1.out
      refine bodyPost_ret (v := .tuple #[.agg #[.slice a n c, .slice a' n' c'], .bool q.isSome]) (by simp [results, Tryz.results56, go_sem, g0, g1]) rfl ⟨a, n, c, a', n', c', ?_, fun u v h => ?_, HBX.out _ _⟩
      · rw [HB1.out (by first | rfl | trivial), HP.out, HQ.out]; cases q <;> rfl
      · rw [HB1.out (by first | rfl | trivial), HP.out, HQ.out] at h
        cases q with
        | none => cases h
        | some k =>
          obtain ⟨rfl, rfl⟩ : m = u ∧ k = v := by
            have : (m, k) = (u, v) := by injection h
            cases this
            exact ⟨rfl, rfl⟩
          have h1 := HSI.out (.slice a n c) (.slice a' n' c') _ _ _ _ s2 i2
          have h2 := HSI.out (.slice a n c) (.slice a' n' c') _ _ _ _ s3 i3
          exact ⟨h1.1, h1.2, h2.1, h2.2⟩
end Go.Proofs.YteigmjlfpmdmoaaGreatDoor

namespace Go.Proofs.YteigmjlfpmdmoaaGreatDoor
open Go.RowKit

/-- No error if something is so. -/
def unlessE (b : Bool) (x : Int) : Int := if b then 0 else x

/-- The first number of a list that is not 0. -/
def firstE : List Int → Int
  | [] => 0
  | x :: l => if x = 0 then firstE l else x
theorem firstE_drop (xs : List Int) (k : Nat) (h : k < xs.length) : firstE (xs.drop k) = if xs[k]?.getD 0 = 0 then firstE (xs.drop (k + 1)) else xs[k]?.getD 0 := by
  rw [List.drop_eq_getElem_cons h]
  simp [firstE, h]

/-- A list of two errors, as the call lays it. -/
theorem SI.two (w : World) (x y : Int) (e : TypeId) {r : Nat} (hr : r = w.heap.size) : SI (w.alloc (.cells #[.int .i64 x, .int .i64 y] e)) (some ⟨r, 0, none⟩) 2 2 [x, y] := by
  subst hr
  refine ⟨rfl, Nat.le_refl _, by unfold maxLen; omega, .inr ⟨_, 0, rfl, fun i hi => ?_⟩⟩
  rw [Nat.zero_add, cell_block (alloc_new _ _)]
  simp
theorem SI.three (w : World) (x y z : Int) (e : TypeId) {r : Nat} (hr : r = w.heap.size) : SI (w.alloc (.cells #[.int .i64 x, .int .i64 y, .int .i64 z] e)) (some ⟨r, 0, none⟩) 3 3 [x, y, z] := by
  subst hr
  refine ⟨rfl, Nat.le_refl _, by unfold maxLen; omega, .inr ⟨_, 0, rfl, fun i hi => ?_⟩⟩
  rw [Nat.zero_add, cell_block (alloc_new _ _)]
  simp
theorem SI.four (w : World) (x y z u : Int) (e : TypeId) {r : Nat} (hr : r = w.heap.size) : SI (w.alloc (.cells #[.int .i64 x, .int .i64 y, .int .i64 z, .int .i64 u] e)) (some ⟨r, 0, none⟩) 4 4 [x, y, z, u] := by
  subst hr
  refine ⟨rfl, Nat.le_refl _, by unfold maxLen; omega, .inr ⟨_, 0, rfl, fun i hi => ?_⟩⟩
  rw [Nat.zero_add, cell_block (alloc_new _ _)]
  simp

/-- The greatest common divisor of a list. -/
def gcds (l : List Int) : Nat := l.foldl (fun g x => Int.gcd g x) 0
theorem gcds_take (xs : List Int) (k : Nat) (h : k < xs.length) : gcds (xs.take (k + 1)) = Int.gcd (gcds (xs.take k)) (xs[k]?.getD 0) := by
  unfold gcds
  rw [List.take_succ_eq_append_getElem h, List.foldl_append, List.getElem?_eq_getElem h]
  rfl
end Go.Proofs.YteigmjlfpmdmoaaGreatDoor

namespace Go.Proofs.YteigmjlfpmdmoaaGreatDoor
open Go.RowKit
open Calmly (Kept)

set_option maxHeartbeats 400000 in
theorem mWithin_any (n lo hi : Int) (w : World) :
    Calls Tryz.prog 72 #[.int .i64 n, .int .i64 lo, .int .i64 hi] w fun e w' => e = .returned (.bool (wIn n lo hi)) ∧ w = w' := by
  go_enter Tryz.func72, Tryz.ntmps72
  go_wp2
  · go_ret
    refine ⟨ret_bool ?_, rfl⟩
    have h : lo ≤ n := by assumption
    simp [wIn, h]
  · go_ret
    refine ⟨ret_bool ?_, rfl⟩
    have : wIn n lo hi = false := wIn_false.2 (.inl (by assumption))
    rw [this]

theorem isSized_any (n m : Int) (w : World) (h1 : -9223372036854775807 ≤ m) (h2 : m ≤ 9223372036854775807) :
    Calls Tryz.prog 89 #[.int .i64 n, .int .i64 m] w fun e w' => e = .returned (.bool (wIn n (-m) m)) ∧ w = w' := by
  go_enter Tryz.func89, Tryz.ntmps89
  go_wp2_with fail
  refine (mWithin_any n (-m) m _).mono ?_
  rintro e w1 ⟨rfl, rfl⟩
  go_wp2_with fail
  go_ret
  exact ⟨rfl, rfl⟩

theorem isDen_any (n : Int) (w : World) :
    Calls Tryz.prog 73 #[.int .i64 n] w fun e w' => e = .returned (.bool (wIn n 1 50)) ∧ w = w' := by
  go_enter Tryz.func73, Tryz.ntmps73
  go_wp2_with fail
  refine (mWithin_any n 1 50 _).mono ?_
  rintro e w1 ⟨rfl, rfl⟩
  go_wp2_with fail
  go_ret
  exact ⟨rfl, rfl⟩

theorem unless_any (b : Bool) (x : Int) (w : World) :
    Calls Tryz.prog 61 #[.bool b, .int .i64 x] w fun e w' => e = .returned (.int .i64 (unlessE b x)) ∧ w = w' := by
  cases b
  · go_enter Tryz.func61, Tryz.ntmps61
    go_wp2
    go_ret
    exact ⟨rfl, rfl⟩
  · go_enter Tryz.func61, Tryz.ntmps61
    go_wp2
    go_ret
    exact ⟨rfl, rfl⟩

theorem sign_any (n : Int) (w : World) :
    Calls Tryz.prog 71 #[.int .i64 n] w fun e w' => e = .returned (.int .i64 n.sign) ∧ w = w' := by
  rcases Int.lt_trichotomy n 0 with h | h | h
  · have h2 : ¬ 0 < n := by omega
    go_enter Tryz.func71, Tryz.ntmps71
    go_wp2
    go_ret
    exact ⟨ret_int (Int.sign_eq_neg_one_of_neg h).symm, rfl⟩
  · subst h
    go_enter Tryz.func71, Tryz.ntmps71
    go_wp2
    go_ret
    exact ⟨rfl, rfl⟩
  · go_enter Tryz.func71, Tryz.ntmps71
    go_wp2
    go_ret
    exact ⟨ret_int (Int.sign_eq_one_of_pos h).symm, rfl⟩

set_option maxRecDepth 100000 in
set_option maxHeartbeats 400000 in
theorem first_any (a : Option Addr) (n c : Nat) (xs : List Int) (w : World) (h1 : SI w a n c xs) :
    Calls Tryz.prog 60 #[.slice a n c] w fun e w' => e = .returned (.int .i64 (firstE xs)) ∧ w = w' := by
  obtain ⟨l1, l2⟩ : n ≤ xs.length ∧ xs.length ≤ n := by have := h1.len; omega
  have m1 := h1.max
  have c1 := h1.cap
  go_enter Tryz.func60, Tryz.ntmps60
  go_wp2
  go_loop [7] (fun i => ∃ k : Nat, k ≤ n ∧ i = .int .i64 k ∧ firstE xs = firstE (xs.drop k)) (fun i => n - (intOf i).toNat)
  case atStart => exact ⟨0, by omega, rfl, rfl⟩
  case round =>
    obtain ⟨k, hk, rfl, ht⟩ := hrel
    have HT := Lib.hid ht
    clear ht
    by_cases hlt : k < n
    · obtain ⟨b1, o1, rfl, hc1⟩ := h1.at_ (by omega)
      have e1 := hc1 k hlt
      clear hc1
      have hd := firstE_drop xs k (by omega)
      have HD := Lib.hid hd
      clear hd
      have hi : (k : Int) < (n : Int) := by omega
      have hi0 : (0 : Int) ≤ (k : Int) := by omega
      go_wp2
      · have hne : (xs[k]?.getD 0 != 0) = true := by assumption
        go_ret
        refine ⟨ret_int ?_, rfl⟩
        rw [HT.out, HD.out, if_neg (by simpa using hne)]
      · have hne : (xs[k]?.getD 0 != 0) = false := by assumption
        go_round
        case rel => exact ⟨k + 1, by omega, by go_num, by rw [HT.out, HD.out, if_pos (by simpa using hne)]⟩
        case measure => simp [intOf]; omega
    · have hle : (n : Int) ≤ (k : Int) := by omega
      go_wp2
      go_ret
      refine ⟨ret_int ?_, rfl⟩
      rw [HT.out, List.drop_eq_nil_of_le (by omega)]
      rfl

set_option maxRecDepth 100000 in
set_option maxHeartbeats 1000000 in
theorem divisor_any (a : Option Addr) (n c : Nat) (xs : List Int) (w : World) (h1 : SI w a n c xs) (hb : ∀ x ∈ xs, -9223372036854775807 ≤ x ∧ x ≤ 9223372036854775807) :
    Calls Tryz.prog 92 #[.slice a n c] w fun e w' => e = .returned (.int .i64 (gcds xs)) ∧ ∃ n, w' = w.drewN n := by
  obtain ⟨l1, l2⟩ : n ≤ xs.length ∧ xs.length ≤ n := by have := h1.len; omega
  have m1 := h1.max
  have c1 := h1.cap
  have HB := Lib.hid hb
  clear hb
  go_enter Tryz.func92, Tryz.ntmps92
  go_wp2
  go_loopw [3, 8] (fun g i wr => ∃ (k : Nat) (p : Int), k ≤ n ∧ i = .int .i64 k ∧ g = .int .i64 p ∧ p.natAbs = gcds (xs.take k) ∧ -9223372036854775807 ≤ p ∧ p ≤ 9223372036854775807 ∧ ∃ n, wr = w.drewN n) (fun _ i _ => n - (intOf i).toNat)
  case atStart => exact ⟨0, 0, by omega, rfl, rfl, rfl, by omega, by omega, 0, rfl⟩
  case round =>
    obtain ⟨k, p, hk, rfl, rfl, hg, hp1, hp2, q, rfl⟩ := hrel
    have HG := Lib.hid hg
    clear hg
    by_cases hlt : k < n
    · obtain ⟨b1, o1, rfl, hc1⟩ := h1.at_ (by omega)
      have e1 := hc1 k hlt
      clear hc1
      have hd := gcds_take xs k (by omega)
      rw [← HG.out] at hd
      have HD := Lib.hid hd
      clear hd
      have hx : -9223372036854775807 ≤ xs[k]?.getD 0 ∧ xs[k]?.getD 0 ≤ 9223372036854775807 := by
        have : k < xs.length := by omega
        simp only [List.getElem?_eq_getElem this, Option.getD_some]
        exact HB.out _ (List.getElem_mem this)
      obtain ⟨hx1, hx2⟩ := hx
      generalize xs[k]?.getD 0 = x at *
      have hi : (k : Int) < (n : Int) := by omega
      have hi0 : (0 : Int) ≤ (k : Int) := by omega
      go_wp2_with fail
      go_loopw [3, 5] (fun g y wr => ∃ (u v : Int), g = .int .i64 u ∧ y = .int .i64 v ∧ Int.gcd u v = Int.gcd p x ∧ -9223372036854775807 ≤ u ∧ u ≤ 9223372036854775807 ∧ -9223372036854775807 ≤ v ∧ v ≤ 9223372036854775807 ∧ ∃ n, wr = w.drewN n) (fun _ y _ => (intOf y).natAbs)
      case atStart => exact ⟨p, x, rfl, rfl, rfl, hp1, hp2, hx1, hx2, q, rfl⟩
      case round =>
        obtain ⟨u, v, rfl, rfl, hg, hu1, hu2, hv1, hv2, q', rfl⟩ := hrel
        have HG2 := Lib.hid hg
        clear hg
        by_cases hz : v = 0
        · have hb : (v != 0) = false := by simp [hz]
          have Hz := Lib.hid hz
          clear hz
          go_wp2_with fail
          go_round
          case rel =>
            refine ⟨k + 1, u, by omega, by go_num, rfl, ?_, hu1, hu2, q', rfl⟩
            have := HG2.out
            rw [Hz.out] at this
            have h3 := HD.out
            rw [Int.gcd] at h3 this
            simp at h3 this
            rw [h3, this, Int.gcd]
          case measure => simp [intOf]; omega
        · have hb : (v != 0) = true := by simpa using hz
          have h1 := tmod_bd (a := u) hz hv1 hv2
          have h2 := tmod_lt (a := u) hz
          have hc : (v == 0) = false := by simpa using hz
          go_wp2_with fail
          refine Calmly.wp_region_mix 5 (.fl 0 <| .fl 1 <| .fl 2 <| .fl 3 <| .fl 4 <| .tail [5]) (by kernel_rfl) (by kernel_rfl) ?_
          go_wp2_with (first | ((with_reducible refine Calmly.is_fl ?_); refine Calmly.mix_fl rfl ?_ (fun _ _ => ?_); (first | exact .move _ | exact .load _ _ | exact .fieldAddr _ _ _ (by kernel_rfl) | exact .assign _ | exact .binOp _ _ _ _ _ rfl | exact .indexAddr _ _ _ | exact .len _ _ (by kernel_rfl) | exact .field _ _ _ | exact .extract _ _ | exact .pick _ _ _ | exact .build _ _ | exact .slice _ _ _ _ _ | exact .unOp _ _ _ rfl | exact .index _ _ _ | exact .max _ _ _ rfl rfl | exact .min _ _ _ rfl rfl | exact .nilCheck _ _ rfl)) | ((with_reducible refine Calmly.is_gl ?_); refine Calmly.mix_gl rfl rfl rfl ?_; first | ((first | with_reducible refine Calmly.gl_tt ?_ (fun _ _ => ?_) | with_reducible refine Calmly.gl_ff ?_ (fun _ _ => ?_)); (first | exact .move _ | exact .load _ _ | exact .fieldAddr _ _ _ (by kernel_rfl) | exact .assign _ | exact .binOp _ _ _ _ _ rfl | exact .indexAddr _ _ _ | exact .len _ _ (by kernel_rfl) | exact .field _ _ _ | exact .extract _ _ | exact .pick _ _ _ | exact .build _ _ | exact .slice _ _ _ _ _ | exact .unOp _ _ _ rfl | exact .index _ _ _ | exact .max _ _ _ rfl rfl | exact .min _ _ _ rfl rfl | exact .nilCheck _ _ rfl)) | with_reducible refine Calmly.gl_tf (fun _ _ => ?_) | with_reducible refine Calmly.gl_ft (fun _ _ => ?_)) | ((with_reducible refine Calmly.is_eff ?_); refine Calmly.mix_eff rfl (fun _ _ => ?_)) | ((with_reducible refine Calmly.is_gf ?_); refine Calmly.mix_gf rfl rfl rfl ?_; first | with_reducible refine Calmly.gf_tt (fun _ _ => ?_) | with_reducible refine Calmly.gf_ff (fun _ _ => ?_) | with_reducible refine Calmly.gf_tf (kept_of hk) (fun _ _ => ?_) | with_reducible refine Calmly.gf_ft (kept_of hk) (fun _ _ => ?_)) | ((with_reducible refine Calmly.is_tail ?_); first | refine Calmly.mix_tail_nil ?_ | refine Calmly.mix_tail rfl (fun _ _ => ?_)) | ((with_reducible refine Calmly.is_kept ?_); refine ⟨kept_of hk, ?_⟩) | (with_reducible refine Calmly.mix_alt ?_ ?_))
          go_roundw
          case rel => exact ⟨v, u.tmod v, rfl, rfl, by rw [gcd_step]; exact HG2.out, hv1, hv2, h1.1, h1.2, q' + 1, rfl⟩
          case measure => simpa [intOf] using h2
    · have hle : (n : Int) ≤ (k : Int) := by omega
      by_cases hlt2 : p < -p
      · go_wp2_with fail
        go_ret
        refine ⟨ret_int ?_, q, rfl⟩
        have := HG.out
        rw [List.take_of_length_le (by omega)] at this
        rw [← this]
        omega
      · go_wp2_with fail
        go_ret
        refine ⟨ret_int ?_, q, rfl⟩
        have := HG.out
        rw [List.take_of_length_le (by omega)] at this
        rw [← this]
        omega
end Go.Proofs.YteigmjlfpmdmoaaGreatDoor

namespace Go.Proofs.YteigmjlfpmdmoaaGreatDoor
open Go.RowKit
open Calmly (Kept)

set_option maxHeartbeats 1000000 in
theorem above_any (a b : Option Addr) (n c m d : Nat) (ks : List Int) (i : Int) (w : World) (h1 : SI w b m d ks) (hi : 0 ≤ i) (hi2 : i < 9223372036854775807) :
    Calls Tryz.prog 95 #[.agg #[.slice a n c, .slice b m d], .int .i64 i] w fun e w' => e = .returned (.int .i64 (ks[i.toNat + 1]?.getD 0)) ∧ Below w.heap.size w w' := by
  obtain ⟨l1, l2⟩ : m ≤ ks.length ∧ ks.length ≤ m := by have := h1.len; omega
  have m1 := h1.max
  have c1 := h1.cap
  have hb : ∀ o, Below w.heap.size w (w.alloc o) := fun o => (Below.refl _ _).alloc (Nat.le_refl _) _
  by_cases hlt : i + 1 < m
  · obtain ⟨b1, o1, rfl, hc1⟩ := h1.at_ (by omega)
    have e1 := hc1 (i.toNat + 1) (by omega)
    clear hc1
    have hlt' := cell_lt e1
    have hj : (i + 1).toNat = i.toNat + 1 := by omega
    go_enter Tryz.func95, Tryz.ntmps95
    go_wp2
    go_ret
    exact ⟨rfl, hb _⟩
  · have hge : (m : Int) ≤ i + 1 := by omega
    go_enter Tryz.func95, Tryz.ntmps95
    go_wp2
    go_ret
    refine ⟨ret_int ?_, hb _⟩
    rw [List.getElem?_eq_none (by omega)]
    rfl

theorem gcds_two (x y : Int) : gcds [x, y] = Int.gcd x y := by
  show Int.gcd ((Int.gcd 0 x : Nat) : Int) y = _
  simp [Int.gcd]

set_option maxRecDepth 100000 in
set_option maxHeartbeats 1000000 in
theorem fraction_any (x y : Int) (w : World) (hx1 : -9223372036854775807 ≤ x) (hx2 : x ≤ 9223372036854775807) (hy1 : 0 < y) (hy2 : y ≤ 9223372036854775807) :
    Calls Tryz.prog 62 #[.int .i64 x, .int .i64 y] w fun e w' => e = .returned (.agg #[.int .i64 (x.tdiv (Int.gcd x y)), .int .i64 (y.tdiv (Int.gcd x y))]) ∧ Below w.heap.size w w' := by
  go_enter Tryz.func62, Tryz.ntmps62
  go_wp2_with fail
  refine (divisor_any _ 2 2 [x, y] _ (SI.two _ x y _ (by simp)) (by simp; omega)).mono ?_
  rintro e w1 ⟨rfl, k, rfl⟩
  rw [gcds_two]
  have hg0 : (0 : Int) < Int.gcd x y := by have := Int.gcd_pos_of_ne_zero_right (a := x) (b := y) (by omega); omega
  have hg1 : (Int.gcd x y : Int) ≤ 9223372036854775807 := by have := Int.gcd_le_right x hy1; omega
  obtain ⟨g, hgg⟩ : ∃ g : Int, (Int.gcd x y : Int) = g := ⟨_, rfl⟩
  rw [hgg] at hg0 hg1 ⊢
  have HGG := Lib.hid hgg
  clear hgg
  have hg2 : (g == 0) = false := by simp; omega
  have b1 : -9223372036854775807 ≤ x.tdiv g ∧ x.tdiv g ≤ 9223372036854775807 := by
    have := Int.natAbs_tdiv_le_natAbs x g
    omega
  have b2 : -9223372036854775807 ≤ y.tdiv g ∧ y.tdiv g ≤ 9223372036854775807 := by
    have := Int.natAbs_tdiv_le_natAbs y g
    omega
  obtain ⟨b11, b12⟩ := b1
  obtain ⟨b21, b22⟩ := b2
  go_wp2_with fail
  refine Calmly.wp_region_mix 6 (.fl 0 <| .fl 1 <| .fl 2 <| .fl 3 <| .fl 4 <| .fl 5 <| .tail [6, 7]) (by kernel_rfl) (by kernel_rfl) ?_
  go_wp2_with (first | ((with_reducible refine Calmly.is_fl ?_); refine Calmly.mix_fl rfl ?_ (fun _ _ => ?_); (first | exact .move _ | exact .load _ _ | exact .fieldAddr _ _ _ (by kernel_rfl) | exact .assign _ | exact .binOp _ _ _ _ _ rfl | exact .indexAddr _ _ _ | exact .len _ _ (by kernel_rfl) | exact .field _ _ _ | exact .extract _ _ | exact .pick _ _ _ | exact .build _ _ | exact .slice _ _ _ _ _ | exact .unOp _ _ _ rfl | exact .index _ _ _ | exact .max _ _ _ rfl rfl | exact .min _ _ _ rfl rfl | exact .nilCheck _ _ rfl)) | ((with_reducible refine Calmly.is_gl ?_); refine Calmly.mix_gl rfl rfl rfl ?_; first | ((first | with_reducible refine Calmly.gl_tt ?_ (fun _ _ => ?_) | with_reducible refine Calmly.gl_ff ?_ (fun _ _ => ?_)); (first | exact .move _ | exact .load _ _ | exact .fieldAddr _ _ _ (by kernel_rfl) | exact .assign _ | exact .binOp _ _ _ _ _ rfl | exact .indexAddr _ _ _ | exact .len _ _ (by kernel_rfl) | exact .field _ _ _ | exact .extract _ _ | exact .pick _ _ _ | exact .build _ _ | exact .slice _ _ _ _ _ | exact .unOp _ _ _ rfl | exact .index _ _ _ | exact .max _ _ _ rfl rfl | exact .min _ _ _ rfl rfl | exact .nilCheck _ _ rfl)) | with_reducible refine Calmly.gl_tf (fun _ _ => ?_) | with_reducible refine Calmly.gl_ft (fun _ _ => ?_)) | ((with_reducible refine Calmly.is_eff ?_); refine Calmly.mix_eff rfl (fun _ _ => ?_)) | ((with_reducible refine Calmly.is_gf ?_); refine Calmly.mix_gf rfl rfl rfl ?_; first | with_reducible refine Calmly.gf_tt (fun _ _ => ?_) | with_reducible refine Calmly.gf_ff (fun _ _ => ?_) | with_reducible refine Calmly.gf_tf (kept_of hk) (fun _ _ => ?_) | with_reducible refine Calmly.gf_ft (kept_of hk) (fun _ _ => ?_)) | ((with_reducible refine Calmly.is_tail ?_); first | refine Calmly.mix_tail_nil ?_ | refine Calmly.mix_tail rfl (fun _ _ => ?_)) | ((with_reducible refine Calmly.is_kept ?_); refine ⟨kept_of hk, ?_⟩) | (with_reducible refine Calmly.mix_alt ?_ ?_))
  refine bodyPost_ret (v := .agg #[.int .i64 (x.tdiv g), .int .i64 (y.tdiv g)]) (by simp [results, Tryz.results62, go_sem]) rfl ⟨by rw [HGG.out], ?_⟩
  exact ((below_drewN (((Below.refl _ _).alloc (Nat.le_refl _) _).alloc (by simp) _) k).drew.setCell (by simp) _).setCell (by simp) _
/-- The first storey that is not valid. -/
def badF : Nat → List Int → List Int → Int × Int
  | _, [], _ => (0, 0)
  | i, m :: ms, ks => if wIn m 1 10 && wIn (ks.head?.getD 0) 1 20 then badF (i + 1) ms ks.tail else ((i : Int), 2)
theorem badF_drop (ms ks : List Int) (k : Nat) (h : k < ms.length) : badF k (ms.drop k) (ks.drop k) =
    if wIn (ms[k]?.getD 0) 1 10 && wIn (ks[k]?.getD 0) 1 20 then badF (k + 1) (ms.drop (k + 1)) (ks.drop (k + 1)) else ((k : Int), 2) := by
  rw [List.drop_eq_getElem_cons h]
  simp [badF, h]
/-- The index and the error of a frame. -/
def checkF (ms ks : List Int) : Int × Int := if ms.length = 0 ∨ ks.length ≠ ms.length then (0, 10) else if 4 < ms.length then (0, 8) else badF 0 ms ks
theorem checkF_shape {ms ks : List Int} (h : ms.length = 0 ∨ ks.length ≠ ms.length) : checkF ms ks = (0, 10) := by unfold checkF; rw [if_pos h]
theorem checkF_large {ms ks : List Int} (h : ¬ (ms.length = 0 ∨ ks.length ≠ ms.length)) (h2 : 4 < ms.length) : checkF ms ks = (0, 8) := by unfold checkF; rw [if_neg h, if_pos h2]
theorem checkF_rest {ms ks : List Int} (h : ¬ (ms.length = 0 ∨ ks.length ≠ ms.length)) (h2 : ¬ 4 < ms.length) : checkF ms ks = badF 0 ms ks := by unfold checkF; rw [if_neg h, if_neg h2]

theorem ret_two {a b c d : Int} (h : (a, b) = (c, d)) : Ending.returned (Value.tuple #[.int .i64 a, .int .i64 b]) = .returned (.tuple #[.int .i64 c, .int .i64 d]) := by cases h; rfl

set_option maxRecDepth 100000 in
set_option maxHeartbeats 2000000 in
theorem rCheckFrame_any (a b : Option Addr) (n c m d : Nat) (ms ks : List Int) (w : World) (h1 : SI w a n c ms) (h2 : SI w b m d ks) :
    Calls Tryz.prog 64 #[.agg #[.slice a n c, .slice b m d]] w fun e w' => e = .returned (.tuple #[.int .i64 (checkF ms ks).1, .int .i64 (checkF ms ks).2]) ∧ Below w.heap.size w w' := by
  obtain ⟨l1, l2⟩ : n ≤ ms.length ∧ ms.length ≤ n := by have := h1.len; omega
  obtain ⟨k1, k2⟩ : m ≤ ks.length ∧ ks.length ≤ m := by have := h2.len; omega
  have m1 := h1.max
  have c1 := h1.cap
  have m2 := h2.max
  have c2 := h2.cap
  have hb : ∀ o, Below w.heap.size w (w.alloc o) := fun o => (Below.refl _ _).alloc (Nat.le_refl _) _
  by_cases hz : n = 0
  · have hn : ((n : Int) == 0) = true := by simp [hz]
    have hr := checkF_shape (ms := ms) (ks := ks) (.inl (by omega))
    have HR := Lib.hid hr
    clear hr
    go_enter Tryz.func64, Tryz.ntmps64
    go_wp2
    go_ret2
    exact ⟨ret_two HR.out.symm, hb _⟩
  have hn : ((n : Int) == 0) = false := by simp [hz]
  by_cases he : m = n
  case neg =>
    have hn2 : ((m : Int) != (n : Int)) = true := by simp; omega
    have hr := checkF_shape (ms := ms) (ks := ks) (.inr (by omega))
    have HR := Lib.hid hr
    clear hr
    go_enter Tryz.func64, Tryz.ntmps64
    go_wp2
    go_ret2
    exact ⟨ret_two HR.out.symm, hb _⟩
  subst he
  by_cases hl : 4 < m
  · have hr := checkF_large (ms := ms) (ks := ks) (by omega) (by omega)
    have HR := Lib.hid hr
    clear hr
    go_enter Tryz.func64, Tryz.ntmps64
    go_wp2
    go_ret2
    exact ⟨ret_two HR.out.symm, hb _⟩
  have hr := checkF_rest (ms := ms) (ks := ks) (by omega) (by omega)
  have HR := Lib.hid hr
  clear hr
  go_enter Tryz.func64, Tryz.ntmps64
  go_wp2
  go_loop [4] (fun i => ∃ k : Nat, k ≤ m ∧ i = .int .i64 k ∧ badF 0 ms ks = badF k (ms.drop k) (ks.drop k)) (fun i => m - (intOf i).toNat)
  case atStart => exact ⟨0, by omega, rfl, rfl⟩
  case round =>
    obtain ⟨k, hk, rfl, ht⟩ := hrel
    have HT := Lib.hid ht
    clear ht
    by_cases hlt : k < m
    · obtain ⟨b1, o1, rfl, hc1⟩ := h1.at_ (by omega)
      obtain ⟨b2, o2, rfl, hc2⟩ := h2.at_ (by omega)
      have e1 := hc1 k hlt
      have e2 := hc2 k hlt
      clear hc1 hc2
      have hlt1 := cell_lt e1
      have hlt2 := cell_lt e2
      have hd := badF_drop ms ks k (by omega)
      have HD := Lib.hid hd
      clear hd
      have hi : (k : Int) < (m : Int) := by omega
      have hi0 : (0 : Int) ≤ (k : Int) := by omega
      go_wp2_with fail
      refine (within_any _ 1 10 _).mono ?_
      rintro e w1 ⟨rfl, rfl⟩
      cases hw : wIn (ms[k]?.getD 0) 1 10
      · go_wp2_with fail
        go_ret2
        refine ⟨ret_two ?_, hb _⟩
        rw [HR.out, HT.out, HD.out, hw]
        rfl
      · go_wp2_with fail
        refine (within_any _ 1 20 _).mono ?_
        rintro e w1 ⟨rfl, rfl⟩
        cases hv : wIn (ks[k]?.getD 0) 1 20
        · go_wp2_with fail
          go_ret2
          refine ⟨ret_two ?_, hb _⟩
          rw [HR.out, HT.out, HD.out, hw, hv]
          rfl
        · go_wp2_with fail
          go_round
          case rel => exact ⟨k + 1, by omega, by go_num, by rw [HT.out, HD.out, hw, hv]; rfl⟩
          case measure => simp [intOf]; omega
    · have hle : (m : Int) ≤ (k : Int) := by omega
      go_wp2
      go_ret2
      refine ⟨ret_two ?_, hb _⟩
      rw [HR.out, HT.out, List.drop_eq_nil_of_le (by omega)]
      rfl

set_option maxHeartbeats 400000 in
theorem FrameErr_any (a b : Option Addr) (n c m d : Nat) (ms ks : List Int) (w : World) (h1 : SI w a n c ms) (h2 : SI w b m d ks) :
    Calls Tryz.prog 21 #[.agg #[.slice a n c, .slice b m d]] w fun e w' => e = .returned (.int .i64 (checkF ms ks).2) ∧ Below w.heap.size w w' := by
  have hb : ∀ o, Below w.heap.size w (w.alloc o) := fun o => (Below.refl _ _).alloc (Nat.le_refl _) _
  go_enter Tryz.func21, Tryz.ntmps21
  go_wp2_with fail
  refine (rCheckFrame_any a b n c m d ms ks _ (h1.keep (hb _)) (h2.keep (hb _))).mono ?_
  rintro e w1 ⟨rfl, hb1⟩
  go_wp2_with fail
  go_ret
  exact ⟨rfl, (hb _).trans (hb1.mono (by simp))⟩

end Go.Proofs.YteigmjlfpmdmoaaGreatDoor

namespace Go.Proofs.YteigmjlfpmdmoaaGreatDoor
open Go.RowKit
open Calmly (Kept)

theorem size_alloc_drew (w : World) (o : Obj) : w.heap.size + 1 = (w.alloc o).drew.heap.size := by
  show _ = (w.alloc o).heap.size
  simp
/-- A block that was laid before a drawn region and one more block. -/
theorem block_alloc_drew (w : World) (o o' : Obj) : ((w.alloc o).drew.alloc o').heap[w.heap.size]? = some o := by
  have h : Below (w.alloc o).heap.size (w.alloc o).drew ((w.alloc o).drew.alloc o') := (Below.refl (w.alloc o).heap.size (w.alloc o).drew).alloc (Nat.le_refl _) _
  rw [h.block _ (by simp)]
  exact alloc_new _ _

theorem firstE_two (x y : Int) : firstE [x, y] = if x = 0 then y else x := by
  unfold firstE firstE firstE
  split
  · split <;> simp_all
  · rfl

set_option maxRecDepth 100000 in
set_option maxHeartbeats 4000000 in
theorem mCheckFrame_any (a b : Option Addr) (n c m d : Nat) (ms ks : List Int) (w : World) (h1 : SI w a n c ms) (h2 : SI w b m d ks) :
    Calls Tryz.prog 65 #[.agg #[.slice a n c, .slice b m d]] w fun e w' => e = .returned (.tuple #[.int .i64 (checkF ms ks).1, .int .i64 (checkF ms ks).2]) ∧ Below w.heap.size w w' := by
  obtain ⟨l1, l2⟩ : n ≤ ms.length ∧ ms.length ≤ n := by have := h1.len; omega
  obtain ⟨k1, k2⟩ : m ≤ ks.length ∧ ks.length ≤ m := by have := h2.len; omega
  have m1 := h1.max
  have c1 := h1.cap
  have m2 := h2.max
  have c2 := h2.cap
  have hb : ∀ o, Below w.heap.size w (w.alloc o) := fun o => (Below.refl _ _).alloc (Nat.le_refl _) _
  have hb0 : ∀ e x y, Below w.heap.size w (((w.alloc (.cells #[.slice a n c, .slice b m d] 52)).drew).alloc (.cells #[.int .i64 x, .int .i64 y] e)) := fun _ _ _ => (hb _).drew.alloc (by simp) _
  have hk0 : Below (w.alloc (.cells #[.slice a n c, .slice b m d] 52)).drew.heap.size (w.alloc (.cells #[.slice a n c, .slice b m d] 52)).drew (w.alloc (.cells #[.slice a n c, .slice b m d] 52)).drew := Below.refl _ _
  rcases Nat.eq_zero_or_pos n with hn | hn
  · have hn1 : (n : Int) ≤ 0 := by omega
    have hn0 : decide (0 < n) = false := by simp; omega
    have hr := checkF_shape (ms := ms) (ks := ks) (.inl (by omega))
    have HR := Lib.hid hr
    clear hr hn
    go_enter Tryz.func65, Tryz.ntmps65
    go_wp2_with fail
    refine Calmly.wp_region_mix 21 (.fl 0 <| .fl 1 <| .fl 2 <| .fl 3 <| .fl 4 <| .gl 5 <| .gl 6 <| .gl 7 <| .gl 8 <| .gl 9 <| .gl 10 <| .gl 11 <| .fl 12 <| .fl 14 <| .fl 15 <| .fl 16 <| .fl 17 <| .eff 13 <| .eff 18 <| .eff 19 <| .eff 20 <| .tail [21]) (by kernel_rfl) (by kernel_rfl) ?_
    have hk := hk0
    go_wp2_with (first | ((with_reducible refine Calmly.is_fl ?_); refine Calmly.mix_fl rfl ?_ (fun _ _ => ?_); (first | exact .move _ | exact .load _ _ | exact .fieldAddr _ _ _ (by kernel_rfl) | exact .assign _ | exact .binOp _ _ _ _ _ rfl | exact .indexAddr _ _ _ | exact .len _ _ (by kernel_rfl) | exact .field _ _ _ | exact .extract _ _ | exact .pick _ _ _ | exact .build _ _ | exact .slice _ _ _ _ _ | exact .unOp _ _ _ rfl | exact .index _ _ _ | exact .max _ _ _ rfl rfl | exact .min _ _ _ rfl rfl | exact .nilCheck _ _ rfl)) | ((with_reducible refine Calmly.is_gl ?_); refine Calmly.mix_gl rfl rfl rfl ?_; first | ((first | with_reducible refine Calmly.gl_tt ?_ (fun _ _ => ?_) | with_reducible refine Calmly.gl_ff ?_ (fun _ _ => ?_)); (first | exact .move _ | exact .load _ _ | exact .fieldAddr _ _ _ (by kernel_rfl) | exact .assign _ | exact .binOp _ _ _ _ _ rfl | exact .indexAddr _ _ _ | exact .len _ _ (by kernel_rfl) | exact .field _ _ _ | exact .extract _ _ | exact .pick _ _ _ | exact .build _ _ | exact .slice _ _ _ _ _ | exact .unOp _ _ _ rfl | exact .index _ _ _ | exact .max _ _ _ rfl rfl | exact .min _ _ _ rfl rfl | exact .nilCheck _ _ rfl)) | with_reducible refine Calmly.gl_tf (fun _ _ => ?_) | with_reducible refine Calmly.gl_ft (fun _ _ => ?_)) | ((with_reducible refine Calmly.is_eff ?_); refine Calmly.mix_eff rfl (fun _ _ => ?_)) | ((with_reducible refine Calmly.is_gf ?_); refine Calmly.mix_gf rfl rfl rfl ?_; first | with_reducible refine Calmly.gf_tt (fun _ _ => ?_) | with_reducible refine Calmly.gf_ff (fun _ _ => ?_) | with_reducible refine Calmly.gf_tf (kept_of hk) (fun _ _ => ?_) | with_reducible refine Calmly.gf_ft (kept_of hk) (fun _ _ => ?_)) | ((with_reducible refine Calmly.is_kept ?_); refine ⟨kept_of hk, ?_⟩) | (with_reducible refine Calmly.mix_alt ?_ ?_) | (refine kept_alloc hk (fun hk' hblk hge => ?_); replace hk := hk'; clear hk') | (go_at_call 61; refine (unless_any _ _ _).mono ?_; rintro e w' ⟨rfl, rfl⟩))
    refine (first_any _ 2 2 _ _ (SI.two _ _ _ _ (size_alloc_drew _ _))).mono ?_
    rintro e w' ⟨rfl, rfl⟩
    go_wp2_with (first | ((with_reducible refine Calmly.is_fl ?_); refine Calmly.mix_fl rfl ?_ (fun _ _ => ?_); (first | exact .move _ | exact .load _ _ | exact .fieldAddr _ _ _ (by kernel_rfl) | exact .assign _ | exact .binOp _ _ _ _ _ rfl | exact .indexAddr _ _ _ | exact .len _ _ (by kernel_rfl) | exact .field _ _ _ | exact .extract _ _ | exact .pick _ _ _ | exact .build _ _ | exact .slice _ _ _ _ _ | exact .unOp _ _ _ rfl | exact .index _ _ _ | exact .max _ _ _ rfl rfl | exact .min _ _ _ rfl rfl | exact .nilCheck _ _ rfl)) | ((with_reducible refine Calmly.is_gl ?_); refine Calmly.mix_gl rfl rfl rfl ?_; first | ((first | with_reducible refine Calmly.gl_tt ?_ (fun _ _ => ?_) | with_reducible refine Calmly.gl_ff ?_ (fun _ _ => ?_)); (first | exact .move _ | exact .load _ _ | exact .fieldAddr _ _ _ (by kernel_rfl) | exact .assign _ | exact .binOp _ _ _ _ _ rfl | exact .indexAddr _ _ _ | exact .len _ _ (by kernel_rfl) | exact .field _ _ _ | exact .extract _ _ | exact .pick _ _ _ | exact .build _ _ | exact .slice _ _ _ _ _ | exact .unOp _ _ _ rfl | exact .index _ _ _ | exact .max _ _ _ rfl rfl | exact .min _ _ _ rfl rfl | exact .nilCheck _ _ rfl)) | with_reducible refine Calmly.gl_tf (fun _ _ => ?_) | with_reducible refine Calmly.gl_ft (fun _ _ => ?_)) | ((with_reducible refine Calmly.is_eff ?_); refine Calmly.mix_eff rfl (fun _ _ => ?_)) | ((with_reducible refine Calmly.is_gf ?_); refine Calmly.mix_gf rfl rfl rfl ?_; first | with_reducible refine Calmly.gf_tt (fun _ _ => ?_) | with_reducible refine Calmly.gf_ff (fun _ _ => ?_) | with_reducible refine Calmly.gf_tf (kept_of hk) (fun _ _ => ?_) | with_reducible refine Calmly.gf_ft (kept_of hk) (fun _ _ => ?_)) | ((with_reducible refine Calmly.is_tail ?_); first | refine Calmly.mix_tail_nil ?_ | refine Calmly.mix_tail rfl (fun _ _ => ?_)) | ((with_reducible refine Calmly.is_kept ?_); refine ⟨kept_of hk, ?_⟩) | (with_reducible refine Calmly.mix_alt ?_ ?_))
    · go_ret2
      refine ⟨ret_two ?_, hb0 _ _ _⟩
      rw [HR.out]
      rfl
  · go_enter Tryz.func65, Tryz.ntmps65
    go_wp2_with fail
    refine Calmly.wp_region_mix 21 (.fl 0 <| .fl 1 <| .fl 2 <| .fl 3 <| .fl 4 <| .gl 5 <| .gl 6 <| .gl 7 <| .gl 8 <| .gl 9 <| .gl 10 <| .gl 11 <| .fl 12 <| .fl 14 <| .fl 15 <| .fl 16 <| .fl 17 <| .eff 13 <| .eff 18 <| .eff 19 <| .eff 20 <| .tail [21]) (by kernel_rfl) (by kernel_rfl) ?_
    have hk := hk0
    go_wp2_with (first | ((with_reducible refine Calmly.is_fl ?_); refine Calmly.mix_fl rfl ?_ (fun _ _ => ?_); (first | exact .move _ | exact .load _ _ | exact .fieldAddr _ _ _ (by kernel_rfl) | exact .assign _ | exact .binOp _ _ _ _ _ rfl | exact .indexAddr _ _ _ | exact .len _ _ (by kernel_rfl) | exact .field _ _ _ | exact .extract _ _ | exact .pick _ _ _ | exact .build _ _ | exact .slice _ _ _ _ _ | exact .unOp _ _ _ rfl | exact .index _ _ _ | exact .max _ _ _ rfl rfl | exact .min _ _ _ rfl rfl | exact .nilCheck _ _ rfl)) | ((with_reducible refine Calmly.is_gl ?_); refine Calmly.mix_gl rfl rfl rfl ?_; first | ((first | with_reducible refine Calmly.gl_tt ?_ (fun _ _ => ?_) | with_reducible refine Calmly.gl_ff ?_ (fun _ _ => ?_)); (first | exact .move _ | exact .load _ _ | exact .fieldAddr _ _ _ (by kernel_rfl) | exact .assign _ | exact .binOp _ _ _ _ _ rfl | exact .indexAddr _ _ _ | exact .len _ _ (by kernel_rfl) | exact .field _ _ _ | exact .extract _ _ | exact .pick _ _ _ | exact .build _ _ | exact .slice _ _ _ _ _ | exact .unOp _ _ _ rfl | exact .index _ _ _ | exact .max _ _ _ rfl rfl | exact .min _ _ _ rfl rfl | exact .nilCheck _ _ rfl)) | with_reducible refine Calmly.gl_tf (fun _ _ => ?_) | with_reducible refine Calmly.gl_ft (fun _ _ => ?_)) | ((with_reducible refine Calmly.is_eff ?_); refine Calmly.mix_eff rfl (fun _ _ => ?_)) | ((with_reducible refine Calmly.is_gf ?_); refine Calmly.mix_gf rfl rfl rfl ?_; first | with_reducible refine Calmly.gf_tt (fun _ _ => ?_) | with_reducible refine Calmly.gf_ff (fun _ _ => ?_) | with_reducible refine Calmly.gf_tf (kept_of hk) (fun _ _ => ?_) | with_reducible refine Calmly.gf_ft (kept_of hk) (fun _ _ => ?_)) | ((with_reducible refine Calmly.is_kept ?_); refine ⟨kept_of hk, ?_⟩) | (with_reducible refine Calmly.mix_alt ?_ ?_) | (refine kept_alloc hk (fun hk' hblk hge => ?_); replace hk := hk'; clear hk') | (go_at_call 61; refine (unless_any _ _ _).mono ?_; rintro e w' ⟨rfl, rfl⟩))
    refine (first_any _ 2 2 _ _ (SI.two _ _ _ _ (size_alloc_drew _ _))).mono ?_
    rintro e w' ⟨rfl, rfl⟩
    go_wp2_with (first | ((with_reducible refine Calmly.is_fl ?_); refine Calmly.mix_fl rfl ?_ (fun _ _ => ?_); (first | exact .move _ | exact .load _ _ | exact .fieldAddr _ _ _ (by kernel_rfl) | exact .assign _ | exact .binOp _ _ _ _ _ rfl | exact .indexAddr _ _ _ | exact .len _ _ (by kernel_rfl) | exact .field _ _ _ | exact .extract _ _ | exact .pick _ _ _ | exact .build _ _ | exact .slice _ _ _ _ _ | exact .unOp _ _ _ rfl | exact .index _ _ _ | exact .max _ _ _ rfl rfl | exact .min _ _ _ rfl rfl | exact .nilCheck _ _ rfl)) | ((with_reducible refine Calmly.is_gl ?_); refine Calmly.mix_gl rfl rfl rfl ?_; first | ((first | with_reducible refine Calmly.gl_tt ?_ (fun _ _ => ?_) | with_reducible refine Calmly.gl_ff ?_ (fun _ _ => ?_)); (first | exact .move _ | exact .load _ _ | exact .fieldAddr _ _ _ (by kernel_rfl) | exact .assign _ | exact .binOp _ _ _ _ _ rfl | exact .indexAddr _ _ _ | exact .len _ _ (by kernel_rfl) | exact .field _ _ _ | exact .extract _ _ | exact .pick _ _ _ | exact .build _ _ | exact .slice _ _ _ _ _ | exact .unOp _ _ _ rfl | exact .index _ _ _ | exact .max _ _ _ rfl rfl | exact .min _ _ _ rfl rfl | exact .nilCheck _ _ rfl)) | with_reducible refine Calmly.gl_tf (fun _ _ => ?_) | with_reducible refine Calmly.gl_ft (fun _ _ => ?_)) | ((with_reducible refine Calmly.is_eff ?_); refine Calmly.mix_eff rfl (fun _ _ => ?_)) | ((with_reducible refine Calmly.is_gf ?_); refine Calmly.mix_gf rfl rfl rfl ?_; first | with_reducible refine Calmly.gf_tt (fun _ _ => ?_) | with_reducible refine Calmly.gf_ff (fun _ _ => ?_) | with_reducible refine Calmly.gf_tf (kept_of hk) (fun _ _ => ?_) | with_reducible refine Calmly.gf_ft (kept_of hk) (fun _ _ => ?_)) | ((with_reducible refine Calmly.is_tail ?_); first | refine Calmly.mix_tail_nil ?_ | refine Calmly.mix_tail rfl (fun _ _ => ?_)) | ((with_reducible refine Calmly.is_kept ?_); refine ⟨kept_of hk, ?_⟩) | (with_reducible refine Calmly.mix_alt ?_ ?_))
    · have hf : (firstE [unlessE ((m : Int) == (n : Int)) 10, unlessE (decide ((n : Int) ≤ 4)) 8] != 0) = true := by assumption
      go_ret2
      refine ⟨ret_two ?_, hb0 _ _ _⟩
      rw [firstE_two] at hf ⊢
      by_cases he : m = n
      · by_cases hl : n ≤ 4
        · simp [unlessE, he] at hf
          omega
        · rw [checkF_large (by omega) (by omega)]
          simp [unlessE, he]
          omega
      · rw [checkF_shape (.inr (by omega))]
        have : ((m : Int) == (n : Int)) = false := by simp; omega
        rw [this]
        rfl
    · have hf : (firstE [unlessE ((m : Int) == (n : Int)) 10, unlessE (decide ((n : Int) ≤ 4)) 8] != 0) = false := by assumption
      have hmn : m = n ∧ n ≤ 4 := by
        rw [firstE_two] at hf
        by_cases he : m = n
        · simp [unlessE, he] at hf
          omega
        · have : ((m : Int) == (n : Int)) = false := by simp; omega
          rw [this] at hf
          simp [unlessE] at hf
      obtain ⟨he, hl⟩ := hmn
      rw [show ((m : Int) == (n : Int)) = true by simp [he], show decide ((n : Int) ≤ 4) = true by simp; omega]
      subst he
      clear hf
      have hr := checkF_rest (ms := ms) (ks := ks) (by omega) (by omega)
      have HR := Lib.hid hr
      clear hr
      refine wp_gen (fun v => Below w.heap.size w v ∧ v.heap[w.heap.size]? = some (.cells #[.slice a m c, .slice b m d] 52)) ⟨hb0 _ _ _, block_alloc_drew _ _ _⟩ ?_
      rintro v ⟨hbw, hfr⟩
      have hf0 : v.cell? ⟨w.heap.size, 0, none⟩ = some (.slice a m c) := cell_block hfr 0
      have hf1 : v.cell? ⟨w.heap.size, 1, none⟩ = some (.slice b m d) := cell_block hfr 1
      clear hfr
      go_loop [34] (fun i => ∃ k : Nat, k ≤ m ∧ i = .int .i64 k ∧ badF 0 ms ks = badF k (ms.drop k) (ks.drop k)) (fun i => m - (intOf i).toNat)
      case atStart => exact ⟨0, by omega, rfl, rfl⟩
      case round =>
        obtain ⟨k, hk, rfl, ht⟩ := hrel
        have HT := Lib.hid ht
        clear ht
        by_cases hlt : k < m
        · obtain ⟨b1, o1, rfl, hc1⟩ := h1.at_ (by omega)
          obtain ⟨b2, o2, rfl, hc2⟩ := h2.at_ (by omega)
          have e1 := cell_keep (hc1 k hlt) hbw
          have e2 := cell_keep (hc2 k hlt) hbw
          clear hc1 hc2
          have hd := badF_drop ms ks k (by omega)
          have HD := Lib.hid hd
          clear hd
          have hi : (k : Int) < (m : Int) := by omega
          have hi0 : (0 : Int) ≤ (k : Int) := by omega
          cases hw : wIn (ms[k]?.getD 0) 1 10
          · go_wp2_with (first | (go_at_call 72; refine (mWithin_any _ _ _ _).mono ?_; rintro e w' ⟨rfl, rfl⟩))
            go_ret2
            refine ⟨ret_two ?_, hbw⟩
            rw [HR.out, HT.out, HD.out, hw]
            rfl
          · cases hv : wIn (ks[k]?.getD 0) 1 20
            · go_wp2_with (first | (go_at_call 72; refine (mWithin_any _ _ _ _).mono ?_; rintro e w' ⟨rfl, rfl⟩))
              go_ret2
              refine ⟨ret_two ?_, hbw⟩
              rw [HR.out, HT.out, HD.out, hw, hv]
              rfl
            · go_wp2_with (first | (go_at_call 72; refine (mWithin_any _ _ _ _).mono ?_; rintro e w' ⟨rfl, rfl⟩))
              go_round
              case rel => exact ⟨k + 1, by omega, by go_num, by rw [HT.out, HD.out, hw, hv]; rfl⟩
              case measure => simp [intOf]; omega
        · have hle : (m : Int) ≤ (k : Int) := by omega
          go_wp2
          go_ret2
          refine ⟨ret_two ?_, hbw⟩
          rw [HR.out, HT.out, List.drop_eq_nil_of_le (by omega)]
          rfl
end Go.Proofs.YteigmjlfpmdmoaaGreatDoor

namespace Go.Proofs.YteigmjlfpmdmoaaGreatDoor
open Go.RowKit
open Calmly (Kept)

theorem OwI.weak {w : World} {B B' : Nat} {a : Option Addr} {n c : Nat} {xs : List Int} (h : OwI w B a n c xs) (hB : B' ≤ B) : OwI w B' a n c xs := by
  obtain ⟨h1, h2⟩ := h
  refine ⟨h1, ?_⟩
  rcases h2 with h2 | ⟨g, cap, cur, hv, hg, r⟩
  · exact .inl h2
  · exact .inr ⟨g, cap, cur, hv, Nat.le_trans hB hg, r⟩
/-- A store below the call's own rows. -/
theorem OwI.under {w : World} {B : Nat} {a : Option Addr} {n c : Nat} {xs : List Int} (h : OwI w B a n c xs) {r o : Nat} (hr : r < B) (v : Value) : OwI (w.setCell ⟨r, o, none⟩ v) B a n c xs := by
  obtain ⟨h1, h2⟩ := h
  refine ⟨h1, ?_⟩
  rcases h2 with h2 | ⟨g, cap, cur, hv, hg, hh, r'⟩
  · exact .inl h2
  · refine .inr ⟨g, cap, cur, hv, hg, ?_, r'⟩
    rw [Below.heap_setCell _ _ _ _ (by show g ≠ r; omega)]
    exact hh
/-- Two stores below the call's own rows. -/
theorem OwI.under2 {w : World} {B : Nat} {a : Option Addr} {n c : Nat} {xs : List Int} (h : OwI w B a n c xs) {r : Nat} (hr : r < B) (u v : Value) : OwI ((w.setCell ⟨r, 0, none⟩ u).setCell ⟨r, 1, none⟩ v) B a n c xs :=
  (h.under hr u).under hr v

/-- What a call laid before it called another one. -/
theorem box1 {w W w1 : World} {o : Obj} (h : Below W.heap.size W w1) (hW : W.heap = (w.alloc o).heap := by rfl) : w1.heap[w.heap.size]? = some o := by
  rw [h.block _ (by rw [hW]; simp), hW]
  exact alloc_new _ _
theorem box2 {w W w1 : World} {o o' : Obj} (h : Below W.heap.size W w1) (hW : W.heap = ((w.alloc o).alloc o').heap := by rfl) : w1.heap[w.heap.size]? = some o ∧ w1.heap[w.heap.size + 1]? = some o' := by
  have h0 : Below (w.alloc o).heap.size (w.alloc o) ((w.alloc o).alloc o') := (Below.refl _ _).alloc (Nat.le_refl _) _
  refine ⟨?_, ?_⟩
  · rw [h.block _ (by rw [hW]; simp; omega), hW]
    exact box1 (W := w.alloc o) h0
  · rw [h.block _ (by rw [hW]; simp), hW]
    have := alloc_new (w.alloc o) o'
    simpa using this
theorem blk_setAt {W : World} {b : Nat} {cs : Array Value} {t : TypeId} (h : W.heap[b]? = some (.cells cs t)) (i : Nat) (v : Value) : (W.setCell ⟨b, i, none⟩ v).heap[b]? = some (.cells (cs.setIfInBounds i v) t) := by
  simp [World.setCell, Array.getElem?_modify, h]
end Go.Proofs.YteigmjlfpmdmoaaGreatDoor

namespace Go.Proofs.YteigmjlfpmdmoaaGreatDoor
open Go.RowKit
open Calmly (Kept)

set_option maxRecDepth 100000 in
set_option maxHeartbeats 1000000 in
theorem few_any (a b : Option Addr) (n c m d : Nat) (w : World) (hn : n ≤ 9223372036854775807) (hm : m ≤ 9223372036854775807) :
    Calls Tryz.prog 47 #[.agg #[.slice a n c, .slice b m d]] w fun e w' => e = .returned (.bool (decide (n ≤ 6) && decide (m ≤ 6))) ∧ Below w.heap.size w w' := by
  have hb : ∀ o, Below w.heap.size w (w.alloc o) := fun o => (Below.refl _ _).alloc (Nat.le_refl _) _
  rcases Nat.lt_or_ge 6 n with h | h
  · have h1 : decide (n ≤ 6) = false := by simp; omega
    go_enter Tryz.func47, Tryz.ntmps47
    have h2 : ¬ (n : Int) ≤ 6 := by omega
    go_wp2
    go_ret
    exact ⟨ret_bool (by simp), hb _⟩
  · have h1 : decide (n ≤ 6) = true := by simp; omega
    have h2 : (n : Int) ≤ 6 := by omega
    go_enter Tryz.func47, Tryz.ntmps47
    go_wp2
    go_ret
    refine ⟨ret_bool ?_, hb _⟩
    simp [h1]
    omega

set_option maxRecDepth 100000 in
set_option maxHeartbeats 1000000 in
theorem open_any (a b : Option Addr) (n c m d : Nat) (ms ks : List Int) (w : World) (h1 : SI w a n c ms) (h2 : SI w b m d ks) :
    Calls Tryz.prog 66 #[.agg #[.slice a n c, .slice b m d]] w fun e w' => e = .returned (.tuple #[.agg #[.slice a n c, .slice b m d], .int .i64 (checkF ms ks).2]) ∧ Below w.heap.size w w' := by
  have hb : ∀ o o', Below w.heap.size w ((w.alloc o).alloc o') := fun o o' => ((Below.refl _ _).alloc (Nat.le_refl _) _).alloc (by simp) _
  go_enter Tryz.func66, Tryz.ntmps66
  go_wp2_with fail
  refine (mCheckFrame_any a b n c m d ms ks _ (h1.keep (hb _ _)) (h2.keep (hb _ _))).mono ?_
  rintro e w1 ⟨rfl, hb1⟩
  obtain ⟨x1, x2⟩ := box2 (w := w) (o := .cells #[.slice a n c, .slice b m d] 52) (o' := .cells #[.slice none 0 0, .slice none 0 0] 118) hb1
  have hs1 := blk_lt x2
  have f0 : w1.cell? ⟨w.heap.size, 0, none⟩ = some (.slice a n c) := cell_block x1 0
  have f1 : w1.cell? ⟨w.heap.size, 1, none⟩ = some (.slice b m d) := cell_block x1 1
  have g0 : w1.cell? ⟨w.heap.size + 1, 0, none⟩ = some (.slice none 0 0) := cell_block x2 0
  have g1 : w1.cell? ⟨w.heap.size + 1, 1, none⟩ = some (.slice none 0 0) := cell_block x2 1
  have g2 := frozen_block x2 0
  have g3 := frozen_block x2 1
  clear x1 x2
  have hb2 : Below w.heap.size w w1 := (hb _ _).trans (hb1.mono (by simp; omega))
  obtain ⟨s1, s2, s3, s4⟩ := set2 (x := .slice a n c) (y := .slice b m d) g0 g1
  go_wp2_with fail
  refine bodyPost_ret (v := .tuple #[.agg #[.slice a n c, .slice b m d], .int .i64 (checkF ms ks).2]) (by simp [results, Tryz.results66, go_sem, s1, s2]) rfl ⟨rfl, ?_⟩
  exact (hb2.setCell (by simp) _).setCell (by simp) _

set_option maxRecDepth 100000 in
set_option maxHeartbeats 1000000 in
theorem Copy_any (a b : Option Addr) (n c m d : Nat) (ms ks : List Int) (w : World) (h1 : SI w a n c ms) (h2 : SI w b m d ks) (hn : n ≤ 1099511627776) (hm : m ≤ 1099511627776) :
    Calls Tryz.prog 25 #[.agg #[.slice a n c, .slice b m d]] w fun e w' => ∃ a' c' b' d' B, e = .returned (.agg #[.slice a' n c', .slice b' m d']) ∧ OwI w' w.heap.size a' n c' ms ∧ OwI w' B b' m d' ks ∧ w.heap.size ≤ B ∧ (∀ g, a' = some ⟨g, 0, none⟩ → g < B) ∧ Below w.heap.size w w' := by
  have hb : ∀ o o', Below w.heap.size w ((w.alloc o).alloc o').drew := fun o o' => (((Below.refl _ _).alloc (Nat.le_refl _) _).alloc (by simp) _).drew
  go_enter Tryz.func25, Tryz.ntmps25
  go_wp2_with fail
  refine Calmly.wp_region_mix 6 (.fl 0 <| .fl 1 <| .fl 3 <| .fl 4 <| .eff 2 <| .eff 5 <| .tail [6, 7]) (by kernel_rfl) (by kernel_rfl) ?_
  have hk : Below ((w.alloc (.cells #[.slice a n c, .slice b m d] 52)).alloc (.cells #[.slice none 0 0, .slice none 0 0] 52)).drew.heap.size ((w.alloc (.cells #[.slice a n c, .slice b m d] 52)).alloc (.cells #[.slice none 0 0, .slice none 0 0] 52)).drew ((w.alloc (.cells #[.slice a n c, .slice b m d] 52)).alloc (.cells #[.slice none 0 0, .slice none 0 0] 52)).drew := Below.refl _ _
  go_wp2_with (first | ((with_reducible refine Calmly.is_fl ?_); refine Calmly.mix_fl rfl ?_ (fun _ _ => ?_); (first | exact .move _ | exact .load _ _ | exact .fieldAddr _ _ _ (by kernel_rfl) | exact .assign _ | exact .binOp _ _ _ _ _ rfl | exact .indexAddr _ _ _ | exact .len _ _ (by kernel_rfl) | exact .field _ _ _ | exact .extract _ _ | exact .pick _ _ _ | exact .build _ _ | exact .slice _ _ _ _ _ | exact .unOp _ _ _ rfl | exact .index _ _ _ | exact .max _ _ _ rfl rfl | exact .min _ _ _ rfl rfl | exact .nilCheck _ _ rfl)) | ((with_reducible refine Calmly.is_gl ?_); refine Calmly.mix_gl rfl rfl rfl ?_; first | ((first | with_reducible refine Calmly.gl_tt ?_ (fun _ _ => ?_) | with_reducible refine Calmly.gl_ff ?_ (fun _ _ => ?_)); (first | exact .move _ | exact .load _ _ | exact .fieldAddr _ _ _ (by kernel_rfl) | exact .assign _ | exact .binOp _ _ _ _ _ rfl | exact .indexAddr _ _ _ | exact .len _ _ (by kernel_rfl) | exact .field _ _ _ | exact .extract _ _ | exact .pick _ _ _ | exact .build _ _ | exact .slice _ _ _ _ _ | exact .unOp _ _ _ rfl | exact .index _ _ _ | exact .max _ _ _ rfl rfl | exact .min _ _ _ rfl rfl | exact .nilCheck _ _ rfl)) | with_reducible refine Calmly.gl_tf (fun _ _ => ?_) | with_reducible refine Calmly.gl_ft (fun _ _ => ?_)) | ((with_reducible refine Calmly.is_eff ?_); refine Calmly.mix_eff rfl (fun _ _ => ?_)) | ((with_reducible refine Calmly.is_gf ?_); refine Calmly.mix_gf rfl rfl rfl ?_; first | with_reducible refine Calmly.gf_tt (fun _ _ => ?_) | with_reducible refine Calmly.gf_ff (fun _ _ => ?_) | with_reducible refine Calmly.gf_tf (kept_of hk) (fun _ _ => ?_) | with_reducible refine Calmly.gf_ft (kept_of hk) (fun _ _ => ?_)) | ((with_reducible refine Calmly.is_tail ?_); first | refine Calmly.mix_tail_nil ?_ | refine Calmly.mix_tail rfl (fun _ _ => ?_)) | ((with_reducible refine Calmly.is_kept ?_); refine ⟨kept_of hk, ?_⟩) | (with_reducible refine Calmly.mix_alt ?_ ?_))
  refine (copyInts_any a n c ms _ (h1.keep (hb _ _)) hn).mono ?_
  rintro e w1 ⟨a', c', rfl, ho1, hb1⟩
  replace hk := step_of hk hb1
  have k2 := (h2.keep (hb (.cells #[.slice a n c, .slice b m d] 52) (.cells #[.slice none 0 0, .slice none 0 0] 52))).keep hb1
  go_wp2_with (first | ((with_reducible refine Calmly.is_fl ?_); refine Calmly.mix_fl rfl ?_ (fun _ _ => ?_); (first | exact .move _ | exact .load _ _ | exact .fieldAddr _ _ _ (by kernel_rfl) | exact .assign _ | exact .binOp _ _ _ _ _ rfl | exact .indexAddr _ _ _ | exact .len _ _ (by kernel_rfl) | exact .field _ _ _ | exact .extract _ _ | exact .pick _ _ _ | exact .build _ _ | exact .slice _ _ _ _ _ | exact .unOp _ _ _ rfl | exact .index _ _ _ | exact .max _ _ _ rfl rfl | exact .min _ _ _ rfl rfl | exact .nilCheck _ _ rfl)) | ((with_reducible refine Calmly.is_gl ?_); refine Calmly.mix_gl rfl rfl rfl ?_; first | ((first | with_reducible refine Calmly.gl_tt ?_ (fun _ _ => ?_) | with_reducible refine Calmly.gl_ff ?_ (fun _ _ => ?_)); (first | exact .move _ | exact .load _ _ | exact .fieldAddr _ _ _ (by kernel_rfl) | exact .assign _ | exact .binOp _ _ _ _ _ rfl | exact .indexAddr _ _ _ | exact .len _ _ (by kernel_rfl) | exact .field _ _ _ | exact .extract _ _ | exact .pick _ _ _ | exact .build _ _ | exact .slice _ _ _ _ _ | exact .unOp _ _ _ rfl | exact .index _ _ _ | exact .max _ _ _ rfl rfl | exact .min _ _ _ rfl rfl | exact .nilCheck _ _ rfl)) | with_reducible refine Calmly.gl_tf (fun _ _ => ?_) | with_reducible refine Calmly.gl_ft (fun _ _ => ?_)) | ((with_reducible refine Calmly.is_eff ?_); refine Calmly.mix_eff rfl (fun _ _ => ?_)) | ((with_reducible refine Calmly.is_gf ?_); refine Calmly.mix_gf rfl rfl rfl ?_; first | with_reducible refine Calmly.gf_tt (fun _ _ => ?_) | with_reducible refine Calmly.gf_ff (fun _ _ => ?_) | with_reducible refine Calmly.gf_tf (kept_of hk) (fun _ _ => ?_) | with_reducible refine Calmly.gf_ft (kept_of hk) (fun _ _ => ?_)) | ((with_reducible refine Calmly.is_tail ?_); first | refine Calmly.mix_tail_nil ?_ | refine Calmly.mix_tail rfl (fun _ _ => ?_)) | ((with_reducible refine Calmly.is_kept ?_); refine ⟨kept_of hk, ?_⟩) | (with_reducible refine Calmly.mix_alt ?_ ?_))
  refine (copyInts_any b m d ks _ k2 hm).mono ?_
  rintro e w2 ⟨b', d', rfl, ho2, hb2⟩
  replace hk := step_of hk hb2
  have ho1' := ho1.keep hb2
  obtain ⟨x1, x2⟩ := box2 (w := w) (o := .cells #[.slice a n c, .slice b m d] 52) (o' := .cells #[.slice none 0 0, .slice none 0 0] 52) hk
  have hs1 := blk_lt x2
  have g0 : w2.cell? ⟨w.heap.size + 1, 0, none⟩ = some (.slice none 0 0) := cell_block x2 0
  have g1 : w2.cell? ⟨w.heap.size + 1, 1, none⟩ = some (.slice none 0 0) := cell_block x2 1
  have g2 := frozen_block x2 0
  have g3 := frozen_block x2 1
  clear x1 x2
  obtain ⟨s1, s2, s3, s4⟩ := set2 (x := .slice a' n c') (y := .slice b' m d') g0 g1
  have hsz : w.heap.size + 2 ≤ ((w.alloc (.cells #[.slice a n c, .slice b m d] 52)).alloc (.cells #[.slice none 0 0, .slice none 0 0] 52)).drew.heap.size := by
    show _ ≤ ((w.alloc (.cells #[.slice a n c, .slice b m d] 52)).alloc (.cells #[.slice none 0 0, .slice none 0 0] 52)).heap.size
    simp
  have hsz1 := hb1.size
  go_wp2_with (first | ((with_reducible refine Calmly.is_fl ?_); refine Calmly.mix_fl rfl ?_ (fun _ _ => ?_); (first | exact .move _ | exact .load _ _ | exact .fieldAddr _ _ _ (by kernel_rfl) | exact .assign _ | exact .binOp _ _ _ _ _ rfl | exact .indexAddr _ _ _ | exact .len _ _ (by kernel_rfl) | exact .field _ _ _ | exact .extract _ _ | exact .pick _ _ _ | exact .build _ _ | exact .slice _ _ _ _ _ | exact .unOp _ _ _ rfl | exact .index _ _ _ | exact .max _ _ _ rfl rfl | exact .min _ _ _ rfl rfl | exact .nilCheck _ _ rfl)) | ((with_reducible refine Calmly.is_gl ?_); refine Calmly.mix_gl rfl rfl rfl ?_; first | ((first | with_reducible refine Calmly.gl_tt ?_ (fun _ _ => ?_) | with_reducible refine Calmly.gl_ff ?_ (fun _ _ => ?_)); (first | exact .move _ | exact .load _ _ | exact .fieldAddr _ _ _ (by kernel_rfl) | exact .assign _ | exact .binOp _ _ _ _ _ rfl | exact .indexAddr _ _ _ | exact .len _ _ (by kernel_rfl) | exact .field _ _ _ | exact .extract _ _ | exact .pick _ _ _ | exact .build _ _ | exact .slice _ _ _ _ _ | exact .unOp _ _ _ rfl | exact .index _ _ _ | exact .max _ _ _ rfl rfl | exact .min _ _ _ rfl rfl | exact .nilCheck _ _ rfl)) | with_reducible refine Calmly.gl_tf (fun _ _ => ?_) | with_reducible refine Calmly.gl_ft (fun _ _ => ?_)) | ((with_reducible refine Calmly.is_eff ?_); refine Calmly.mix_eff rfl (fun _ _ => ?_)) | ((with_reducible refine Calmly.is_gf ?_); refine Calmly.mix_gf rfl rfl rfl ?_; first | with_reducible refine Calmly.gf_tt (fun _ _ => ?_) | with_reducible refine Calmly.gf_ff (fun _ _ => ?_) | with_reducible refine Calmly.gf_tf (kept_of hk) (fun _ _ => ?_) | with_reducible refine Calmly.gf_ft (kept_of hk) (fun _ _ => ?_)) | ((with_reducible refine Calmly.is_tail ?_); first | refine Calmly.mix_tail_nil ?_ | refine Calmly.mix_tail rfl (fun _ _ => ?_)) | ((with_reducible refine Calmly.is_kept ?_); refine ⟨kept_of hk, ?_⟩) | (with_reducible refine Calmly.mix_alt ?_ ?_))
  refine bodyPost_ret (v := .agg #[.slice a' n c', .slice b' m d']) (by simp [results, Tryz.results25, go_sem, s1, s2]) rfl ⟨a', c', b', d', w1.heap.size, rfl, ?_, ?_, by omega, ?_, ?_⟩
  · exact (ho1'.under2 (by omega) _ _).weak (by omega)
  · exact ho2.under2 (by omega) _ _
  · rintro g rfl
    exact ho1.lt.2
  · exact (((hb _ _).trans (hk.mono (by omega))).setCell (by simp) _).setCell (by simp) _
end Go.Proofs.YteigmjlfpmdmoaaGreatDoor
