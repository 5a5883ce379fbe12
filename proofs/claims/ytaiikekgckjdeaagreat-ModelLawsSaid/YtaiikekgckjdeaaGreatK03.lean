/- Small functions of the helpers' package: modulo, floors, comparisons of fractions of any size. A region walked by a plan: an operation whose guard is itself an operation that was not carried out. Contracts of the small functions of chapter 5's package. Words that the packages share: appends behind a region that draws its order, the greatest common divisor of a list. Rows of elements and of slips. A walk by a plan, compared with an older world: stores into blocks of the call's own may come before other operations, if what reads is no early operation. Contracts of an element: its stretch, weight, force and energy, and a move of it. -/
import Derived.Test.YtaiikekgckjdeaaGreatK02
namespace Go.Proofs.YtaiikekgckjdeaaGreat
open Go.RowKit
open Calmly (Kept)

theorem tdiv_floor (n d : Int) (h : 0 < d) : n / d = if n.tmod d < 0 then n.tdiv d - 1 else n.tdiv d := by
  have h1 := Int.tmod_add_mul_tdiv n d
  have h2 := Int.emod_add_mul_ediv n d
  have h3 := Int.emod_nonneg n (by omega : d ≠ 0)
  have h4 := Int.emod_lt_of_pos n h
  have h5 : n.tmod d < d := Int.tmod_lt_of_pos n h
  have h6 : -d < n.tmod d := by
    have := Int.lt_tmod_of_pos n h
    omega
  by_cases hn : n.tmod d < 0
  · rw [if_pos hn]
    have h7 : d * (n / d) = d * (n.tdiv d - 1) + (d + n.tmod d - n % d) := by rw [Int.mul_sub]; omega
    have h8 : d * (n / d - (n.tdiv d - 1)) = d + n.tmod d - n % d := by rw [Int.mul_sub]; omega
    have h9 : n / d - (n.tdiv d - 1) < 1 := by
      rcases Int.lt_or_le (n / d - (n.tdiv d - 1)) 1 with h | h'
      · exact h
      · have := Int.mul_le_mul_of_nonneg_left h' (by omega : 0 ≤ d)
        omega
    have h10 : -1 < n / d - (n.tdiv d - 1) := by
      rcases Int.lt_or_le (-1) (n / d - (n.tdiv d - 1)) with h | h'
      · exact h
      · have := Int.mul_le_mul_of_nonneg_left h' (by omega : 0 ≤ d)
        omega
    omega
  · rw [if_neg hn]
    have h8 : d * (n / d - n.tdiv d) = n.tmod d - n % d := by rw [Int.mul_sub]; omega
    have h9 : n / d - n.tdiv d < 1 := by
      rcases Int.lt_or_le (n / d - n.tdiv d) 1 with h | h'
      · exact h
      · have := Int.mul_le_mul_of_nonneg_left h' (by omega : 0 ≤ d)
        omega
    have h10 : -1 < n / d - n.tdiv d := by
      rcases Int.lt_or_le (-1) (n / d - n.tdiv d) with h | h'
      · exact h
      · have := Int.mul_le_mul_of_nonneg_left h' (by omega : 0 ≤ d)
        omega
    omega
theorem tmod_emod (n d : Int) (h : 0 < d) : n % d = if n.tmod d < 0 then n.tmod d + d else n.tmod d := by
  have h1 := Int.tmod_add_mul_tdiv n d
  have h2 := Int.emod_add_mul_ediv n d
  have h3 := tdiv_floor n d h
  split at h3
  · rename_i h4
    rw [if_pos h4]
    rw [h3, Int.mul_sub] at h2
    omega
  · rename_i h4
    rw [if_neg h4]
    rw [h3] at h2
    omega
theorem tdivq_bd (n d : Int) (h : 0 < d) (h1 : -9223372036854775808 ≤ n) (h2 : n ≤ 9223372036854775807) : -9223372036854775808 ≤ n.tdiv d ∧ n.tdiv d ≤ 9223372036854775807 := by
  rcases Int.le_total 0 n with h0 | h0
  · have h3 : 0 ≤ n.tdiv d := Int.tdiv_nonneg h0 (by omega)
    have h4 : n.tdiv d ≤ n := by
      rw [Int.tdiv_eq_ediv_of_nonneg h0]
      exact Int.ediv_le_self d h0
    omega
  · have h3 : 0 ≤ (-n).tdiv d := Int.tdiv_nonneg (by omega) (by omega)
    have h4 : (-n).tdiv d ≤ -n := by
      rw [Int.tdiv_eq_ediv_of_nonneg (by omega)]
      exact Int.ediv_le_self d (by omega)
    rw [Int.neg_tdiv] at h3 h4
    omega

/-- How two numbers compare: -1, 0 or 1. -/
def cmpQ (x y : Int) : Int := if x < y then -1 else if y < x then 1 else 0
theorem cmpQ_shift (x y z : Int) : cmpQ (x + z) (y + z) = cmpQ x y := by
  unfold cmpQ
  have e1 : (x + z < y + z) = (x < y) := by simp
  have e2 : (y + z < x + z) = (y < x) := by simp
  simp only [e1, e2]
/-- A step of the comparison of fractions. -/
theorem cmp_lt {n d m k : Int} (hd : 0 < d) (hk : 0 < k) (h : n / d < m / k) : cmpQ (n * k) (m * d) = -1 := by
  have h1 : n < d * (n / d) + d := by
    have := Int.emod_add_mul_ediv n d
    have := Int.emod_lt_of_pos n hd
    omega
  have h2 : k * (m / k) ≤ m := by
    have := Int.emod_add_mul_ediv m k
    have := Int.emod_nonneg m (by omega : k ≠ 0)
    omega
  have h3 : n * k < (d * (n / d) + d) * k := Int.mul_lt_mul_of_pos_right h1 hk
  have h4 : k * (m / k) * d ≤ m * d := Int.mul_le_mul_of_nonneg_right h2 (by omega)
  have h5 : (d * (n / d) + d) * k = (n / d + 1) * (d * k) := by
    rw [show d * (n / d) + d = d * (n / d + 1) by rw [Int.mul_add, Int.mul_one]]
    rw [Int.mul_comm d (n / d + 1), Int.mul_assoc]
  have h6 : k * (m / k) * d = (m / k) * (d * k) := by
    rw [Int.mul_comm k (m / k), Int.mul_assoc, Int.mul_comm k d]
  have h7 : (n / d + 1) * (d * k) ≤ (m / k) * (d * k) := Int.mul_le_mul_of_nonneg_right (by omega) (Int.mul_nonneg (by omega) (by omega))
  unfold cmpQ
  rw [if_pos (by omega)]
theorem cmp_swap (x y : Int) : cmpQ y x = - cmpQ x y := by
  unfold cmpQ
  split <;> split <;> first | omega | (split <;> omega) | rfl
theorem cmp_gt {n d m k : Int} (hd : 0 < d) (hk : 0 < k) (h : m / k < n / d) : cmpQ (n * k) (m * d) = 1 := by
  rw [cmp_swap, cmp_lt hk hd h]
  rfl
theorem cmp_eq {n d m k : Int} (h : n / d = m / k) : cmpQ (n * k) (m * d) = cmpQ ((n % d) * k) ((m % k) * d) := by
  have h1 := Int.emod_add_mul_ediv n d
  have h2 := Int.emod_add_mul_ediv m k
  have e1 : n * k = (n % d) * k + d * (n / d) * k := by rw [← Int.add_mul, h1]
  have e2 : m * d = (m % k) * d + d * (n / d) * k := by
    rw [h, show d * (m / k) * k = k * (m / k) * d by rw [Int.mul_comm d, Int.mul_assoc, Int.mul_comm d k, ← Int.mul_assoc, Int.mul_comm (m / k) k], ← Int.add_mul, h2]
  rw [e1, e2, cmpQ_shift]

/-- A fraction in lowest terms, with a denominator above 0; its parts are small. -/
def isLow (x y : Int) : Bool := decide (0 < y) && (Int.gcd x y : Int) == 1
def isSmallF (x y : Int) : Bool := wIn x (-1000000000) 1000000000 && wIn y 1 1000000000

set_option maxRecDepth 100000 in
set_option maxHeartbeats 1000000 in
theorem isLowest_any (x y : Int) (w : World) (hx1 : -9223372036854775807 ≤ x) (hx2 : x ≤ 9223372036854775807) (hy2 : y ≤ 9223372036854775807) :
    Calls Tryz.prog 100 #[.agg #[.int .i64 x, .int .i64 y]] w fun e w' => e = .returned (.bool (isLow x y)) ∧ Below w.heap.size w w' := by
  have hb : ∀ o, Below w.heap.size w (w.alloc o) := fun o => (Below.refl _ _).alloc (Nat.le_refl _) _
  by_cases h : 0 < y
  · go_enter Tryz.func100, Tryz.ntmps100
    go_wp2_with fail
    refine (gcd_any x y _ (by omega) (by omega) (by omega) (by omega)).mono ?_
    rintro e w1 ⟨rfl, k, rfl⟩
    go_wp2_with fail
    go_ret
    refine ⟨ret_bool ?_, below_drewN (hb _) k⟩
    unfold isLow
    rw [decide_eq_true h]
    rfl
  · have h' : y ≤ 0 := by omega
    go_enter Tryz.func100, Tryz.ntmps100
    go_wp2_with fail
    go_ret
    refine ⟨ret_bool ?_, hb _⟩
    unfold isLow
    rw [decide_eq_false (by omega)]
    rfl

end Go.Proofs.YtaiikekgckjdeaaGreat

namespace Go.Calmly
section
variable {P : Program} {ops : Array Oper} {Q : Exit → Act → World → Prop} {w0 : World}
theorem wanted_un {o : Oper} {g d : Nat} {want : Bool} {a : Act} (hg : o.guard = some (g, want)) (hd : (ops[g]?).bind (·.dst) = some d) (hv : a.tmps[d]? = some undef) :
    Region.wanted o (yielded ops a.tmps) = false := by
  simp only [Region.wanted, hg, yielded, hd, Option.bind_some, hv]
  cases want <;> rfl
theorem mix_glu {i : Nat} {k : Plan} {dst : Option Tmp} {op : Op} {ty : TypeId} {pos : String} {after : Array Edge} {a : Act} {w : World} {g d : Nat} {want : Bool} (hi : ops[i]? = some ⟨dst, op, ty, pos, after, some (g, want)⟩) (hd : (ops[g]?).bind (·.dst) = some d) (hv : a.tmps[d]? = some undef)
    (h : ∀ K : Act → World → Prop, (∀ a', WpMix P ops Q w0 k a' w → K a' w0) → Oper.wp P ⟨dst, .assign (.const undef), ty, pos, after, none⟩ a w0 K NoQ) : WpMix P ops Q w0 (.gl i k) a w := by
  refine ⟨?_⟩
  have hw := wanted_un (o := ⟨dst, op, ty, pos, after, some (g, want)⟩) rfl hd hv
  simp only [Plan.gl, wpMix, hi, hw, Bool.false_eq_true, if_false]
  exact h (fun a' _ => wpMix P ops Q w0 k a' w) (fun _ hh => hh.out)
theorem mix_gfu {i : Nat} {k : Plan} {dst : Option Tmp} {op : Op} {ty : TypeId} {pos : String} {after : Array Edge} {a : Act} {w : World} {g d : Nat} {want : Bool} (hi : ops[i]? = some ⟨dst, op, ty, pos, after, some (g, want)⟩) (hd : (ops[g]?).bind (·.dst) = some d) (hv : a.tmps[d]? = some undef) (hk : Kept w0 w)
    (h : ∀ K : Act → World → Prop, (∀ a', WpMix P ops Q w0 k a' w → K a' w) → Oper.wp P ⟨dst, .assign (.const undef), ty, pos, after, none⟩ a w K NoQ) : WpMix P ops Q w0 (.gf i k) a w := by
  refine ⟨?_⟩
  show wpOp P ops NoQ i (fun a' w' => Kept w0 w' ∧ wpMix P ops Q w0 k a' w') a w
  exact op_off (K := fun a' w' => Kept w0 w' ∧ wpMix P ops Q w0 k a' w') hi (wanted_un rfl hd hv) ⟨hk, h (fun a' _ => wpMix P ops Q w0 k a' w) (fun _ hh => hh.out)⟩
end
end Go.Calmly

namespace Go.Proofs.YtaiikekgckjdeaaGreat
open Go.RowKit
open Calmly (Kept)

set_option maxHeartbeats 400000 in
theorem dWithin_any (n lo hi : Int) (w : World) :
    Calls Tryz.prog 44 #[.int .i64 n, .int .i64 lo, .int .i64 hi] w fun e w' => e = .returned (.bool (wIn n lo hi)) ∧ w = w' := by
  go_enter Tryz.func44, Tryz.ntmps44
  go_wp2
  · go_ret
    refine ⟨ret_bool ?_, rfl⟩
    have h : lo ≤ n := by assumption
    simp [wIn, h]
  · go_ret
    refine ⟨ret_bool ?_, rfl⟩
    have : wIn n lo hi = false := wIn_false.2 (.inl (by assumption))
    rw [this]
/-- Whether a number's size is at most another one. -/
def szd (n m : Int) : Bool := wIn n (-m) m
theorem dSized_any (n m : Int) (w : World) (h1 : -9223372036854775807 ≤ m) (h2 : m ≤ 9223372036854775807) :
    Calls Tryz.prog 37 #[.int .i64 n, .int .i64 m] w fun e w' => e = .returned (.bool (szd n m)) ∧ w = w' := by
  go_enter Tryz.func37, Tryz.ntmps37
  go_wp2_with fail
  refine (dWithin_any n (-m) m _).mono ?_
  rintro e w1 ⟨rfl, rfl⟩
  go_wp2_with fail
  go_ret
  exact ⟨rfl, rfl⟩
def plc (n : Int) : Bool := szd n 10000
theorem dPlace_any (n : Int) (w : World) :
    Calls Tryz.prog 75 #[.int .i64 n] w fun e w' => e = .returned (.bool (plc n)) ∧ w = w' := by
  go_enter Tryz.func75, Tryz.ntmps75
  go_wp2_with fail
  refine (dSized_any n 10000 _ (by omega) (by omega)).mono ?_
  rintro e w1 ⟨rfl, rfl⟩
  go_wp2_with fail
  go_ret
  exact ⟨rfl, rfl⟩
def grd (n : Int) : Bool := szd n 100
theorem dGround_any (n : Int) (w : World) :
    Calls Tryz.prog 80 #[.int .i64 n] w fun e w' => e = .returned (.bool (grd n)) ∧ w = w' := by
  go_enter Tryz.func80, Tryz.ntmps80
  go_wp2_with fail
  refine (dSized_any n 100 _ (by omega) (by omega)).mono ?_
  rintro e w1 ⟨rfl, rfl⟩
  go_wp2_with fail
  go_ret
  exact ⟨rfl, rfl⟩

theorem dUnless_any (b : Bool) (x : Int) (w : World) :
    Calls Tryz.prog 32 #[.bool b, .int .i64 x] w fun e w' => e = .returned (.int .i64 (unlessE b x)) ∧ w = w' := by
  cases b
  · go_enter Tryz.func32, Tryz.ntmps32
    go_wp2
    go_ret
    exact ⟨rfl, rfl⟩
  · go_enter Tryz.func32, Tryz.ntmps32
    go_wp2
    go_ret
    exact ⟨rfl, rfl⟩

set_option maxRecDepth 100000 in
set_option maxHeartbeats 400000 in
theorem dFirst_any (a : Option Addr) (n c : Nat) (xs : List Int) (w : World) (h1 : SI w a n c xs) :
    Calls Tryz.prog 31 #[.slice a n c] w fun e w' => e = .returned (.int .i64 (firstE xs)) ∧ w = w' := by
  obtain ⟨l1, l2⟩ : n ≤ xs.length ∧ xs.length ≤ n := by have := h1.len; omega
  have m1 := h1.max
  have c1 := h1.cap
  go_enter Tryz.func31, Tryz.ntmps31
  go_wp2
  go_loop [7] (fun i => ∃ k : Nat, k ≤ n ∧ i = .int .i64 k ∧ firstE xs = firstE (xs.drop k)) (fun i => n - (intOf i).toNat)
  case atStart => exact ⟨0, by omega, rfl, rfl⟩
  case round =>
    obtain ⟨k, hk, rfl, ht⟩ := hrel
    have HT := Lib.hid ht
    clear ht
    by_cases hlt : k < n
    · obtain ⟨b1, o1, rfl, hc1⟩ := h1.at_ (by omega)
      have e1 := hc1 k hlt
      clear hc1
      have hd := firstE_drop xs k (by omega)
      have HD := Lib.hid hd
      clear hd
      have hi : (k : Int) < (n : Int) := by omega
      have hi0 : (0 : Int) ≤ (k : Int) := by omega
      go_wp2
      · have hne : (xs[k]?.getD 0 != 0) = true := by assumption
        go_ret
        refine ⟨ret_int ?_, rfl⟩
        rw [HT.out, HD.out, if_neg (by simpa using hne)]
      · have hne : (xs[k]?.getD 0 != 0) = false := by assumption
        go_round
        case rel => exact ⟨k + 1, by omega, by go_num, by rw [HT.out, HD.out, if_pos (by simpa using hne)]⟩
        case measure => simp [intOf]; omega
    · have hle : (n : Int) ≤ (k : Int) := by omega
      go_wp2
      go_ret
      refine ⟨ret_int ?_, rfl⟩
      rw [HT.out, List.drop_eq_nil_of_le (by omega)]
      rfl

set_option maxRecDepth 100000 in
set_option maxHeartbeats 400000 in
theorem dDivisor_any (a b : Int) (w : World) (ha1 : -9223372036854775807 ≤ a) (ha2 : a ≤ 9223372036854775807) (hb1 : -9223372036854775807 ≤ b) (hb2 : b ≤ 9223372036854775807) :
    Calls Tryz.prog 48 #[.int .i64 a, .int .i64 b] w fun e w' => e = .returned (.int .i64 (Int.gcd a b)) ∧ ∃ n, w' = w.drewN n := by
  go_enter Tryz.func48, Tryz.ntmps48
  go_wp2
  go_loopw [0, 1] (fun x y wr => ∃ p q : Int, x = .int .i64 p ∧ y = .int .i64 q ∧ Int.gcd p q = Int.gcd a b ∧ -9223372036854775807 ≤ p ∧ p ≤ 9223372036854775807 ∧ -9223372036854775807 ≤ q ∧ q ≤ 9223372036854775807 ∧ ∃ n, wr = w.drewN n) (fun _ y _ => (intOf y).natAbs)
  case atStart => exact ⟨a, b, rfl, rfl, rfl, ha1, ha2, hb1, hb2, 0, rfl⟩
  case round =>
    obtain ⟨p, q, rfl, rfl, hg, hp1, hp2, hq1, hq2, n, rfl⟩ := hrel
    have HG := Lib.hid hg
    clear hg
    by_cases hz : q = 0
    · subst hz
      by_cases hs : p < -p
      · go_wp2
        go_ret
        refine ⟨ret_int ?_, n, rfl⟩
        rw [← HG.out, Int.gcd_zero_right]
        omega
      · go_wp2
        go_ret
        refine ⟨ret_int ?_, n, rfl⟩
        rw [← HG.out, Int.gcd_zero_right]
        omega
    · have hne : (q != 0) = true := by simpa using hz
      have h1 := tmod_bd (a := p) hz hq1 hq2
      have h2 := tmod_lt (a := p) hz
      have hc : (q == 0) = false := by simpa using hz
      go_wp2_with fail
      refine Calmly.wp_region_mix 5 (.fl 0 <| .fl 1 <| .fl 2 <| .fl 3 <| .fl 4 <| .tail [5]) (by kernel_rfl) (by kernel_rfl) ?_
      go_wp2_with (first | ((with_reducible refine Calmly.is_fl ?_); refine Calmly.mix_fl rfl ?_ (fun _ _ => ?_); (first | exact .move _ | exact .load _ _ | exact .fieldAddr _ _ _ (by kernel_rfl) | exact .assign _ | exact .binOp _ _ _ _ _ rfl | exact .indexAddr _ _ _ | exact .len _ _ (by kernel_rfl) | exact .field _ _ _ | exact .extract _ _ | exact .pick _ _ _ | exact .build _ _ | exact .slice _ _ _ _ _ | exact .unOp _ _ _ rfl | exact .index _ _ _ | exact .max _ _ _ rfl rfl | exact .min _ _ _ rfl rfl | exact .nilCheck _ _ rfl)) | ((with_reducible refine Calmly.is_gl ?_); refine Calmly.mix_gl rfl rfl rfl ?_; first | ((first | with_reducible refine Calmly.gl_tt ?_ (fun _ _ => ?_) | with_reducible refine Calmly.gl_ff ?_ (fun _ _ => ?_)); (first | exact .move _ | exact .load _ _ | exact .fieldAddr _ _ _ (by kernel_rfl) | exact .assign _ | exact .binOp _ _ _ _ _ rfl | exact .indexAddr _ _ _ | exact .len _ _ (by kernel_rfl) | exact .field _ _ _ | exact .extract _ _ | exact .pick _ _ _ | exact .build _ _ | exact .slice _ _ _ _ _ | exact .unOp _ _ _ rfl | exact .index _ _ _ | exact .max _ _ _ rfl rfl | exact .min _ _ _ rfl rfl | exact .nilCheck _ _ rfl)) | with_reducible refine Calmly.gl_tf (fun _ _ => ?_) | with_reducible refine Calmly.gl_ft (fun _ _ => ?_)) | ((with_reducible refine Calmly.is_eff ?_); refine Calmly.mix_eff rfl (fun _ _ => ?_)) | ((with_reducible refine Calmly.is_gf ?_); refine Calmly.mix_gf rfl rfl rfl ?_; first | with_reducible refine Calmly.gf_tt (fun _ _ => ?_) | with_reducible refine Calmly.gf_ff (fun _ _ => ?_) | with_reducible refine Calmly.gf_tf (kept_of hk) (fun _ _ => ?_) | with_reducible refine Calmly.gf_ft (kept_of hk) (fun _ _ => ?_)) | ((with_reducible refine Calmly.is_tail ?_); first | refine Calmly.mix_tail_nil ?_ | refine Calmly.mix_tail rfl (fun _ _ => ?_)) | ((with_reducible refine Calmly.is_kept ?_); refine ⟨kept_of hk, ?_⟩) | (with_reducible refine Calmly.mix_alt ?_ ?_))
      go_roundw
      case rel => exact ⟨q, p.tmod q, rfl, rfl, by rw [gcd_step]; exact HG.out, hq1, hq2, h1.1, h1.2, n + 1, rfl⟩
      case measure => simpa [intOf] using h2

set_option maxHeartbeats 400000 in
theorem dFloor_any (n d : Int) (w : World) (hn1 : -9223372036854775807 ≤ n) (hn2 : n ≤ 9223372036854775807) (hd : 0 < d) (hd2 : d ≤ 9223372036854775807) :
    Calls Tryz.prog 98 #[.int .i64 n, .int .i64 d] w fun e w' => e = .returned (.int .i64 (n / d)) ∧ w = w' := by
  have hf := tdiv_floor n d hd
  have h0 : (d == 0) = false := by simp; omega
  have hb : (n.tdiv d).natAbs ≤ n.natAbs := by rw [Int.natAbs_tdiv]; exact Nat.div_le_self _ _
  have h5 : -d < n.tmod d ∧ n.tmod d < d := by
    have := tmod_lt (a := n) (show d ≠ 0 by omega)
    omega
  have hd1 : (d == -1) = false := by simp; omega
  by_cases hl : n.tmod d < 0
  · rw [if_pos hl] at hf
    have HF := Lib.hid hf
    clear hf
    go_enter Tryz.func98, Tryz.ntmps98
    go_wp2
    go_ret
    exact ⟨ret_int HF.out.symm, rfl⟩
  · rw [if_neg hl] at hf
    have HF := Lib.hid hf
    clear hf
    have hl' : (0 : Int) ≤ n.tmod d := by omega
    go_enter Tryz.func98, Tryz.ntmps98
    go_wp2
    go_ret
    exact ⟨ret_int HF.out.symm, rfl⟩
end Go.Proofs.YtaiikekgckjdeaaGreat

namespace Go.Calmly
theorem wpOps_list {P : Program} {ops : Array Oper} {Q : Exit → Act → World → Prop} (l : List Nat) : wpOps P ops Q l = wpList P ops Q (l.filterMap (fun i => ops[i]?)) := by
  induction l with
  | nil => funext a w; simp [wpOps, wpList]
  | cons i l ih =>
    funext a w
    cases h : ops[i]? with
    | none => simp only [wpOps, h, List.filterMap_cons, ih]
    | some o => simp only [wpOps, h, List.filterMap_cons, ih, wpList]
/-- The next operation of the tail is one that may have no room: an append. -/
theorem mix_tail_app {P : Program} {ops : Array Oper} {Q : Exit → Act → World → Prop} {w0 : World} {i : Nat} {l : List Nat} {dst : Option Tmp} {op : Op} {ty : TypeId} {pos : String} {after : Array Edge} {a : Act} {w : World} (hi : ops[i]? = some ⟨dst, op, ty, pos, after, none⟩)
    (h : ∀ rest, (∀ a' w', WpMix P ops Q w0 (.tail l) a' w' → wpList P ops Q rest a' w') → wpList P ops Q (⟨dst, op, ty, pos, after, none⟩ :: rest) a w) : WpMix P ops Q w0 (.tail (i :: l)) a w := by
  refine ⟨?_⟩
  show wpOps P ops Q (i :: l) a w
  rw [wpOps_list, List.filterMap_cons, hi]
  refine h _ fun a' w' hh => ?_
  have := hh.out
  rw [← wpOps_list]
  exact this
end Go.Calmly
namespace Go.Proofs.YtaiikekgckjdeaaGreat
open Go.RowKit
open Calmly (Kept)

/-- An append to a row of numbers, the world being that of the new number up to what is drawn. -/
theorem appIw {ops : Array Oper} {rest : List Oper} {o : Oper} {a : Act} {Q : Exit → Act → World → Prop} {Wx : World} (w0 : World) {B : Nat} {av : Option Addr} {n c : Nat} {xs : List Int} {v : Int}
    (hW : Wx = w0.alloc (.cells #[.int .i64 v] 3)) (hgd : o.guard = none) (s x : Operand)
    (ho : o.op = .call { callee := .builtin .append, args := #[s, x], argTypes := #[29, 29] })
    (hown : OwI w0 B av n c xs) (hs : a.eval s = .slice av n c) (hx : a.eval x = .slice (some ⟨w0.heap.size, 0, none⟩) 1 1)
    (hb1 : n + 1 ≤ 17592186044416) (hB : B ≤ w0.heap.size)
    (h : ∀ a' c' w', OwI w' B a' (n + 1) c' (xs ++ [v]) → Below B w0 w' → w0.heap.size < w'.heap.size → wpList Tryz.prog ops Q rest (a.put o.dst (.slice a' (n + 1) c')) w') :
    wpList Tryz.prog ops Q (o :: rest) a Wx := by
  subst hW
  exact appI hgd s x ho hown hs hx hb1 hB h
theorem gcd_mul_dvd (d a b x : Nat) : d ∣ Nat.gcd a b * x ↔ d ∣ a * x ∧ d ∣ b * x := by
  rw [← Nat.gcd_mul_right, Nat.dvd_gcd_iff]
theorem gcds_fold (l : List Int) (g d x : Nat) : d ∣ (l.foldl (fun g x => Int.gcd g x) g) * x ↔ d ∣ g * x ∧ ∀ p ∈ l, d ∣ p.natAbs * x := by
  induction l generalizing g with
  | nil => simp
  | cons p l ih =>
    rw [List.foldl_cons, ih]
    have : Int.gcd (g : Int) p = Nat.gcd g p.natAbs := by simp [Int.gcd]
    rw [this, gcd_mul_dvd]
    simp [and_assoc]
theorem gcds_dvd (l : List Int) (d x : Nat) : d ∣ gcds l * x ↔ ∀ p ∈ l, d ∣ p.natAbs * x := by
  unfold gcds
  rw [gcds_fold]
  simp
theorem gcds_dvd_mem {l : List Int} {p : Int} (h : p ∈ l) : ((gcds l : Nat) : Int) ∣ p := by
  have := (gcds_dvd l (gcds l) 1).1 (by simp) p h
  rw [Nat.mul_one] at this
  exact Int.natAbs_dvd_natAbs.1 (by simpa using this)
theorem gcds_pos {l : List Int} {p : Int} (h : p ∈ l) (hp : p ≠ 0) : 0 < gcds l := by
  rcases Nat.eq_zero_or_pos (gcds l) with h0 | h0
  · have := gcds_dvd_mem h
    rw [h0] at this
    simp at this
    exact absurd this hp
  · exact h0
end Go.Proofs.YtaiikekgckjdeaaGreat

namespace Go.Proofs.YtaiikekgckjdeaaGreat
open Go.RowKit
open Calmly (Kept)

/-! ### Rows of records of so many cells -/
theorem fm_len {α : Type} {enc : α → List Value} {k : Nat} (hk : ∀ x, (enc x).length = k) (l : List α) : (l.flatMap enc).length = l.length * k := by
  induction l with
  | nil => simp
  | cons p l ih => rw [List.flatMap_cons, List.length_append, hk, ih, List.length_cons, Nat.add_mul]; omega
theorem fm_get {α : Type} {enc : α → List Value} {k : Nat} (hk : ∀ x, (enc x).length = k) (l : List α) (d : α) (i : Nat) (h : i < l.length) (j : Nat) (hj : j < k) : (l.flatMap enc)[i * k + j]? = (enc (l[i]?.getD d))[j]? := by
  induction l generalizing i with
  | nil => simp at h
  | cons p l ih =>
    rw [List.flatMap_cons]
    cases i with
    | zero => rw [List.getElem?_append_left (by rw [hk]; omega)]; simp
    | succ i =>
      rw [List.getElem?_append_right (by rw [hk, Nat.add_mul]; omega), hk, show (i + 1) * k + j - k = i * k + j by rw [Nat.add_mul]; omega, ih i (by simpa using h)]
      simp
/-- The place of a row that has a record. -/
theorem Sl.recs {α : Type} {enc : α → List Value} {k : Nat} (hk : ∀ x, (enc x).length = k) (hk0 : 0 < k) (d : α) {w : World} {a : Option Addr} {n c : Nat} {l : List α} (h : Sl w k a n c (l.flatMap enc)) (hn : 0 < n) :
    ∃ b off, a = some ⟨b, off, none⟩ ∧ ∀ i, i < n → ∀ j, j < k → w.cell? ⟨b, off + i * k + j, none⟩ = (enc (l[i]?.getD d))[j]? := by
  obtain ⟨h1, h2, h3, h4⟩ := h
  rw [fm_len hk] at h1
  have hl : l.length = n := Nat.eq_of_mul_eq_mul_right hk0 h1
  rcases h4 with rfl | ⟨b, off, rfl, hc⟩
  · omega
  · refine ⟨b, off, rfl, fun i hi j hj => ?_⟩
    have hlt : i * k + j < n * k := by
      have := Nat.mul_le_mul_right k (show i + 1 ≤ n by omega)
      rw [Nat.add_mul] at this
      omega
    rw [show off + i * k + j = off + (i * k + j) by omega, hc (i * k + j) (by omega), fm_get hk l d i (by omega) j hj]
theorem Sl.recsLen {α : Type} {enc : α → List Value} {k : Nat} (hk : ∀ x, (enc x).length = k) (hk0 : 0 < k) {w : World} {a : Option Addr} {n c : Nat} {l : List α} (h : Sl w k a n c (l.flatMap enc)) : n = l.length := by
  have h1 := h.1
  rw [fm_len hk] at h1
  exact (Nat.eq_of_mul_eq_mul_right hk0 h1).symm

/-! ### Elements and slips -/
abbrev El := Int × Int × Bool
abbrev Sp := Int × Bool
def encE (x : El) : List Value := [.int .i64 x.1, .int .i64 x.2.1, .bool x.2.2]
def encS (x : Sp) : List Value := [.int .i64 x.1, .bool x.2]
def el0 : El := (0, 0, false)
def sp0 : Sp := (0, false)
theorem encE_len (x : El) : (encE x).length = 3 := rfl
theorem encS_len (x : Sp) : (encS x).length = 2 := rfl
/-- A slice of elements, one of slips. -/
def SEl (w : World) (a : Option Addr) (n c : Nat) (l : List El) : Prop := Sl w 3 a n c (l.flatMap encE)
def SSp (w : World) (a : Option Addr) (n c : Nat) (l : List Sp) : Prop := Sl w 2 a n c (l.flatMap encS)
theorem SEl.keep {w w' : World} {a : Option Addr} {n c : Nat} {l : List El} (h : SEl w a n c l) (hb : Below w.heap.size w w') : SEl w' a n c l := Sl.keep h hb
theorem SSp.keep {w w' : World} {a : Option Addr} {n c : Nat} {l : List Sp} (h : SSp w a n c l) (hb : Below w.heap.size w w') : SSp w' a n c l := Sl.keep h hb
theorem SEl.len {w : World} {a : Option Addr} {n c : Nat} {l : List El} (h : SEl w a n c l) : n = l.length := Sl.recsLen encE_len (by decide) h
theorem SSp.len {w : World} {a : Option Addr} {n c : Nat} {l : List Sp} (h : SSp w a n c l) : n = l.length := Sl.recsLen encS_len (by decide) h
theorem SEl.cap {w : World} {a : Option Addr} {n c : Nat} {l : List El} (h : SEl w a n c l) : n ≤ c := h.2.1
theorem SSp.cap {w : World} {a : Option Addr} {n c : Nat} {l : List Sp} (h : SSp w a n c l) : n ≤ c := h.2.1
theorem SEl.max {w : World} {a : Option Addr} {n c : Nat} {l : List El} (h : SEl w a n c l) : c ≤ 9223372036854775807 := h.2.2.1
theorem SSp.max {w : World} {a : Option Addr} {n c : Nat} {l : List Sp} (h : SSp w a n c l) : c ≤ 9223372036854775807 := h.2.2.1
theorem SEl.nil (w : World) : SEl w none 0 0 [] := Sl.nil w 3
theorem SSp.nil (w : World) : SSp w none 0 0 [] := Sl.nil w 2
theorem SEl.at_ {w : World} {a : Option Addr} {n c : Nat} {l : List El} (h : SEl w a n c l) (hn : 0 < n) :
    ∃ b off, a = some ⟨b, off, none⟩ ∧ ∀ i, i < n → w.cell? ⟨b, off + i * 3, none⟩ = some (.int .i64 (l[i]?.getD el0).1) ∧ w.cell? ⟨b, off + i * 3 + 1, none⟩ = some (.int .i64 (l[i]?.getD el0).2.1) ∧ w.cell? ⟨b, off + i * 3 + 2, none⟩ = some (.bool (l[i]?.getD el0).2.2) := by
  obtain ⟨b, off, ha, hc⟩ := Sl.recs encE_len (by decide) el0 h hn
  exact ⟨b, off, ha, fun i hi => ⟨hc i hi 0 (by omega), hc i hi 1 (by omega), hc i hi 2 (by omega)⟩⟩
theorem SSp.at_ {w : World} {a : Option Addr} {n c : Nat} {l : List Sp} (h : SSp w a n c l) (hn : 0 < n) :
    ∃ b off, a = some ⟨b, off, none⟩ ∧ ∀ i, i < n → w.cell? ⟨b, off + i * 2, none⟩ = some (.int .i64 (l[i]?.getD sp0).1) ∧ w.cell? ⟨b, off + i * 2 + 1, none⟩ = some (.bool (l[i]?.getD sp0).2) := by
  obtain ⟨b, off, ha, hc⟩ := Sl.recs encS_len (by decide) sp0 h hn
  exact ⟨b, off, ha, fun i hi => ⟨hc i hi 0 (by omega), hc i hi 1 (by omega)⟩⟩

theorem Tryz.info_el : (Tryz.prog.info? 110).map (fun i => (i.zero, i.size, i.bytes)) = some (some (.agg #[.int .i64 0, .int .i64 0, .bool false]), 3, 24) := by kernel_rfl
theorem Tryz.info_sp : (Tryz.prog.info? 75).map (fun i => (i.zero, i.size, i.bytes)) = some (some (.agg #[.int .i64 0, .bool false]), 2, 16) := by kernel_rfl
/-- Rows of elements and of slips of the call's own. -/
def OwE (w : World) (B : Nat) (a : Option Addr) (n c : Nat) (l : List El) : Prop := w.ownsRow B 110 3 (.slice a n c) n (l.flatMap encE)
def OwS (w : World) (B : Nat) (a : Option Addr) (n c : Nat) (l : List Sp) : Prop := w.ownsRow B 75 2 (.slice a n c) n (l.flatMap encS)
theorem OwE.nil (w : World) (B : Nat) : OwE w B none 0 0 [] := World.ownsRow_nil w B _ 3
theorem OwS.nil (w : World) (B : Nat) : OwS w B none 0 0 [] := World.ownsRow_nil w B _ 2
theorem OwE.se {w : World} {B : Nat} {a : Option Addr} {n c : Nat} {l : List El} (h : OwE w B a n c l) : SEl w a n c l := by
  obtain ⟨a', c', he, hs⟩ := Sl.of_owns h
  cases he
  exact hs
theorem OwS.ss {w : World} {B : Nat} {a : Option Addr} {n c : Nat} {l : List Sp} (h : OwS w B a n c l) : SSp w a n c l := by
  obtain ⟨a', c', he, hs⟩ := Sl.of_owns h
  cases he
  exact hs
theorem owns_keep {w w' : World} {B : Nat} {e : TypeId} {k : Nat} {v : Value} {n : Nat} {xs : List Value} (h : w.ownsRow B e k v n xs) (hb : Below w.heap.size w w') : w'.ownsRow B e k v n xs := by
  obtain ⟨h1, h2⟩ := h
  refine ⟨h1, ?_⟩
  rcases h2 with h2 | ⟨g, cap, cur, hv, hg, hh, r⟩
  · exact .inl h2
  · refine .inr ⟨g, cap, cur, hv, hg, ?_, r⟩
    rw [hb.block g (Array.getElem?_eq_some_iff.1 hh).1]
    exact hh
theorem OwE.keep {w w' : World} {B : Nat} {a : Option Addr} {n c : Nat} {l : List El} (h : OwE w B a n c l) (hb : Below w.heap.size w w') : OwE w' B a n c l := owns_keep h hb
theorem OwS.keep {w w' : World} {B : Nat} {a : Option Addr} {n c : Nat} {l : List Sp} (h : OwS w B a n c l) (hb : Below w.heap.size w w') : OwS w' B a n c l := owns_keep h hb
theorem owns_lower {w : World} {B B' n k : Nat} {v : Value} {e : TypeId} {xs : List Value} (h : w.ownsRow B e k v n xs) (hB : B' ≤ B) : w.ownsRow B' e k v n xs := by
  obtain ⟨k1, k2⟩ := h
  refine ⟨k1, ?_⟩
  rcases k2 with k2 | ⟨g', cap, cur, hv, hg, r'⟩
  · exact .inl k2
  · exact .inr ⟨g', cap, cur, hv, Nat.le_trans hB hg, r'⟩
/-- A row of the call's own, when only a block below it was written. -/
theorem owns_apart {w w' : World} {B r n k : Nat} {v : Value} {e : TypeId} {xs : List Value} (h : w.ownsRow B e k v n xs) (ho : ∀ b, b ≠ r → w'.heap[b]? = w.heap[b]?) (hr : r < B) : w'.ownsRow B e k v n xs := by
  obtain ⟨h1, h2⟩ := h
  refine ⟨h1, ?_⟩
  rcases h2 with h2 | ⟨g, cap, cur, hv, hg, hh, r'⟩
  · exact .inl h2
  · exact .inr ⟨g, cap, cur, hv, hg, (ho g (by omega)).trans hh, r'⟩
theorem oneCell_E (l : List El) : ∀ u ∈ l.flatMap encE, u.oneCell' = true := by
  intro u hu
  obtain ⟨p, _, hp⟩ := List.mem_flatMap.1 hu
  simp only [encE, List.mem_cons, List.not_mem_nil, or_false] at hp
  rcases hp with rfl | rfl | rfl <;> rfl
theorem oneCell_S (l : List Sp) : ∀ u ∈ l.flatMap encS, u.oneCell' = true := by
  intro u hu
  obtain ⟨p, _, hp⟩ := List.mem_flatMap.1 hu
  simp only [encS, List.mem_cons, List.not_mem_nil, or_false] at hp
  rcases hp with rfl | rfl <;> rfl
/-- An append of a slip. -/
theorem appS1 {ops : Array Oper} {rest : List Oper} {o : Oper} {a : Act} {Q : Exit → Act → World → Prop} {Wx : World} (w0 : World) {B : Nat} {av : Option Addr} {n c : Nat} {l : List Sp} {x : Int} {y : Bool} (hW : Wx = w0.alloc (.cells #[.int .i64 x, .bool y] 75)) (hgd : o.guard = none) (s x' : Operand)
    (ho : o.op = .call { callee := .builtin .append, args := #[s, x'], argTypes := #[55, 55] })
    (hown : OwS w0 B av n c l) (hs : a.eval s = .slice av n c) (hx : a.eval x' = .slice (some ⟨w0.heap.size, 0, none⟩) 1 1)
    (hb1 : n + 1 ≤ 1099511627776) (hB : B ≤ w0.heap.size)
    (h : ∀ a' c' w', OwS w' B a' (n + 1) c' (l ++ [(x, y)]) → Below B w0 w' → w0.heap.size < w'.heap.size → wpList Tryz.prog ops Q rest (a.put o.dst (.slice a' (n + 1) c')) w') :
    wpList Tryz.prog ops Q (o :: rest) a Wx := by
  subst hW
  obtain ⟨i0, hi, hz0, hz1, hz2⟩ := info_parts Tryz.info_sp
  refine app1 hgd s x' _ ho B _ i0 (.agg #[.int .i64 0, .bool false]) 2 16 Tryz.underlying55 hi hz0 hz1 hz2 rfl (by decide) av n c _ hown #[.int .i64 x, .bool y] hs hx rfl (by simp [Value.oneCell']) (by omega) (by omega) hB ?_
  intro a' c' w1 h1 h2 h3
  exact h a' c' w1 (by unfold OwS; rw [List.flatMap_append]; exact h1) h2 h3
/-- Copies: 'append([]T{}, l...)'. -/
theorem copyE {ops : Array Oper} {rest : List Oper} {o : Oper} {a : Act} {Q : Exit → Act → World → Prop} {Wx : World} (w0 : World) {lv : Option Addr} {m lc : Nat} {l : List El} (hW : Wx = w0.alloc (.cells #[] 110)) (hgd : o.guard = none) (s x : Operand)
    (ho : o.op = .call { callee := .builtin .append, args := #[s, x], argTypes := #[60, 60] })
    (hl : SEl w0 lv m lc l) (hs : a.eval s = .slice (some ⟨w0.heap.size, 0, none⟩) 0 0) (hx : a.eval x = .slice lv m lc) (hb1 : m ≤ 1099511627776)
    (h : ∀ a' c' w', OwE w' w0.heap.size a' m c' l → Below w0.heap.size w0 w' → wpList Tryz.prog ops Q rest (a.put o.dst (.slice a' m c')) w') :
    wpList Tryz.prog ops Q (o :: rest) a Wx := by
  subst hW
  have hA : Below w0.heap.size w0 (w0.alloc (.cells #[] 110)) := (Below.refl _ _).alloc (Nat.le_refl _) _
  obtain ⟨i0, hi, hz0, hz1, hz2⟩ := info_parts Tryz.info_el
  refine appS hgd s x _ ho w0.heap.size _ i0 _ 3 24 Tryz.underlying60 hi hz0 hz1 hz2 rfl (by decide) _ 0 0 [] ⟨by simp, .inr ⟨w0.heap.size, 0, #[], rfl, Nat.le_refl _, alloc_new _ _, by simp, by simp, by simp, by simp⟩⟩ lv m lc _ (Sl.keep hl hA) (oneCell_E l) hs hx (by omega) (by omega) (by simp) ?_
  intro a' c' w1 h1 h2
  rw [Nat.zero_add] at h1 ⊢
  exact h a' c' w1 (by unfold OwE; simpa using h1) (hA.trans h2)
theorem copyS {ops : Array Oper} {rest : List Oper} {o : Oper} {a : Act} {Q : Exit → Act → World → Prop} {Wx : World} (w0 : World) {lv : Option Addr} {m lc : Nat} {l : List Sp} (hW : Wx = w0.alloc (.cells #[] 75)) (hgd : o.guard = none) (s x : Operand)
    (ho : o.op = .call { callee := .builtin .append, args := #[s, x], argTypes := #[55, 55] })
    (hl : SSp w0 lv m lc l) (hs : a.eval s = .slice (some ⟨w0.heap.size, 0, none⟩) 0 0) (hx : a.eval x = .slice lv m lc) (hb1 : m ≤ 1099511627776)
    (h : ∀ a' c' w', OwS w' w0.heap.size a' m c' l → Below w0.heap.size w0 w' → wpList Tryz.prog ops Q rest (a.put o.dst (.slice a' m c')) w') :
    wpList Tryz.prog ops Q (o :: rest) a Wx := by
  subst hW
  have hA : Below w0.heap.size w0 (w0.alloc (.cells #[] 75)) := (Below.refl _ _).alloc (Nat.le_refl _) _
  obtain ⟨i0, hi, hz0, hz1, hz2⟩ := info_parts Tryz.info_sp
  refine appS hgd s x _ ho w0.heap.size _ i0 _ 2 16 Tryz.underlying55 hi hz0 hz1 hz2 rfl (by decide) _ 0 0 [] ⟨by simp, .inr ⟨w0.heap.size, 0, #[], rfl, Nat.le_refl _, alloc_new _ _, by simp, by simp, by simp, by simp⟩⟩ lv m lc _ (Sl.keep hl hA) (oneCell_S l) hs hx (by omega) (by omega) (by simp) ?_
  intro a' c' w1 h1 h2
  rw [Nat.zero_add] at h1 ⊢
  exact h a' c' w1 (by unfold OwS; simpa using h1) (hA.trans h2)
/-- 'make([]ModelSlip, n)'. -/
theorem makeS {ops : Array Oper} {rest : List Oper} {o : Oper} {a : Act} {Q : Exit → Act → World → Prop} {w : World} {L : Int} {n : Nat} (hg : o.guard = none) (l c : Operand)
    (hop : o.op = Op.makeSlice 55 l c) (hl : a.eval l = .int .i64 L) (hc : a.eval c = .int .i64 L) (hL : L = (n : Int)) (hn : n ≤ 1099511627776)
    (hK : ∀ w', OwS w' w.heap.size (some ⟨w.heap.size, 0, none⟩) n n (List.replicate n sp0) → Below w.heap.size w w' → w.heap.size < w'.heap.size → wpList Tryz.prog ops Q rest (a.put o.dst (.slice (some ⟨w.heap.size, 0, none⟩) n n)) w') :
    wpList Tryz.prog ops Q (o :: rest) a w := by
  obtain ⟨i0, hi, hz0, hz1, hz2⟩ := info_parts Tryz.info_sp
  refine wpList_make_full w hg l c _ hop w.heap.size _ i0 (.agg #[.int .i64 0, .bool false]) 2 Tryz.underlying55 hi hz0 hz1 .i64 .i64 L L n hl hc hL hL (by rw [hz2]; omega) (by unfold maxLen; omega) (Nat.le_refl _) ?_
  intro w' ho hgr
  have e : (madeCells (Value.agg #[Value.int IntKind.i64 0, Value.bool false]).cells (n * 2)).toList = (List.replicate n sp0).flatMap encS := by
    refine List.ext_getElem? fun j => ?_
    rw [show (Value.agg #[Value.int IntKind.i64 0, Value.bool false]).cells = #[Value.int .i64 0, .bool false] from rfl]
    by_cases hj : j < n * 2
    · have hd : j = (j / 2) * 2 + j % 2 := by omega
      rw [hd, fm_get encS_len _ sp0 (j / 2) (by rw [List.length_replicate]; omega) (j % 2) (by omega)]
      have hr : (List.replicate n sp0)[j / 2]?.getD sp0 = sp0 := by
        rw [List.getElem?_replicate]
        split <;> rfl
      rw [hr, ← hd]
      rcases (by omega : j % 2 = 0 ∨ j % 2 = 1) with h | h <;> simp [madeCells, hj, h, encS, sp0]
    · rw [List.getElem?_eq_none (by simp [madeCells]; omega), List.getElem?_eq_none (by rw [fm_len encS_len, List.length_replicate]; omega)]
  have h1 : OwS w' w.heap.size (some ⟨w.heap.size, 0, none⟩) n n (List.replicate n sp0) := by
    unfold OwS
    rw [← e]
    exact ho
  exact hK w' h1 (grown_below hgr (Nat.le_refl _) (fun k hk => by cases hk)) (World.ownsRow.lt h1 _ rfl).2
end Go.Proofs.YtaiikekgckjdeaaGreat

namespace Go.Calmly
theorem wp_region_mix_at {P : Program} {Q : Exit → Act → World → Prop} {id : Nat} {a : Act} {w : World} {l : List Oper} (w0 : World) (hk : Kept w0 w) (n : Nat) (p : Plan) (hm : P.follows .mixedOrders = true)
    (hB : (Region.noSelect l.toArray && tailOk l.toArray .any n && planOk l.toArray .any n p l.toArray.size (Array.replicate l.toArray.size false) []) = true)
    (h : WpMix P l.toArray Q w0 p a w.drew) : (Code.region id l.toArray true).wp P Q a w := by
  simp only [Bool.and_eq_true] at hB
  obtain ⟨⟨h1, h2⟩, h3⟩ := hB
  have hk' : Kept w0 w.drew := ⟨hk.size, hk.block⟩
  exact wp_region_any hm (any_of_anyT _ _ _ _ ((mix_sound h1 h2 p _ _ [] a _ (closed_start _) h3 hk' h.out).1 rfl))
end Go.Calmly

namespace Go.Proofs.YtaiikekgckjdeaaGreat
open Go.RowKit
open Calmly (Kept)

theorem setBlk {W : World} {b : Nat} {cs : Array Value} {t : TypeId} (h : W.heap[b]? = some (.cells cs t)) (i : Nat) (v : Value) : (W.setCell ⟨b, i, none⟩ v).heap[b]? = some (.cells (cs.setIfInBounds i v) t) := by
  simp [World.setCell, Array.getElem?_modify, h]
theorem sameCell {w w' : World} {b : Nat} (h : w'.heap[b]? = w.heap[b]?) (o : Nat) : w'.cell? ⟨b, o, none⟩ = w.cell? ⟨b, o, none⟩ := by simp [World.cell?, h]
/-- An element with its slip and the position of its spring. -/
def elV (k y : Int) (b : Bool) (s : Int) (br : Bool) (at' : Int) : Value := .agg #[.int .i64 k, .int .i64 y, .bool b, .int .i64 s, .bool br, .int .i64 at']
/-- Bounds of an element in a hold. -/
structure ElB (k y s at' : Int) : Prop where
  k : 0 ≤ k ∧ k ≤ 1000
  y : 0 ≤ y ∧ y ≤ 1000
  s : -10000 ≤ s ∧ s ≤ 10000
  a : -40000 ≤ at' ∧ at' ≤ 40000
def wgt (k : Int) (br : Bool) : Int := if br then 0 else k
def frcE (k s : Int) (br : Bool) (at' : Int) : Int := wgt k br * (at' - s)
def enrE (k s : Int) (br : Bool) (at' : Int) : Int := wgt k br * (at' - s) * (at' - s)
theorem mul_abs {a x A C : Int} (h1 : -A ≤ a) (h2 : a ≤ A) (h3 : -C ≤ x) (h4 : x ≤ C) : -(A * C) ≤ a * x ∧ a * x ≤ A * C := by
  have hA : 0 ≤ A := by omega
  have hC : 0 ≤ C := by omega
  have h5 : (a * x).natAbs ≤ A.natAbs * C.natAbs := by
    rw [Int.natAbs_mul]
    exact Nat.mul_le_mul (by omega) (by omega)
  have h6 : ((A.natAbs * C.natAbs : Nat) : Int) = A * C := by rw [Int.natCast_mul]; congr 1 <;> omega
  omega
theorem wgt_bd {k : Int} {br : Bool} (h : 0 ≤ k ∧ k ≤ 1000) : 0 ≤ wgt k br ∧ wgt k br ≤ 1000 := by
  unfold wgt
  split <;> omega
theorem frc_bd {k y s at' : Int} {br : Bool} (h : ElB k y s at') : -50000000 ≤ frcE k s br at' ∧ frcE k s br at' ≤ 50000000 := by
  have h1 := wgt_bd (br := br) h.k
  have h2 := h.s
  have h3 := h.a
  have := mul_abs (a := wgt k br) (x := at' - s) (A := 1000) (C := 50000) (by omega) (by omega) (by omega) (by omega)
  unfold frcE
  omega
theorem enr_bd {k y s at' : Int} {br : Bool} (h : ElB k y s at') : -2500000000000 ≤ enrE k s br at' ∧ enrE k s br at' ≤ 2500000000000 := by
  have h1 := frc_bd (br := br) h
  have h2 := h.s
  have h3 := h.a
  have := mul_abs (a := frcE k s br at') (x := at' - s) (A := 50000000) (C := 50000) (by omega) (by omega) (by omega) (by omega)
  unfold enrE
  unfold frcE at this
  omega

set_option maxRecDepth 100000 in
set_option maxHeartbeats 400000 in
theorem stretch_any (k y : Int) (b : Bool) (s : Int) (br : Bool) (at' : Int) (w : World) (h : ElB k y s at') :
    Calls Tryz.prog 93 #[elV k y b s br at'] w fun e w' => e = .returned (.int .i64 (at' - s)) ∧ Below w.heap.size w w' := by
  have BW : Below w.heap.size w (w.alloc (.cells #[.int .i64 k, .int .i64 y, .bool b, .int .i64 s, .bool br, .int .i64 at'] 138)) := (Below.refl _ _).alloc (Nat.le_refl _) _
  have hs := h.s
  have ha := h.a
  unfold elV
  go_enter Tryz.func93, Tryz.ntmps93
  go_wp2
  go_ret
  exact ⟨rfl, BW⟩
set_option maxRecDepth 100000 in
set_option maxHeartbeats 400000 in
theorem weight_any (k y : Int) (b : Bool) (s : Int) (br : Bool) (at' : Int) (w : World) :
    Calls Tryz.prog 107 #[elV k y b s br at'] w fun e w' => e = .returned (.int .i64 (wgt k br)) ∧ Below w.heap.size w w' := by
  have BW : Below w.heap.size w (w.alloc (.cells #[.int .i64 k, .int .i64 y, .bool b, .int .i64 s, .bool br, .int .i64 at'] 138)) := (Below.refl _ _).alloc (Nat.le_refl _) _
  unfold elV
  cases br
  · go_enter Tryz.func107, Tryz.ntmps107
    go_wp2
    go_ret
    exact ⟨rfl, BW⟩
  · go_enter Tryz.func107, Tryz.ntmps107
    go_wp2
    go_ret
    exact ⟨rfl, BW⟩

set_option maxRecDepth 100000 in
set_option maxHeartbeats 800000 in
theorem force_any (k y : Int) (b : Bool) (s : Int) (br : Bool) (at' : Int) (w : World) (h : ElB k y s at') :
    Calls Tryz.prog 97 #[elV k y b s br at'] w fun e w' => e = .returned (.int .i64 (frcE k s br at')) ∧ Below w.heap.size w w' := by
  have BW : Below w.heap.size w (w.alloc (.cells #[.int .i64 k, .int .i64 y, .bool b, .int .i64 s, .bool br, .int .i64 at'] 138)) := (Below.refl _ _).alloc (Nat.le_refl _) _
  have y0 := alloc_new w (.cells #[.int .i64 k, .int .i64 y, .bool b, .int .i64 s, .bool br, .int .i64 at'] 138)
  have c0 := cell_block y0 0
  have c1 := cell_block y0 1
  have c2 := cell_block y0 2
  have c3 := cell_block y0 3
  have c4 := cell_block y0 4
  have c5 := cell_block y0 5
  have hf := frc_bd (br := br) h
  have hF : wgt k br * (at' - s) = frcE k s br at' := rfl
  unfold elV
  go_enter Tryz.func97, Tryz.ntmps97
  go_wp2_with fail
  generalize w.alloc (.cells #[.int .i64 k, .int .i64 y, .bool b, .int .i64 s, .bool br, .int .i64 at'] 138) = W at *
  refine Calmly.wp_region_mix 4 (.fl 0 <| .fl 2 <| .eff 1 <| .eff 3 <| .tail [4, 5]) (by kernel_rfl) (by kernel_rfl) ?_
  replace c0 := cell_keep c0 (Below.refl _ _).drew
  replace c1 := cell_keep c1 (Below.refl _ _).drew
  replace c2 := cell_keep c2 (Below.refl _ _).drew
  replace c3 := cell_keep c3 (Below.refl _ _).drew
  replace c4 := cell_keep c4 (Below.refl _ _).drew
  replace c5 := cell_keep c5 (Below.refl _ _).drew
  replace BW := BW.drew
  generalize W.drew = V at *
  have hk := Below.refl V.heap.size V
  go_wp2_with (first | ((with_reducible refine Calmly.is_fl ?_); refine Calmly.mix_fl rfl ?_ (fun _ _ => ?_); (first | exact .move _ | exact .load _ _ | exact .fieldAddr _ _ _ (by kernel_rfl) | exact .assign _ | exact .binOp _ _ _ _ _ rfl | exact .indexAddr _ _ _ | exact .len _ _ (by kernel_rfl) | exact .field _ _ _ | exact .extract _ _ | exact .pick _ _ _ | exact .build _ _ | exact .slice _ _ _ _ _ | exact .unOp _ _ _ rfl | exact .index _ _ _ | exact .max _ _ _ rfl rfl | exact .min _ _ _ rfl rfl | exact .nilCheck _ _ rfl)) | ((with_reducible refine Calmly.is_gl ?_); refine Calmly.mix_gl rfl rfl rfl ?_; first | ((first | with_reducible refine Calmly.gl_tt ?_ (fun _ _ => ?_) | with_reducible refine Calmly.gl_ff ?_ (fun _ _ => ?_)); (first | exact .move _ | exact .load _ _ | exact .fieldAddr _ _ _ (by kernel_rfl) | exact .assign _ | exact .binOp _ _ _ _ _ rfl | exact .indexAddr _ _ _ | exact .len _ _ (by kernel_rfl) | exact .field _ _ _ | exact .extract _ _ | exact .pick _ _ _ | exact .build _ _ | exact .slice _ _ _ _ _ | exact .unOp _ _ _ rfl | exact .index _ _ _ | exact .max _ _ _ rfl rfl | exact .min _ _ _ rfl rfl | exact .nilCheck _ _ rfl)) | with_reducible refine Calmly.gl_tf (fun _ _ => ?_) | with_reducible refine Calmly.gl_ft (fun _ _ => ?_)) | ((with_reducible refine Calmly.is_eff ?_); refine Calmly.mix_eff rfl (fun _ _ => ?_)) | ((with_reducible refine Calmly.is_gf ?_); refine Calmly.mix_gf rfl rfl rfl ?_; first | with_reducible refine Calmly.gf_tt (fun _ _ => ?_) | with_reducible refine Calmly.gf_ff (fun _ _ => ?_) | with_reducible refine Calmly.gf_tf (kept_of hk) (fun _ _ => ?_) | with_reducible refine Calmly.gf_ft (kept_of hk) (fun _ _ => ?_)) | ((with_reducible refine Calmly.is_tail ?_); first | refine Calmly.mix_tail_nil ?_ | refine Calmly.mix_tail rfl (fun _ _ => ?_)) | ((with_reducible refine Calmly.is_kept ?_); refine ⟨kept_of hk, ?_⟩) | (with_reducible refine Calmly.mix_alt ?_ ?_))
  refine (weight_any k y b s br at' _).mono ?_
  rintro e u1 ⟨rfl, hs⟩
  replace hk := step_of hk hs
  clear hs
  go_wp2_with (first | ((with_reducible refine Calmly.is_fl ?_); refine Calmly.mix_fl rfl ?_ (fun _ _ => ?_); (first | exact .move _ | exact .load _ _ | exact .fieldAddr _ _ _ (by kernel_rfl) | exact .assign _ | exact .binOp _ _ _ _ _ rfl | exact .indexAddr _ _ _ | exact .len _ _ (by kernel_rfl) | exact .field _ _ _ | exact .extract _ _ | exact .pick _ _ _ | exact .build _ _ | exact .slice _ _ _ _ _ | exact .unOp _ _ _ rfl | exact .index _ _ _ | exact .max _ _ _ rfl rfl | exact .min _ _ _ rfl rfl | exact .nilCheck _ _ rfl)) | ((with_reducible refine Calmly.is_gl ?_); refine Calmly.mix_gl rfl rfl rfl ?_; first | ((first | with_reducible refine Calmly.gl_tt ?_ (fun _ _ => ?_) | with_reducible refine Calmly.gl_ff ?_ (fun _ _ => ?_)); (first | exact .move _ | exact .load _ _ | exact .fieldAddr _ _ _ (by kernel_rfl) | exact .assign _ | exact .binOp _ _ _ _ _ rfl | exact .indexAddr _ _ _ | exact .len _ _ (by kernel_rfl) | exact .field _ _ _ | exact .extract _ _ | exact .pick _ _ _ | exact .build _ _ | exact .slice _ _ _ _ _ | exact .unOp _ _ _ rfl | exact .index _ _ _ | exact .max _ _ _ rfl rfl | exact .min _ _ _ rfl rfl | exact .nilCheck _ _ rfl)) | with_reducible refine Calmly.gl_tf (fun _ _ => ?_) | with_reducible refine Calmly.gl_ft (fun _ _ => ?_)) | ((with_reducible refine Calmly.is_eff ?_); refine Calmly.mix_eff rfl (fun _ _ => ?_)) | ((with_reducible refine Calmly.is_gf ?_); refine Calmly.mix_gf rfl rfl rfl ?_; first | with_reducible refine Calmly.gf_tt (fun _ _ => ?_) | with_reducible refine Calmly.gf_ff (fun _ _ => ?_) | with_reducible refine Calmly.gf_tf (kept_of hk) (fun _ _ => ?_) | with_reducible refine Calmly.gf_ft (kept_of hk) (fun _ _ => ?_)) | ((with_reducible refine Calmly.is_tail ?_); first | refine Calmly.mix_tail_nil ?_ | refine Calmly.mix_tail rfl (fun _ _ => ?_)) | ((with_reducible refine Calmly.is_kept ?_); refine ⟨kept_of hk, ?_⟩) | (with_reducible refine Calmly.mix_alt ?_ ?_))
  refine (stretch_any k y b s br at' _ h).mono ?_
  rintro e u2 ⟨rfl, hs⟩
  replace hk := step_of hk hs
  clear hs
  have hm : -9223372036854775808 ≤ wgt k br * (at' - s) ∧ wgt k br * (at' - s) ≤ 9223372036854775807 := by rw [hF]; omega
  go_wp2_with (first | ((with_reducible refine Calmly.is_fl ?_); refine Calmly.mix_fl rfl ?_ (fun _ _ => ?_); (first | exact .move _ | exact .load _ _ | exact .fieldAddr _ _ _ (by kernel_rfl) | exact .assign _ | exact .binOp _ _ _ _ _ rfl | exact .indexAddr _ _ _ | exact .len _ _ (by kernel_rfl) | exact .field _ _ _ | exact .extract _ _ | exact .pick _ _ _ | exact .build _ _ | exact .slice _ _ _ _ _ | exact .unOp _ _ _ rfl | exact .index _ _ _ | exact .max _ _ _ rfl rfl | exact .min _ _ _ rfl rfl | exact .nilCheck _ _ rfl)) | ((with_reducible refine Calmly.is_gl ?_); refine Calmly.mix_gl rfl rfl rfl ?_; first | ((first | with_reducible refine Calmly.gl_tt ?_ (fun _ _ => ?_) | with_reducible refine Calmly.gl_ff ?_ (fun _ _ => ?_)); (first | exact .move _ | exact .load _ _ | exact .fieldAddr _ _ _ (by kernel_rfl) | exact .assign _ | exact .binOp _ _ _ _ _ rfl | exact .indexAddr _ _ _ | exact .len _ _ (by kernel_rfl) | exact .field _ _ _ | exact .extract _ _ | exact .pick _ _ _ | exact .build _ _ | exact .slice _ _ _ _ _ | exact .unOp _ _ _ rfl | exact .index _ _ _ | exact .max _ _ _ rfl rfl | exact .min _ _ _ rfl rfl | exact .nilCheck _ _ rfl)) | with_reducible refine Calmly.gl_tf (fun _ _ => ?_) | with_reducible refine Calmly.gl_ft (fun _ _ => ?_)) | ((with_reducible refine Calmly.is_eff ?_); refine Calmly.mix_eff rfl (fun _ _ => ?_)) | ((with_reducible refine Calmly.is_gf ?_); refine Calmly.mix_gf rfl rfl rfl ?_; first | with_reducible refine Calmly.gf_tt (fun _ _ => ?_) | with_reducible refine Calmly.gf_ff (fun _ _ => ?_) | with_reducible refine Calmly.gf_tf (kept_of hk) (fun _ _ => ?_) | with_reducible refine Calmly.gf_ft (kept_of hk) (fun _ _ => ?_)) | ((with_reducible refine Calmly.is_tail ?_); first | refine Calmly.mix_tail_nil ?_ | refine Calmly.mix_tail rfl (fun _ _ => ?_)) | ((with_reducible refine Calmly.is_kept ?_); refine ⟨kept_of hk, ?_⟩) | (with_reducible refine Calmly.mix_alt ?_ ?_))
  go_ret
  exact ⟨rfl, BW.trans (hk.mono BW.size)⟩
end Go.Proofs.YtaiikekgckjdeaaGreat
