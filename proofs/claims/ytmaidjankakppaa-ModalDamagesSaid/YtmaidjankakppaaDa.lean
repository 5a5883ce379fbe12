/- Contracts of chapter 6: the error of a decay. -/
import Derived.Test.YtmaidjankakppaaMi
namespace Go.Proofs.Ytmaidjankakppaa
open Go.RowKit
open Calmly (Kept)

/-- A sample that is too great. -/
def odd1 (x : Int) : Bool := !wIn x (-10000) 10000

set_option maxHeartbeats 400000 in
theorem oddFn_any (x : Int) (w : World) : Calls Try.prog 151 #[.int .i64 x] w fun e w' => e = .returned (.bool (odd1 x)) ∧ w = w' := by
  go_enter Try.func151, Try.ntmps151
  go_wp2_with fail
  refine (isSized_any x 10000 _ (by omega) (by omega)).mono ?_
  rintro e w1 ⟨rfl, rfl⟩
  go_wp2_with fail
  go_ret
  exact ⟨rfl, rfl⟩

set_option maxRecDepth 100000 in
set_option maxHeartbeats 1000000 in
theorem indexOdd_any (a : Option Addr) (n c : Nat) (xs : List Int) (w : World) (h1 : SI w a n c xs) :
    Calls Try.prog 143 #[.slice a n c, .func (.func 151) #[] #[]] w fun e w' => (∃ i : Int, e = .returned (.int .i64 i) ∧ decide (0 ≤ i) = xs.any odd1) ∧ w = w' := by
  obtain ⟨l1, l2⟩ : n ≤ xs.length ∧ xs.length ≤ n := by have := h1.len; omega
  have m1 := h1.max
  have c1 := h1.cap
  go_enter Try.func143, Try.ntmps143
  go_wp2_with fail
  go_loop [8] (fun i => ∃ k : Nat, k ≤ n ∧ i = .int .i64 k ∧ ∀ j, j < k → odd1 (xs[j]?.getD 0) = false) (fun i => n - (intOf i).toNat)
  case atStart => exact ⟨0, by omega, rfl, fun j hj => by omega⟩
  case round =>
    obtain ⟨k, hk, rfl, ht⟩ := hrel
    have HT := Lib.hid ht
    clear ht
    by_cases hlt : k < n
    · obtain ⟨b1, o1, rfl, hc1⟩ := h1.at_ (by omega)
      have e1 := hc1 k hlt
      clear hc1
      have hi : (k : Int) < (n : Int) := by omega
      have hi0 : (0 : Int) ≤ (k : Int) := by omega
      have hx : xs[k]? = some (xs[k]?.getD 0) := by
        have : k < xs.length := by omega
        simp [this]
      have HX := Lib.hid hx
      clear hx
      obtain ⟨x, hxx⟩ : ∃ x, xs[k]?.getD 0 = x := ⟨_, rfl⟩
      rw [hxx] at e1 HX
      have HXX := Lib.hid hxx
      clear hxx
      go_wp2_with fail
      refine (oddFn_any _ _).mono ?_
      rintro e w1 ⟨rfl, rfl⟩
      cases ho : odd1 x
      · go_wp2_with fail
        go_round
        case rel => exact ⟨k + 1, by omega, by go_num, fun j hj => if h : j = k then by subst h; rw [HXX.out]; exact ho else HT.out j (by omega)⟩
        case measure => simp [intOf]; omega
      · go_wp2_with fail
        go_ret
        refine ⟨⟨k, rfl, ?_⟩, rfl⟩
        have : xs.any odd1 = true := List.any_eq_true.2 ⟨x, List.mem_of_getElem? HX.out, ho⟩
        rw [this]
        simp
    · have hle : (n : Int) ≤ (k : Int) := by omega
      go_wp2_with fail
      go_ret
      refine ⟨⟨-1, rfl, ?_⟩, rfl⟩
      have : xs.any odd1 = false := by
        rw [List.any_eq_false]
        intro x hx
        obtain ⟨j, hj, rfl⟩ := List.mem_iff_getElem.1 hx
        have := HT.out j (by omega)
        simp [hj] at this
        simp [this]
      rw [this]
      rfl

set_option maxRecDepth 100000 in
set_option maxHeartbeats 1000000 in
theorem containsOdd_any (a : Option Addr) (n c : Nat) (xs : List Int) (w : World) (h1 : SI w a n c xs) :
    Calls Try.prog 118 #[.slice a n c, .func (.func 151) #[] #[]] w fun e w' => e = .returned (.bool (xs.any odd1)) ∧ w = w' := by
  go_enter Try.func118, Try.ntmps118
  go_wp2_with fail
  refine (indexOdd_any a n c xs _ h1).mono ?_
  rintro e w1 ⟨⟨i, rfl, hi⟩, rfl⟩
  have HI := Lib.hid hi
  clear hi
  go_wp2_with fail
  go_ret
  exact ⟨ret_bool HI.out, rfl⟩

/-- The error of a decay. -/
def decayE (xs : List Int) (off : Int) : Int := firstE [unlessE (decide (0 < xs.length)) 10, unlessE (decide ((xs.length : Int) ≤ 60)) 8, unlessE (!xs.any odd1) 2, unlessE (wIn off 0 10000) 2]

set_option maxRecDepth 100000 in
set_option maxHeartbeats 1000000 in
theorem decayErr_any (a : Option Addr) (n c : Nat) (xs : List Int) (off : Int) (w : World) (h1 : SI w a n c xs) :
    Calls Try.prog 141 #[.agg #[.slice a n c, .int .i64 off]] w fun e w' => e = .returned (.int .i64 (decayE xs off)) ∧ Below w.heap.size w w' := by
  obtain ⟨l1, l2⟩ : n ≤ xs.length ∧ xs.length ≤ n := by have := h1.len; omega
  have hb : ∀ o, Below w.heap.size w (w.alloc o) := fun o => (Below.refl _ _).alloc (Nat.le_refl _) _
  go_enter Try.func141, Try.ntmps141
  go_wp2_with fail
  refine (containsOdd_any a n c xs _ (h1.keep (hb _))).mono ?_
  rintro e w1 ⟨rfl, rfl⟩
  go_wp2_with fail
  refine Calmly.wp_region_mix 19 (.fl 0 <| .fl 1 <| .fl 2 <| .fl 3 <| .fl 5 <| .fl 6 <| .fl 7 <| .fl 8 <| .fl 10 <| .fl 11 <| .fl 13 <| .fl 14 <| .eff 4 <| .eff 9 <| .eff 12 <| .eff 15 <| .eff 16 <| .eff 17 <| .eff 18 <| .tail [19]) (by kernel_rfl) (by kernel_rfl) ?_
  have hk : Below (w.alloc (.cells #[.slice a n c, .int .i64 off] 87)).drew.heap.size (w.alloc (.cells #[.slice a n c, .int .i64 off] 87)).drew (w.alloc (.cells #[.slice a n c, .int .i64 off] 87)).drew := Below.refl _ _
  go_wp2_with (first | ((with_reducible refine Calmly.is_fl ?_); refine Calmly.mix_fl rfl ?_ (fun _ _ => ?_); (first | exact .move _ | exact .load _ _ | exact .fieldAddr _ _ _ (by kernel_rfl) | exact .assign _ | exact .binOp _ _ _ _ _ rfl | exact .indexAddr _ _ _ | exact .len _ _ (by kernel_rfl) | exact .field _ _ _ | exact .extract _ _ | exact .pick _ _ _ | exact .build _ _ | exact .slice _ _ _ _ _ | exact .unOp _ _ _ rfl | exact .index _ _ _ | exact .max _ _ _ rfl rfl | exact .min _ _ _ rfl rfl)) | ((with_reducible refine Calmly.is_gl ?_); refine Calmly.mix_gl rfl rfl rfl ?_; first | ((first | with_reducible refine Calmly.gl_tt ?_ (fun _ _ => ?_) | with_reducible refine Calmly.gl_ff ?_ (fun _ _ => ?_)); (first | exact .move _ | exact .load _ _ | exact .fieldAddr _ _ _ (by kernel_rfl) | exact .assign _ | exact .binOp _ _ _ _ _ rfl | exact .indexAddr _ _ _ | exact .len _ _ (by kernel_rfl) | exact .field _ _ _ | exact .extract _ _ | exact .pick _ _ _ | exact .build _ _ | exact .slice _ _ _ _ _ | exact .unOp _ _ _ rfl | exact .index _ _ _ | exact .max _ _ _ rfl rfl | exact .min _ _ _ rfl rfl)) | with_reducible refine Calmly.gl_tf (fun _ _ => ?_) | with_reducible refine Calmly.gl_ft (fun _ _ => ?_)) | ((with_reducible refine Calmly.is_eff ?_); refine Calmly.mix_eff rfl (fun _ _ => ?_)) | ((with_reducible refine Calmly.is_gf ?_); refine Calmly.mix_gf rfl rfl rfl ?_; first | with_reducible refine Calmly.gf_tt (fun _ _ => ?_) | with_reducible refine Calmly.gf_ff (fun _ _ => ?_) | with_reducible refine Calmly.gf_tf (kept_of hk) (fun _ _ => ?_) | with_reducible refine Calmly.gf_ft (kept_of hk) (fun _ _ => ?_)) | ((with_reducible refine Calmly.is_kept ?_); refine ⟨kept_of hk, ?_⟩) | (with_reducible refine Calmly.mix_alt ?_ ?_) | (refine kept_alloc hk (fun hk' hblk hge => ?_); replace hk := hk'; clear hk') | (go_at_call 92; refine (unless_any _ _ _).mono ?_; rintro e w' ⟨rfl, rfl⟩) | (go_at_call 93; refine (mWithin_any _ _ _ _).mono ?_; rintro e w' ⟨rfl, rfl⟩))
  refine (first_any _ 4 4 _ _ (SI.four _ _ _ _ _ _ (size_alloc_drew _ _))).mono ?_
  rintro e w' ⟨rfl, rfl⟩
  go_wp2_with (first | ((with_reducible refine Calmly.is_fl ?_); refine Calmly.mix_fl rfl ?_ (fun _ _ => ?_); (first | exact .move _ | exact .load _ _ | exact .fieldAddr _ _ _ (by kernel_rfl) | exact .assign _ | exact .binOp _ _ _ _ _ rfl | exact .indexAddr _ _ _ | exact .len _ _ (by kernel_rfl) | exact .field _ _ _ | exact .extract _ _ | exact .pick _ _ _ | exact .build _ _ | exact .slice _ _ _ _ _ | exact .unOp _ _ _ rfl | exact .index _ _ _ | exact .max _ _ _ rfl rfl | exact .min _ _ _ rfl rfl)) | ((with_reducible refine Calmly.is_gl ?_); refine Calmly.mix_gl rfl rfl rfl ?_; first | ((first | with_reducible refine Calmly.gl_tt ?_ (fun _ _ => ?_) | with_reducible refine Calmly.gl_ff ?_ (fun _ _ => ?_)); (first | exact .move _ | exact .load _ _ | exact .fieldAddr _ _ _ (by kernel_rfl) | exact .assign _ | exact .binOp _ _ _ _ _ rfl | exact .indexAddr _ _ _ | exact .len _ _ (by kernel_rfl) | exact .field _ _ _ | exact .extract _ _ | exact .pick _ _ _ | exact .build _ _ | exact .slice _ _ _ _ _ | exact .unOp _ _ _ rfl | exact .index _ _ _ | exact .max _ _ _ rfl rfl | exact .min _ _ _ rfl rfl)) | with_reducible refine Calmly.gl_tf (fun _ _ => ?_) | with_reducible refine Calmly.gl_ft (fun _ _ => ?_)) | ((with_reducible refine Calmly.is_eff ?_); refine Calmly.mix_eff rfl (fun _ _ => ?_)) | ((with_reducible refine Calmly.is_gf ?_); refine Calmly.mix_gf rfl rfl rfl ?_; first | with_reducible refine Calmly.gf_tt (fun _ _ => ?_) | with_reducible refine Calmly.gf_ff (fun _ _ => ?_) | with_reducible refine Calmly.gf_tf (kept_of hk) (fun _ _ => ?_) | with_reducible refine Calmly.gf_ft (kept_of hk) (fun _ _ => ?_)) | ((with_reducible refine Calmly.is_tail ?_); first | refine Calmly.mix_tail_nil ?_ | refine Calmly.mix_tail rfl (fun _ _ => ?_)) | ((with_reducible refine Calmly.is_kept ?_); refine ⟨kept_of hk, ?_⟩) | (with_reducible refine Calmly.mix_alt ?_ ?_))
  go_ret
  refine ⟨ret_int ?_, (hb _).drew.alloc (by simp) _⟩
  unfold decayE
  rw [show (xs.length : Int) = (n : Int) by omega, show xs.length = n by omega]
end Go.Proofs.Ytmaidjankakppaa
