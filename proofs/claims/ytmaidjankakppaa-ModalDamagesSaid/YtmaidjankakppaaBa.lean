/- Contracts of small functions of the helpers' package: they only compute, or only read. -/
import Derived.Test.YtmaidjankakppaaLib
import Derived.Test.YtmaidjankakppaaDig
namespace Go.Proofs.Ytmaidjankakppaa
open Go.RowKit
open Calmly (Kept)

def wIn (n lo hi : Int) : Bool := decide (lo ≤ n) && decide (n ≤ hi)
theorem wIn_iff {n lo hi : Int} : wIn n lo hi = true ↔ lo ≤ n ∧ n ≤ hi := by simp [wIn]
theorem wIn_false {n lo hi : Int} : wIn n lo hi = false ↔ n < lo ∨ hi < n := by simp [wIn]; omega

set_option maxHeartbeats 400000 in
theorem within_any (n lo hi : Int) (w : World) :
    Calls Try.prog 44 #[.int .i64 n, .int .i64 lo, .int .i64 hi] w fun e w' => e = .returned (.bool (wIn n lo hi)) ∧ w = w' := by
  go_enter Try.func44, Try.ntmps44
  go_wp2
  · go_ret
    refine ⟨ret_bool ?_, rfl⟩
    have h : lo ≤ n := by assumption
    simp [wIn, h]
  · go_ret
    refine ⟨ret_bool ?_, rfl⟩
    have : wIn n lo hi = false := wIn_false.2 (.inl (by assumption))
    rw [this]

def sizeOf' (n : Int) : Int := if n < -n then -n else n
theorem sizeOf_abs (n : Int) : sizeOf' n = n.natAbs := by unfold sizeOf'; split <;> omega

set_option maxHeartbeats 400000 in
theorem size_any (n : Int) (w : World) (h1 : -9223372036854775807 ≤ n) (h2 : n ≤ 9223372036854775807) :
    Calls Try.prog 133 #[.int .i64 n] w fun e w' => e = .returned (.int .i64 n.natAbs) ∧ w = w' := by
  by_cases h : n < -n
  · go_enter Try.func133, Try.ntmps133
    go_wp2
    go_ret
    exact ⟨ret_int (by show -n = _; omega), rfl⟩
  · go_enter Try.func133, Try.ntmps133
    go_wp2
    go_ret
    exact ⟨ret_int (by show n = _; omega), rfl⟩

theorem gcd_step (a b : Int) : Int.gcd b (a.tmod b) = Int.gcd a b := by
  rw [Int.tmod_def, Int.gcd_sub_mul_left_right, Int.gcd_comm]

theorem tmod_bd {a b : Int} (hb : b ≠ 0) (h1 : -9223372036854775807 ≤ b) (h2 : b ≤ 9223372036854775807) : -9223372036854775807 ≤ a.tmod b ∧ a.tmod b ≤ 9223372036854775807 := by
  have := Int.natAbs_tmod a b
  have := Nat.mod_lt a.natAbs (y := b.natAbs) (by omega)
  omega
theorem tmod_lt {a b : Int} (hb : b ≠ 0) : (a.tmod b).natAbs < b.natAbs := by
  rw [Int.natAbs_tmod]
  exact Nat.mod_lt _ (by omega)

set_option maxRecDepth 100000 in
set_option maxHeartbeats 400000 in
theorem gcd_any (a b : Int) (w : World) (ha1 : -9223372036854775807 ≤ a) (ha2 : a ≤ 9223372036854775807) (hb1 : -9223372036854775807 ≤ b) (hb2 : b ≤ 9223372036854775807) :
    Calls Try.prog 115 #[.int .i64 a, .int .i64 b] w fun e w' => e = .returned (.int .i64 (Int.gcd a b)) ∧ ∃ n, w' = w.drewN n := by
  go_enter Try.func115, Try.ntmps115
  go_wp2
  go_loopw [0, 1] (fun x y wr => ∃ p q : Int, x = .int .i64 p ∧ y = .int .i64 q ∧ Int.gcd p q = Int.gcd a b ∧ -9223372036854775807 ≤ p ∧ p ≤ 9223372036854775807 ∧ -9223372036854775807 ≤ q ∧ q ≤ 9223372036854775807 ∧ ∃ n, wr = w.drewN n) (fun _ y _ => (intOf y).natAbs)
  case atStart => exact ⟨a, b, rfl, rfl, rfl, ha1, ha2, hb1, hb2, 0, rfl⟩
  case round =>
    obtain ⟨p, q, rfl, rfl, hg, hp1, hp2, hq1, hq2, n, rfl⟩ := hrel
    have HG := Lib.hid hg
    clear hg
    by_cases hz : q = 0
    · have hb : (q != 0) = false := by simp [hz]
      have Hz := Lib.hid hz
      clear hz
      go_wp2_with (first | (go_at_call 133; refine (size_any _ _ hp1 hp2).mono ?_; rintro e w' ⟨rfl, rfl⟩))
      go_ret
      refine ⟨ret_int ?_, n, rfl⟩
      have := HG.out
      rw [Hz.out] at this
      simp at this
      omega
    · have hb : (q != 0) = true := by simpa using hz
      have h1 := tmod_bd (a := p) hz hq1 hq2
      have h2 := tmod_lt (a := p) hz
      have hc : (q == 0) = false := by simpa using hz
      go_wp2_with fail
      refine Calmly.wp_region_mix 5 (.fl 0 <| .fl 1 <| .fl 2 <| .fl 3 <| .fl 4 <| .tail [5]) (by kernel_rfl) (by kernel_rfl) ?_
      go_wp2_with (first | ((with_reducible refine Calmly.is_fl ?_); refine Calmly.mix_fl rfl ?_ (fun _ _ => ?_); (first | exact .move _ | exact .load _ _ | exact .fieldAddr _ _ _ (by kernel_rfl) | exact .assign _ | exact .binOp _ _ _ _ _ rfl | exact .indexAddr _ _ _ | exact .len _ _ (by kernel_rfl) | exact .field _ _ _ | exact .extract _ _ | exact .pick _ _ _ | exact .build _ _ | exact .slice _ _ _ _ _ | exact .unOp _ _ _ rfl | exact .index _ _ _ | exact .max _ _ _ rfl rfl | exact .min _ _ _ rfl rfl)) | ((with_reducible refine Calmly.is_gl ?_); refine Calmly.mix_gl rfl rfl rfl ?_; first | ((first | with_reducible refine Calmly.gl_tt ?_ (fun _ _ => ?_) | with_reducible refine Calmly.gl_ff ?_ (fun _ _ => ?_)); (first | exact .move _ | exact .load _ _ | exact .fieldAddr _ _ _ (by kernel_rfl) | exact .assign _ | exact .binOp _ _ _ _ _ rfl | exact .indexAddr _ _ _ | exact .len _ _ (by kernel_rfl) | exact .field _ _ _ | exact .extract _ _ | exact .pick _ _ _ | exact .build _ _ | exact .slice _ _ _ _ _ | exact .unOp _ _ _ rfl | exact .index _ _ _ | exact .max _ _ _ rfl rfl | exact .min _ _ _ rfl rfl)) | with_reducible refine Calmly.gl_tf (fun _ _ => ?_) | with_reducible refine Calmly.gl_ft (fun _ _ => ?_)) | ((with_reducible refine Calmly.is_eff ?_); refine Calmly.mix_eff rfl (fun _ _ => ?_)) | ((with_reducible refine Calmly.is_gf ?_); refine Calmly.mix_gf rfl rfl rfl ?_; first | with_reducible refine Calmly.gf_tt (fun _ _ => ?_) | with_reducible refine Calmly.gf_ff (fun _ _ => ?_) | with_reducible refine Calmly.gf_tf (kept_of hk) (fun _ _ => ?_) | with_reducible refine Calmly.gf_ft (kept_of hk) (fun _ _ => ?_)) | ((with_reducible refine Calmly.is_tail ?_); first | refine Calmly.mix_tail_nil ?_ | refine Calmly.mix_tail rfl (fun _ _ => ?_)) | ((with_reducible refine Calmly.is_kept ?_); refine ⟨kept_of hk, ?_⟩) | (with_reducible refine Calmly.mix_alt ?_ ?_))
      go_roundw
      case rel => exact ⟨q, p.tmod q, rfl, rfl, by rw [gcd_step]; exact HG.out, hq1, hq2, h1.1, h1.2, n + 1, rfl⟩
      case measure => simpa [intOf] using h2

theorem eq_of_take {xs ys : List Int} (k : Nat) (h : xs.take k = ys.take k) (h1 : xs.length ≤ k) (h2 : ys.length ≤ k) : xs = ys := by
  rwa [List.take_of_length_le h1, List.take_of_length_le h2] at h
theorem take_step {xs ys : List Int} (k : Nat) (h : xs.take k = ys.take k) (h1 : k < xs.length) (h2 : k < ys.length) (he : xs[k]?.getD 0 = ys[k]?.getD 0) : xs.take (k + 1) = ys.take (k + 1) := by
  rw [List.take_succ_eq_append_getElem h1, List.take_succ_eq_append_getElem h2, h]
  simp [h1, h2] at he
  rw [he]

set_option maxRecDepth 100000 in
set_option maxHeartbeats 400000 in
theorem ints_any (a b : Option Addr) (n m c d : Nat) (xs ys : List Int) (w : World) (h1 : SI w a n c xs) (h2 : SI w b m d ys) :
    Calls Try.prog 22 #[.slice a n c, .slice b m d] w fun e w' => e = .returned (.bool (decide (xs = ys))) ∧ ∃ n, w' = w.drewN n := by
  obtain ⟨l1, l2⟩ : n ≤ xs.length ∧ xs.length ≤ n := by have := h1.len; omega
  obtain ⟨k1, k2⟩ : m ≤ ys.length ∧ ys.length ≤ m := by have := h2.len; omega
  have m1 := h1.max
  have m2 := h2.max
  have c1 := h1.cap
  have c2 := h2.cap
  by_cases he : n = m
  · subst he
    go_enter Try.func22, Try.ntmps22
    go_wp2
    go_loopw [5] (fun i wr => ∃ k : Nat, k ≤ n ∧ i = .int .i64 k ∧ xs.take k = ys.take k ∧ ∃ n, wr = w.drewN n) (fun i _ => n - (intOf i).toNat)
    case atStart => exact ⟨0, by omega, rfl, rfl, 0, rfl⟩
    case round =>
      obtain ⟨k, hk, rfl, ht, q, rfl⟩ := hrel
      have HT := Lib.hid ht
      clear ht
      by_cases hlt : k < n
      · obtain ⟨b1, o1, rfl, hc1⟩ := h1.at_ (by omega)
        obtain ⟨b2, o2, rfl, hc2⟩ := h2.at_ (by omega)
        have e1 := hc1 k hlt
        have e2 := hc2 k hlt
        clear hc1 hc2
        have hi : (k : Int) < (n : Int) := by omega
        have hi0 : (0 : Int) ≤ (k : Int) := by omega
        go_wp2_with fail
        refine Calmly.wp_region_mix 8 (.fl 0 <| .fl 1 <| .fl 2 <| .fl 3 <| .fl 4 <| .fl 5 <| .fl 6 <| .fl 7 <| .tail [8]) (by kernel_rfl) (by kernel_rfl) ?_
        go_wp2_with (first | ((with_reducible refine Calmly.is_fl ?_); refine Calmly.mix_fl rfl ?_ (fun _ _ => ?_); (first | exact .move _ | exact .load _ _ | exact .fieldAddr _ _ _ (by kernel_rfl) | exact .assign _ | exact .binOp _ _ _ _ _ rfl | exact .indexAddr _ _ _ | exact .len _ _ (by kernel_rfl) | exact .field _ _ _ | exact .extract _ _ | exact .pick _ _ _ | exact .build _ _ | exact .slice _ _ _ _ _ | exact .unOp _ _ _ rfl | exact .index _ _ _ | exact .max _ _ _ rfl rfl | exact .min _ _ _ rfl rfl)) | ((with_reducible refine Calmly.is_gl ?_); refine Calmly.mix_gl rfl rfl rfl ?_; first | ((first | with_reducible refine Calmly.gl_tt ?_ (fun _ _ => ?_) | with_reducible refine Calmly.gl_ff ?_ (fun _ _ => ?_)); (first | exact .move _ | exact .load _ _ | exact .fieldAddr _ _ _ (by kernel_rfl) | exact .assign _ | exact .binOp _ _ _ _ _ rfl | exact .indexAddr _ _ _ | exact .len _ _ (by kernel_rfl) | exact .field _ _ _ | exact .extract _ _ | exact .pick _ _ _ | exact .build _ _ | exact .slice _ _ _ _ _ | exact .unOp _ _ _ rfl | exact .index _ _ _ | exact .max _ _ _ rfl rfl | exact .min _ _ _ rfl rfl)) | with_reducible refine Calmly.gl_tf (fun _ _ => ?_) | with_reducible refine Calmly.gl_ft (fun _ _ => ?_)) | ((with_reducible refine Calmly.is_eff ?_); refine Calmly.mix_eff rfl (fun _ _ => ?_)) | ((with_reducible refine Calmly.is_gf ?_); refine Calmly.mix_gf rfl rfl rfl ?_; first | with_reducible refine Calmly.gf_tt (fun _ _ => ?_) | with_reducible refine Calmly.gf_ff (fun _ _ => ?_) | with_reducible refine Calmly.gf_tf (kept_of hk) (fun _ _ => ?_) | with_reducible refine Calmly.gf_ft (kept_of hk) (fun _ _ => ?_)) | ((with_reducible refine Calmly.is_tail ?_); first | refine Calmly.mix_tail_nil ?_ | refine Calmly.mix_tail rfl (fun _ _ => ?_)) | ((with_reducible refine Calmly.is_kept ?_); refine ⟨kept_of hk, ?_⟩) | (with_reducible refine Calmly.mix_alt ?_ ?_))
        · go_ret
          refine ⟨ret_bool ?_, q + 1, rfl⟩
          have hne : (xs[k]?.getD 0 != ys[k]?.getD 0) = true := by assumption
          have : ¬ xs = ys := fun h => by subst h; simp at hne
          simp [this]
        · have hne : (xs[k]?.getD 0 != ys[k]?.getD 0) = false := by assumption
          go_roundw
          case rel => exact ⟨k + 1, by omega, by go_num, take_step k HT.out (by omega) (by omega) (by simpa using hne), q + 1, rfl⟩
          case measure => simp [intOf]; omega
      · go_wp2
        go_ret
        refine ⟨ret_bool ?_, q, rfl⟩
        have := eq_of_take k HT.out (by omega) (by omega)
        simp [this]
  · go_enter Try.func22, Try.ntmps22
    go_wp2
    go_ret
    refine ⟨ret_bool ?_, 0, rfl⟩
    have : ¬ xs = ys := fun h => by subst h; omega
    simp [this]


set_option maxRecDepth 100000 in
set_option maxHeartbeats 400000 in
theorem digit_any (a : Option Addr) (n c : Nat) (xs : List Int) (i : Int) (w : World) (h1 : SI w a n c xs) (hi : 0 ≤ i) :
    Calls Try.prog 150 #[.slice a n c, .int .i64 i] w fun e w' => e = .returned (.int .i64 (xs[i.toNat]?.getD 0)) ∧ w = w' := by
  obtain ⟨l1, l2⟩ : n ≤ xs.length ∧ xs.length ≤ n := by have := h1.len; omega
  have m1 := h1.max
  have c1 := h1.cap
  by_cases hlt : i < n
  · obtain ⟨b1, o1, rfl, hc1⟩ := h1.at_ (by omega)
    have e1 := hc1 i.toNat (by omega)
    clear hc1
    go_enter Try.func150, Try.ntmps150
    go_wp2
    go_ret
    exact ⟨rfl, rfl⟩
  · go_enter Try.func150, Try.ntmps150
    go_wp2
    go_ret
    refine ⟨ret_int ?_, rfl⟩
    rw [List.getElem?_eq_none (by omega)]
    rfl

theorem SI.take {w : World} {a : Option Addr} {n c m : Nat} {xs : List Int} (h : SI w a n c xs) (hm : m ≤ n) : SI w a m c (xs.take m) := by
  have hn := h.len
  obtain ⟨h1, h2, h3, h4⟩ := h
  refine ⟨by simp; omega, by omega, h3, ?_⟩
  rcases h4 with h4 | ⟨b, off, ha, hc⟩
  · exact .inl h4
  · refine .inr ⟨b, off, ha, fun i hi => ?_⟩
    rw [hc i (by omega), List.map_take, List.getElem?_take, if_pos (by omega)]

open Go.Wides
set_option maxRecDepth 100000 in
set_option maxHeartbeats 400000 in
theorem trimmed_any (a : Option Addr) (n c : Nat) (xs : List Int) (w : World) (h1 : SI w a n c xs) :
    Calls Try.prog 148 #[.slice a n c] w fun e w' => ∃ m, e = .returned (.slice a m c) ∧ (m ≤ n ∧ dv (xs.take m) = dv xs ∧ Nz (xs.take m)) ∧ w = w' := by
  obtain ⟨l1, l2⟩ : n ≤ xs.length ∧ xs.length ≤ n := by have := h1.len; omega
  have m1 := h1.max
  have c1 := h1.cap
  have fin : ∀ k : Nat, k ≤ n → (∀ j, k ≤ j → j < n → xs[j]?.getD 0 = 0) → (k = 0 ∨ xs[k - 1]?.getD 0 ≠ 0) → k ≤ n ∧ dv (xs.take k) = dv xs ∧ Nz (xs.take k) := fun k hk hz hl =>
    ⟨hk, dv_take k (fun j hj hj' => hz j hj (by omega)), nz_take k (by omega) hl⟩
  go_enter Try.func148, Try.ntmps148
  go_wp2
  go_loop [3] (fun i => ∃ k : Nat, k ≤ n ∧ i = .int .i64 k ∧ (∀ j, k ≤ j → j < n → xs[j]?.getD 0 = 0)) (fun i => (intOf i).toNat)
  case atStart => exact ⟨n, by omega, rfl, fun j h h' => by omega⟩
  case round =>
    obtain ⟨k, hk, rfl, hz⟩ := hrel
    have HZ := Lib.hid hz
    clear hz
    have FIN := Lib.hid fin
    clear fin
    by_cases h0 : 0 < k
    · obtain ⟨b1, o1, rfl, hc1⟩ := h1.at_ (by omega)
      have e1 := hc1 (k - 1) (by omega)
      clear hc1
      have hi : (0 : Int) < (k : Int) := by omega
      have hj : ((k : Int) - 1).toNat = k - 1 := by omega
      have hl : (k : Int) - 1 < (n : Int) := by omega
      have hl1 : (1 : Int) ≤ (k : Int) := by omega
      go_wp2
      · have hne : (xs[k - 1]?.getD 0 == 0) = true := by assumption
        go_round
        case rel => exact ⟨k - 1, by omega, by congr 1; omega, fun j hj1 hj2 => if h : j = k - 1 then by subst h; simpa using hne else HZ.out j (by omega) hj2⟩
        case measure => simp [intOf]; omega
      · have hne : (xs[k - 1]?.getD 0 == 0) = false := by assumption
        go_ret
        exact ⟨k, rfl, FIN.out k hk HZ.out (.inr (by simpa using hne)), rfl⟩
    · have h00 : (k : Int) ≤ 0 := by omega
      go_wp2
      go_ret
      exact ⟨k, rfl, FIN.out k hk HZ.out (.inl (by omega)), rfl⟩


theorem Try.info_int : (Try.prog.info? 3).map (fun i => (i.zero, i.size, i.bytes)) = some (some (.int .i64 0), 1, 8) := by kernel_rfl

/-- A row of integers of the call's own. -/
def OwI (w : World) (B : Nat) (a : Option Addr) (n c : Nat) (xs : List Int) : Prop := w.ownsRow B 3 1 (.slice a n c) n (xs.map (Value.int .i64))
theorem OwI.nil (w : World) (B : Nat) : OwI w B none 0 0 [] := World.ownsRow_nil w B _ 1
theorem OwI.si {w : World} {B : Nat} {a : Option Addr} {n c : Nat} {xs : List Int} (h : OwI w B a n c xs) : SI w a n c xs := by
  obtain ⟨a', c', he, hs⟩ := Sl.of_owns h
  cases he
  exact hs
theorem OwI.len {w : World} {B : Nat} {a : Option Addr} {n c : Nat} {xs : List Int} (h : OwI w B a n c xs) : n = xs.length := h.si.len
theorem OwI.below {w w' : World} {B B' : Nat} {a : Option Addr} {n c : Nat} {xs : List Int} (h : OwI w B a n c xs) (hb : Below B' w w') (hB : w.heap.size ≤ B') : OwI w' B a n c xs := by
  obtain ⟨h1, h2⟩ := h
  refine ⟨h1, ?_⟩
  rcases h2 with h2 | ⟨g, cap, cur, hv, hg, hh, r⟩
  · exact .inl h2
  · refine .inr ⟨g, cap, cur, hv, hg, ?_, r⟩
    rw [hb.block g (by have := (Array.getElem?_eq_some_iff.1 hh).1; omega)]
    exact hh
theorem OwI.keep {w w' : World} {B : Nat} {a : Option Addr} {n c : Nat} {xs : List Int} (h : OwI w B a n c xs) (hb : Below w.heap.size w w') : OwI w' B a n c xs := h.below hb (Nat.le_refl _)

theorem OwI.drew {w : World} {B : Nat} {a : Option Addr} {n c : Nat} {xs : List Int} (h : OwI w B a n c xs) : OwI w.drew B a n c xs := h
theorem appI {ops : Array Oper} {rest : List Oper} {o : Oper} {a : Act} {Q : Exit → Act → World → Prop} {w0 : World} {B : Nat} {av : Option Addr} {n c : Nat} {xs : List Int} {v : Int} (hgd : o.guard = none) (s x : Operand)
    (ho : o.op = .call { callee := .builtin .append, args := #[s, x], argTypes := #[22, 22] })
    (hown : OwI w0 B av n c xs) (hs : a.eval s = .slice av n c) (hx : a.eval x = .slice (some ⟨w0.heap.size, 0, none⟩) 1 1)
    (hb1 : n + 1 ≤ 17592186044416) (hB : B ≤ w0.heap.size)
    (h : ∀ a' c' w', OwI w' B a' (n + 1) c' (xs ++ [v]) → Below B w0 w' → w0.heap.size < w'.heap.size → wpList Try.prog ops Q rest (a.put o.dst (.slice a' (n + 1) c')) w') :
    wpList Try.prog ops Q (o :: rest) a (w0.alloc (.cells #[.int .i64 v] 3)) := by
  obtain ⟨i0, hi, hz0, hz1, hz2⟩ := info_parts Try.info_int
  refine app1 hgd s x _ ho B _ i0 (.int .i64 0) 1 8 Try.underlying22 hi hz0 hz1 hz2 rfl (by decide) av n c _ hown #[.int .i64 v] hs hx rfl (by simp [Value.oneCell']) (by omega) (by omega) hB ?_
  intro a' c' w1 h1 h2 h3
  exact h a' c' w1 (by unfold OwI; simpa using h1) h2 h3


/-! ### A row of integers of the call's own, at its place -/
theorem OwI.at_ {w : World} {B : Nat} {a : Option Addr} {n c : Nat} {xs : List Int} (h : OwI w B a n c xs) (hn : 0 < n) : ∃ g, a = some ⟨g, 0, none⟩ ∧ B ≤ g ∧ g < w.heap.size := by
  obtain ⟨_, h2⟩ := h
  rcases h2 with ⟨_, h0⟩ | ⟨g, cap, cur, hv, hg, hh, _⟩
  · omega
  · cases hv
    exact ⟨g, rfl, hg, (Array.getElem?_eq_some_iff.1 hh).1⟩
theorem OwI.cell {w : World} {B g n c : Nat} {xs : List Int} (h : OwI w B (some ⟨g, 0, none⟩) n c xs) (j : Nat) (hj : j < n) : w.cell? ⟨g, j, none⟩ = some (.int .i64 (xs[j]?.getD 0)) := by
  have hl := h.len
  have := World.ownsRow.cellAt h j (by omega)
  rw [this]
  have : j < xs.length := by omega
  simp [this]
theorem OwI.free {w : World} {B g n c : Nat} {xs : List Int} (h : OwI w B (some ⟨g, 0, none⟩) n c xs) (j : Nat) : w.frozen? ⟨g, j, none⟩ = false := World.ownsRow.frozenAt h j
theorem OwI.lt {w : World} {B g n c : Nat} {xs : List Int} (h : OwI w B (some ⟨g, 0, none⟩) n c xs) : B ≤ g ∧ g < w.heap.size := World.ownsRow.lt h g rfl
theorem OwI.stored {w : World} {B g n c : Nat} {xs : List Int} (h : OwI w B (some ⟨g, 0, none⟩) n c xs) (j : Nat) (v : Int) :
    OwI (w.setCell ⟨g, j, none⟩ (.int .i64 v)) B (some ⟨g, 0, none⟩) n c (xs.set j v) ∧ Below B w (w.setCell ⟨g, j, none⟩ (.int .i64 v)) := by
  refine ⟨?_, (Below.refl _ _).setCell (p := ⟨g, j, none⟩) h.lt.1 _⟩
  have := (World.ownsRow.stored h j (.int .i64 v)).1
  unfold OwI
  rw [List.map_set]
  exact this
theorem makeI {ops : Array Oper} {rest : List Oper} {o : Oper} {a : Act} {Q : Exit → Act → World → Prop} {w : World} {B : Nat} {L : Int} {n : Nat} (hg : o.guard = none) (l c : Operand)
    (hop : o.op = Op.makeSlice 22 l c) (hl : a.eval l = .int .i64 L) (hc : a.eval c = .int .i64 L) (hL : L = (n : Int)) (hn : n ≤ 17592186044416) (hB : B ≤ w.heap.size)
    (hK : ∀ w', OwI w' B (some ⟨w.heap.size, 0, none⟩) n n (List.replicate n 0) → Below w.heap.size w w' → w.heap.size < w'.heap.size → wpList Try.prog ops Q rest (a.put o.dst (.slice (some ⟨w.heap.size, 0, none⟩) n n)) w') :
    wpList Try.prog ops Q (o :: rest) a w := by
  obtain ⟨i0, hi, hz0, hz1, hz2⟩ := info_parts Try.info_int
  refine wpList_make_full w hg l c _ hop B _ i0 (.int .i64 0) 1 Try.underlying22 hi hz0 hz1 .i64 .i64 L L n hl hc hL hL (by rw [hz2]; omega) (by unfold maxLen; omega) hB ?_
  intro w' ho hgr
  have h1 : OwI w' B (some ⟨w.heap.size, 0, none⟩) n n (List.replicate n 0) := by
    unfold OwI
    rw [Nat.mul_one, show (Value.int IntKind.i64 0).cells = #[Value.int .i64 0] from rfl, toList_madeCells_one] at ho
    simpa using ho
  exact hK w' h1 (grown_below hgr (Nat.le_refl _) (fun k hk => by cases hk)) h1.lt.2

theorem oneCell_ints (ys : List Int) : ∀ u ∈ ys.map (Value.int .i64), u.oneCell' = true := by
  intro u hu
  obtain ⟨y, _, rfl⟩ := List.mem_map.1 hu
  rfl
/-- 'append(l, s...)' of integers. -/
theorem appL {ops : Array Oper} {rest : List Oper} {o : Oper} {a : Act} {Q : Exit → Act → World → Prop} {w : World} {B : Nat} {av lv : Option Addr} {n c m lc : Nat} {xs ys : List Int} (hgd : o.guard = none) (s x : Operand)
    (ho : o.op = .call { callee := .builtin .append, args := #[s, x], argTypes := #[22, 22] })
    (hown : OwI w B av n c xs) (hl : SI w lv m lc ys) (hs : a.eval s = .slice av n c) (hx : a.eval x = .slice lv m lc)
    (hb1 : n + m ≤ 17592186044416) (hB : B ≤ w.heap.size)
    (h : ∀ a' c' w', OwI w' B a' (n + m) c' (xs ++ ys) → Below B w w' → wpList Try.prog ops Q rest (a.put o.dst (.slice a' (n + m) c')) w') :
    wpList Try.prog ops Q (o :: rest) a w := by
  obtain ⟨i0, hi, hz0, hz1, hz2⟩ := info_parts Try.info_int
  refine appS hgd s x _ ho B _ i0 (.int .i64 0) 1 8 Try.underlying22 hi hz0 hz1 hz2 rfl (by decide) av n c _ hown lv m lc _ hl (oneCell_ints ys) hs hx (by omega) (by omega) hB ?_
  intro a' c' w1 h1 h2
  exact h a' c' w1 (by unfold OwI; simpa using h1) h2
/-- '[]int{}'. -/
theorem OwI.empty (w : World) {B : Nat} (hB : B ≤ w.heap.size) : OwI (w.alloc (.cells #[] 3)) B (some ⟨w.heap.size, 0, none⟩) 0 0 [] :=
  ⟨by simp, .inr ⟨w.heap.size, 0, #[], rfl, hB, alloc_new _ _, by simp, by simp, by simp, by simp⟩⟩
/-- '[]int{x}'. -/
theorem OwI.one (w : World) {B : Nat} (hB : B ≤ w.heap.size) (x : Int) : OwI (w.alloc (.cells #[.int .i64 x] 3)) B (some ⟨w.heap.size, 0, none⟩) 1 1 [x] :=
  ⟨by simp, .inr ⟨w.heap.size, 1, #[.int .i64 x], rfl, hB, alloc_new _ _, by simp, by unfold maxLen; omega, by simp, by simp⟩⟩

set_option maxRecDepth 100000 in
set_option maxHeartbeats 400000 in
theorem copyInts_any (a : Option Addr) (n c : Nat) (xs : List Int) (w : World) (h1 : SI w a n c xs) (hn : n ≤ 1099511627776) :
    Calls Try.prog 77 #[.slice a n c] w fun e w' => ∃ a' c', e = .returned (.slice a' n c') ∧ OwI w' w.heap.size a' n c' xs ∧ Below w.heap.size w w' := by
  go_enter Try.func77, Try.ntmps77
  have hb : Below w.heap.size w (w.alloc (.cells #[] 3)) := (Below.refl _ _).alloc (Nat.le_refl _) _
  have hc := h1.cap
  have hm := h1.max
  go_wp2_with (at_builtin; refine appL rfl _ _ rfl (OwI.empty w (Nat.le_refl _)) (h1.keep hb) rfl rfl (by omega) (by simp) ?_; intro a' c' w1 ho hb1)
  go_ret
  exact ⟨a', c', rfl, by simpa using ho, hb.trans hb1⟩

end Go.Proofs.Ytmaidjankakppaa
