/- Contracts of chapter 6: the swings of a decay. -/
import Derived.Test.YtmaidjankakppaaDc
namespace Go.Proofs.Ytmaidjankakppaa
open Go.RowKit
open Calmly (Kept)

/-- The greatest of numbers. -/
def maxL : List Int → Int
  | [] => 0
  | x :: l => l.foldl max x
theorem maxL_take (xs : List Int) (k : Nat) (h0 : 0 < k) (h : k < xs.length) : maxL (xs.take (k + 1)) = max (maxL (xs.take k)) (xs[k]?.getD 0) := by
  match xs, h with
  | x :: l, h =>
    obtain ⟨j, rfl⟩ : ∃ j, k = j + 1 := ⟨k - 1, by omega⟩
    simp only [List.take_succ_cons, maxL, List.getElem?_cons_succ]
    simp only [List.length_cons] at h
    have hj : j < l.length := by omega
    rw [List.take_add_one, List.foldl_append, List.getElem?_eq_getElem hj]
    rfl
theorem foldl_max (l : List Int) (x : Int) : x ≤ l.foldl max x ∧ (∀ y ∈ l, y ≤ l.foldl max x) ∧ (l.foldl max x = x ∨ l.foldl max x ∈ l) := by
  induction l generalizing x with
  | nil => simp
  | cons y l ih =>
    obtain ⟨h1, h2, h3⟩ := ih (max x y)
    refine ⟨by simp only [List.foldl_cons]; omega, ?_, ?_⟩
    · intro z hz
      simp only [List.foldl_cons]
      rcases List.mem_cons.1 hz with rfl | hz
      · omega
      · exact h2 z hz
    · simp only [List.foldl_cons]
      rcases h3 with h3 | h3
      · rw [h3]
        rcases Int.le_total x y with h | h
        · right; rw [Int.max_eq_right h]; exact List.mem_cons_self
        · left; rw [Int.max_eq_left h]
      · right; exact List.mem_cons_of_mem _ h3
theorem maxL_mem {l : List Int} (h : 0 < l.length) : maxL l ∈ l ∧ ∀ y ∈ l, y ≤ maxL l := by
  match l, h with
  | x :: l, _ =>
    obtain ⟨h1, h2, h3⟩ := foldl_max l x
    unfold maxL
    refine ⟨?_, ?_⟩
    · rcases h3 with h3 | h3
      · exact List.mem_cons.2 (.inl h3)
      · exact List.mem_cons_of_mem _ h3
    intro y hy
    rcases List.mem_cons.1 hy with rfl | hy
    · exact h1
    · exact h2 y hy

set_option maxRecDepth 100000 in
set_option maxHeartbeats 1000000 in
theorem max_any (a : Option Addr) (n c : Nat) (xs : List Int) (w : World) (h1 : SI w a n c xs) (h0 : 0 < n) :
    Calls Try.prog 142 #[.slice a n c] w fun e w' => e = .returned (.int .i64 (maxL xs)) ∧ w = w' := by
  obtain ⟨l1, l2⟩ : n ≤ xs.length ∧ xs.length ≤ n := by have := h1.len; omega
  have m1 := h1.max
  have c1 := h1.cap
  obtain ⟨b1, o1, rfl, hc1⟩ := h1.at_ h0
  have e0 := hc1 0 h0
  simp only [Nat.add_zero] at e0
  have hn1 : (1 : Int) ≤ (n : Int) := by omega
  have hn0 : (0 : Int) < (n : Int) := by omega
  go_enter Try.func142, Try.ntmps142
  go_wp2_with fail
  go_loop [3, 4] (fun m i => ∃ k : Nat, 1 ≤ k ∧ k ≤ n ∧ i = .int .i64 k ∧ m = .int .i64 (maxL (xs.take k))) (fun _ i => n - (intOf i).toNat)
  case atStart =>
    refine ⟨1, by omega, by omega, rfl, ?_⟩
    match xs, l1 with
    | [], l1 => simp at l1; omega
    | x :: l, _ => rfl
  case round =>
    obtain ⟨k, hk0, hk, rfl, rfl⟩ := hrel
    by_cases hlt : k < n
    · have e1 := hc1 k hlt
      clear hc1
      have hd := maxL_take xs k hk0 (by omega)
      have HD := Lib.hid hd
      clear hd
      obtain ⟨x, hx⟩ : ∃ x, xs[k]?.getD 0 = x := ⟨_, rfl⟩
      obtain ⟨m, hm⟩ : ∃ m, maxL (xs.take k) = m := ⟨_, rfl⟩
      rw [hx] at e1
      rw [hx, hm] at HD
      rw [hm]
      clear hx hm
      have hi : (k : Int) < (n : Int) := by omega
      have hi0 : (0 : Int) ≤ (k : Int) := by omega
      rcases Int.lt_or_le m x with t | t
      · have t' : m ≤ x := by omega
        go_wp2_with fail
        go_round
        case rel => exact ⟨k + 1, by omega, by omega, by go_num, by rw [HD.out]; exact congrArg _ (by omega)⟩
        case measure => simp [intOf]; omega
      · go_wp2_with fail
        go_round
        case rel => exact ⟨k + 1, by omega, by omega, by go_num, by rw [HD.out]; exact congrArg _ (by omega)⟩
        case measure => simp [intOf]; omega
    · have hle : (n : Int) ≤ (k : Int) := by omega
      go_wp2_with fail
      go_ret
      exact ⟨ret_int (by rw [List.take_of_length_le (by omega)]), rfl⟩
end Go.Proofs.Ytmaidjankakppaa
