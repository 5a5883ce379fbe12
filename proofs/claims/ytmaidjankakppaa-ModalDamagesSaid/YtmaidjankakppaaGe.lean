/- Contracts of chapter 6: copies of ranges. -/
import Derived.Test.YtmaidjankakppaaRr
namespace Go.Proofs.Ytmaidjankakppaa
open Go.RowKit
open Calmly (Kept)

theorem oneCell_rv (l : List (Int × Int)) : ∀ u ∈ rv l, u.oneCell' = true := by
  intro u hu
  unfold rv at hu
  obtain ⟨p, _, hp⟩ := List.mem_flatMap.1 hu
  simp at hp
  rcases hp with rfl | rfl <;> rfl
theorem OwR.empty (w : World) {B : Nat} (hB : B ≤ w.heap.size) : OwR (w.alloc (.cells #[] 63)) B (some ⟨w.heap.size, 0, none⟩) 0 0 [] :=
  ⟨rfl, .inr ⟨w.heap.size, 0, #[], rfl, hB, alloc_new _ _, by simp, by simp, by simp, rfl⟩⟩

set_option maxRecDepth 100000 in
set_option maxHeartbeats 400000 in
theorem copyRanges_any (a : Option Addr) (n c : Nat) (l : List (Int × Int)) (w : World) (h1 : SR w a n c l) (hn : n ≤ 1099511627776) :
    Calls Try.prog 61 #[.slice a n c] w fun e w' => ∃ a' c', e = .returned (.slice a' n c') ∧ OwR w' w.heap.size a' n c' l ∧ Below w.heap.size w w' := by
  obtain ⟨i0, hi, hz0, hz1, hz2⟩ := info_parts Try.info_range
  go_enter Try.func61, Try.ntmps61
  have hb : Below w.heap.size w (w.alloc (.cells #[] 63)) := (Below.refl _ _).alloc (Nat.le_refl _) _
  have hc := h1.cap
  have hm := h1.max
  go_wp2_with (at_builtin; refine appS rfl _ _ _ rfl w.heap.size 63 i0 (.agg #[.int .i64 0, .int .i64 0]) 2 16 Try.underlying42 hi hz0 hz1 hz2 rfl (by decide) _ _ _ _ (OwR.empty w (Nat.le_refl _)) _ _ _ _ (h1.keep hb) (oneCell_rv l) rfl rfl (by omega) (by omega) (by simp) ?_; intro a' c' w1 ho hb1)
  go_ret
  exact ⟨a', c', rfl, by unfold OwR; simpa [rv] using ho, hb.trans hb1⟩
end Go.Proofs.Ytmaidjankakppaa
