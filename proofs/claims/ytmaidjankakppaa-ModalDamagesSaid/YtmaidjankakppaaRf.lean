/- A range over a function whose loop variable is one that lay before (its cell is written by the assignment), and whose body is never left early. -/
import Derived.Test.YtmaidjankakppaaLib
import Derived.RangeFuncFrom
import Derived.RangeFuncBound
import Derived.RangeFuncCalls
import Derived.RangeFuncLeaves
import Derived.RangeFuncWrites
import Derived.Shelf.Abstract
import Derived.Shelf.RegionOpen
import Derived.OwnWalkIn
import Derived.TacticsInMore
import Derived.LoopNIn
import Derived.LoopIn
namespace Go
open Go.RowKit Go.Shelf

/-- Every round goes on. -/
def OnOn {α : Type} (P : Program) (gf : Nat) (lb : Array Value) (enc : α → Array Value) (Kp : World → World → Prop) (S : List α → Prop) (N m : Nat) (w : World) : Prop :=
  ∀ (l : Nat) (J : List α → World → Prop) (W : World), Below w.heap.size w W → AbidesFrom W.heap.size J →
    (∀ pre x W1, J pre W1 → pre.length < N → YieldAt Fence.wide m P l (enc x) W1 fun e W' => e = .returned (.bool true) ∧ J (pre ++ [x]) W' ∧ Kp W1 W') →
    J [] W → Calls P gf (#[.func (.yield l) #[] #[]] ++ lb) W fun e W' => (∃ v, e = .returned v) ∧ ∃ xs, S xs ∧ J xs W'

theorem range_mid {P : Program} {n : Nat} {α : Type} {g : Operand} {ps : Array Tmp} {assign body : Code} {Q : Exit → Act → World → Prop} {a : Act} {w : World} {gf : Nat} {lb : Array Value}
    (hg : a.eval g = .func (.func gf) #[] lb) (eg : ∀ args w, (callFunc gf args).run P w = .ok (.enter gf args) w)
    {enc : α → Array Value} {Kp : World → World → Prop} {S : List α → Prop} {N m : Nat} (hseq : OnOn P gf lb enc Kp S N m w)
    (hKt : ∀ {A B C : World}, Kp A B → Kp B C → Kp A C) (hKb : ∀ (W : World) (l : Nat) (o o' : Obj), w.heap.size ≤ l → W.heap[l]? = some o → o.isCells = false → Kp W (W.putObj l o')) (hps : ∀ x, (enc x).size = ps.size)
    (I : List α → World → Prop) (hI : OwnFrom w.heap.size I) (h0 : I [] w) (Mid : List α → α → Act → World → Prop) (hM : ∀ pre x a', OwnFrom w.heap.size (fun (_ : Unit) W => Mid pre x a' W))
    (hassign : ∀ (l : Nat) (pre : List α) (x : α) (W : World) (K : Act → World → Prop), I pre W → pre.length < N → (∀ a' W', KeepsOthers W W' → Kp W W' → Mid pre x a' W' → K a' W') →
      assign.wpIn (Fence.wide.inRound l) m P (Exit.then K (fun _ _ _ => False)) { tmps := (ps.zip (enc x)).foldl (fun t (p, v) => t.setIfInBounds p v) a.tmps, defers := [] } W)
    (hbody : ∀ (l : Nat) (pre : List α) (x : α) (a' : Act) (W : World), Mid pre x a' W → body.wpIn (Fence.wide.inRound l) m P (fun e _ W' => e = .normal ∧ KeepsOthers W W' ∧ Kp W W' ∧ I (pre ++ [x]) W') a' W)
    (hdone : ∀ (D : Nat) (xs : List α) (W : World), w.heap.size ≤ D → S xs → I xs W → W.heap[D]? = some (.deferred (some [])) → Q .normal { a with defers := { target := .collected D, args := #[] } :: a.defers } W) :
    (Code.rangeFunc g ps assign body).wpIn Fence.wide n P Q a w := by
  refine wpIn_rangeFunc fun fn hfn => ?_
  obtain ⟨rec, hrec⟩ : ∃ rec : LoopState → Loop, rec = fun st => { state := st, pending := none, fn, tmps := a.tmps, params := ps, assign, body, defers := w.heap.size } := ⟨_, rfl⟩
  obtain ⟨W1, hW1⟩ : ∃ W1, (w.alloc (.deferred (some []))).alloc (.loop (rec .ready)) = W1 := ⟨_, rfl⟩
  have hL : W1.heap[w.heap.size + 1]? = some (.loop (rec .ready)) := by
    have := Go.Proofs.Ytmaidjankakppaa.alloc_new (w.alloc (.deferred (some []))) (.loop (rec .ready))
    rw [← hW1]
    simpa using this
  have hD : W1.heap[w.heap.size]? = some (.deferred (some [])) := by
    rw [← hW1, Below.heap_alloc _ _ _ (by simp)]
    exact Go.Proofs.Ytmaidjankakppaa.alloc_new w _
  have hb1 : Below w.heap.size w W1 := by
    rw [← hW1]
    exact ((Below.refl _ w).alloc (Nat.le_refl _) _).alloc (by simp) _
  have hI1 : I [] W1 := by
    rw [← hW1]
    exact hI.alloc _ (hI.alloc _ h0)
  have hs1 : W1.heap.size = w.heap.size + 2 := by rw [← hW1]; simp
  refine ⟨w.heap.size + 1, [{ target := .collected w.heap.size, args := #[] }], W1, { target := .fn (.func gf) lb, args := #[.func (.yield (w.heap.size + 1)) #[] #[]] }, W1, gf, #[.func (.yield (w.heap.size + 1)) #[] #[]] ++ lb, W1, ?_, ?_, fun _ _ => trivial, ?_, fun h => absurd h (by simp [Fence.wide]), ?_⟩
  · rw [← hW1, hrec]
    exact run_enterLoop_outer _ _ _ _ _
  · simp only [resolve, hg]
    simp [go_sem]
  · simp [invoke, go_sem, eg]
  · refine callsIn_wide.2 ?_
    refine (hseq (w.heap.size + 1) (fun pre W => (I pre W ∧ W.heap[w.heap.size + 1]? = some (.loop (rec .ready))) ∧ W.heap[w.heap.size]? = some (.deferred (some []))) W1 hb1 ?_ ?_ ⟨⟨hI1, hL⟩, hD⟩).mono ?_
    · -- what the iterator does of its own
      rintro s A B row ⟨⟨hs, hl⟩, hk⟩ hg' hr
      have hne : ∀ j, j < w.heap.size + 2 → some j ≠ row := fun j hj e => by
        have := (hr j e.symm).1
        omega
      refine ⟨⟨hI s A B row hs hg' fun r e => ?_, ?_⟩, ?_⟩
      · obtain ⟨h1, o, h2, h3⟩ := hr r e
        exact ⟨by omega, o, h2, Obj.not_cells_of_walk h3⟩
      · exact (hg'.block _ (Array.getElem?_eq_some_iff.1 hl).1 (hne _ (by omega))).trans hl
      · exact (hg'.block _ (Array.getElem?_eq_some_iff.1 hk).1 (hne _ (by omega))).trans hk
    · -- one round
      rintro pre x W ⟨⟨hi, hl⟩, hk⟩ hlen
      have hy := run_yield (P := P) (args := enc x) hl (by rw [hrec]; exact hps x)
      rw [hrec] at hy
      refine ⟨fn, _, assign, body, hy, roundIn_of_wpIn hfn (hassign _ pre x W _ hi hlen ?_)⟩
      intro a' Wa ha1 ha2 ha3
      have hl1 := ha1.same _ _ hl rfl
      have hk1 := ha1.same _ _ hk rfl
      have hlt : w.heap.size + 1 < Wa.heap.size := (Array.getElem?_eq_some_iff.1 hl1).1
      refine ⟨_, run_beginRound hl1 (by rw [hrec]), ?_⟩
      have hl2 : (Wa.putObj (w.heap.size + 1) (.loop { rec .ready with state := .busy })).heap[w.heap.size + 1]? = some (.loop { rec .ready with state := .busy }) := World.putObj_heap_same hlt
      have hk2 : (Wa.putObj (w.heap.size + 1) (.loop { rec .ready with state := .busy })).heap[w.heap.size]? = some (.deferred (some [])) := (World.putObj_heap_other (by omega)).trans hk1
      refine wpIn_mono (hbody _ pre x a' _ ((hM pre x a').putObj (s := ()) _ ha3 (by omega) hl1 rfl)) ?_
      rintro e a3 W3 ⟨rfl, hb3, hk3, hi3⟩
      have hl3 := hb3.same _ _ hl2 rfl
      have hr := run_endRound (P := P) none hl3
      rw [hrec] at hr hl3
      refine ⟨_, _, hr, rfl, ⟨⟨hI.putObj _ hi3 (by omega) hl3 rfl, ?_⟩, ?_⟩, ?_⟩
      · rw [hrec]
        exact World.putObj_heap_same (Array.getElem?_eq_some_iff.1 hl3).1
      · exact (World.putObj_heap_other (by omega)).trans (hb3.same _ _ hk2 rfl)
      · exact hKt ha2 (hKt (hKt (hKb _ _ _ _ (by omega) hl1 rfl) hk3) (hKb _ _ _ _ (by omega) hl3 rfl))
    · -- at the end
      rintro e W2 ⟨⟨v, rfl⟩, xs, hS, ⟨hi, hl⟩, hk⟩
      have hr := run_endLoop (P := P) hl (by rw [hrec]; simp)
      rw [hrec] at hr
      exact ⟨none, _, hr, hdone _ xs _ (Nat.le_refl _) hS (hI.putObj _ hi (by omega) hl rfl) ((World.putObj_heap_other (by omega)).trans hk)⟩
end Go
