/- A range over a function whose loop variable is one that lay before (its cell is written by the assignment), and whose body is never left early. A range over a function whose body is never left early, and may rely on something of each value it is handed. Chapter 2: what a loop over all lists of times keeps, and rows that are grown anew. Contracts of chapter 2: all lists of times, yielded one after the other. A region that draws its order, walked by a plan within a round of a range over a function. -/
import Derived.Test.YtiibdndchkbefaaK06
import Derived.RangeFuncFrom
import Derived.RangeFuncBound
import Derived.RangeFuncCalls
import Derived.RangeFuncLeaves
import Derived.RangeFuncWrites
import Derived.Shelf.Abstract
import Derived.Shelf.RegionOpen
import Derived.OwnWalkIn
import Derived.TacticsInMore
import Derived.LoopNIn
import Derived.LoopIn
import Derived.ArgAppend
namespace Go
open Go.RowKit Go.Shelf

/-- Every round goes on. -/
def OnOn {α : Type} (P : Program) (gf : Nat) (lb : Array Value) (enc : α → Array Value) (Kp : World → World → Prop) (S : List α → Prop) (N m : Nat) (w : World) : Prop :=
  ∀ (l : Nat) (J : List α → World → Prop) (W : World), Below w.heap.size w W → AbidesFrom W.heap.size J →
    (∀ pre x W1, J pre W1 → pre.length < N → YieldAt Fence.wide m P l (enc x) W1 fun e W' => e = .returned (.bool true) ∧ J (pre ++ [x]) W' ∧ Kp W1 W') →
    J [] W → Calls P gf (#[.func (.yield l) #[] #[]] ++ lb) W fun e W' => (∃ v, e = .returned v) ∧ ∃ xs, S xs ∧ J xs W'

theorem range_mid {P : Program} {n : Nat} {α : Type} {g : Operand} {ps : Array Tmp} {assign body : Code} {Q : Exit → Act → World → Prop} {a : Act} {w : World} {gf : Nat} {lb : Array Value}
    (hg : a.eval g = .func (.func gf) #[] lb) (eg : ∀ args w, (callFunc gf args).run P w = .ok (.enter gf args) w)
    {enc : α → Array Value} {Kp : World → World → Prop} {S : List α → Prop} {N m : Nat} (hseq : OnOn P gf lb enc Kp S N m w)
    (hKt : ∀ {A B C : World}, Kp A B → Kp B C → Kp A C) (hKb : ∀ (W : World) (l : Nat) (o o' : Obj), w.heap.size ≤ l → W.heap[l]? = some o → o.isCells = false → Kp W (W.putObj l o')) (hps : ∀ x, (enc x).size = ps.size)
    (I : List α → World → Prop) (hI : OwnFrom w.heap.size I) (h0 : I [] w) (Mid : List α → α → Act → World → Prop) (hM : ∀ pre x a', OwnFrom w.heap.size (fun (_ : Unit) W => Mid pre x a' W))
    (hassign : ∀ (l : Nat) (pre : List α) (x : α) (W : World) (K : Act → World → Prop), I pre W → pre.length < N → (∀ a' W', KeepsOthers W W' → Kp W W' → Mid pre x a' W' → K a' W') →
      assign.wpIn (Fence.wide.inRound l) m P (Exit.then K (fun _ _ _ => False)) { tmps := (ps.zip (enc x)).foldl (fun t (p, v) => t.setIfInBounds p v) a.tmps, defers := [] } W)
    (hbody : ∀ (l : Nat) (pre : List α) (x : α) (a' : Act) (W : World), Mid pre x a' W → body.wpIn (Fence.wide.inRound l) m P (fun e _ W' => e = .normal ∧ KeepsOthers W W' ∧ Kp W W' ∧ I (pre ++ [x]) W') a' W)
    (hdone : ∀ (D : Nat) (xs : List α) (W : World), w.heap.size ≤ D → S xs → I xs W → W.heap[D]? = some (.deferred (some [])) → Q .normal { a with defers := { target := .collected D, args := #[] } :: a.defers } W) :
    (Code.rangeFunc g ps assign body).wpIn Fence.wide n P Q a w := by
  refine wpIn_rangeFunc fun fn hfn => ?_
  obtain ⟨rec, hrec⟩ : ∃ rec : LoopState → Loop, rec = fun st => { state := st, pending := none, fn, tmps := a.tmps, params := ps, assign, body, defers := w.heap.size } := ⟨_, rfl⟩
  obtain ⟨W1, hW1⟩ : ∃ W1, (w.alloc (.deferred (some []))).alloc (.loop (rec .ready)) = W1 := ⟨_, rfl⟩
  have hL : W1.heap[w.heap.size + 1]? = some (.loop (rec .ready)) := by
    have := Go.Proofs.Ytiibdndchkbefaa.alloc_new (w.alloc (.deferred (some []))) (.loop (rec .ready))
    rw [← hW1]
    simpa using this
  have hD : W1.heap[w.heap.size]? = some (.deferred (some [])) := by
    rw [← hW1, Below.heap_alloc _ _ _ (by simp)]
    exact Go.Proofs.Ytiibdndchkbefaa.alloc_new w _
  have hb1 : Below w.heap.size w W1 := by
    rw [← hW1]
    exact ((Below.refl _ w).alloc (Nat.le_refl _) _).alloc (by simp) _
  have hI1 : I [] W1 := by
    rw [← hW1]
    exact hI.alloc _ (hI.alloc _ h0)
  have hs1 : W1.heap.size = w.heap.size + 2 := by rw [← hW1]; simp
  refine ⟨w.heap.size + 1, [{ target := .collected w.heap.size, args := #[] }], W1, { target := .fn (.func gf) lb, args := #[.func (.yield (w.heap.size + 1)) #[] #[]] }, W1, gf, #[.func (.yield (w.heap.size + 1)) #[] #[]] ++ lb, W1, ?_, ?_, fun _ _ => trivial, ?_, fun h => absurd h (by simp [Fence.wide]), ?_⟩
  · rw [← hW1, hrec]
    exact run_enterLoop_outer _ _ _ _ _
  · simp only [resolve, hg]
    simp [go_sem]
  · simp [invoke, go_sem, eg]
  · refine callsIn_wide.2 ?_
    refine (hseq (w.heap.size + 1) (fun pre W => (I pre W ∧ W.heap[w.heap.size + 1]? = some (.loop (rec .ready))) ∧ W.heap[w.heap.size]? = some (.deferred (some []))) W1 hb1 ?_ ?_ ⟨⟨hI1, hL⟩, hD⟩).mono ?_
    · -- what the iterator does of its own
      rintro s A B row ⟨⟨hs, hl⟩, hk⟩ hg' hr
      have hne : ∀ j, j < w.heap.size + 2 → some j ≠ row := fun j hj e => by
        have := (hr j e.symm).1
        omega
      refine ⟨⟨hI s A B row hs hg' fun r e => ?_, ?_⟩, ?_⟩
      · obtain ⟨h1, o, h2, h3⟩ := hr r e
        exact ⟨by omega, o, h2, Obj.not_cells_of_walk h3⟩
      · exact (hg'.block _ (Array.getElem?_eq_some_iff.1 hl).1 (hne _ (by omega))).trans hl
      · exact (hg'.block _ (Array.getElem?_eq_some_iff.1 hk).1 (hne _ (by omega))).trans hk
    · -- one round
      rintro pre x W ⟨⟨hi, hl⟩, hk⟩ hlen
      have hy := run_yield (P := P) (args := enc x) hl (by rw [hrec]; exact hps x)
      rw [hrec] at hy
      refine ⟨fn, _, assign, body, hy, roundIn_of_wpIn hfn (hassign _ pre x W _ hi hlen ?_)⟩
      intro a' Wa ha1 ha2 ha3
      have hl1 := ha1.same _ _ hl rfl
      have hk1 := ha1.same _ _ hk rfl
      have hlt : w.heap.size + 1 < Wa.heap.size := (Array.getElem?_eq_some_iff.1 hl1).1
      refine ⟨_, run_beginRound hl1 (by rw [hrec]), ?_⟩
      have hl2 : (Wa.putObj (w.heap.size + 1) (.loop { rec .ready with state := .busy })).heap[w.heap.size + 1]? = some (.loop { rec .ready with state := .busy }) := World.putObj_heap_same hlt
      have hk2 : (Wa.putObj (w.heap.size + 1) (.loop { rec .ready with state := .busy })).heap[w.heap.size]? = some (.deferred (some [])) := (World.putObj_heap_other (by omega)).trans hk1
      refine wpIn_mono (hbody _ pre x a' _ ((hM pre x a').putObj (s := ()) _ ha3 (by omega) hl1 rfl)) ?_
      rintro e a3 W3 ⟨rfl, hb3, hk3, hi3⟩
      have hl3 := hb3.same _ _ hl2 rfl
      have hr := run_endRound (P := P) none hl3
      rw [hrec] at hr hl3
      refine ⟨_, _, hr, rfl, ⟨⟨hI.putObj _ hi3 (by omega) hl3 rfl, ?_⟩, ?_⟩, ?_⟩
      · rw [hrec]
        exact World.putObj_heap_same (Array.getElem?_eq_some_iff.1 hl3).1
      · exact (World.putObj_heap_other (by omega)).trans (hb3.same _ _ hk2 rfl)
      · exact hKt ha2 (hKt (hKt (hKb _ _ _ _ (by omega) hl1 rfl) hk3) (hKb _ _ _ _ (by omega) hl3 rfl))
    · -- at the end
      rintro e W2 ⟨⟨v, rfl⟩, xs, hS, ⟨hi, hl⟩, hk⟩
      have hr := run_endLoop (P := P) hl (by rw [hrec]; simp)
      rw [hrec] at hr
      exact ⟨none, _, hr, hdone _ xs _ (Nat.le_refl _) hS (hI.putObj _ hi (by omega) hl rfl) ((World.putObj_heap_other (by omega)).trans hk)⟩
end Go

namespace Go
open Go.RowKit Go.Shelf

/-- Every round goes on. -/
def OnOnP {α : Type} (P : Program) (gf : Nat) (lb : Array Value) (enc : α → Array Value) (Kp : World → World → Prop) (Px : α → World → Prop) (S : List α → Prop) (m : Nat) (w : World) : Prop :=
  ∀ (l : Nat) (J : List α → World → Prop) (W : World), Below w.heap.size w W → AbidesFrom W.heap.size J →
    (∀ pre x W1, J pre W1 → Px x W1 → YieldAt Fence.wide m P l (enc x) W1 fun e W' => e = .returned (.bool true) ∧ J (pre ++ [x]) W' ∧ Kp W1 W') →
    J [] W → Calls P gf (#[.func (.yield l) #[] #[]] ++ lb) W fun e W' => (∃ v, e = .returned v) ∧ ∃ xs, S xs ∧ J xs W'

theorem range_midP {P : Program} {n : Nat} {α : Type} {g : Operand} {ps : Array Tmp} {assign body : Code} {Q : Exit → Act → World → Prop} {a : Act} {w : World} {gf : Nat} {lb : Array Value}
    (hg : a.eval g = .func (.func gf) #[] lb) (eg : ∀ args w, (callFunc gf args).run P w = .ok (.enter gf args) w)
    {enc : α → Array Value} {Kp : World → World → Prop} {Px : α → World → Prop} {S : List α → Prop} {m : Nat} (hseq : OnOnP P gf lb enc Kp Px S m w)
    (hKt : ∀ {A B C : World}, Kp A B → Kp B C → Kp A C) (hKb : ∀ (W : World) (l : Nat) (o o' : Obj), w.heap.size ≤ l → W.heap[l]? = some o → o.isCells = false → Kp W (W.putObj l o')) (hps : ∀ x, (enc x).size = ps.size)
    (I : List α → World → Prop) (hI : OwnFrom w.heap.size I) (h0 : I [] w) (Mid : List α → α → Act → World → Prop) (hM : ∀ pre x a', OwnFrom w.heap.size (fun (_ : Unit) W => Mid pre x a' W))
    (hassign : ∀ (l : Nat) (pre : List α) (x : α) (W : World) (K : Act → World → Prop), I pre W → Px x W → (∀ a' W', KeepsOthers W W' → Kp W W' → Mid pre x a' W' → K a' W') →
      assign.wpIn (Fence.wide.inRound l) m P (Exit.then K (fun _ _ _ => False)) { tmps := (ps.zip (enc x)).foldl (fun t (p, v) => t.setIfInBounds p v) a.tmps, defers := [] } W)
    (hbody : ∀ (l : Nat) (pre : List α) (x : α) (a' : Act) (W : World), Mid pre x a' W → body.wpIn (Fence.wide.inRound l) m P (fun e _ W' => e = .normal ∧ KeepsOthers W W' ∧ Kp W W' ∧ I (pre ++ [x]) W') a' W)
    (hdone : ∀ (D : Nat) (xs : List α) (W : World), w.heap.size ≤ D → S xs → I xs W → W.heap[D]? = some (.deferred (some [])) → Q .normal { a with defers := { target := .collected D, args := #[] } :: a.defers } W) :
    (Code.rangeFunc g ps assign body).wpIn Fence.wide n P Q a w := by
  refine wpIn_rangeFunc fun fn hfn => ?_
  obtain ⟨rec, hrec⟩ : ∃ rec : LoopState → Loop, rec = fun st => { state := st, pending := none, fn, tmps := a.tmps, params := ps, assign, body, defers := w.heap.size } := ⟨_, rfl⟩
  obtain ⟨W1, hW1⟩ : ∃ W1, (w.alloc (.deferred (some []))).alloc (.loop (rec .ready)) = W1 := ⟨_, rfl⟩
  have hL : W1.heap[w.heap.size + 1]? = some (.loop (rec .ready)) := by
    have := Go.Proofs.Ytiibdndchkbefaa.alloc_new (w.alloc (.deferred (some []))) (.loop (rec .ready))
    rw [← hW1]
    simpa using this
  have hD : W1.heap[w.heap.size]? = some (.deferred (some [])) := by
    rw [← hW1, Below.heap_alloc _ _ _ (by simp)]
    exact Go.Proofs.Ytiibdndchkbefaa.alloc_new w _
  have hb1 : Below w.heap.size w W1 := by
    rw [← hW1]
    exact ((Below.refl _ w).alloc (Nat.le_refl _) _).alloc (by simp) _
  have hI1 : I [] W1 := by
    rw [← hW1]
    exact hI.alloc _ (hI.alloc _ h0)
  have hs1 : W1.heap.size = w.heap.size + 2 := by rw [← hW1]; simp
  refine ⟨w.heap.size + 1, [{ target := .collected w.heap.size, args := #[] }], W1, { target := .fn (.func gf) lb, args := #[.func (.yield (w.heap.size + 1)) #[] #[]] }, W1, gf, #[.func (.yield (w.heap.size + 1)) #[] #[]] ++ lb, W1, ?_, ?_, fun _ _ => trivial, ?_, fun h => absurd h (by simp [Fence.wide]), ?_⟩
  · rw [← hW1, hrec]
    exact run_enterLoop_outer _ _ _ _ _
  · simp only [resolve, hg]
    simp [go_sem]
  · simp [invoke, go_sem, eg]
  · refine callsIn_wide.2 ?_
    refine (hseq (w.heap.size + 1) (fun pre W => (I pre W ∧ W.heap[w.heap.size + 1]? = some (.loop (rec .ready))) ∧ W.heap[w.heap.size]? = some (.deferred (some []))) W1 hb1 ?_ ?_ ⟨⟨hI1, hL⟩, hD⟩).mono ?_
    · -- what the iterator does of its own
      rintro s A B row ⟨⟨hs, hl⟩, hk⟩ hg' hr
      have hne : ∀ j, j < w.heap.size + 2 → some j ≠ row := fun j hj e => by
        have := (hr j e.symm).1
        omega
      refine ⟨⟨hI s A B row hs hg' fun r e => ?_, ?_⟩, ?_⟩
      · obtain ⟨h1, o, h2, h3⟩ := hr r e
        exact ⟨by omega, o, h2, Obj.not_cells_of_walk h3⟩
      · exact (hg'.block _ (Array.getElem?_eq_some_iff.1 hl).1 (hne _ (by omega))).trans hl
      · exact (hg'.block _ (Array.getElem?_eq_some_iff.1 hk).1 (hne _ (by omega))).trans hk
    · -- one round
      rintro pre x W ⟨⟨hi, hl⟩, hk⟩ hpx
      have hy := run_yield (P := P) (args := enc x) hl (by rw [hrec]; exact hps x)
      rw [hrec] at hy
      refine ⟨fn, _, assign, body, hy, roundIn_of_wpIn hfn (hassign _ pre x W _ hi hpx ?_)⟩
      intro a' Wa ha1 ha2 ha3
      have hl1 := ha1.same _ _ hl rfl
      have hk1 := ha1.same _ _ hk rfl
      have hlt : w.heap.size + 1 < Wa.heap.size := (Array.getElem?_eq_some_iff.1 hl1).1
      refine ⟨_, run_beginRound hl1 (by rw [hrec]), ?_⟩
      have hl2 : (Wa.putObj (w.heap.size + 1) (.loop { rec .ready with state := .busy })).heap[w.heap.size + 1]? = some (.loop { rec .ready with state := .busy }) := World.putObj_heap_same hlt
      have hk2 : (Wa.putObj (w.heap.size + 1) (.loop { rec .ready with state := .busy })).heap[w.heap.size]? = some (.deferred (some [])) := (World.putObj_heap_other (by omega)).trans hk1
      refine wpIn_mono (hbody _ pre x a' _ ((hM pre x a').putObj (s := ()) _ ha3 (by omega) hl1 rfl)) ?_
      rintro e a3 W3 ⟨rfl, hb3, hk3, hi3⟩
      have hl3 := hb3.same _ _ hl2 rfl
      have hr := run_endRound (P := P) none hl3
      rw [hrec] at hr hl3
      refine ⟨_, _, hr, rfl, ⟨⟨hI.putObj _ hi3 (by omega) hl3 rfl, ?_⟩, ?_⟩, ?_⟩
      · rw [hrec]
        exact World.putObj_heap_same (Array.getElem?_eq_some_iff.1 hl3).1
      · exact (World.putObj_heap_other (by omega)).trans (hb3.same _ _ hk2 rfl)
      · exact hKt ha2 (hKt (hKt (hKb _ _ _ _ (by omega) hl1 rfl) hk3) (hKb _ _ _ _ (by omega) hl3 rfl))
    · -- at the end
      rintro e W2 ⟨⟨v, rfl⟩, xs, hS, ⟨hi, hl⟩, hk⟩
      have hr := run_endLoop (P := P) hl (by rw [hrec]; simp)
      rw [hrec] at hr
      exact ⟨none, _, hr, hdone _ xs _ (Nat.le_refl _) hS (hI.putObj _ hi (by omega) hl rfl) ((World.putObj_heap_other (by omega)).trans hk)⟩
end Go

namespace Go.Proofs.Ytiibdndchkbefaa
open Go.RowKit Go.Shelf
open Calmly (Kept)

/-- All cells are as they were, but for those of some blocks. -/
structure Keeps (L : List Nat) (A B : World) : Prop where
  size : A.heap.size ≤ B.heap.size
  same : ∀ b o, b ∉ L → A.heap[b]? = some o → o.isCells = true → B.heap[b]? = some o
theorem Keeps.refl (L : List Nat) (A : World) : Keeps L A A := ⟨Nat.le_refl _, fun _ _ _ h _ => h⟩
theorem Keeps.trans {L : List Nat} {A B C : World} (h : Keeps L A B) (k : Keeps L B C) : Keeps L A C := ⟨Nat.le_trans h.size k.size, fun b o hb ho hc => k.same b o hb (h.same b o hb ho hc) hc⟩
theorem Keeps.of_below {L : List Nat} {A B : World} (h : Below A.heap.size A B) : Keeps L A B := ⟨h.size, fun b _ _ ho _ => (h.block b (Array.getElem?_eq_some_iff.1 ho).1).trans ho⟩
theorem Keeps.drew {L : List Nat} (A : World) : Keeps L A A.drew := ⟨Nat.le_refl _, fun _ _ _ h _ => h⟩
theorem Keeps.put {L : List Nat} {W : World} {l : Nat} {o : Obj} (o' : Obj) (hl : W.heap[l]? = some o) (ho : o.isCells = false) : Keeps L W (W.putObj l o') := ⟨by simp, fun b ob _ hb hc => by
  refine (World.putObj_heap_other ?_).trans hb
  rintro rfl
  rw [hl] at hb
  cases hb
  rw [ho] at hc
  cases hc⟩
theorem Keeps.setCell {L : List Nat} (W : World) {b : Nat} (o : Nat) (v : Value) (h : b ∈ L) : Keeps L W (W.setCell ⟨b, o, none⟩ v) := ⟨by simp, fun k ob hk hb _ => by
  rw [Below.heap_setCell _ _ _ _ (by rintro rfl; exact hk h)]
  exact hb⟩
theorem cell_blk {w : World} {b o : Nat} {v : Value} (h : w.cell? ⟨b, o, none⟩ = some v) : ∃ cs t z, w.heap[b]? = some (.cells cs t z) := by
  unfold World.cell? at h
  cases hb : w.heap[b]? with
  | none => simp [hb] at h
  | some ob =>
    cases ob <;> simp [hb] at h
    exact ⟨_, _, _, rfl⟩
theorem Keeps.cell {L : List Nat} {A B : World} (h : Keeps L A B) {b o : Nat} {v : Value} (hb : b ∉ L) (hc : A.cell? ⟨b, o, none⟩ = some v) : B.cell? ⟨b, o, none⟩ = some v := by
  obtain ⟨cs, t, z, hh⟩ := cell_blk hc
  rw [World.cell?_of_block ((h.same b _ hb hh rfl).trans hh.symm)]
  exact hc
theorem Keeps.blk {L : List Nat} {A B : World} (h : Keeps L A B) {b : Nat} {cs : Array Value} {t : TypeId} (hb : b ∉ L) (hc : A.heap[b]? = some (.cells cs t)) : B.heap[b]? = some (.cells cs t) := h.same b _ hb hc rfl
theorem Keeps.si {L : List Nat} {A B : World} (h : Keeps L A B) {a : Option Addr} {n c : Nat} {xs : List Int} (hs : SI A a n c xs) (hL : ∀ b o, a = some ⟨b, o, none⟩ → b ∉ L) : SI B a n c xs := by
  obtain ⟨h1, h2, h3, h4⟩ := hs
  refine ⟨h1, h2, h3, ?_⟩
  rcases h4 with h4 | ⟨b, off, ha, hc⟩
  · exact .inl h4
  · refine .inr ⟨b, off, ha, fun i hi => ?_⟩
    have := hc i hi
    have hs : i < (xs.map (Value.int .i64)).length := by omega
    rw [List.getElem?_eq_getElem hs] at this ⊢
    exact h.cell (hL b off ha) this
theorem OwI.keeps {L : List Nat} {A B : World} {B0 : Nat} {a : Option Addr} {n c : Nat} {xs : List Int} (hs : OwI A B0 a n c xs) (h : Keeps L A B) (hL : ∀ b, b ∈ L → b < B0) : OwI B B0 a n c xs := by
  obtain ⟨h1, h2⟩ := hs
  refine ⟨h1, ?_⟩
  rcases h2 with h2 | ⟨g, cap, cur, hv, hg, hh, r⟩
  · exact .inl h2
  · exact .inr ⟨g, cap, cur, hv, hg, h.same g _ (fun hm => by have := hL g hm; omega) hh rfl, r⟩
theorem OwI.ge {A : World} {B0 : Nat} {a : Option Addr} {n c : Nat} {xs : List Int} (hs : OwI A B0 a n c xs) : ∀ b o, a = some ⟨b, o, none⟩ → B0 ≤ b := by
  rintro b o rfl
  obtain ⟨h1, h2⟩ := hs
  rcases h2 with ⟨h2, _⟩ | ⟨g, cap, cur, hv, hg, r⟩
  · cases h2
  · cases hv
    exact hg

/-- 'append' to a slice that is full: a row of its own, whatever the slice was. -/
theorem appG {ops : Array Oper} {rest : List Oper} {o : Oper} {a : Act} {Q : Exit → Act → World → Prop} {w0 : World} {av : Option Addr} {n c : Nat} {xs : List Int} {v : Int} (hgd : o.guard = none) (s x : Operand)
    (ho : o.op = .call { callee := .builtin .append, args := #[s, x], argTypes := #[22, 22] })
    (hsi : SI w0 av n c xs) (hc : c = n) (hs : a.eval s = .slice av n c) (hx : a.eval x = .slice (some ⟨w0.heap.size, 0, none⟩) 1 1) (hb1 : n + 1 ≤ 17592186044416)
    (h : ∀ a' c' w', OwI w' w0.heap.size a' (n + 1) c' (xs ++ [v]) → Below w0.heap.size w0 w' → w0.heap.size < w'.heap.size → wpList Try.prog ops Q rest (a.put o.dst (.slice a' (n + 1) c')) w') :
    wpList Try.prog ops Q (o :: rest) a (w0.alloc (.cells #[.int .i64 v] 3)) := by
  obtain ⟨i0, hi, hz0, hz1, hz2⟩ := info_parts Try.info_int
  have hb : Below w0.heap.size w0 (w0.alloc (.cells #[.int .i64 v] 3)) := (Below.refl _ _).alloc (Nat.le_refl _) _
  have hsi' := hsi.keep hb
  refine wpList_append_grows _ hgd s x _ ho _ i0 (.int .i64 0) 1 8 Try.underlying22 hi hz0 hz1 hz2 rfl (by decide) av n c (xs.map (Value.int .i64)) hs ?_ ?_ ?_ ⟨w0.heap.size, 0, none⟩ 1 1 [Value.int .i64 v] hx rfl (cells_new w0 _ _) (by simp [Value.oneCell']) (by omega) (by unfold maxLen; omega) (by omega) ?_
  · rintro rfl
    exact ⟨hsi.none_.1, hsi.none_.2.1⟩
  · have := hsi.len
    simp
    omega
  · rintro b rfl j u hj
    have hjl : j < (xs.map (Value.int .i64)).length := (List.getElem?_eq_some_iff.1 hj).1
    obtain ⟨h1, _, _, h4⟩ := hsi'
    rcases h4 with h4 | ⟨b', off, hb', hcell⟩
    · have : (xs.map (Value.int .i64)).length = 0 := by omega
      omega
    · cases hb'
      rw [Addr.add_lit, hcell j (by omega)]
      exact hj
  · intro v' w1 ho1 hg
    obtain ⟨a', c', rfl⟩ := owns_slice ho1
    have hsz := hg.size
    refine h a' c' w1 ?_ (hb.trans (grown_below hg (by simp) (fun k hk => by cases hk))) (by simp at hsz; omega)
    have ho2 : w1.ownsRow w0.heap.size 3 1 (.slice a' (n + 1) c') (n + 1) ((xs ++ [v]).map (Value.int .i64)) := by
      obtain ⟨k1, k2⟩ := ho1
      refine ⟨by simpa using k1, ?_⟩
      rcases k2 with k2 | ⟨g, cap, cur, hv, hg', r⟩
      · exact .inl k2
      · exact .inr ⟨g, cap, cur, hv, by simp at hg'; omega, by simpa using r⟩
    exact ho2
end Go.Proofs.Ytiibdndchkbefaa

namespace Go.Proofs.Ytiibdndchkbefaa
open Go.RowKit Go.Shelf
attribute [local go_sem] Oper.semAt_some
open Calmly (Kept)

/-- A slice of times, and what it reads. -/
abbrev Tm := (Option Addr × Nat × Nat) × List Int
abbrev encT (x : Tm) : Array Value := #[.slice x.1.1 x.1.2.1 x.1.2.2]
def PxT (L : List Nat) (m : Nat) (x : Tm) (W : World) : Prop := SI W x.1.1 x.1.2.1 x.1.2.2 x.2 ∧ (∀ b o, x.1.1 = some ⟨b, o, none⟩ → b ∉ L) ∧ x.2.length = m ∧ ∀ j : Nat, -2 ≤ x.2[j]?.getD 0 ∧ x.2[j]?.getD 0 ≤ 2
theorem app_bd {pre : List Int} {t : Int} (h : ∀ j : Nat, -2 ≤ pre[j]?.getD 0 ∧ pre[j]?.getD 0 ≤ 2) (h1 : -2 ≤ t) (h2 : t ≤ 2) : ∀ j : Nat, -2 ≤ (pre ++ [t])[j]?.getD 0 ∧ (pre ++ [t])[j]?.getD 0 ≤ 2 := by
  intro j
  rcases Nat.lt_or_ge j pre.length with hj | hj
  · rw [List.getElem?_append_left hj]
    exact h j
  · rw [List.getElem?_append_right hj]
    rcases Nat.eq_zero_or_pos (j - pre.length) with h0 | h0
    · rw [h0]
      exact ⟨h1, h2⟩
    · rw [List.getElem?_eq_none (by simp; omega)]
      simp
/-- What the recursion reads. -/
structure GrowEnv (m l bw by' bg : Nat) (W : World) : Prop where
  w : W.heap[bw]? = some (.cells #[.int .i64 (m : Int)] 3)
  y : W.heap[by']? = some (.cells #[.func (.yield l) #[] #[]] 174)
  g : W.heap[bg]? = some (.cells #[.func (.func 144) #[] #[.pointer (some ⟨bw, 0, none⟩), .pointer (some ⟨by', 0, none⟩), .pointer (some ⟨bg, 0, none⟩)]] 174)
theorem GrowEnv.keeps {m l bw by' bg : Nat} {L : List Nat} {W W' : World} (h : GrowEnv m l bw by' bg W) (k : Keeps L W W') (h1 : bw ∉ L) (h2 : by' ∉ L) (h3 : bg ∉ L) : GrowEnv m l bw by' bg W' := ⟨k.blk h1 h.w, k.blk h2 h.y, k.blk h3 h.g⟩
theorem GrowEnv.below {m l bw by' bg : Nat} {W W' : World} (h : GrowEnv m l bw by' bg W) (k : Below W.heap.size W W') : GrowEnv m l bw by' bg W' := ⟨blk_keep h.w k, blk_keep h.y k, blk_keep h.g k⟩
theorem grown_of_below' {w w' : World} (h : Below w.heap.size w w') : w.grownBy w' none := ⟨h.os, h.tape, h.output, h.size, fun k hk _ => h.block k hk⟩

theorem round_wide' {m m' : Nat} {P : Program} {l : Nat} {f : FuncId} {tmps : Array Value} {assign body : Code} {w : World} {R : Ending → World → Prop}
    (h : RoundIn Fence.wide m P l f tmps assign body w R) : RoundIn Fence.wide m' P l f tmps assign body w R := ⟨h.1, fun c cs _ => h.2 c cs (room_wide _)⟩

theorem mix_appG (i : Nat) {w0 : World} {k : Calmly.Plan} {dst : Option Tmp} {s x : Operand} {ty : TypeId} {pos : String} {after : Array Edge} {a : Act} {W0 : World} {ops : Array Oper} {Q : Exit → Act → World → Prop} {av : Option Addr} {n : Nat} {xs : List Int} {v : Int}
    (hi : ops[i]? = some ⟨dst, .call { callee := .builtin .append, args := #[s, x], argTypes := #[22, 22] }, ty, pos, after, none⟩)
    (hsi : SI w0 av n n xs) (hs : a.eval s = .slice av n n) (hx : a.eval x = .slice (some ⟨w0.heap.size, 0, none⟩) 1 1) (hb1 : n + 1 ≤ 17592186044416)
    (h : ∀ a' c' w', OwI w' w0.heap.size a' (n + 1) c' (xs ++ [v]) → Below w0.heap.size w0 w' → w0.heap.size < w'.heap.size → Kept W0 w' ∧ Calmly.WpMix Try.prog ops Q W0 k (a.put dst (.slice a' (n + 1) c')) w') :
    Calmly.WpMix Try.prog ops Q W0 (.eff i k) a (w0.alloc (.cells #[.int .i64 v] 3)) := by
  refine Calmly.mix_eff hi (fun K hK => ?_)
  obtain ⟨i0, hi0, hz0, hz1, hz2⟩ := info_parts Try.info_int
  have hb : Below w0.heap.size w0 (w0.alloc (.cells #[.int .i64 v] 3)) := (Below.refl _ _).alloc (Nat.le_refl _) _
  have hsi' := hsi.keep hb
  have fin : ∀ v' w1, w1.ownsRow (w0.alloc (.cells #[.int .i64 v] 3)).heap.size 3 1 v' (n + 1) (xs.map (Value.int .i64) ++ [Value.int .i64 v]) → (w0.alloc (.cells #[.int .i64 v] 3)).grownBy w1 none → K (a.put dst v') w1 := by
    intro v' w1 ho1 hg
    obtain ⟨a', c', rfl⟩ := owns_slice ho1
    have hsz := hg.size
    refine hK _ _ (h a' c' w1 ?_ (hb.trans (grown_below hg (by simp) (fun k hk => by cases hk))) (by simp at hsz; omega))
    have ho2 : w1.ownsRow w0.heap.size 3 1 (.slice a' (n + 1) c') (n + 1) ((xs ++ [v]).map (Value.int .i64)) := by
      obtain ⟨k1, k2⟩ := ho1
      refine ⟨by simpa using k1, ?_⟩
      rcases k2 with k2 | ⟨g, cap, cur, hv, hg', r⟩
      · exact .inl k2
      · exact .inr ⟨g, cap, cur, hv, by simp at hg'; omega, by simpa using r⟩
    exact ho2
  rcases av with _ | p
  · obtain ⟨rfl, _, rfl⟩ := hsi'.none_
    obtain ⟨v', w', hrun, r1, r2, _⟩ := run_append_own (P := Try.prog) (w0.alloc (.cells #[.int .i64 v] 3)) (w0.alloc (.cells #[.int .i64 v] 3)).heap.size 22 ty _ i0 (.int .i64 0) 1 8 Try.underlying22 hi0 hz0 hz1 hz2 rfl (by decide) (.slice none 0 0) 0 [] (World.ownsRow_nil _ _ _ 1) ⟨w0.heap.size, 0, none⟩ 1 1 [Value.int .i64 v] rfl (cells_new w0 _ _) (by simp [Value.oneCell']) (by unfold maxLen; omega) (by omega) (Nat.le_refl _)
    unfold Oper.wp
    simp [execOp, resolve, invoke, builtin, hs, hx, hrun, Result.andThen]
    exact fin v' w' r1 r2
  · obtain ⟨h1, h2, h3, h4⟩ := hsi'
    obtain ⟨v', w', hrun, r1, r2⟩ := run_append_arg_grows (P := Try.prog) (w0.alloc (.cells #[.int .i64 v] 3)) 22 ty _ i0 (.int .i64 0) 1 8 Try.underlying22 hi0 hz0 hz1 hz2 rfl (by decide) p n n (xs.map (Value.int .i64)) h1 (fun j u hj => by
      have hjl : j < (xs.map (Value.int .i64)).length := (List.getElem?_eq_some_iff.1 hj).1
      rcases h4 with h4 | ⟨b', off, hp, hcell⟩
      · omega
      cases hp
      rw [Addr.add_lit, hcell j (by omega)]
      exact hj) ⟨w0.heap.size, 0, none⟩ 1 1 [Value.int .i64 v] rfl (cells_new w0 _ _) (by omega) (by unfold maxLen; omega) (by omega)
    unfold Oper.wp
    simp [execOp, resolve, invoke, builtin, hs, hx, hrun, Result.andThen]
    exact fin v' w' r1 r2
theorem SI.clip {w : World} {a : Option Addr} {n c : Nat} {xs : List Int} (h : SI w a n c xs) : SI w a n n xs := by
  obtain ⟨h1, h2, h3, h4⟩ := h
  refine ⟨h1, Nat.le_refl _, by omega, ?_⟩
  rcases h4 with rfl | h4
  · exact .inl (by omega)
  · exact .inr h4
/-- The first numbers of the five. -/
theorem five_take (j : Nat) (h : j < 5) : five.take (j + 1) = five.take j ++ [(j : Int) - 2] := by
  have : j = 0 ∨ j = 1 ∨ j = 2 ∨ j = 3 ∨ j = 4 := by omega
  rcases this with rfl | rfl | rfl | rfl | rfl <;> rfl

set_option maxRecDepth 100000 in
set_option maxHeartbeats 2000000 in
theorem grow_call (l : Nat) (L : List Nat) (m bw by' bg B BJ ky : Nat) (J : List Tm → World → Prop) (h1 : bw ∉ L) (h2 : by' ∉ L) (h3 : bg ∉ L) (hL : ∀ b, b ∈ L → b < B) (hm : m ≤ 1000)
    (hY : ∀ pre x W1, J pre W1 → PxT L m x W1 → YieldAt Fence.wide ky Try.prog l (encT x) W1 fun e W' => e = .returned (.bool true) ∧ J (pre ++ [x]) W' ∧ Keeps L W1 W') (hJ : AbidesFrom BJ J) (k : Nat) :
    ∀ (pre : List Int) (done : List Tm) (W : World) (a : Option Addr) (n c : Nat), pre.length + k = m → (∀ j : Nat, -2 ≤ pre[j]?.getD 0 ∧ pre[j]?.getD 0 ≤ 2) → OwI W B a n c pre → B ≤ W.heap.size → GrowEnv m l bw by' bg W → J done W →
      Calls Try.prog 144 #[.slice a n c, .pointer (some ⟨bw, 0, none⟩), .pointer (some ⟨by', 0, none⟩), .pointer (some ⟨bg, 0, none⟩)] W fun e W' =>
        e = .returned (.bool true) ∧ (∃ xs : List Tm, xs.map (·.2) = genC pre k ∧ J (done ++ xs) W') ∧ Keeps L W W' := by
  have HY := Lib.hid hY
  have HJ := Lib.hid hJ
  have HL := Lib.hid hL
  clear hY hJ hL
  induction k with
  | zero =>
    intro pre done W a n c hl hp hown hB henv hJd
    have hn := hown.len
    obtain ⟨q1, q2⟩ : n ≤ m ∧ m ≤ n := by omega
    have hq : ((n : Int) == (m : Int)) = true := by simp; omega
    have f1 := cell_block henv.w 0
    have f2 := cell_block henv.y 0
    have m1 := hown.si.max
    have c1 := hown.si.cap
    obtain ⟨fn, tmps, assign, body, hy, hR⟩ := HY.out done ((a, n, c), pre) W hJd ⟨hown.si, fun b o hb hm => by have := hown.ge b o hb; have := HL.out b hm; omega, by omega, hp⟩
    have hg : genC pre 0 = [pre] := genC_zero pre
    have HG := Lib.hid hg
    dsimp only [encT] at hy
    clear hn hl hg hp
    refine (callsIn_wide (n := 5)).1 ?_
    refine callsIn_of_wp Try.func144 rfl trivial ?_ rfl
    simp only [Try.ntmps144, List.size_toArray, List.length_cons, List.length_nil, Nat.reduceAdd, Nat.reduceSub, Array.replicate_succ, Array.replicate_zero, List.push_toArray, List.append_toArray, List.nil_append, List.cons_append]
    gi_wp2
    refine (round_wide' hR).mono ?_
    rintro e W5 ⟨rfl, hJ5, hk5⟩
    gi_wp2
    go_ret
    exact ⟨rfl, ⟨[((a, n, c), pre)], by rw [HG.out]; rfl, hJ5⟩, hk5⟩
  | succ k ih =>
    intro pre done W a n c hl hp hown hB henv hJd
    have hn := hown.len
    have hnm : n < m := by omega
    have hq : ((n : Int) == (m : Int)) = false := by simp; omega
    have f1 := cell_block henv.w 0
    have IH := Lib.hid ih
    have HP := Lib.hid hp
    have HN := Lib.hid hn
    have hl2 : pre.length + 1 + k = m := by omega
    clear ih hn hl hp
    go_enter Try.func144, Try.ntmps144
    go_wp2_with fail
    go_loopw [6] (fun i wr => ∃ j : Nat, j ≤ 5 ∧ i = .int .i64 ((j : Int) - 2) ∧ (∃ xs : List Tm, xs.map (·.2) = (five.take j).flatMap (fun t => genC (pre ++ [t]) k) ∧ J (done ++ xs) wr) ∧ Keeps L W wr) (fun i _ => 5 - (intOf i + 2).toNat)
    case atStart => exact ⟨0, by omega, rfl, ⟨[], rfl, by simpa using hJd⟩, Keeps.refl _ _⟩
    case round =>
      clear hJd
      obtain ⟨j, hj, rfl, ⟨xs, hxs, hJx⟩, hkp⟩ := hrel
      have hrs := hkp.size
      have HXS := Lib.hid hxs
      clear hxs
      have ow := hown.keeps hkp HL.out
      have ev := henv.keeps hkp h1 h2 h3
      have m1 := ow.si.max
      have c1 := ow.si.cap
      by_cases hlt : j < 5
      · have hi : (j : Int) - 2 ≤ 2 := by omega
        have g3 := cell_block ev.g 0
        have hft := five_take j hlt
        have HFT := Lib.hid hft
        clear hft
        go_wp2_with fail
        refine Calmly.wp_region_mix 6 (.fl 0 <| .fl 1 <| .fl 3 <| .alt 2 (.eff 4 <| .eff 5 <| .tail [6, 7]) (.eff 4 (.eff 2 <| .eff 5 <| .tail [6, 7]))) (by kernel_rfl) (by kernel_rfl) ?_
        have BV : Below wr.heap.size wr wr.drew := (Below.refl _ _).drew
        generalize wr.drew = V at BV ⊢
        have kv := hkp.trans (Keeps.of_below BV)
        have hJv := HJ.out _ wr V none hJx (grown_of_below' BV) (fun r e => by cases e)
        have siV := ow.si.keep BV
        have evV := ev.below BV
        have hBV : B ≤ V.heap.size := by have := BV.size; omega
        have g4 := cell_keep g3 BV
        have hn1 : n + 1 ≤ 17592186044416 := by omega
        clear hJx
        have hk := Below.refl V.heap.size V
        go_wp2_with (first | (refine mix_appG 5 (xs := pre) (v := (j : Int) - 2) rfl siV.clip rfl rfl hn1 (fun a2 c2 w6 ho6 hb6 hs6 => ?_); replace hk := hb6; refine ⟨kept_of hk, ?_⟩) | ((with_reducible refine Calmly.is_fl ?_); refine Calmly.mix_fl rfl ?_ (fun _ _ => ?_); (first | exact .move _ | exact .load _ _ | exact .fieldAddr _ _ _ (by kernel_rfl) | exact .assign _ | exact .binOp _ _ _ _ _ rfl | exact .indexAddr _ _ _ | exact .len _ _ (by kernel_rfl) | exact .field _ _ _ | exact .extract _ _ | exact .pick _ _ _ | exact .build _ _ | exact .slice _ _ _ _ _ | exact .unOp _ _ _ rfl | exact .index _ _ _ | exact .max _ _ _ rfl rfl | exact .min _ _ _ rfl rfl)) | ((with_reducible refine Calmly.is_gl ?_); refine Calmly.mix_gl rfl rfl rfl ?_; first | ((first | with_reducible refine Calmly.gl_tt ?_ (fun _ _ => ?_) | with_reducible refine Calmly.gl_ff ?_ (fun _ _ => ?_)); (first | exact .move _ | exact .load _ _ | exact .fieldAddr _ _ _ (by kernel_rfl) | exact .assign _ | exact .binOp _ _ _ _ _ rfl | exact .indexAddr _ _ _ | exact .len _ _ (by kernel_rfl) | exact .field _ _ _ | exact .extract _ _ | exact .pick _ _ _ | exact .build _ _ | exact .slice _ _ _ _ _ | exact .unOp _ _ _ rfl | exact .index _ _ _ | exact .max _ _ _ rfl rfl | exact .min _ _ _ rfl rfl)) | with_reducible refine Calmly.gl_tf (fun _ _ => ?_) | with_reducible refine Calmly.gl_ft (fun _ _ => ?_)) | ((with_reducible refine Calmly.is_eff ?_); refine Calmly.mix_eff rfl (fun _ _ => ?_)) | ((with_reducible refine Calmly.is_gf ?_); refine Calmly.mix_gf rfl rfl rfl ?_; first | with_reducible refine Calmly.gf_tt (fun _ _ => ?_) | with_reducible refine Calmly.gf_ff (fun _ _ => ?_) | with_reducible refine Calmly.gf_tf (kept_of hk) (fun _ _ => ?_) | with_reducible refine Calmly.gf_ft (kept_of hk) (fun _ _ => ?_)) | ((with_reducible refine Calmly.is_tail ?_); first | refine Calmly.mix_tail_nil ?_ | refine Calmly.mix_tail rfl (fun _ _ => ?_)) | ((with_reducible refine Calmly.is_kept ?_); refine ⟨kept_of hk, ?_⟩) | (with_reducible refine Calmly.mix_alt ?_ ?_) | (refine kept_alloc hk (fun hk' hblk hge => ?_); replace hk := hk'; clear hk') | (go_at_call 145; refine (clip_any a n c pre _ (SI.keep (w := V) siV hk)).mono ?_; rintro e w1 ⟨rfl, rfl⟩))
        all_goals
          have hJ6 := HJ.out _ V w6 none hJv (grown_of_below' hk) (fun r e => by cases e)
          refine (IH.out (pre ++ [(j : Int) - 2]) (done ++ xs) w6 a2 (n + 1) c2 (by simp; omega) (app_bd HP.out (by omega) hi) (ho6.weak hBV) (by omega) (evV.below hk) hJ6).mono ?_
          rintro e w7 ⟨rfl, ⟨ys, hys, hJ7⟩, hk7⟩
          go_wp2_with (first | ((with_reducible refine Calmly.is_fl ?_); refine Calmly.mix_fl rfl ?_ (fun _ _ => ?_); (first | exact .move _ | exact .load _ _ | exact .fieldAddr _ _ _ (by kernel_rfl) | exact .assign _ | exact .binOp _ _ _ _ _ rfl | exact .indexAddr _ _ _ | exact .len _ _ (by kernel_rfl) | exact .field _ _ _ | exact .extract _ _ | exact .pick _ _ _ | exact .build _ _ | exact .slice _ _ _ _ _ | exact .unOp _ _ _ rfl | exact .index _ _ _ | exact .max _ _ _ rfl rfl | exact .min _ _ _ rfl rfl)) | ((with_reducible refine Calmly.is_gl ?_); refine Calmly.mix_gl rfl rfl rfl ?_; first | ((first | with_reducible refine Calmly.gl_tt ?_ (fun _ _ => ?_) | with_reducible refine Calmly.gl_ff ?_ (fun _ _ => ?_)); (first | exact .move _ | exact .load _ _ | exact .fieldAddr _ _ _ (by kernel_rfl) | exact .assign _ | exact .binOp _ _ _ _ _ rfl | exact .indexAddr _ _ _ | exact .len _ _ (by kernel_rfl) | exact .field _ _ _ | exact .extract _ _ | exact .pick _ _ _ | exact .build _ _ | exact .slice _ _ _ _ _ | exact .unOp _ _ _ rfl | exact .index _ _ _ | exact .max _ _ _ rfl rfl | exact .min _ _ _ rfl rfl)) | with_reducible refine Calmly.gl_tf (fun _ _ => ?_) | with_reducible refine Calmly.gl_ft (fun _ _ => ?_)) | ((with_reducible refine Calmly.is_eff ?_); refine Calmly.mix_eff rfl (fun _ _ => ?_)) | ((with_reducible refine Calmly.is_gf ?_); refine Calmly.mix_gf rfl rfl rfl ?_; first | with_reducible refine Calmly.gf_tt (fun _ _ => ?_) | with_reducible refine Calmly.gf_ff (fun _ _ => ?_) | with_reducible refine Calmly.gf_tf (kept_of hk) (fun _ _ => ?_) | with_reducible refine Calmly.gf_ft (kept_of hk) (fun _ _ => ?_)) | ((with_reducible refine Calmly.is_tail ?_); first | refine Calmly.mix_tail_nil ?_ | refine Calmly.mix_tail rfl (fun _ _ => ?_)) | ((with_reducible refine Calmly.is_kept ?_); refine ⟨kept_of hk, ?_⟩) | (with_reducible refine Calmly.mix_alt ?_ ?_))
          go_roundw
          case rel => exact ⟨j + 1, by omega, by go_num, ⟨xs ++ ys, by rw [HFT.out, List.flatMap_append, List.map_append, HXS.out, hys]; simp, by rw [← List.append_assoc]; exact hJ7⟩, (kv.trans (Keeps.of_below hk)).trans hk7⟩
          case measure => simp [intOf]; omega
      · have hi : (2 : Int) < (j : Int) - 2 := by omega
        obtain rfl : j = 5 := by omega
        go_wp2_with fail
        go_ret
        refine ⟨rfl, ⟨xs, ?_, hJx⟩, hkp⟩
        rw [HXS.out, genC_succ]
        rfl
end Go.Proofs.Ytiibdndchkbefaa

namespace Go.Calmly
open Go
section
variable {P : Program} {ops : Array Oper} {Q : Exit → Act → World → Prop} {r m : Nat}

theorem rowsIn_wide {row : String} {args : Array Value} {w : World} {R : Value → World → Prop} (h : Rows P row args w R) : RowsIn (Fence.wide.inRound r) m P row args w R := fun c cs _ => by
  obtain ⟨v, w', h1, h2⟩ := h c cs
  exact ⟨v, w', h1, stepsIn_wide.2 h2⟩
theorem opIn {o : Oper} {a : Act} {w : World} {K : Act → World → Prop} (hd : ∀ c, o.op ≠ .defer c) (h : o.wp P a w K Q) : o.wpIn (Fence.wide.inRound r) m P a w K Q := by
  refine ⟨fun _ _ => trivial, ?_⟩
  rw [show (Fence.wide.inRound r).round = some r from rfl, Oper.semAt_some r _ _ hd]
  unfold Oper.wp at h
  generalize (execOp a.eval o).run P w = res at *
  cases res with
  | ok x w' =>
    cases x with
    | enter f args =>
      refine ⟨fun hh => absurd hh (by simp [Fence.wide]), CallsIn.inRound r (callsIn_wide.2 (Calls.mono h fun e w'' he => ?_))⟩
      cases e <;> exact he
    | row s args => exact ⟨fun hh => absurd hh (by simp [Fence.wide]), rowsIn_wide h⟩
    | _ => first | exact h | exact h.elim
  | halt x w' => cases x <;> exact h
theorem wpOpIn_of {i : Nat} {a : Act} {w : World} {K : Act → World → Prop} (hd : ∀ (i : Nat) (o : Oper), ops[i]? = some o → ∀ c, o.op ≠ .defer c) (hQ : ∀ a w, ¬ Q .outgrown a w) (h : wpOp P ops Q i K a w) : wpOpIn (Fence.wide.inRound r) m P ops Q i K a w := by
  unfold wpOp at h
  unfold wpOpIn
  cases ho : ops[i]? with
  | none => simp only [ho] at h ⊢; exact h
  | some o =>
    simp only [ho] at h ⊢
    split
    · rename_i hw
      simp only [hw, if_true] at h
      rcases h with h | ⟨_, a', w', h⟩
      · exact opIn (hd i o ho) h
      · exact absurd h (hQ a' w')
    · rename_i hw
      simp only [hw] at h
      exact ⟨fun _ _ => trivial, h⟩
theorem anyIn {md : Region.Mode} (hd : ∀ (i : Nat) (o : Oper), ops[i]? = some o → ∀ c, o.op ≠ .defer c) (hQ : ∀ a w, ¬ Q .outgrown a w) : ∀ (fuel : Nat) (L : Array Bool) (a : Act) (w : World), wpAny P md ops Q fuel L a w → wpAnyIn (Fence.wide.inRound r) m P md ops Q fuel L a w
  | 0, _, _, _, h => h
  | fuel + 1, _, _, _, h => ⟨h.1, fun i hi => wpOpIn_of hd hQ (wpOp_mono (fun a w hk => anyIn hd hQ fuel _ a w hk) (h.2 i hi))⟩
def noDefer (l : List Oper) : Bool := l.all fun o => match o.op with | .defer _ => false | _ => true
theorem noDefer_ops {l : List Oper} (h : noDefer l = true) : ∀ (i : Nat) (o : Oper), l.toArray[i]? = some o → ∀ c, o.op ≠ .defer c := by
  intro i o ho c hc
  have hm : o ∈ l := List.mem_of_getElem? (by simpa using ho)
  have h1 := (List.all_eq_true.1 h) o hm
  rw [hc] at h1
  cases h1
theorem wpIn_region_mix {id : Nat} {a : Act} {w : World} {l : List Oper} (n : Nat) (p : Plan) (hm : P.follows .mixedOrders = true)
    (hB : (noDefer l && (Region.noSelect l.toArray && tailOk l.toArray .any n && planOk l.toArray .any n p l.toArray.size (Array.replicate l.toArray.size false) [])) = true) (hQ : ∀ a w, ¬ Q .outgrown a w)
    (h : WpMix P l.toArray Q w.drew p a w.drew) : (Code.region id l.toArray true).wpIn (Fence.wide.inRound r) m P Q a w := by
  simp only [Bool.and_eq_true] at hB
  obtain ⟨h0, ⟨h1, h2⟩, h3⟩ := hB
  exact wpIn_region_any hm (anyIn (noDefer_ops h0) hQ _ _ _ _ (any_of_anyT _ _ _ _ ((mix_sound h1 h2 p _ _ [] a _ (closed_start _) h3 (Kept.refl _) h.out).1 rfl)))
end
end Go.Calmly
