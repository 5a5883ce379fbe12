/- A range over a function whose body is never left early, and may rely on something of each value it is handed. A region that draws its order, walked by a plan within a round of a range over a function. A region that draws its order, walked by a plan within the wide fence: what comes last is walked in the fence (a yield may be there). The elements of a spring, yielded one after the other. -/
import Derived.Test.YtaiikekgckjdeaaK06
namespace Go
open Go.RowKit Go.Shelf

/-- Every round goes on. -/
def OnOnP {α : Type} (P : Program) (gf : Nat) (lb : Array Value) (enc : α → Array Value) (Kp : World → World → Prop) (Px : α → World → Prop) (S : List α → Prop) (m : Nat) (w : World) : Prop :=
  ∀ (l : Nat) (J : List α → World → Prop) (W : World), Below w.heap.size w W → AbidesFrom W.heap.size J →
    (∀ pre x W1, J pre W1 → Px x W1 → YieldAt Fence.wide m P l (enc x) W1 fun e W' => e = .returned (.bool true) ∧ J (pre ++ [x]) W' ∧ Kp W1 W') →
    J [] W → Calls P gf (#[.func (.yield l) #[] #[]] ++ lb) W fun e W' => (∃ v, e = .returned v) ∧ ∃ xs, S xs ∧ J xs W'

theorem range_midP {P : Program} {n : Nat} {α : Type} {g : Operand} {ps : Array Tmp} {assign body : Code} {Q : Exit → Act → World → Prop} {a : Act} {w : World} {gf : Nat} {lb : Array Value}
    (hg : a.eval g = .func (.func gf) #[] lb) (eg : ∀ args w, (callFunc gf args).run P w = .ok (.enter gf args) w)
    {enc : α → Array Value} {Kp : World → World → Prop} {Px : α → World → Prop} {S : List α → Prop} {m : Nat} (hseq : OnOnP P gf lb enc Kp Px S m w)
    (hKt : ∀ {A B C : World}, Kp A B → Kp B C → Kp A C) (hKb : ∀ (W : World) (l : Nat) (o o' : Obj), w.heap.size ≤ l → W.heap[l]? = some o → o.isCells = false → Kp W (W.putObj l o')) (hps : ∀ x, (enc x).size = ps.size)
    (I : List α → World → Prop) (hI : OwnFrom w.heap.size I) (h0 : I [] w) (Mid : List α → α → Act → World → Prop) (hM : ∀ pre x a', OwnFrom w.heap.size (fun (_ : Unit) W => Mid pre x a' W))
    (hassign : ∀ (l : Nat) (pre : List α) (x : α) (W : World) (K : Act → World → Prop), I pre W → Px x W → (∀ a' W', KeepsOthers W W' → Kp W W' → Mid pre x a' W' → K a' W') →
      assign.wpIn (Fence.wide.inRound l) m P (Exit.then K (fun _ _ _ => False)) { tmps := (ps.zip (enc x)).foldl (fun t (p, v) => t.setIfInBounds p v) a.tmps, defers := [] } W)
    (hbody : ∀ (l : Nat) (pre : List α) (x : α) (a' : Act) (W : World), Mid pre x a' W → body.wpIn (Fence.wide.inRound l) m P (fun e _ W' => e = .normal ∧ KeepsOthers W W' ∧ Kp W W' ∧ I (pre ++ [x]) W') a' W)
    (hdone : ∀ (D : Nat) (xs : List α) (W : World), w.heap.size ≤ D → S xs → I xs W → W.heap[D]? = some (.deferred (some [])) → Q .normal { a with defers := { target := .collected D, args := #[] } :: a.defers } W) :
    (Code.rangeFunc g ps assign body).wpIn Fence.wide n P Q a w := by
  refine wpIn_rangeFunc fun fn hfn => ?_
  obtain ⟨rec, hrec⟩ : ∃ rec : LoopState → Loop, rec = fun st => { state := st, pending := none, fn, tmps := a.tmps, params := ps, assign, body, defers := w.heap.size } := ⟨_, rfl⟩
  obtain ⟨W1, hW1⟩ : ∃ W1, (w.alloc (.deferred (some []))).alloc (.loop (rec .ready)) = W1 := ⟨_, rfl⟩
  have hL : W1.heap[w.heap.size + 1]? = some (.loop (rec .ready)) := by
    have := Go.Proofs.Ytaiikekgckjdeaa.alloc_new (w.alloc (.deferred (some []))) (.loop (rec .ready))
    rw [← hW1]
    simpa using this
  have hD : W1.heap[w.heap.size]? = some (.deferred (some [])) := by
    rw [← hW1, Below.heap_alloc _ _ _ (by simp)]
    exact Go.Proofs.Ytaiikekgckjdeaa.alloc_new w _
  have hb1 : Below w.heap.size w W1 := by
    rw [← hW1]
    exact ((Below.refl _ w).alloc (Nat.le_refl _) _).alloc (by simp) _
  have hI1 : I [] W1 := by
    rw [← hW1]
    exact hI.alloc _ (hI.alloc _ h0)
  have hs1 : W1.heap.size = w.heap.size + 2 := by rw [← hW1]; simp
  refine ⟨w.heap.size + 1, [{ target := .collected w.heap.size, args := #[] }], W1, { target := .fn (.func gf) lb, args := #[.func (.yield (w.heap.size + 1)) #[] #[]] }, W1, gf, #[.func (.yield (w.heap.size + 1)) #[] #[]] ++ lb, W1, ?_, ?_, fun _ _ => trivial, ?_, fun h => absurd h (by simp [Fence.wide]), ?_⟩
  · rw [← hW1, hrec]
    exact run_enterLoop_outer _ _ _ _ _
  · simp only [resolve, hg]
    simp [go_sem]
  · simp [invoke, go_sem, eg]
  · refine callsIn_wide.2 ?_
    refine (hseq (w.heap.size + 1) (fun pre W => (I pre W ∧ W.heap[w.heap.size + 1]? = some (.loop (rec .ready))) ∧ W.heap[w.heap.size]? = some (.deferred (some []))) W1 hb1 ?_ ?_ ⟨⟨hI1, hL⟩, hD⟩).mono ?_
    · -- what the iterator does of its own
      rintro s A B row ⟨⟨hs, hl⟩, hk⟩ hg' hr
      have hne : ∀ j, j < w.heap.size + 2 → some j ≠ row := fun j hj e => by
        have := (hr j e.symm).1
        omega
      refine ⟨⟨hI s A B row hs hg' fun r e => ?_, ?_⟩, ?_⟩
      · obtain ⟨h1, o, h2, h3⟩ := hr r e
        exact ⟨by omega, o, h2, Obj.not_cells_of_walk h3⟩
      · exact (hg'.block _ (Array.getElem?_eq_some_iff.1 hl).1 (hne _ (by omega))).trans hl
      · exact (hg'.block _ (Array.getElem?_eq_some_iff.1 hk).1 (hne _ (by omega))).trans hk
    · -- one round
      rintro pre x W ⟨⟨hi, hl⟩, hk⟩ hpx
      have hy := run_yield (P := P) (args := enc x) hl (by rw [hrec]; exact hps x)
      rw [hrec] at hy
      refine ⟨fn, _, assign, body, hy, roundIn_of_wpIn hfn (hassign _ pre x W _ hi hpx ?_)⟩
      intro a' Wa ha1 ha2 ha3
      have hl1 := ha1.same _ _ hl rfl
      have hk1 := ha1.same _ _ hk rfl
      have hlt : w.heap.size + 1 < Wa.heap.size := (Array.getElem?_eq_some_iff.1 hl1).1
      refine ⟨_, run_beginRound hl1 (by rw [hrec]), ?_⟩
      have hl2 : (Wa.putObj (w.heap.size + 1) (.loop { rec .ready with state := .busy })).heap[w.heap.size + 1]? = some (.loop { rec .ready with state := .busy }) := World.putObj_heap_same hlt
      have hk2 : (Wa.putObj (w.heap.size + 1) (.loop { rec .ready with state := .busy })).heap[w.heap.size]? = some (.deferred (some [])) := (World.putObj_heap_other (by omega)).trans hk1
      refine wpIn_mono (hbody _ pre x a' _ ((hM pre x a').putObj (s := ()) _ ha3 (by omega) hl1 rfl)) ?_
      rintro e a3 W3 ⟨rfl, hb3, hk3, hi3⟩
      have hl3 := hb3.same _ _ hl2 rfl
      have hr := run_endRound (P := P) none hl3
      rw [hrec] at hr hl3
      refine ⟨_, _, hr, rfl, ⟨⟨hI.putObj _ hi3 (by omega) hl3 rfl, ?_⟩, ?_⟩, ?_⟩
      · rw [hrec]
        exact World.putObj_heap_same (Array.getElem?_eq_some_iff.1 hl3).1
      · exact (World.putObj_heap_other (by omega)).trans (hb3.same _ _ hk2 rfl)
      · exact hKt ha2 (hKt (hKt (hKb _ _ _ _ (by omega) hl1 rfl) hk3) (hKb _ _ _ _ (by omega) hl3 rfl))
    · -- at the end
      rintro e W2 ⟨⟨v, rfl⟩, xs, hS, ⟨hi, hl⟩, hk⟩
      have hr := run_endLoop (P := P) hl (by rw [hrec]; simp)
      rw [hrec] at hr
      exact ⟨none, _, hr, hdone _ xs _ (Nat.le_refl _) hS (hI.putObj _ hi (by omega) hl rfl) ((World.putObj_heap_other (by omega)).trans hk)⟩
end Go

namespace Go.Calmly
open Go
section
variable {P : Program} {ops : Array Oper} {Q : Exit → Act → World → Prop} {r m : Nat}

theorem rowsIn_wide {row : String} {args : Array Value} {w : World} {R : Value → World → Prop} (h : Rows P row args w R) : RowsIn (Fence.wide.inRound r) m P row args w R := fun c cs _ => by
  obtain ⟨v, w', h1, h2⟩ := h c cs
  exact ⟨v, w', h1, stepsIn_wide.2 h2⟩
theorem opIn {o : Oper} {a : Act} {w : World} {K : Act → World → Prop} (hd : ∀ c, o.op ≠ .defer c) (h : o.wp P a w K Q) : o.wpIn (Fence.wide.inRound r) m P a w K Q := by
  refine ⟨fun _ _ => trivial, ?_⟩
  rw [show (Fence.wide.inRound r).round = some r from rfl, Oper.semAt_some r _ _ hd]
  unfold Oper.wp at h
  generalize (execOp a.eval o).run P w = res at *
  cases res with
  | ok x w' =>
    cases x with
    | enter f args =>
      refine ⟨fun hh => absurd hh (by simp [Fence.wide]), CallsIn.inRound r (callsIn_wide.2 (Calls.mono h fun e w'' he => ?_))⟩
      cases e <;> exact he
    | row s args => exact ⟨fun hh => absurd hh (by simp [Fence.wide]), rowsIn_wide h⟩
    | _ => first | exact h | exact h.elim
  | halt x w' => cases x <;> exact h
theorem wpOpIn_of {i : Nat} {a : Act} {w : World} {K : Act → World → Prop} (hd : ∀ (i : Nat) (o : Oper), ops[i]? = some o → ∀ c, o.op ≠ .defer c) (hQ : ∀ a w, ¬ Q .outgrown a w) (h : wpOp P ops Q i K a w) : wpOpIn (Fence.wide.inRound r) m P ops Q i K a w := by
  unfold wpOp at h
  unfold wpOpIn
  cases ho : ops[i]? with
  | none => simp only [ho] at h ⊢; exact h
  | some o =>
    simp only [ho] at h ⊢
    split
    · rename_i hw
      simp only [hw, if_true] at h
      rcases h with h | ⟨_, a', w', h⟩
      · exact opIn (hd i o ho) h
      · exact absurd h (hQ a' w')
    · rename_i hw
      simp only [hw] at h
      exact ⟨fun _ _ => trivial, h⟩
theorem anyIn {md : Region.Mode} (hd : ∀ (i : Nat) (o : Oper), ops[i]? = some o → ∀ c, o.op ≠ .defer c) (hQ : ∀ a w, ¬ Q .outgrown a w) : ∀ (fuel : Nat) (L : Array Bool) (a : Act) (w : World), wpAny P md ops Q fuel L a w → wpAnyIn (Fence.wide.inRound r) m P md ops Q fuel L a w
  | 0, _, _, _, h => h
  | fuel + 1, _, _, _, h => ⟨h.1, fun i hi => wpOpIn_of hd hQ (wpOp_mono (fun a w hk => anyIn hd hQ fuel _ a w hk) (h.2 i hi))⟩
def noDefer (l : List Oper) : Bool := l.all fun o => match o.op with | .defer _ => false | _ => true
theorem noDefer_ops {l : List Oper} (h : noDefer l = true) : ∀ (i : Nat) (o : Oper), l.toArray[i]? = some o → ∀ c, o.op ≠ .defer c := by
  intro i o ho c hc
  have hm : o ∈ l := List.mem_of_getElem? (by simpa using ho)
  have h1 := (List.all_eq_true.1 h) o hm
  rw [hc] at h1
  cases h1
theorem wpIn_region_mix {id : Nat} {a : Act} {w : World} {l : List Oper} (n : Nat) (p : Plan) (hm : P.follows .mixedOrders = true)
    (hB : (noDefer l && (Region.noSelect l.toArray && tailOk l.toArray .any n && planOk l.toArray .any n p l.toArray.size (Array.replicate l.toArray.size false) [])) = true) (hQ : ∀ a w, ¬ Q .outgrown a w)
    (h : WpMix P l.toArray Q w.drew p a w.drew) : (Code.region id l.toArray true).wpIn (Fence.wide.inRound r) m P Q a w := by
  simp only [Bool.and_eq_true] at hB
  obtain ⟨h0, ⟨h1, h2⟩, h3⟩ := hB
  exact wpIn_region_any hm (anyIn (noDefer_ops h0) hQ _ _ _ _ (any_of_anyT _ _ _ _ ((mix_sound h1 h2 p _ _ [] a _ (closed_start _) h3 (Kept.refl _) h.out).1 rfl)))
end
end Go.Calmly

namespace Go.Calmly
open Go
section
variable (P : Program) (ops : Array Oper) (Q : Exit → Act → World → Prop) (w0 : World)
def stepF (n m : Nat) (i : Nat) (K : Act → World → Prop) (a : Act) (w : World) : Prop :=
  if i < n then wpOp P ops NoQ i (fun a' w' => Kept w0 w' ∧ K a' w') a w else wpOpIn Fence.wide m P ops Q i K a w
def AnyF (md : Region.Mode) (n m : Nat) : Nat → Array Bool → Act → World → Prop
  | 0, L, a, w => Region.ready md ops L = [] ∧ Q .normal a w
  | fuel + 1, L, a, w => (Region.ready md ops L = [] → Q .normal a w) ∧ ∀ i ∈ Region.ready md ops L, stepF P ops Q w0 n m i (AnyF md n m fuel (L.setIfInBounds i true)) a w
/-- What is left is walked in the fence. -/
def QTail (m : Nat) (l : List Nat) : Exit → Act → World → Prop := fun e a w => e = .normal ∧ wpOpsIn Fence.wide m P ops Q l a w
def planOkF (md : Region.Mode) (n : Nat) (l : List Nat) : Plan → Nat → Array Bool → List Nat → Bool
  | .fl i k, fuel, L, done => match fuel with
    | 0 => false
    | f + 1 => done.isEmpty && decide (i < n) && (Region.ready md ops L).contains i && Region.free md ops L i && planOkF md n l k f (L.setIfInBounds i true) []
  | .eff i k, fuel, L, done => match fuel with
    | 0 => false
    | f + 1 => decide (i < n) && (Region.ready md ops L).contains i && (Region.ready md ops L).all (fun j => j == i || done.contains j) && planOkF md n l k f (L.setIfInBounds i true) []
  | .alt i k r, fuel, L, done => match fuel with
    | 0 => false
    | f + 1 => decide (i < n) && (Region.ready md ops L).contains i && planOkF md n l k f (L.setIfInBounds i true) [] && planOkF md n l r (f + 1) L (i :: done)
  | .tail l', fuel, L, done => l'.isEmpty && done.isEmpty && chainOk ops md n l fuel L
end
section
variable {P : Program} {ops : Array Oper} {Q : Exit → Act → World → Prop} {w0 : World} {md : Region.Mode} {n m : Nat}
theorem rowsIn_w {row : String} {args : Array Value} {w : World} {R : Value → World → Prop} (h : Rows P row args w R) : RowsIn Fence.wide m P row args w R := fun c cs _ => by
  obtain ⟨v, w', h1, h2⟩ := h c cs
  exact ⟨v, w', h1, stepsIn_wide.2 h2⟩
theorem opWide {o : Oper} {a : Act} {w : World} {K : Act → World → Prop} (h : o.wp P a w K Q) : o.wpIn Fence.wide m P a w K Q := by
  refine ⟨fun _ _ => trivial, ?_⟩
  unfold Oper.wp at h
  show o.uponIn Fence.wide m P a K Q ((execOp a.eval o).run P w)
  generalize (execOp a.eval o).run P w = res at *
  cases res with
  | ok x w' =>
    cases x with
    | enter f args =>
      refine ⟨fun hh => absurd hh (by simp [Fence.wide]), callsIn_wide.2 (Calls.mono h fun e w'' he => ?_)⟩
      cases e <;> exact he
    | row s args => exact ⟨fun hh => absurd hh (by simp [Fence.wide]), rowsIn_w h⟩
    | _ => first | exact h | exact h.elim
  | halt x w' => cases x <;> exact h
theorem wpOpF_noQ {i : Nat} {K K' : Act → World → Prop} {a : Act} {w : World} (h : ∀ a w, K a w → K' a w) (hh : wpOp P ops NoQ i K a w) : wpOpIn Fence.wide m P ops Q i K' a w := by
  have h1 := wpOp_mono h hh
  unfold wpOp at h1
  unfold wpOpIn
  cases ho : ops[i]? with
  | none => simp only [ho] at h1 ⊢; exact h1
  | some o =>
    simp only [ho] at h1 ⊢
    split
    · rename_i hw
      simp only [hw, if_true] at h1
      rcases h1 with h1 | ⟨_, _, _, h1⟩
      · exact opWide (wp_noQ h1)
      · exact h1.elim
    · rename_i hw
      simp only [hw] at h1
      exact ⟨fun _ _ => trivial, h1⟩
theorem anyIn_of_anyF : ∀ (fuel : Nat) (L : Array Bool) (a : Act) (w : World), AnyF P ops Q w0 md n m fuel L a w → wpAnyIn Fence.wide m P md ops Q fuel L a w
  | 0, _, _, _, h => h
  | fuel + 1, L, a, w, h => ⟨h.1, fun i hi => by
      have h1 := h.2 i hi
      unfold stepF at h1
      split at h1
      · exact wpOpF_noQ (fun a w hk => anyIn_of_anyF fuel _ a w hk.2) h1
      · exact wpOpIn_mono (fun a w hk => anyIn_of_anyF fuel _ a w hk) h1⟩
theorem anyF_first {i : Nat} {oi : Oper} {v : Value} (hi : ops[i]? = some oi) (hin : i < n) (hsel : ∀ (j : Nat) (o : Oper) cs b, ops[j]? = some o → o.op ≠ .select cs b)
    (htail : tailOk ops md n = true) :
    ∀ (fuel : Nat) (L : Array Bool) (a : Act) (w : World), Closed ops md L →
      (∀ j oj, ops[j]? = some oj → j ≠ i → L.getD j true = false → (∀ e ∈ oj.after, Region.binds md e = true → e.on ≠ i) → oi.apart ops oj = true) →
      i ∈ Region.ready md ops L → YieldsIf P ops (Kept w0) oi v a → Kept w0 w →
      AnyF P ops Q w0 md n m fuel (L.setIfInBounds i true) (a.put oi.dst v) w → AnyF P ops Q w0 md n m (fuel + 1) L a w := by
  intro fuel
  induction fuel with
  | zero =>
    intro L a w _ _ hr hy hS H
    refine ⟨fun h => (by rw [h] at hr; cases hr), fun j hj => ?_⟩
    by_cases hji : j = i
    · subst hji
      unfold stepF
      rw [if_pos hin]
      exact yields_op hi hy hS H
    · have := ready_mono hj hji
      rw [H.1] at this
      cases this
  | succ fuel ih =>
    intro L a w hcl hfree hr hy hS H
    refine ⟨fun h => (by rw [h] at hr; cases hr), fun j hj => ?_⟩
    by_cases hji : j = i
    · subst hji
      unfold stepF
      rw [if_pos hin]
      exact yields_op hi hy hS H
    · have h1 := H.2 j (ready_mono hj hji)
      obtain ⟨hjun, oj, hoj, hall⟩ := mem_ready.1 hj
      have hnot : ∀ e ∈ oj.after, Region.binds md e = true → e.on ≠ i := fun e he hb heq => by
        have h1 := hall e he hb
        have h0 := (mem_ready.1 hr).1
        rw [heq] at h1
        rcases Nat.lt_or_ge i L.size with h' | h'
        · simp [h'] at h0 h1; rw [h0] at h1; cases h1
        · simp [Array.getElem?_eq_none h'] at h1
      have hjn : j < n := by
        rcases Nat.lt_or_ge j n with h' | h'
        · exact h'
        · have hjs : j < ops.size := (Array.getElem?_eq_some_iff.1 hoj).1
          unfold tailOk at htail
          rw [List.all_eq_true] at htail
          have h2 := htail j (List.mem_range.2 hjs)
          have h3 : ¬ j < n := by omega
          simp only [h3, decide_false, Bool.false_or, List.all_eq_true] at h2
          have h4 := waits_listed hcl 8 j i oj hoj hall (h2 i (List.mem_range.2 hin))
          have h0 := (mem_ready.1 hr).1
          rw [getD_both h0] at h4
          cases h4
      unfold stepF at h1 ⊢
      rw [if_pos hjn] at h1 ⊢
      have h2 := wpOp_putIf hoj (hfree j oj hoj hji hjun hnot) (fun cs b => hsel i oi cs b hi) (fun cs b => hsel j oj cs b hoj) (fun _ _ _ h => h) hy h1
      have hfree' : ∀ k ok, ops[k]? = some ok → k ≠ i → (L.setIfInBounds j true).getD k true = false →
          (∀ e ∈ ok.after, Region.binds md e = true → e.on ≠ i) → oi.apart ops ok = true := fun k ok hk hki hun hno => by
        refine hfree k ok hk hki ?_ hno
        by_cases hjk : j = k
        · subst hjk; exact hjun
        · rw [getD_set_ne true hjk] at hun; exact hun
      refine wpOp_mono (fun a' w' h3 => ⟨h3.2.1, ih (L.setIfInBounds j true) a' w' (closed_set hcl hj) hfree' (ready_mono hr (Ne.symm hji)) h3.1 h3.2.1 ?_⟩) h2
      rw [Array.setIfInBounds_comm _ _ hji]
      exact h3.2.2

theorem anyF_done {L : Array Bool} {a : Act} {w : World} (hr : Region.ready md ops L = []) (h : Q .normal a w) : ∀ fuel, AnyF P ops Q w0 md n m fuel L a w
  | 0 => ⟨hr, h⟩
  | _ + 1 => ⟨fun _ => h, by rw [hr]; simp⟩
theorem chain_soundF : ∀ (l : List Nat) (fuel : Nat) (L : Array Bool) (a : Act) (w : World), chainOk ops md n l fuel L = true → wpOpsIn Fence.wide m P ops Q l a w → AnyF P ops Q w0 md n m fuel L a w
  | [], fuel, L, a, w, hc, h => anyF_done (by simpa [chainOk] using hc) h fuel
  | i :: l, 0, L, a, w, hc, h => by simp [chainOk] at hc
  | i :: l, fuel + 1, L, a, w, hc, h => by
    simp only [chainOk, Bool.and_eq_true, decide_eq_true_eq, List.all_eq_true, beq_iff_eq] at hc
    obtain ⟨⟨⟨h1, h2⟩, h3⟩, h4⟩ := hc
    refine ⟨fun h0 => (by rw [h0] at h1; simp at h1), fun j hj => ?_⟩
    obtain rfl := h2 j hj
    unfold stepF
    rw [if_neg (by omega)]
    rw [wpOpsIn_cons] at h
    exact wpOpIn_mono (fun a w hk => chain_soundF l fuel _ a w h4 hk) h
theorem mix_soundF {l : List Nat} (hsel : Region.noSelect ops = true) (htail : tailOk ops md n = true) : ∀ (p : Plan) (fuel : Nat) (L : Array Bool) (done : List Nat) (a : Act) (w : World), Closed ops md L →
    planOkF ops md n l p fuel L done = true → Kept w0 w → wpMix P ops (QTail P ops Q m l) w0 p a w →
    (done = [] → AnyF P ops Q w0 md n m fuel L a w) ∧ ∀ j ∈ Region.ready md ops L, j ∉ done → ∃ f, fuel = f + 1 ∧ stepF P ops Q w0 n m j (AnyF P ops Q w0 md n m f (L.setIfInBounds j true)) a w
  | .tail l', fuel, L, done, a, w, hcl, hok, hS, h => by
    simp only [planOkF, Bool.and_eq_true, List.isEmpty_iff] at hok
    obtain ⟨⟨rfl, rfl⟩, hc⟩ := hok
    have hA := chain_soundF (P := P) (w0 := w0) (m := m) l fuel L a w hc h.2
    refine ⟨fun _ => hA, fun j hj _ => ?_⟩
    cases fuel with
    | zero => rw [hA.1] at hj; cases hj
    | succ f => exact ⟨f, rfl, hA.2 j hj⟩
  | .fl i k, 0, L, done, a, w, hcl, hok, hS, h => by simp [planOkF] at hok
  | .eff i k, 0, L, done, a, w, hcl, hok, hS, h => by simp [planOkF] at hok
  | .alt i k r, 0, L, done, a, w, hcl, hok, hS, h => by simp [planOkF] at hok
  | .fl i k, fuel + 1, L, done, a, w, hcl, hok, hS, h => by
    simp only [planOkF, Bool.and_eq_true, List.isEmpty_iff, decide_eq_true_eq] at hok
    obtain ⟨⟨⟨⟨rfl, hin⟩, hr⟩, hf⟩, hk⟩ := hok
    have hr' : i ∈ Region.ready md ops L := by simpa using hr
    suffices hA : AnyF P ops Q w0 md n m (fuel + 1) L a w by exact ⟨fun _ => hA, fun j hj _ => ⟨fuel, rfl, hA.2 j hj⟩⟩
    cases ho : ops[i]? with
    | none => simp only [wpMix, ho] at h
    | some o =>
      simp only [wpMix, ho] at h
      split at h
      · rename_i hw
        obtain ⟨v, hy, hK⟩ := early_yields hw h.1 h.2
        exact anyF_first ho hin (Region.noSelect_spec hsel) htail fuel L a w hcl (Region.free_spec ho hf) hr' hy hS ((mix_soundF hsel htail k fuel _ [] _ w (closed_set hcl hr') hk hS hK).1 rfl)
      · rename_i hw
        exact anyF_first ho hin (Region.noSelect_spec hsel) htail fuel L a w hcl (Region.free_spec ho hf) hr' (v := undef) (.inr ⟨by simpa using hw, rfl⟩) hS ((mix_soundF hsel htail k fuel _ [] _ w (closed_set hcl hr') hk hS h).1 rfl)
  | .eff i k, fuel + 1, L, done, a, w, hcl, hok, hS, h => by
    simp only [planOkF, Bool.and_eq_true, decide_eq_true_eq, List.all_eq_true, Bool.or_eq_true, beq_iff_eq] at hok
    obtain ⟨⟨⟨hin, hr⟩, hall⟩, hk⟩ := hok
    have hr' : i ∈ Region.ready md ops L := by simpa using hr
    have hst : stepF P ops Q w0 n m i (AnyF P ops Q w0 md n m fuel (L.setIfInBounds i true)) a w := by
      unfold stepF
      rw [if_pos hin]
      exact wpOp_mono (fun a' w' hh => ⟨hh.1, (mix_soundF hsel htail k fuel _ [] _ w' (closed_set hcl hr') hk hh.1 hh.2).1 rfl⟩) h
    have hone : ∀ j ∈ Region.ready md ops L, j ∉ done → j = i := fun j hj hd => by
      rcases hall j hj with h1 | h1
      · exact h1
      · exact absurd (by simpa using h1) hd
    refine ⟨fun hd => ⟨fun h0 => (by rw [h0] at hr'; cases hr'), fun j hj => ?_⟩, fun j hj hd => ⟨fuel, rfl, ?_⟩⟩
    · obtain rfl := hone j hj (by rw [hd]; simp)
      exact hst
    · obtain rfl := hone j hj hd
      exact hst
  | .alt i k r, fuel + 1, L, done, a, w, hcl, hok, hS, h => by
    simp only [planOkF, Bool.and_eq_true, decide_eq_true_eq] at hok
    obtain ⟨⟨⟨hin, hr⟩, hk⟩, hrest⟩ := hok
    have hr' : i ∈ Region.ready md ops L := by simpa using hr
    have hst : stepF P ops Q w0 n m i (AnyF P ops Q w0 md n m fuel (L.setIfInBounds i true)) a w := by
      unfold stepF
      rw [if_pos hin]
      exact wpOp_mono (fun a' w' hh => ⟨hh.1, (mix_soundF hsel htail k fuel _ [] _ w' (closed_set hcl hr') hk hh.1 hh.2).1 rfl⟩) h.1
    have hR := (mix_soundF hsel htail r (fuel + 1) L (i :: done) a w hcl hrest hS h.2).2
    have hall : ∀ j ∈ Region.ready md ops L, j ∉ done → stepF P ops Q w0 n m j (AnyF P ops Q w0 md n m fuel (L.setIfInBounds j true)) a w := fun j hj hd => by
      by_cases hji : j = i
      · subst hji; exact hst
      · obtain ⟨f, hf, hh⟩ := hR j hj (by simp [hji, hd])
        obtain rfl : fuel = f := by omega
        exact hh
    exact ⟨fun hd => ⟨fun h0 => (by rw [h0] at hr'; cases hr'), fun j hj => hall j hj (by rw [hd]; simp)⟩, fun j hj hd => ⟨fuel, rfl, hall j hj hd⟩⟩


theorem wpIn_region_tail {id : Nat} {a : Act} {w : World} {l : List Oper} (n : Nat) (p : Plan) (tl : List Nat) (hm : P.follows .mixedOrders = true)
    (hB : (Region.noSelect l.toArray && tailOk l.toArray .any n && planOkF l.toArray .any n tl p l.toArray.size (Array.replicate l.toArray.size false) []) = true)
    (h : WpMix P l.toArray (QTail P l.toArray Q m tl) w.drew p a w.drew) : (Code.region id l.toArray true).wpIn Fence.wide m P Q a w := by
  simp only [Bool.and_eq_true] at hB
  obtain ⟨⟨h1, h2⟩, h3⟩ := hB
  exact wpIn_region_any hm (anyIn_of_anyF _ _ _ _ ((mix_soundF h1 h2 p _ _ [] a _ (closed_start _) h3 (Kept.refl _) h.out).1 rfl))
/-- One operation of what is left. -/
theorem tail_in {i : Nat} {l : List Nat} {dst : Option Tmp} {op : Op} {ty : TypeId} {pos : String} {after : Array Edge} {a : Act} {w : World} (hi : ops[i]? = some ⟨dst, op, ty, pos, after, none⟩)
    (h : ∀ K : Act → World → Prop, (∀ a' w', wpOpsIn Fence.wide m P ops Q l a' w' → K a' w') → Oper.wpIn Fence.wide m P ⟨dst, op, ty, pos, after, none⟩ a w K Q) : wpOpsIn Fence.wide m P ops Q (i :: l) a w := by
  rw [wpOpsIn_cons]
  unfold wpOpIn
  simp only [hi, wanted_none, if_true]
  exact h _ fun _ _ hh => hh
/-- A region in its order, walked plainly within a round. -/
theorem opsIn_plain {r : Nat} (hd : ∀ (i : Nat) (o : Oper), ops[i]? = some o → ∀ c, o.op ≠ .defer c) (hQ : ∀ a w, ¬ Q .outgrown a w) : ∀ (l : List Nat) (a : Act) (w : World), wpOps P ops Q l a w → wpOpsIn (Fence.wide.inRound r) m P ops Q l a w
  | [], _, _, h => h
  | i :: l, a, w, h => by
    rw [wpOps_cons] at h
    rw [wpOpsIn_cons]
    exact wpOpIn_of hd hQ (wpOp_mono (fun a w hk => opsIn_plain hd hQ l a w hk) h)
theorem wpIn_region_plain {id r : Nat} {a : Act} {w : World} {l : List Oper} (h0 : noDefer l = true) (hQ : ∀ a w, ¬ Q .outgrown a w)
    (h : wpList P l.toArray Q l a w) : (Code.region id l.toArray false).wpIn (Fence.wide.inRound r) m P Q a w := by
  refine wpIn_region (opsIn_plain (noDefer_ops h0) hQ _ _ _ ?_)
  rw [List.range_eq_range', show l.toArray.size = l.length by simp, wpOps_eq_wpList l 0 (by simp)]
  exact h
/-- A region that draws its order, walked by a plan within a round, compared with an older world. -/
theorem wpIn_region_mix_at {id r : Nat} {a : Act} {w : World} {l : List Oper} (w0 : World) (hk : Kept w0 w) (n : Nat) (p : Plan) (hm : P.follows .mixedOrders = true)
    (hB : (noDefer l && (Region.noSelect l.toArray && tailOk l.toArray .any n && planOk l.toArray .any n p l.toArray.size (Array.replicate l.toArray.size false) [])) = true) (hQ : ∀ a w, ¬ Q .outgrown a w)
    (h : WpMix P l.toArray Q w0 p a w.drew) : (Code.region id l.toArray true).wpIn (Fence.wide.inRound r) m P Q a w := by
  simp only [Bool.and_eq_true] at hB
  obtain ⟨h0, ⟨h1, h2⟩, h3⟩ := hB
  have hk' : Kept w0 w.drew := ⟨hk.size, hk.block⟩
  exact wpIn_region_any hm (anyIn (noDefer_ops h0) hQ _ _ _ _ (any_of_anyT _ _ _ _ ((mix_sound h1 h2 p _ _ [] a _ (closed_start _) h3 hk' h.out).1 rfl)))
end
end Go.Calmly

namespace Go.Proofs.Ytaiikekgckjdeaa
open Go.RowKit Go.Shelf
attribute [local go_sem] Oper.semAt_some
open Calmly (Kept)

/-- All cells are as they were, but for those of some blocks. -/
structure Keeps (L : Nat → Prop) (A B : World) : Prop where
  size : A.heap.size ≤ B.heap.size
  same : ∀ b o, ¬ L b → A.heap[b]? = some o → o.isCells = true → B.heap[b]? = some o
theorem Keeps.refl (L : Nat → Prop) (A : World) : Keeps L A A := ⟨Nat.le_refl _, fun _ _ _ h _ => h⟩
theorem Keeps.trans {L : Nat → Prop} {A B C : World} (h : Keeps L A B) (k : Keeps L B C) : Keeps L A C := ⟨Nat.le_trans h.size k.size, fun b o hb ho hc => k.same b o hb (h.same b o hb ho hc) hc⟩
theorem Keeps.of_below {L : Nat → Prop} {A B : World} (h : Below A.heap.size A B) : Keeps L A B := ⟨h.size, fun b _ _ ho _ => (h.block b (Array.getElem?_eq_some_iff.1 ho).1).trans ho⟩
theorem Keeps.drew {L : Nat → Prop} (A : World) : Keeps L A A.drew := ⟨Nat.le_refl _, fun _ _ _ h _ => h⟩
theorem Keeps.put {L : Nat → Prop} {W : World} {l : Nat} {o : Obj} (o' : Obj) (hl : W.heap[l]? = some o) (ho : o.isCells = false) : Keeps L W (W.putObj l o') := ⟨by simp, fun b ob _ hb hc => by
  refine (World.putObj_heap_other ?_).trans hb
  rintro rfl
  rw [hl] at hb
  cases hb
  rw [ho] at hc
  cases hc⟩
theorem Keeps.setCell {L : Nat → Prop} (W : World) {b : Nat} (o : Nat) (v : Value) (h : L b) : Keeps L W (W.setCell ⟨b, o, none⟩ v) := ⟨by simp, fun k ob hk hb _ => by
  rw [Below.heap_setCell _ _ _ _ (by rintro rfl; exact hk h)]
  exact hb⟩
theorem cell_blk {w : World} {b o : Nat} {v : Value} (h : w.cell? ⟨b, o, none⟩ = some v) : ∃ cs t z, w.heap[b]? = some (.cells cs t z) := by
  unfold World.cell? at h
  cases hb : w.heap[b]? with
  | none => simp [hb] at h
  | some ob =>
    cases ob <;> simp [hb] at h
    exact ⟨_, _, _, rfl⟩
theorem Keeps.cell {L : Nat → Prop} {A B : World} (h : Keeps L A B) {b o : Nat} {v : Value} (hb : ¬ L b) (hc : A.cell? ⟨b, o, none⟩ = some v) : B.cell? ⟨b, o, none⟩ = some v := by
  obtain ⟨cs, t, z, hh⟩ := cell_blk hc
  rw [World.cell?_of_block ((h.same b _ hb hh rfl).trans hh.symm)]
  exact hc
theorem Keeps.blk {L : Nat → Prop} {A B : World} (h : Keeps L A B) {b : Nat} {cs : Array Value} {t : TypeId} (hb : ¬ L b) (hc : A.heap[b]? = some (.cells cs t)) : B.heap[b]? = some (.cells cs t) := h.same b _ hb hc rfl
theorem Keeps.sl {L : Nat → Prop} {A B : World} (h : Keeps L A B) {k : Nat} {a : Option Addr} {n c : Nat} {xs : List Value} (hs : Sl A k a n c xs) (hL : ∀ b o, 0 < n → a = some ⟨b, o, none⟩ → ¬ L b) : Sl B k a n c xs := by
  obtain ⟨h1, h2, h3, h4⟩ := hs
  refine ⟨h1, h2, h3, ?_⟩
  rcases h4 with h4 | ⟨b, off, ha, hc⟩
  · exact .inl h4
  · refine .inr ⟨b, off, ha, fun i hi => ?_⟩
    have := hc i hi
    have hs : i < xs.length := by omega
    rw [List.getElem?_eq_getElem hs] at this ⊢
    have hn : 0 < n := by
      rcases Nat.eq_zero_or_pos n with h0 | h0
      · rw [h0, Nat.zero_mul] at h1; omega
      · exact h0
    exact h.cell (hL b off hn ha) this
theorem grown_of_below' {w w' : World} (h : Below w.heap.size w w') : w.grownBy w' none := ⟨h.os, h.tape, h.output, h.size, fun k hk _ => h.block k hk⟩
theorem round_wide' {m m' : Nat} {P : Program} {l : Nat} {f : FuncId} {tmps : Array Value} {assign body : Code} {w : World} {R : Ending → World → Prop}
    (h : RoundIn Fence.wide m P l f tmps assign body w R) : RoundIn Fence.wide m' P l f tmps assign body w R := ⟨h.1, fun c cs _ => h.2 c cs (room_wide _)⟩
theorem keeps_of_grown {W W' : World} {row : Option Nat} (hg : W.grownBy W' row) (hr : ∀ r, row = some r → ∃ o, W.heap[r]? = some o ∧ o.isCells = false) : Keeps (fun _ => False) W W' := ⟨hg.size, fun b o _ ho hc => by
  rw [hg.block b (Array.getElem?_eq_some_iff.1 ho).1 ?_]
  · exact ho
  · intro he
    obtain ⟨o', h1, h2⟩ := hr b he.symm
    rw [ho] at h1
    cases h1
    rw [hc] at h2
    cases h2⟩
theorem ko_below {W W' : World} (h : Below W.heap.size W W') : KeepsOthers W W' := ⟨h.size, fun k _ hk _ => (h.block k (Array.getElem?_eq_some_iff.1 hk).1).trans hk⟩
theorem own_pure' {β : Type} (B : Nat) (p : β → Prop) : OwnFrom B (fun s (_ : World) => p s) := fun _ _ _ _ hs _ _ => hs

theorem tail_nil {P : Program} {ops : Array Oper} {Q : Exit → Act → World → Prop} {m : Nat} {a : Act} {w : World} (h : Q .normal a w) : wpOpsIn Fence.wide m P ops Q [] a w := h
theorem SEl.blk {w : World} {a : Option Addr} {n c : Nat} {l : List El} (h : SEl w a n c l) : ∀ b o, 0 < n → a = some ⟨b, o, none⟩ → b < w.heap.size := by
  intro b o hn ha
  obtain ⟨b', o', he, hc⟩ := h.at_ hn
  rw [ha] at he
  cases he
  exact cell_lt (hc 0 hn).1
theorem SSp.blk {w : World} {a : Option Addr} {n c : Nat} {l : List Sp} (h : SSp w a n c l) : ∀ b o, 0 < n → a = some ⟨b, o, none⟩ → b < w.heap.size := by
  intro b o hn ha
  obtain ⟨b', o', he, hc⟩ := h.at_ hn
  rw [ha] at he
  cases he
  exact cell_lt (hc 0 hn).1
/-- The element at an index. -/
def elAt (l : List El) (s : List Sp) (at' : Int) (i : Nat) : Value := elV (l[i]?.getD el0).1 (l[i]?.getD el0).2.1 (l[i]?.getD el0).2.2 (s[i]?.getD sp0).1 (s[i]?.getD sp0).2 at'
theorem elements_any (a a2 : Option Addr) (n c n2 c2 : Nat) (at' : Int) (w : World) : Calls Try.prog 133 #[.slice a n c, .agg #[.int .i64 at', .slice a2 n2 c2]] w fun e w' =>
    e = .returned (.func (.func 144) #[] #[.pointer (some ⟨w.heap.size + 1, 0, none⟩), .pointer (some ⟨w.heap.size, 0, none⟩)]) ∧ w' = (w.alloc (.cells #[.slice a n c] 44)).alloc (.cells #[.int .i64 at', .slice a2 n2 c2] 49) := by
  go_enter Try.func133, Try.ntmps133
  go_wp2_with fail
  go_ret
  exact ⟨rfl, rfl⟩

theorem map_range_succ {n k : Nat} {pre : List (Fin n)} (h : pre.map (·.val) = List.range k) (hk : k < n) : (pre ++ [(⟨k, hk⟩ : Fin n)]).map (·.val) = List.range (k + 1) := by
  rw [List.map_append, h, List.range_succ]; rfl
set_option maxRecDepth 100000 in
set_option maxHeartbeats 2000000 in
theorem elements_onon (w : World) (ph pl : Nat) (a a2 : Option Addr) (n c c2 : Nat) (l : List El) (sl : List Sp) (at' : Int) (L : Nat → Prop) (hph : w.heap[ph]? = some (.cells #[.int .i64 at', .slice a2 n c2] 49)) (hpl : w.heap[pl]? = some (.cells #[.slice a n c] 44))
    (h1 : SEl w a n c l) (h2 : SSp w a2 n c2 sl) (k1 : ¬ L ph) (k2 : ¬ L pl) (k3 : ∀ b o, 0 < n → a = some ⟨b, o, none⟩ → ¬ L b) (k4 : ∀ b o, 0 < n → a2 = some ⟨b, o, none⟩ → ¬ L b) (ky : Nat) :
    OnOn Try.prog 144 #[.pointer (some ⟨ph, 0, none⟩), .pointer (some ⟨pl, 0, none⟩)] (fun i : Fin n => #[elAt l sl at' i.val]) (Keeps L) (fun xs => xs.map (·.val) = List.range n) n ky w := by
  intro li J W hW hJ hY hJ0
  have hs := hW.size
  have HY := Lib.hid hY
  have HJ := Lib.hid hJ
  have m1 := h1.max
  have cc1 := h1.cap
  have m2 := h2.max
  have cc2 := h2.cap
  clear hY hJ
  have p1 := blk_keep hph hW
  have p2 := blk_keep hpl hW
  have q1 := h1.keep hW
  have q2 := h2.keep hW
  have f0 := cell_block p1 0
  have f1 := cell_block p1 1
  have f2 := cell_block p2 0
  go_enter Try.func144, Try.ntmps144
  go_wp2_with fail
  go_loopw [9] (fun i wr => ∃ k : Nat, k ≤ n ∧ i = .int .i64 k ∧ (∃ pre : List (Fin n), pre.map (·.val) = List.range k ∧ J pre wr) ∧ Keeps L W wr) (fun i _ => n - (intOf i).toNat)
  case atStart => exact ⟨0, by omega, rfl, ⟨[], rfl, hJ0⟩, Keeps.refl _ _⟩
  case round =>
    clear hJ0 f0 f1 f2
    obtain ⟨k, hk, rfl, ⟨pre, hpre, hJp⟩, hkp⟩ := hrel
    have HP := Lib.hid hpre
    have hlen : pre.length = k := by have := congrArg List.length hpre; simpa using this
    clear hpre
    replace p1 := hkp.blk k1 p1
    replace p2 := hkp.blk k2 p2
    replace q1 : SEl wr a n c l := hkp.sl q1 k3
    replace q2 : SSp wr a2 n c2 sl := hkp.sl q2 k4
    by_cases hlt : k < n
    · obtain ⟨b1, o1, rfl, hc1⟩ := q1.at_ (by omega)
      obtain ⟨b2, o2, rfl, hc2⟩ := q2.at_ (by omega)
      obtain ⟨y0, y1, y2⟩ := hc1 k hlt
      obtain ⟨y3, y4⟩ := hc2 k hlt
      clear hc1 hc2
      have hi1 : (k : Int) < (n : Int) := by omega
      have hi0 : (0 : Int) ≤ (k : Int) := by omega
      have hE : elAt l sl at' k = elV (l[k]?.getD el0).1 (l[k]?.getD el0).2.1 (l[k]?.getD el0).2.2 (sl[k]?.getD sp0).1 (sl[k]?.getD sp0).2 at' := rfl
      obtain ⟨e1, he1⟩ : ∃ v, (l[k]?.getD el0).1 = v := ⟨_, rfl⟩
      obtain ⟨e2, he2⟩ : ∃ v, (l[k]?.getD el0).2.1 = v := ⟨_, rfl⟩
      obtain ⟨e3, he3⟩ : ∃ v, (l[k]?.getD el0).2.2 = v := ⟨_, rfl⟩
      obtain ⟨e4, he4⟩ : ∃ v, (sl[k]?.getD sp0).1 = v := ⟨_, rfl⟩
      obtain ⟨e5, he5⟩ : ∃ v, (sl[k]?.getD sp0).2 = v := ⟨_, rfl⟩
      rw [he1] at y0 hE
      rw [he2] at y1 hE
      rw [he3] at y2 hE
      rw [he4] at y3 hE
      rw [he5] at y4 hE
      have HE := Lib.hid hE
      clear he1 he2 he3 he4 he5 hE
      have BA : Below wr.heap.size wr (wr.alloc (.cells #[.int .i64 e4, .bool e5] 64)) := (Below.refl _ _).alloc (Nat.le_refl _) _
      have x0 := alloc_new wr (.cells #[.int .i64 e4, .bool e5] 64)
      go_wp2_with fail
      replace y0 := cell_keep y0 BA
      replace y1 := cell_keep y1 BA
      replace y2 := cell_keep y2 BA
      replace p1 := blk_keep p1 BA
      replace p2 := blk_keep p2 BA
      generalize wr.alloc (.cells #[.int .i64 e4, .bool e5] 64) = V at *
      refine (wpIn_wide (n := 5)).1 ?_
      refine Calmly.wpIn_region_tail 9 (.fl 0 <| .fl 1 <| .fl 2 <| .fl 3 <| .fl 4 <| .fl 5 <| .fl 6 <| .fl 7 <| .fl 8 <| .tail []) [9, 10] (by kernel_rfl) (by kernel_rfl) ?_
      replace y0 := cell_keep y0 (Below.refl _ _).drew
      replace y1 := cell_keep y1 (Below.refl _ _).drew
      replace y2 := cell_keep y2 (Below.refl _ _).drew
      replace p1 := blk_keep p1 (Below.refl _ _).drew
      replace p2 := blk_keep p2 (Below.refl _ _).drew
      replace x0 := blk_keep x0 (Below.refl _ _).drew
      replace BA := BA.drew
      generalize V.drew = X at *
      have f0 := cell_block p1 0
      have f1 := cell_block p1 1
      have f2 := cell_block p2 0
      have f3 := cell_block x0 0
      have f4 := cell_block x0 1
      have hJx := HJ.out _ wr X none hJp (grown_of_below' BA) (fun r e => by cases e)
      obtain ⟨fn, tmps, assign, body, hy, hR⟩ := HY.out pre ⟨k, hlt⟩ X hJx (by omega)
      rw [HE.out] at hy
      unfold elV at hy
      have hk := Below.refl X.heap.size X
      go_wp2_with (first | ((with_reducible refine Calmly.is_fl ?_); refine Calmly.mix_fl rfl ?_ (fun _ _ => ?_); (first | exact .move _ | exact .load _ _ | exact .fieldAddr _ _ _ (by kernel_rfl) | exact .assign _ | exact .binOp _ _ _ _ _ rfl | exact .indexAddr _ _ _ | exact .len _ _ (by kernel_rfl) | exact .field _ _ _ | exact .extract _ _ | exact .pick _ _ _ | exact .build _ _ | exact .slice _ _ _ _ _ | exact .unOp _ _ _ rfl | exact .index _ _ _ | exact .max _ _ _ rfl rfl | exact .min _ _ _ rfl rfl | exact .nilCheck _ _ rfl)) | ((with_reducible refine Calmly.is_gl ?_); refine Calmly.mix_gl rfl rfl rfl ?_; first | ((first | with_reducible refine Calmly.gl_tt ?_ (fun _ _ => ?_) | with_reducible refine Calmly.gl_ff ?_ (fun _ _ => ?_)); (first | exact .move _ | exact .load _ _ | exact .fieldAddr _ _ _ (by kernel_rfl) | exact .assign _ | exact .binOp _ _ _ _ _ rfl | exact .indexAddr _ _ _ | exact .len _ _ (by kernel_rfl) | exact .field _ _ _ | exact .extract _ _ | exact .pick _ _ _ | exact .build _ _ | exact .slice _ _ _ _ _ | exact .unOp _ _ _ rfl | exact .index _ _ _ | exact .max _ _ _ rfl rfl | exact .min _ _ _ rfl rfl | exact .nilCheck _ _ rfl)) | with_reducible refine Calmly.gl_tf (fun _ _ => ?_) | with_reducible refine Calmly.gl_ft (fun _ _ => ?_)) | ((with_reducible refine Calmly.is_eff ?_); refine Calmly.mix_eff rfl (fun _ _ => ?_)) | ((with_reducible refine Calmly.is_gf ?_); refine Calmly.mix_gf rfl rfl rfl ?_; first | with_reducible refine Calmly.gf_tt (fun _ _ => ?_) | with_reducible refine Calmly.gf_ff (fun _ _ => ?_) | with_reducible refine Calmly.gf_tf (kept_of hk) (fun _ _ => ?_) | with_reducible refine Calmly.gf_ft (kept_of hk) (fun _ _ => ?_)) | ((with_reducible refine Calmly.is_tail ?_); first | refine Calmly.mix_tail_nil ?_ | refine Calmly.mix_tail rfl (fun _ _ => ?_)) | ((with_reducible refine Calmly.is_kept ?_); refine ⟨kept_of hk, ?_⟩) | (with_reducible refine Calmly.mix_alt ?_ ?_))
      refine ⟨rfl, Calmly.tail_in rfl (fun K2 hK2 => ?_)⟩
      gi_wp2
      refine (round_wide' hR).mono ?_
      rintro e W5 ⟨rfl, hJ5, hk5⟩
      refine hK2 _ _ ?_
      refine Calmly.tail_in rfl (fun K3 hK3 => ?_)
      gi_wp2
      refine tail_nil ?_
      go_wp2_with fail
      go_roundw
      case rel => exact ⟨k + 1, by omega, by go_num, ⟨pre ++ [(⟨k, hlt⟩ : Fin n)], map_range_succ HP.out hlt, hJ5⟩, (hkp.trans (Keeps.of_below BA)).trans hk5⟩
      case measure => simp [intOf]; omega
    · have hle : (n : Int) ≤ (k : Int) := by omega
      go_wp2_with fail
      go_end0
      exact ⟨⟨_, rfl⟩, pre, by rw [HP.out]; congr 1; omega, hJp⟩
end Go.Proofs.Ytaiikekgckjdeaa
