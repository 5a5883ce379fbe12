/- A region that draws its order, walked by a plan within the wide fence: what comes last is walked in the fence (a yield may be there). The elements of a spring, yielded one after the other. The sum of a property of all elements: printed by gen_m8.py. -/
import Derived.Test.YtaiikekgckjdeaaGreatK05
namespace Go.Calmly
open Go
section
variable (P : Program) (ops : Array Oper) (Q : Exit → Act → World → Prop) (w0 : World)
def stepF (n m : Nat) (i : Nat) (K : Act → World → Prop) (a : Act) (w : World) : Prop :=
  if i < n then wpOp P ops NoQ i (fun a' w' => Kept w0 w' ∧ K a' w') a w else wpOpIn Fence.wide m P ops Q i K a w
def AnyF (md : Region.Mode) (n m : Nat) : Nat → Array Bool → Act → World → Prop
  | 0, L, a, w => Region.ready md ops L = [] ∧ Q .normal a w
  | fuel + 1, L, a, w => (Region.ready md ops L = [] → Q .normal a w) ∧ ∀ i ∈ Region.ready md ops L, stepF P ops Q w0 n m i (AnyF md n m fuel (L.setIfInBounds i true)) a w
/-- What is left is walked in the fence. -/
def QTail (m : Nat) (l : List Nat) : Exit → Act → World → Prop := fun e a w => e = .normal ∧ wpOpsIn Fence.wide m P ops Q l a w
def planOkF (md : Region.Mode) (n : Nat) (l : List Nat) : Plan → Nat → Array Bool → List Nat → Bool
  | .fl i k, fuel, L, done => match fuel with
    | 0 => false
    | f + 1 => done.isEmpty && decide (i < n) && (Region.ready md ops L).contains i && Region.free md ops L i && planOkF md n l k f (L.setIfInBounds i true) []
  | .eff i k, fuel, L, done => match fuel with
    | 0 => false
    | f + 1 => decide (i < n) && (Region.ready md ops L).contains i && (Region.ready md ops L).all (fun j => j == i || done.contains j) && planOkF md n l k f (L.setIfInBounds i true) []
  | .alt i k r, fuel, L, done => match fuel with
    | 0 => false
    | f + 1 => decide (i < n) && (Region.ready md ops L).contains i && planOkF md n l k f (L.setIfInBounds i true) [] && planOkF md n l r (f + 1) L (i :: done)
  | .tail l', fuel, L, done => l'.isEmpty && done.isEmpty && chainOk ops md n l fuel L
end
section
variable {P : Program} {ops : Array Oper} {Q : Exit → Act → World → Prop} {w0 : World} {md : Region.Mode} {n m : Nat}
theorem rowsIn_w {row : String} {args : Array Value} {w : World} {R : Value → World → Prop} (h : Rows P row args w R) : RowsIn Fence.wide m P row args w R := fun c cs _ => by
  obtain ⟨v, w', h1, h2⟩ := h c cs
  exact ⟨v, w', h1, stepsIn_wide.2 h2⟩
theorem opWide {o : Oper} {a : Act} {w : World} {K : Act → World → Prop} (h : o.wp P a w K Q) : o.wpIn Fence.wide m P a w K Q := by
  refine ⟨fun _ _ => trivial, ?_⟩
  unfold Oper.wp at h
  show o.uponIn Fence.wide m P a K Q ((execOp a.eval o).run P w)
  generalize (execOp a.eval o).run P w = res at *
  cases res with
  | ok x w' =>
    cases x with
    | enter f args =>
      refine ⟨fun hh => absurd hh (by simp [Fence.wide]), callsIn_wide.2 (Calls.mono h fun e w'' he => ?_)⟩
      cases e <;> exact he
    | row s args => exact ⟨fun hh => absurd hh (by simp [Fence.wide]), rowsIn_w h⟩
    | _ => first | exact h | exact h.elim
  | halt x w' => cases x <;> exact h
theorem wpOpF_noQ {i : Nat} {K K' : Act → World → Prop} {a : Act} {w : World} (h : ∀ a w, K a w → K' a w) (hh : wpOp P ops NoQ i K a w) : wpOpIn Fence.wide m P ops Q i K' a w := by
  have h1 := wpOp_mono h hh
  unfold wpOp at h1
  unfold wpOpIn
  cases ho : ops[i]? with
  | none => simp only [ho] at h1 ⊢; exact h1
  | some o =>
    simp only [ho] at h1 ⊢
    split
    · rename_i hw
      simp only [hw, if_true] at h1
      rcases h1 with h1 | ⟨_, _, _, h1⟩
      · exact opWide (wp_noQ h1)
      · exact h1.elim
    · rename_i hw
      simp only [hw] at h1
      exact ⟨fun _ _ => trivial, h1⟩
theorem anyIn_of_anyF : ∀ (fuel : Nat) (L : Array Bool) (a : Act) (w : World), AnyF P ops Q w0 md n m fuel L a w → wpAnyIn Fence.wide m P md ops Q fuel L a w
  | 0, _, _, _, h => h
  | fuel + 1, L, a, w, h => ⟨h.1, fun i hi => by
      have h1 := h.2 i hi
      unfold stepF at h1
      split at h1
      · exact wpOpF_noQ (fun a w hk => anyIn_of_anyF fuel _ a w hk.2) h1
      · exact wpOpIn_mono (fun a w hk => anyIn_of_anyF fuel _ a w hk) h1⟩
theorem anyF_first {i : Nat} {oi : Oper} {v : Value} (hi : ops[i]? = some oi) (hin : i < n) (hsel : ∀ (j : Nat) (o : Oper) cs b, ops[j]? = some o → o.op ≠ .select cs b)
    (htail : tailOk ops md n = true) :
    ∀ (fuel : Nat) (L : Array Bool) (a : Act) (w : World), Closed ops md L →
      (∀ j oj, ops[j]? = some oj → j ≠ i → L.getD j true = false → (∀ e ∈ oj.after, Region.binds md e = true → e.on ≠ i) → oi.apart ops oj = true) →
      i ∈ Region.ready md ops L → YieldsIf P ops (Kept w0) oi v a → Kept w0 w →
      AnyF P ops Q w0 md n m fuel (L.setIfInBounds i true) (a.put oi.dst v) w → AnyF P ops Q w0 md n m (fuel + 1) L a w := by
  intro fuel
  induction fuel with
  | zero =>
    intro L a w _ _ hr hy hS H
    refine ⟨fun h => (by rw [h] at hr; cases hr), fun j hj => ?_⟩
    by_cases hji : j = i
    · subst hji
      unfold stepF
      rw [if_pos hin]
      exact yields_op hi hy hS H
    · have := ready_mono hj hji
      rw [H.1] at this
      cases this
  | succ fuel ih =>
    intro L a w hcl hfree hr hy hS H
    refine ⟨fun h => (by rw [h] at hr; cases hr), fun j hj => ?_⟩
    by_cases hji : j = i
    · subst hji
      unfold stepF
      rw [if_pos hin]
      exact yields_op hi hy hS H
    · have h1 := H.2 j (ready_mono hj hji)
      obtain ⟨hjun, oj, hoj, hall⟩ := mem_ready.1 hj
      have hnot : ∀ e ∈ oj.after, Region.binds md e = true → e.on ≠ i := fun e he hb heq => by
        have h1 := hall e he hb
        have h0 := (mem_ready.1 hr).1
        rw [heq] at h1
        rcases Nat.lt_or_ge i L.size with h' | h'
        · simp [h'] at h0 h1; rw [h0] at h1; cases h1
        · simp [Array.getElem?_eq_none h'] at h1
      have hjn : j < n := by
        rcases Nat.lt_or_ge j n with h' | h'
        · exact h'
        · have hjs : j < ops.size := (Array.getElem?_eq_some_iff.1 hoj).1
          unfold tailOk at htail
          rw [List.all_eq_true] at htail
          have h2 := htail j (List.mem_range.2 hjs)
          have h3 : ¬ j < n := by omega
          simp only [h3, decide_false, Bool.false_or, List.all_eq_true] at h2
          have h4 := waits_listed hcl 8 j i oj hoj hall (h2 i (List.mem_range.2 hin))
          have h0 := (mem_ready.1 hr).1
          rw [getD_both h0] at h4
          cases h4
      unfold stepF at h1 ⊢
      rw [if_pos hjn] at h1 ⊢
      have h2 := wpOp_putIf hoj (hfree j oj hoj hji hjun hnot) (fun cs b => hsel i oi cs b hi) (fun cs b => hsel j oj cs b hoj) (fun _ _ _ h => h) hy h1
      have hfree' : ∀ k ok, ops[k]? = some ok → k ≠ i → (L.setIfInBounds j true).getD k true = false →
          (∀ e ∈ ok.after, Region.binds md e = true → e.on ≠ i) → oi.apart ops ok = true := fun k ok hk hki hun hno => by
        refine hfree k ok hk hki ?_ hno
        by_cases hjk : j = k
        · subst hjk; exact hjun
        · rw [getD_set_ne true hjk] at hun; exact hun
      refine wpOp_mono (fun a' w' h3 => ⟨h3.2.1, ih (L.setIfInBounds j true) a' w' (closed_set hcl hj) hfree' (ready_mono hr (Ne.symm hji)) h3.1 h3.2.1 ?_⟩) h2
      rw [Array.setIfInBounds_comm _ _ hji]
      exact h3.2.2

theorem anyF_done {L : Array Bool} {a : Act} {w : World} (hr : Region.ready md ops L = []) (h : Q .normal a w) : ∀ fuel, AnyF P ops Q w0 md n m fuel L a w
  | 0 => ⟨hr, h⟩
  | _ + 1 => ⟨fun _ => h, by rw [hr]; simp⟩
theorem chain_soundF : ∀ (l : List Nat) (fuel : Nat) (L : Array Bool) (a : Act) (w : World), chainOk ops md n l fuel L = true → wpOpsIn Fence.wide m P ops Q l a w → AnyF P ops Q w0 md n m fuel L a w
  | [], fuel, L, a, w, hc, h => anyF_done (by simpa [chainOk] using hc) h fuel
  | i :: l, 0, L, a, w, hc, h => by simp [chainOk] at hc
  | i :: l, fuel + 1, L, a, w, hc, h => by
    simp only [chainOk, Bool.and_eq_true, decide_eq_true_eq, List.all_eq_true, beq_iff_eq] at hc
    obtain ⟨⟨⟨h1, h2⟩, h3⟩, h4⟩ := hc
    refine ⟨fun h0 => (by rw [h0] at h1; simp at h1), fun j hj => ?_⟩
    obtain rfl := h2 j hj
    unfold stepF
    rw [if_neg (by omega)]
    rw [wpOpsIn_cons] at h
    exact wpOpIn_mono (fun a w hk => chain_soundF l fuel _ a w h4 hk) h
theorem mix_soundF {l : List Nat} (hsel : Region.noSelect ops = true) (htail : tailOk ops md n = true) : ∀ (p : Plan) (fuel : Nat) (L : Array Bool) (done : List Nat) (a : Act) (w : World), Closed ops md L →
    planOkF ops md n l p fuel L done = true → Kept w0 w → wpMix P ops (QTail P ops Q m l) w0 p a w →
    (done = [] → AnyF P ops Q w0 md n m fuel L a w) ∧ ∀ j ∈ Region.ready md ops L, j ∉ done → ∃ f, fuel = f + 1 ∧ stepF P ops Q w0 n m j (AnyF P ops Q w0 md n m f (L.setIfInBounds j true)) a w
  | .tail l', fuel, L, done, a, w, hcl, hok, hS, h => by
    simp only [planOkF, Bool.and_eq_true, List.isEmpty_iff] at hok
    obtain ⟨⟨rfl, rfl⟩, hc⟩ := hok
    have hA := chain_soundF (P := P) (w0 := w0) (m := m) l fuel L a w hc h.2
    refine ⟨fun _ => hA, fun j hj _ => ?_⟩
    cases fuel with
    | zero => rw [hA.1] at hj; cases hj
    | succ f => exact ⟨f, rfl, hA.2 j hj⟩
  | .fl i k, 0, L, done, a, w, hcl, hok, hS, h => by simp [planOkF] at hok
  | .eff i k, 0, L, done, a, w, hcl, hok, hS, h => by simp [planOkF] at hok
  | .alt i k r, 0, L, done, a, w, hcl, hok, hS, h => by simp [planOkF] at hok
  | .fl i k, fuel + 1, L, done, a, w, hcl, hok, hS, h => by
    simp only [planOkF, Bool.and_eq_true, List.isEmpty_iff, decide_eq_true_eq] at hok
    obtain ⟨⟨⟨⟨rfl, hin⟩, hr⟩, hf⟩, hk⟩ := hok
    have hr' : i ∈ Region.ready md ops L := by simpa using hr
    suffices hA : AnyF P ops Q w0 md n m (fuel + 1) L a w by exact ⟨fun _ => hA, fun j hj _ => ⟨fuel, rfl, hA.2 j hj⟩⟩
    cases ho : ops[i]? with
    | none => simp only [wpMix, ho] at h
    | some o =>
      simp only [wpMix, ho] at h
      split at h
      · rename_i hw
        obtain ⟨v, hy, hK⟩ := early_yields hw h.1 h.2
        exact anyF_first ho hin (Region.noSelect_spec hsel) htail fuel L a w hcl (Region.free_spec ho hf) hr' hy hS ((mix_soundF hsel htail k fuel _ [] _ w (closed_set hcl hr') hk hS hK).1 rfl)
      · rename_i hw
        exact anyF_first ho hin (Region.noSelect_spec hsel) htail fuel L a w hcl (Region.free_spec ho hf) hr' (v := undef) (.inr ⟨by simpa using hw, rfl⟩) hS ((mix_soundF hsel htail k fuel _ [] _ w (closed_set hcl hr') hk hS h).1 rfl)
  | .eff i k, fuel + 1, L, done, a, w, hcl, hok, hS, h => by
    simp only [planOkF, Bool.and_eq_true, decide_eq_true_eq, List.all_eq_true, Bool.or_eq_true, beq_iff_eq] at hok
    obtain ⟨⟨⟨hin, hr⟩, hall⟩, hk⟩ := hok
    have hr' : i ∈ Region.ready md ops L := by simpa using hr
    have hst : stepF P ops Q w0 n m i (AnyF P ops Q w0 md n m fuel (L.setIfInBounds i true)) a w := by
      unfold stepF
      rw [if_pos hin]
      exact wpOp_mono (fun a' w' hh => ⟨hh.1, (mix_soundF hsel htail k fuel _ [] _ w' (closed_set hcl hr') hk hh.1 hh.2).1 rfl⟩) h
    have hone : ∀ j ∈ Region.ready md ops L, j ∉ done → j = i := fun j hj hd => by
      rcases hall j hj with h1 | h1
      · exact h1
      · exact absurd (by simpa using h1) hd
    refine ⟨fun hd => ⟨fun h0 => (by rw [h0] at hr'; cases hr'), fun j hj => ?_⟩, fun j hj hd => ⟨fuel, rfl, ?_⟩⟩
    · obtain rfl := hone j hj (by rw [hd]; simp)
      exact hst
    · obtain rfl := hone j hj hd
      exact hst
  | .alt i k r, fuel + 1, L, done, a, w, hcl, hok, hS, h => by
    simp only [planOkF, Bool.and_eq_true, decide_eq_true_eq] at hok
    obtain ⟨⟨⟨hin, hr⟩, hk⟩, hrest⟩ := hok
    have hr' : i ∈ Region.ready md ops L := by simpa using hr
    have hst : stepF P ops Q w0 n m i (AnyF P ops Q w0 md n m fuel (L.setIfInBounds i true)) a w := by
      unfold stepF
      rw [if_pos hin]
      exact wpOp_mono (fun a' w' hh => ⟨hh.1, (mix_soundF hsel htail k fuel _ [] _ w' (closed_set hcl hr') hk hh.1 hh.2).1 rfl⟩) h.1
    have hR := (mix_soundF hsel htail r (fuel + 1) L (i :: done) a w hcl hrest hS h.2).2
    have hall : ∀ j ∈ Region.ready md ops L, j ∉ done → stepF P ops Q w0 n m j (AnyF P ops Q w0 md n m fuel (L.setIfInBounds j true)) a w := fun j hj hd => by
      by_cases hji : j = i
      · subst hji; exact hst
      · obtain ⟨f, hf, hh⟩ := hR j hj (by simp [hji, hd])
        obtain rfl : fuel = f := by omega
        exact hh
    exact ⟨fun hd => ⟨fun h0 => (by rw [h0] at hr'; cases hr'), fun j hj => hall j hj (by rw [hd]; simp)⟩, fun j hj hd => ⟨fuel, rfl, hall j hj hd⟩⟩


theorem wpIn_region_tail {id : Nat} {a : Act} {w : World} {l : List Oper} (n : Nat) (p : Plan) (tl : List Nat) (hm : P.follows .mixedOrders = true)
    (hB : (Region.noSelect l.toArray && tailOk l.toArray .any n && planOkF l.toArray .any n tl p l.toArray.size (Array.replicate l.toArray.size false) []) = true)
    (h : WpMix P l.toArray (QTail P l.toArray Q m tl) w.drew p a w.drew) : (Code.region id l.toArray true).wpIn Fence.wide m P Q a w := by
  simp only [Bool.and_eq_true] at hB
  obtain ⟨⟨h1, h2⟩, h3⟩ := hB
  exact wpIn_region_any hm (anyIn_of_anyF _ _ _ _ ((mix_soundF h1 h2 p _ _ [] a _ (closed_start _) h3 (Kept.refl _) h.out).1 rfl))
/-- One operation of what is left. -/
theorem tail_in {i : Nat} {l : List Nat} {dst : Option Tmp} {op : Op} {ty : TypeId} {pos : String} {after : Array Edge} {a : Act} {w : World} (hi : ops[i]? = some ⟨dst, op, ty, pos, after, none⟩)
    (h : ∀ K : Act → World → Prop, (∀ a' w', wpOpsIn Fence.wide m P ops Q l a' w' → K a' w') → Oper.wpIn Fence.wide m P ⟨dst, op, ty, pos, after, none⟩ a w K Q) : wpOpsIn Fence.wide m P ops Q (i :: l) a w := by
  rw [wpOpsIn_cons]
  unfold wpOpIn
  simp only [hi, wanted_none, if_true]
  exact h _ fun _ _ hh => hh
/-- A region in its order, walked plainly within a round. -/
theorem opsIn_plain {r : Nat} (hd : ∀ (i : Nat) (o : Oper), ops[i]? = some o → ∀ c, o.op ≠ .defer c) (hQ : ∀ a w, ¬ Q .outgrown a w) : ∀ (l : List Nat) (a : Act) (w : World), wpOps P ops Q l a w → wpOpsIn (Fence.wide.inRound r) m P ops Q l a w
  | [], _, _, h => h
  | i :: l, a, w, h => by
    rw [wpOps_cons] at h
    rw [wpOpsIn_cons]
    exact wpOpIn_of hd hQ (wpOp_mono (fun a w hk => opsIn_plain hd hQ l a w hk) h)
theorem wpIn_region_plain {id r : Nat} {a : Act} {w : World} {l : List Oper} (h0 : noDefer l = true) (hQ : ∀ a w, ¬ Q .outgrown a w)
    (h : wpList P l.toArray Q l a w) : (Code.region id l.toArray false).wpIn (Fence.wide.inRound r) m P Q a w := by
  refine wpIn_region (opsIn_plain (noDefer_ops h0) hQ _ _ _ ?_)
  rw [List.range_eq_range', show l.toArray.size = l.length by simp, wpOps_eq_wpList l 0 (by simp)]
  exact h
/-- A region that draws its order, walked by a plan within a round, compared with an older world. -/
theorem wpIn_region_mix_at {id r : Nat} {a : Act} {w : World} {l : List Oper} (w0 : World) (hk : Kept w0 w) (n : Nat) (p : Plan) (hm : P.follows .mixedOrders = true)
    (hB : (noDefer l && (Region.noSelect l.toArray && tailOk l.toArray .any n && planOk l.toArray .any n p l.toArray.size (Array.replicate l.toArray.size false) [])) = true) (hQ : ∀ a w, ¬ Q .outgrown a w)
    (h : WpMix P l.toArray Q w0 p a w.drew) : (Code.region id l.toArray true).wpIn (Fence.wide.inRound r) m P Q a w := by
  simp only [Bool.and_eq_true] at hB
  obtain ⟨h0, ⟨h1, h2⟩, h3⟩ := hB
  have hk' : Kept w0 w.drew := ⟨hk.size, hk.block⟩
  exact wpIn_region_any hm (anyIn (noDefer_ops h0) hQ _ _ _ _ (any_of_anyT _ _ _ _ ((mix_sound h1 h2 p _ _ [] a _ (closed_start _) h3 hk' h.out).1 rfl)))
end
end Go.Calmly

namespace Go.Proofs.YtaiikekgckjdeaaGreat
open Go.RowKit Go.Shelf
attribute [local go_sem] Oper.semAt_some
open Calmly (Kept)

/-- All cells are as they were, but for those of some blocks. -/
structure Keeps (L : Nat → Prop) (A B : World) : Prop where
  size : A.heap.size ≤ B.heap.size
  same : ∀ b o, ¬ L b → A.heap[b]? = some o → o.isCells = true → B.heap[b]? = some o
theorem Keeps.refl (L : Nat → Prop) (A : World) : Keeps L A A := ⟨Nat.le_refl _, fun _ _ _ h _ => h⟩
theorem Keeps.trans {L : Nat → Prop} {A B C : World} (h : Keeps L A B) (k : Keeps L B C) : Keeps L A C := ⟨Nat.le_trans h.size k.size, fun b o hb ho hc => k.same b o hb (h.same b o hb ho hc) hc⟩
theorem Keeps.of_below {L : Nat → Prop} {A B : World} (h : Below A.heap.size A B) : Keeps L A B := ⟨h.size, fun b _ _ ho _ => (h.block b (Array.getElem?_eq_some_iff.1 ho).1).trans ho⟩
theorem Keeps.drew {L : Nat → Prop} (A : World) : Keeps L A A.drew := ⟨Nat.le_refl _, fun _ _ _ h _ => h⟩
theorem Keeps.put {L : Nat → Prop} {W : World} {l : Nat} {o : Obj} (o' : Obj) (hl : W.heap[l]? = some o) (ho : o.isCells = false) : Keeps L W (W.putObj l o') := ⟨by simp, fun b ob _ hb hc => by
  refine (World.putObj_heap_other ?_).trans hb
  rintro rfl
  rw [hl] at hb
  cases hb
  rw [ho] at hc
  cases hc⟩
theorem Keeps.setCell {L : Nat → Prop} (W : World) {b : Nat} (o : Nat) (v : Value) (h : L b) : Keeps L W (W.setCell ⟨b, o, none⟩ v) := ⟨by simp, fun k ob hk hb _ => by
  rw [Below.heap_setCell _ _ _ _ (by rintro rfl; exact hk h)]
  exact hb⟩
theorem cell_blk {w : World} {b o : Nat} {v : Value} (h : w.cell? ⟨b, o, none⟩ = some v) : ∃ cs t z, w.heap[b]? = some (.cells cs t z) := by
  unfold World.cell? at h
  cases hb : w.heap[b]? with
  | none => simp [hb] at h
  | some ob =>
    cases ob <;> simp [hb] at h
    exact ⟨_, _, _, rfl⟩
theorem Keeps.cell {L : Nat → Prop} {A B : World} (h : Keeps L A B) {b o : Nat} {v : Value} (hb : ¬ L b) (hc : A.cell? ⟨b, o, none⟩ = some v) : B.cell? ⟨b, o, none⟩ = some v := by
  obtain ⟨cs, t, z, hh⟩ := cell_blk hc
  rw [World.cell?_of_block ((h.same b _ hb hh rfl).trans hh.symm)]
  exact hc
theorem Keeps.blk {L : Nat → Prop} {A B : World} (h : Keeps L A B) {b : Nat} {cs : Array Value} {t : TypeId} (hb : ¬ L b) (hc : A.heap[b]? = some (.cells cs t)) : B.heap[b]? = some (.cells cs t) := h.same b _ hb hc rfl
theorem Keeps.sl {L : Nat → Prop} {A B : World} (h : Keeps L A B) {k : Nat} {a : Option Addr} {n c : Nat} {xs : List Value} (hs : Sl A k a n c xs) (hL : ∀ b o, 0 < n → a = some ⟨b, o, none⟩ → ¬ L b) : Sl B k a n c xs := by
  obtain ⟨h1, h2, h3, h4⟩ := hs
  refine ⟨h1, h2, h3, ?_⟩
  rcases h4 with h4 | ⟨b, off, ha, hc⟩
  · exact .inl h4
  · refine .inr ⟨b, off, ha, fun i hi => ?_⟩
    have := hc i hi
    have hs : i < xs.length := by omega
    rw [List.getElem?_eq_getElem hs] at this ⊢
    have hn : 0 < n := by
      rcases Nat.eq_zero_or_pos n with h0 | h0
      · rw [h0, Nat.zero_mul] at h1; omega
      · exact h0
    exact h.cell (hL b off hn ha) this
theorem grown_of_below' {w w' : World} (h : Below w.heap.size w w') : w.grownBy w' none := ⟨h.os, h.tape, h.output, h.size, fun k hk _ => h.block k hk⟩
theorem round_wide' {m m' : Nat} {P : Program} {l : Nat} {f : FuncId} {tmps : Array Value} {assign body : Code} {w : World} {R : Ending → World → Prop}
    (h : RoundIn Fence.wide m P l f tmps assign body w R) : RoundIn Fence.wide m' P l f tmps assign body w R := ⟨h.1, fun c cs _ => h.2 c cs (room_wide _)⟩
theorem keeps_of_grown {W W' : World} {row : Option Nat} (hg : W.grownBy W' row) (hr : ∀ r, row = some r → ∃ o, W.heap[r]? = some o ∧ o.isCells = false) : Keeps (fun _ => False) W W' := ⟨hg.size, fun b o _ ho hc => by
  rw [hg.block b (Array.getElem?_eq_some_iff.1 ho).1 ?_]
  · exact ho
  · intro he
    obtain ⟨o', h1, h2⟩ := hr b he.symm
    rw [ho] at h1
    cases h1
    rw [hc] at h2
    cases h2⟩
theorem ko_below {W W' : World} (h : Below W.heap.size W W') : KeepsOthers W W' := ⟨h.size, fun k _ hk _ => (h.block k (Array.getElem?_eq_some_iff.1 hk).1).trans hk⟩
theorem own_pure' {β : Type} (B : Nat) (p : β → Prop) : OwnFrom B (fun s (_ : World) => p s) := fun _ _ _ _ hs _ _ => hs

theorem tail_nil {P : Program} {ops : Array Oper} {Q : Exit → Act → World → Prop} {m : Nat} {a : Act} {w : World} (h : Q .normal a w) : wpOpsIn Fence.wide m P ops Q [] a w := h
theorem SEl.blk {w : World} {a : Option Addr} {n c : Nat} {l : List El} (h : SEl w a n c l) : ∀ b o, 0 < n → a = some ⟨b, o, none⟩ → b < w.heap.size := by
  intro b o hn ha
  obtain ⟨b', o', he, hc⟩ := h.at_ hn
  rw [ha] at he
  cases he
  exact cell_lt (hc 0 hn).1
theorem SSp.blk {w : World} {a : Option Addr} {n c : Nat} {l : List Sp} (h : SSp w a n c l) : ∀ b o, 0 < n → a = some ⟨b, o, none⟩ → b < w.heap.size := by
  intro b o hn ha
  obtain ⟨b', o', he, hc⟩ := h.at_ hn
  rw [ha] at he
  cases he
  exact cell_lt (hc 0 hn).1
/-- The element at an index. -/
def elAt (l : List El) (s : List Sp) (at' : Int) (i : Nat) : Value := elV (l[i]?.getD el0).1 (l[i]?.getD el0).2.1 (l[i]?.getD el0).2.2 (s[i]?.getD sp0).1 (s[i]?.getD sp0).2 at'
theorem elements_any (a a2 : Option Addr) (n c n2 c2 : Nat) (at' : Int) (w : World) : Calls Tryz.prog 76 #[.slice a n c, .agg #[.int .i64 at', .slice a2 n2 c2]] w fun e w' =>
    e = .returned (.func (.func 92) #[] #[.pointer (some ⟨w.heap.size + 1, 0, none⟩), .pointer (some ⟨w.heap.size, 0, none⟩)]) ∧ w' = (w.alloc (.cells #[.slice a n c] 60)).alloc (.cells #[.int .i64 at', .slice a2 n2 c2] 57) := by
  go_enter Tryz.func76, Tryz.ntmps76
  go_wp2_with fail
  go_ret
  exact ⟨rfl, rfl⟩

theorem map_range_succ {n k : Nat} {pre : List (Fin n)} (h : pre.map (·.val) = List.range k) (hk : k < n) : (pre ++ [(⟨k, hk⟩ : Fin n)]).map (·.val) = List.range (k + 1) := by
  rw [List.map_append, h, List.range_succ]; rfl
set_option maxRecDepth 100000 in
set_option maxHeartbeats 2000000 in
theorem elements_onon (w : World) (ph pl : Nat) (a a2 : Option Addr) (n c c2 : Nat) (l : List El) (sl : List Sp) (at' : Int) (L : Nat → Prop) (hph : w.heap[ph]? = some (.cells #[.int .i64 at', .slice a2 n c2] 57)) (hpl : w.heap[pl]? = some (.cells #[.slice a n c] 60))
    (h1 : SEl w a n c l) (h2 : SSp w a2 n c2 sl) (k1 : ¬ L ph) (k2 : ¬ L pl) (k3 : ∀ b o, 0 < n → a = some ⟨b, o, none⟩ → ¬ L b) (k4 : ∀ b o, 0 < n → a2 = some ⟨b, o, none⟩ → ¬ L b) (ky : Nat) :
    OnOn Tryz.prog 92 #[.pointer (some ⟨ph, 0, none⟩), .pointer (some ⟨pl, 0, none⟩)] (fun i : Fin n => #[elAt l sl at' i.val]) (Keeps L) (fun xs => xs.map (·.val) = List.range n) n ky w := by
  intro li J W hW hJ hY hJ0
  have hs := hW.size
  have HY := Lib.hid hY
  have HJ := Lib.hid hJ
  have m1 := h1.max
  have cc1 := h1.cap
  have m2 := h2.max
  have cc2 := h2.cap
  clear hY hJ
  have p1 := blk_keep hph hW
  have p2 := blk_keep hpl hW
  have q1 := h1.keep hW
  have q2 := h2.keep hW
  have f0 := cell_block p1 0
  have f1 := cell_block p1 1
  have f2 := cell_block p2 0
  go_enter Tryz.func92, Tryz.ntmps92
  go_wp2_with fail
  go_loopw [9] (fun i wr => ∃ k : Nat, k ≤ n ∧ i = .int .i64 k ∧ (∃ pre : List (Fin n), pre.map (·.val) = List.range k ∧ J pre wr) ∧ Keeps L W wr) (fun i _ => n - (intOf i).toNat)
  case atStart => exact ⟨0, by omega, rfl, ⟨[], rfl, hJ0⟩, Keeps.refl _ _⟩
  case round =>
    clear hJ0 f0 f1 f2
    obtain ⟨k, hk, rfl, ⟨pre, hpre, hJp⟩, hkp⟩ := hrel
    have HP := Lib.hid hpre
    have hlen : pre.length = k := by have := congrArg List.length hpre; simpa using this
    clear hpre
    replace p1 := hkp.blk k1 p1
    replace p2 := hkp.blk k2 p2
    replace q1 : SEl wr a n c l := hkp.sl q1 k3
    replace q2 : SSp wr a2 n c2 sl := hkp.sl q2 k4
    by_cases hlt : k < n
    · obtain ⟨b1, o1, rfl, hc1⟩ := q1.at_ (by omega)
      obtain ⟨b2, o2, rfl, hc2⟩ := q2.at_ (by omega)
      obtain ⟨y0, y1, y2⟩ := hc1 k hlt
      obtain ⟨y3, y4⟩ := hc2 k hlt
      clear hc1 hc2
      have hi1 : (k : Int) < (n : Int) := by omega
      have hi0 : (0 : Int) ≤ (k : Int) := by omega
      have hE : elAt l sl at' k = elV (l[k]?.getD el0).1 (l[k]?.getD el0).2.1 (l[k]?.getD el0).2.2 (sl[k]?.getD sp0).1 (sl[k]?.getD sp0).2 at' := rfl
      obtain ⟨e1, he1⟩ : ∃ v, (l[k]?.getD el0).1 = v := ⟨_, rfl⟩
      obtain ⟨e2, he2⟩ : ∃ v, (l[k]?.getD el0).2.1 = v := ⟨_, rfl⟩
      obtain ⟨e3, he3⟩ : ∃ v, (l[k]?.getD el0).2.2 = v := ⟨_, rfl⟩
      obtain ⟨e4, he4⟩ : ∃ v, (sl[k]?.getD sp0).1 = v := ⟨_, rfl⟩
      obtain ⟨e5, he5⟩ : ∃ v, (sl[k]?.getD sp0).2 = v := ⟨_, rfl⟩
      rw [he1] at y0 hE
      rw [he2] at y1 hE
      rw [he3] at y2 hE
      rw [he4] at y3 hE
      rw [he5] at y4 hE
      have HE := Lib.hid hE
      clear he1 he2 he3 he4 he5 hE
      have BA : Below wr.heap.size wr (wr.alloc (.cells #[.int .i64 e4, .bool e5] 75)) := (Below.refl _ _).alloc (Nat.le_refl _) _
      have x0 := alloc_new wr (.cells #[.int .i64 e4, .bool e5] 75)
      go_wp2_with fail
      replace y0 := cell_keep y0 BA
      replace y1 := cell_keep y1 BA
      replace y2 := cell_keep y2 BA
      replace p1 := blk_keep p1 BA
      replace p2 := blk_keep p2 BA
      generalize wr.alloc (.cells #[.int .i64 e4, .bool e5] 75) = V at *
      refine (wpIn_wide (n := 5)).1 ?_
      refine Calmly.wpIn_region_tail 9 (.fl 0 <| .fl 1 <| .fl 2 <| .fl 3 <| .fl 4 <| .fl 5 <| .fl 6 <| .fl 7 <| .fl 8 <| .tail []) [9, 10] (by kernel_rfl) (by kernel_rfl) ?_
      replace y0 := cell_keep y0 (Below.refl _ _).drew
      replace y1 := cell_keep y1 (Below.refl _ _).drew
      replace y2 := cell_keep y2 (Below.refl _ _).drew
      replace p1 := blk_keep p1 (Below.refl _ _).drew
      replace p2 := blk_keep p2 (Below.refl _ _).drew
      replace x0 := blk_keep x0 (Below.refl _ _).drew
      replace BA := BA.drew
      generalize V.drew = X at *
      have f0 := cell_block p1 0
      have f1 := cell_block p1 1
      have f2 := cell_block p2 0
      have f3 := cell_block x0 0
      have f4 := cell_block x0 1
      have hJx := HJ.out _ wr X none hJp (grown_of_below' BA) (fun r e => by cases e)
      obtain ⟨fn, tmps, assign, body, hy, hR⟩ := HY.out pre ⟨k, hlt⟩ X hJx (by omega)
      rw [HE.out] at hy
      unfold elV at hy
      have hk := Below.refl X.heap.size X
      go_wp2_with (first | ((with_reducible refine Calmly.is_fl ?_); refine Calmly.mix_fl rfl ?_ (fun _ _ => ?_); (first | exact .move _ | exact .load _ _ | exact .fieldAddr _ _ _ (by kernel_rfl) | exact .assign _ | exact .binOp _ _ _ _ _ rfl | exact .indexAddr _ _ _ | exact .len _ _ (by kernel_rfl) | exact .field _ _ _ | exact .extract _ _ | exact .pick _ _ _ | exact .build _ _ | exact .slice _ _ _ _ _ | exact .unOp _ _ _ rfl | exact .index _ _ _ | exact .max _ _ _ rfl rfl | exact .min _ _ _ rfl rfl | exact .nilCheck _ _ rfl)) | ((with_reducible refine Calmly.is_gl ?_); refine Calmly.mix_gl rfl rfl rfl ?_; first | ((first | with_reducible refine Calmly.gl_tt ?_ (fun _ _ => ?_) | with_reducible refine Calmly.gl_ff ?_ (fun _ _ => ?_)); (first | exact .move _ | exact .load _ _ | exact .fieldAddr _ _ _ (by kernel_rfl) | exact .assign _ | exact .binOp _ _ _ _ _ rfl | exact .indexAddr _ _ _ | exact .len _ _ (by kernel_rfl) | exact .field _ _ _ | exact .extract _ _ | exact .pick _ _ _ | exact .build _ _ | exact .slice _ _ _ _ _ | exact .unOp _ _ _ rfl | exact .index _ _ _ | exact .max _ _ _ rfl rfl | exact .min _ _ _ rfl rfl | exact .nilCheck _ _ rfl)) | with_reducible refine Calmly.gl_tf (fun _ _ => ?_) | with_reducible refine Calmly.gl_ft (fun _ _ => ?_)) | ((with_reducible refine Calmly.is_eff ?_); refine Calmly.mix_eff rfl (fun _ _ => ?_)) | ((with_reducible refine Calmly.is_gf ?_); refine Calmly.mix_gf rfl rfl rfl ?_; first | with_reducible refine Calmly.gf_tt (fun _ _ => ?_) | with_reducible refine Calmly.gf_ff (fun _ _ => ?_) | with_reducible refine Calmly.gf_tf (kept_of hk) (fun _ _ => ?_) | with_reducible refine Calmly.gf_ft (kept_of hk) (fun _ _ => ?_)) | ((with_reducible refine Calmly.is_tail ?_); first | refine Calmly.mix_tail_nil ?_ | refine Calmly.mix_tail rfl (fun _ _ => ?_)) | ((with_reducible refine Calmly.is_kept ?_); refine ⟨kept_of hk, ?_⟩) | (with_reducible refine Calmly.mix_alt ?_ ?_))
      refine ⟨rfl, Calmly.tail_in rfl (fun K2 hK2 => ?_)⟩
      gi_wp2
      refine (round_wide' hR).mono ?_
      rintro e W5 ⟨rfl, hJ5, hk5⟩
      refine hK2 _ _ ?_
      refine Calmly.tail_in rfl (fun K3 hK3 => ?_)
      gi_wp2
      refine tail_nil ?_
      go_wp2_with fail
      go_roundw
      case rel => exact ⟨k + 1, by omega, by go_num, ⟨pre ++ [(⟨k, hlt⟩ : Fin n)], map_range_succ HP.out hlt, hJ5⟩, (hkp.trans (Keeps.of_below BA)).trans hk5⟩
      case measure => simp [intOf]; omega
    · have hle : (n : Int) ≤ (k : Int) := by omega
      go_wp2_with fail
      go_end0
      exact ⟨⟨_, rfl⟩, pre, by rw [HP.out]; congr 1; omega, hJp⟩
end Go.Proofs.YtaiikekgckjdeaaGreat

namespace Go.Proofs.YtaiikekgckjdeaaGreat
open Go.RowKit Go.Shelf
attribute [local go_sem] Oper.semAt_some
open Calmly (Kept)

def sumR (f : Nat → Int) : Nat → Int
  | 0 => 0
  | n + 1 => sumR f n + f n
def sumP (f : Nat → Int) {n : Nat} (pre : List (Fin n)) : Int := pre.foldl (fun s i => s + f i.val) 0
theorem sumP_snoc (f : Nat → Int) {n : Nat} (pre : List (Fin n)) (x : Fin n) : sumP f (pre ++ [x]) = sumP f pre + f x.val := by simp [sumP]
theorem foldl_range (f : Nat → Int) (n : Nat) : (List.range n).foldl (fun s i => s + f i) 0 = sumR f n := by
  induction n with
  | zero => rfl
  | succ n ih => rw [List.range_succ, List.foldl_append, ih]; rfl
theorem sumP_all (f : Nat → Int) {n : Nat} (pre : List (Fin n)) (k : Nat) (h : pre.map (·.val) = List.range k) : sumP f pre = sumR f k := by
  rw [← foldl_range, ← h, List.foldl_map]
  rfl
theorem sumP_bd (f : Nat → Int) (B : Int) {n : Nat} (hf : ∀ i, i < n → -B ≤ f i ∧ f i ≤ B) (pre : List (Fin n)) : -(B * (pre.length : Int)) ≤ sumP f pre ∧ sumP f pre ≤ B * (pre.length : Int) := by
  suffices h : ∀ (m : Nat) (q : List (Fin n)), q.length = m → -(B * (m : Int)) ≤ sumP f q ∧ sumP f q ≤ B * (m : Int) from h _ pre rfl
  intro m
  induction m with
  | zero =>
    intro q hq
    have : q = [] := List.length_eq_zero_iff.1 hq
    subst this
    simp [sumP]
  | succ m ih =>
    intro q hq
    have hne : q ≠ [] := by rintro rfl; simp at hq
    obtain ⟨q', x, rfl⟩ : ∃ q' x, q = q' ++ [x] := ⟨q.dropLast, q.getLast hne, (List.dropLast_concat_getLast hne).symm⟩
    have h1 := ih q' (by simp at hq; exact hq)
    have h2 := hf x.val x.isLt
    rw [sumP_snoc]
    have e : B * ((m + 1 : Nat) : Int) = B * (m : Int) + B := by rw [Int.natCast_add, Int.mul_add]; simp
    rw [e]
    omega
theorem belowD {w W : World} {D : Nat} {o' o : Obj} (h : Below w.heap.size w W) (hD : w.heap.size ≤ D) (_ : W.heap[D]? = some o) : Below w.heap.size w (W.putObj D o') := h.trans ((grown_below (grownBy_putObj' W D o') h.size (fun k hk => by cases hk; exact hD)))
/-- What lies between two rounds of a sum. -/
structure SumI (w : World) (N : Nat) (fv : Value) (s : Int) (W : World) : Prop where
  bel : Below w.heap.size w W
  fn : W.heap[w.heap.size + 1]? = some (.cells #[fv] 159)
  sum : W.heap[w.heap.size + 2]? = some (.cells #[.int .i64 s] 3)
  sz : N ≤ W.heap.size
theorem SumI.keep {w : World} {N : Nat} {fv : Value} {s : Int} {W W' : World} (h : SumI w N fv s W) (hb : Below W.heap.size W W') : SumI w N fv s W' :=
  ⟨h.bel.trans (hb.mono h.bel.size), blk_keep h.fn hb, blk_keep h.sum hb, by have := h.sz; have := hb.size; omega⟩
theorem SumI.own {β : Type} (w : World) (N : Nat) (fv : Value) (B : Nat) (f : β → Int) (hB : w.heap.size ≤ B) : OwnFrom B (fun s W => SumI w N fv (f s) W) := by
  rintro s W W' row ⟨h1, h2, h3, h4⟩ hg hr
  have hk := keeps_of_grown hg (fun r e => (hr r e).2)
  exact ⟨h1.trans (grown_below hg h1.size (fun k e => by have := (hr k e).1; omega)), hk.blk (by simp) h2, hk.blk (by simp) h3, by have := hk.size; omega⟩
/-- A block of the round's own. -/
def OneB (N : Nat) (v : Nat → Obj) (W : World) (b : Nat) : Prop := N ≤ b ∧ W.heap[b]? = some (v b)
theorem blk_own {β : Type} (B b : Nat) (cs : Array Value) (t : TypeId) : OwnFrom B (fun (_ : β) W => W.heap[b]? = some (.cells cs t)) := by
  rintro s W W' row h hg hr
  exact (keeps_of_grown hg (fun r e => (hr r e).2)).blk (by simp) h
theorem ex_own {β γ : Type} (B : Nat) (p : γ → β → World → Prop) (h : ∀ c, OwnFrom B (p c)) : OwnFrom B (fun s W => ∃ c, p c s W) := by
  rintro s W W' row ⟨c, hc⟩ hg hr
  exact ⟨c, h c s W W' row hc hg hr⟩

set_option maxRecDepth 100000 in
set_option maxHeartbeats 4000000 in
theorem sumForce_any (a a2 : Option Addr) (n c c2 : Nat) (l : List El) (at' : Int) (sl : List Sp) (w : World) (h1 : SEl w a n c l) (h2 : SSp w a2 n c2 sl) (hn : n ≤ 6) (hB : ∀ i, i < n → ElB (l[i]?.getD el0).1 (l[i]?.getD el0).2.1 (sl[i]?.getD sp0).1 at') :
    Calls Tryz.prog 96 #[.slice a n c, .agg #[.int .i64 at', .slice a2 n c2], .func (.func 97) #[] #[]] w fun e w' => e = .returned (.int .i64 (sumR (fun i => frcE (l[i]?.getD el0).1 (sl[i]?.getD sp0).1 (sl[i]?.getD sp0).2 at') n)) ∧ Below w.heap.size w w' := by
  have m1 := h1.max
  have c1 := h1.cap
  have m2 := h2.max
  have cc2 := h2.cap
  have HB := Lib.hid hB
  clear hB
  have y2 := alloc_new ((w.alloc (.cells #[.int .i64 at', .slice a2 n c2] 57)).alloc (.cells #[.func (.func 97) #[] #[]] 159)) (.cells #[.int .i64 0] 3)
  have y1 := blk_keep (alloc_new (w.alloc (.cells #[.int .i64 at', .slice a2 n c2] 57)) (.cells #[.func (.func 97) #[] #[]] 159)) ((Below.refl _ _).alloc (Nat.le_refl _) (.cells #[.int .i64 0] 3))
  have y0 := blk_keep (blk_keep (alloc_new w (.cells #[.int .i64 at', .slice a2 n c2] 57)) ((Below.refl _ _).alloc (Nat.le_refl _) (.cells #[.func (.func 97) #[] #[]] 159))) ((Below.refl _ _).alloc (Nat.le_refl _) (.cells #[.int .i64 0] 3))
  have BW : Below w.heap.size w (((w.alloc (.cells #[.int .i64 at', .slice a2 n c2] 57)).alloc (.cells #[.func (.func 97) #[] #[]] 159)).alloc (.cells #[.int .i64 0] 3)) := (((Below.refl _ _).alloc (Nat.le_refl _) _).alloc (by simp) _).alloc (by simp; omega) _
  have hsz : (((w.alloc (.cells #[.int .i64 at', .slice a2 n c2] 57)).alloc (.cells #[.func (.func 97) #[] #[]] 159)).alloc (.cells #[.int .i64 0] 3)).heap.size = w.heap.size + 3 := by simp
  simp only [World.size_alloc] at y1 y2
  refine (callsIn_wide (n := 5)).1 ?_
  refine callsIn_of_wp_marks Tryz.func96 rfl trivial ?_ rfl
  simp only [Tryz.ntmps96, List.size_toArray, List.length_cons, List.length_nil, Nat.reduceAdd, Nat.reduceSub, Array.replicate_succ, Array.replicate_zero, List.push_toArray, List.append_toArray, List.nil_append, List.cons_append]
  refine wpIn_wide.2 ?_
  go_wp2_with fail
  generalize ((w.alloc (.cells #[.int .i64 at', .slice a2 n c2] 57)).alloc (.cells #[.func (.func 97) #[] #[]] 159)).alloc (.cells #[.int .i64 0] 3) = W3 at *
  refine (elements_any a a2 n c n c2 at' _).mono ?_
  rintro e w3 ⟨rfl, rfl⟩
  have z0 := blk_keep (alloc_new W3 (.cells #[.slice a n c] 60)) ((Below.refl _ _).alloc (Nat.le_refl _) (.cells #[.int .i64 at', .slice a2 n c2] 57))
  have z1 := alloc_new (W3.alloc (.cells #[.slice a n c] 60)) (.cells #[.int .i64 at', .slice a2 n c2] 57)
  simp only [World.size_alloc] at z1
  have BV : Below W3.heap.size W3 ((W3.alloc (.cells #[.slice a n c] 60)).alloc (.cells #[.int .i64 at', .slice a2 n c2] 57)) := ((Below.refl _ _).alloc (Nat.le_refl _) _).alloc (by simp) _
  have hszV : ((W3.alloc (.cells #[.slice a n c] 60)).alloc (.cells #[.int .i64 at', .slice a2 n c2] 57)).heap.size = W3.heap.size + 2 := by simp
  go_wp2_with fail
  generalize (W3.alloc (.cells #[.slice a n c] 60)).alloc (.cells #[.int .i64 at', .slice a2 n c2] 57) = V at *
  replace y1 := blk_keep y1 BV
  replace y2 := blk_keep y2 BV
  replace BW := BW.trans (BV.mono BW.size)
  clear y0
  rw [hsz] at z0 z1
  refine (wpIn_wide (n := 5)).1 ?_
  refine range_mid (gf := 92) (m := 4) rfl (enters_of Tryz.func92 (by kernel_rfl) rfl) (enc := fun i : Fin n => #[elAt l sl at' i.val]) (Kp := Keeps (fun b => b = w.heap.size + 2))
    (elements_onon V (w.heap.size + 3 + 1) (w.heap.size + 3) a a2 n c c2 l sl at' (fun b => b = w.heap.size + 2) z1 z0 (h1.keep BW) (h2.keep BW) (by omega) (by omega) (fun b o h0 ha => by have := h1.blk b o h0 ha; omega) (fun b o h0 ha => by have := h2.blk b o h0 ha; omega) _) (fun h k => h.trans k) (fun W l o o' _ hl ho => Keeps.put o' hl ho) (fun _ => rfl)
    (fun pre W => SumI w V.heap.size (.func (.func 97) #[] #[]) (sumP (fun i => frcE (l[i]?.getD el0).1 (sl[i]?.getD sp0).1 (sl[i]?.getD sp0).2 at') pre) W) (SumI.own w _ _ V.heap.size _ (by omega)) ⟨BW, y1, y2, Nat.le_refl _⟩
    (fun pre x a' W => ∃ b, (SumI w V.heap.size (.func (.func 97) #[] #[]) (sumP (fun i => frcE (l[i]?.getD el0).1 (sl[i]?.getD sp0).1 (sl[i]?.getD sp0).2 at') pre) W ∧ W.heap[b]? = some (.cells #[.int .i64 (l[x.val]?.getD el0).1, .int .i64 (l[x.val]?.getD el0).2.1, .bool (l[x.val]?.getD el0).2.2, .int .i64 (sl[x.val]?.getD sp0).1, .bool (sl[x.val]?.getD sp0).2, .int .i64 at'] 138)) ∧ (pre.length < n ∧ a' = { tmps := #[.slice a n c, .agg #[.int .i64 at', .slice a2 n c2], .func (.func 97) #[] #[], undef, .pointer (some ⟨w.heap.size, 0, none⟩), .pointer (some ⟨w.heap.size + 1, 0, none⟩), .int .i64 0, .pointer (some ⟨w.heap.size + 1 + 1, 0, none⟩), .pointer (some ⟨b, 0, none⟩), .slice a n c, .agg #[.int .i64 at', .slice a2 n c2], .func (.func 92) #[] #[.pointer (some ⟨w.heap.size + 3 + 1, 0, none⟩), .pointer (some ⟨w.heap.size + 3, 0, none⟩)], elAt l sl at' x.val, undef, undef, undef, undef, undef, undef], defers := [] }))
    ?own ?assign ?body ?done
  case own =>
    rintro pre x a' s W W' row ⟨b, ⟨h1, h2⟩, h3⟩ hg hr
    exact ⟨b, ⟨SumI.own w _ _ V.heap.size (fun _ => _) (by omega) () W W' row h1 hg hr, (keeps_of_grown hg (fun r e => (hr r e).2)).blk (by simp) h2⟩, h3⟩
  case assign =>
    rintro r pre x W K hi hlen hK
    simp only [elAt, elV] at hK ⊢
    have hW := hi.sz
    gi_wp2
    refine hK _ _ (KeepsOthers.alloc _ _) (Keeps.of_below ((Below.refl _ _).alloc (Nat.le_refl _) _)) ⟨W.heap.size, ⟨hi.keep ((Below.refl _ _).alloc (Nat.le_refl _) _), alloc_new _ _⟩, hlen, rfl⟩
  case body =>
    rintro r pre x a' W ⟨b, ⟨hS, hb⟩, hlen, rfl⟩
    have hEB := HB.out x.val x.isLt
    have hbd := sumP_bd (fun i => frcE (l[i]?.getD el0).1 (sl[i]?.getD sp0).1 (sl[i]?.getD sp0).2 at') 50000000 (fun i hi => by
      have := frc_bd (br := (sl[i]?.getD sp0).2) (HB.out i hi)
      exact this) pre
    have hfb := frc_bd (br := (sl[x.val]?.getD sp0).2) hEB
    rw [show sumP (fun i => frcE (l[i]?.getD el0).1 (sl[i]?.getD sp0).1 (sl[i]?.getD sp0).2 at') (pre ++ [x]) = sumP (fun i => frcE (l[i]?.getD el0).1 (sl[i]?.getD sp0).1 (sl[i]?.getD sp0).2 at') pre + frcE (l[x.val]?.getD el0).1 (sl[x.val]?.getD sp0).1 (sl[x.val]?.getD sp0).2 at' from sumP_snoc _ _ _]
    generalize sumP (fun i => frcE (l[i]?.getD el0).1 (sl[i]?.getD sp0).1 (sl[i]?.getD sp0).2 at') pre = s at hS hbd ⊢
    simp only [elAt, elV]
    generalize (l[x.val]?.getD el0).1 = e1 at *
    generalize (l[x.val]?.getD el0).2.1 = e2 at *
    generalize (l[x.val]?.getD el0).2.2 = e3 at *
    generalize (sl[x.val]?.getD sp0).1 = e4 at *
    generalize (sl[x.val]?.getD sp0).2 = e5 at *
    obtain ⟨f, hf⟩ : ∃ f, frcE e1 e4 e5 at' = f := ⟨_, rfl⟩
    rw [hf] at hfb ⊢
    have HF := Lib.hid hf
    clear hf
    have hsb : -20000000000000 ≤ s ∧ s ≤ 20000000000000 := by omega
    have g0 := cell_block hS.fn 0
    have g1 := cell_block hS.sum 0
    have g2 := cell_block hb 0
    have g3 := cell_block hb 1
    have g4 := cell_block hb 2
    have g5 := cell_block hb 3
    have g6 := cell_block hb 4
    have g7 := cell_block hb 5
    gi_wp2
    refine Calmly.wpIn_region_mix 4 (.fl 0 <| .fl 1 <| .fl 2 <| .eff 3 <| .tail [4, 5]) (by kernel_rfl) (by kernel_rfl) (by rintro a w ⟨h, _⟩; cases h) ?_
    have BD : Below W.heap.size W W.drew := (Below.refl _ _).drew
    have hk := Below.refl W.drew.heap.size W.drew
    go_wp2_with (first | ((with_reducible refine Calmly.is_fl ?_); refine Calmly.mix_fl rfl ?_ (fun _ _ => ?_); (first | exact .move _ | exact .load _ _ | exact .fieldAddr _ _ _ (by kernel_rfl) | exact .assign _ | exact .binOp _ _ _ _ _ rfl | exact .indexAddr _ _ _ | exact .len _ _ (by kernel_rfl) | exact .field _ _ _ | exact .extract _ _ | exact .pick _ _ _ | exact .build _ _ | exact .slice _ _ _ _ _ | exact .unOp _ _ _ rfl | exact .index _ _ _ | exact .max _ _ _ rfl rfl | exact .min _ _ _ rfl rfl | exact .nilCheck _ _ rfl)) | ((with_reducible refine Calmly.is_gl ?_); refine Calmly.mix_gl rfl rfl rfl ?_; first | ((first | with_reducible refine Calmly.gl_tt ?_ (fun _ _ => ?_) | with_reducible refine Calmly.gl_ff ?_ (fun _ _ => ?_)); (first | exact .move _ | exact .load _ _ | exact .fieldAddr _ _ _ (by kernel_rfl) | exact .assign _ | exact .binOp _ _ _ _ _ rfl | exact .indexAddr _ _ _ | exact .len _ _ (by kernel_rfl) | exact .field _ _ _ | exact .extract _ _ | exact .pick _ _ _ | exact .build _ _ | exact .slice _ _ _ _ _ | exact .unOp _ _ _ rfl | exact .index _ _ _ | exact .max _ _ _ rfl rfl | exact .min _ _ _ rfl rfl | exact .nilCheck _ _ rfl)) | with_reducible refine Calmly.gl_tf (fun _ _ => ?_) | with_reducible refine Calmly.gl_ft (fun _ _ => ?_)) | ((with_reducible refine Calmly.is_eff ?_); refine Calmly.mix_eff rfl (fun _ _ => ?_)) | ((with_reducible refine Calmly.is_gf ?_); refine Calmly.mix_gf rfl rfl rfl ?_; first | with_reducible refine Calmly.gf_tt (fun _ _ => ?_) | with_reducible refine Calmly.gf_ff (fun _ _ => ?_) | with_reducible refine Calmly.gf_tf (kept_of hk) (fun _ _ => ?_) | with_reducible refine Calmly.gf_ft (kept_of hk) (fun _ _ => ?_)) | ((with_reducible refine Calmly.is_tail ?_); first | refine Calmly.mix_tail_nil ?_ | refine Calmly.mix_tail rfl (fun _ _ => ?_)) | ((with_reducible refine Calmly.is_kept ?_); refine ⟨kept_of hk, ?_⟩) | (with_reducible refine Calmly.mix_alt ?_ ?_))
    refine (force_any e1 e2 e3 e4 e5 at' _ hEB).mono ?_
    rintro e u1 ⟨rfl, hs⟩
    rw [HF.out]
    replace hk := step_of hk hs
    have BU := BD.trans (hs.mono BD.size)
    have hS2 := hS.keep BU
    have k1 := cell_block hS2.sum 0
    have k2 := frozen_block hS2.sum 0
    go_wp2_with (first | ((with_reducible refine Calmly.is_fl ?_); refine Calmly.mix_fl rfl ?_ (fun _ _ => ?_); (first | exact .move _ | exact .load _ _ | exact .fieldAddr _ _ _ (by kernel_rfl) | exact .assign _ | exact .binOp _ _ _ _ _ rfl | exact .indexAddr _ _ _ | exact .len _ _ (by kernel_rfl) | exact .field _ _ _ | exact .extract _ _ | exact .pick _ _ _ | exact .build _ _ | exact .slice _ _ _ _ _ | exact .unOp _ _ _ rfl | exact .index _ _ _ | exact .max _ _ _ rfl rfl | exact .min _ _ _ rfl rfl | exact .nilCheck _ _ rfl)) | ((with_reducible refine Calmly.is_gl ?_); refine Calmly.mix_gl rfl rfl rfl ?_; first | ((first | with_reducible refine Calmly.gl_tt ?_ (fun _ _ => ?_) | with_reducible refine Calmly.gl_ff ?_ (fun _ _ => ?_)); (first | exact .move _ | exact .load _ _ | exact .fieldAddr _ _ _ (by kernel_rfl) | exact .assign _ | exact .binOp _ _ _ _ _ rfl | exact .indexAddr _ _ _ | exact .len _ _ (by kernel_rfl) | exact .field _ _ _ | exact .extract _ _ | exact .pick _ _ _ | exact .build _ _ | exact .slice _ _ _ _ _ | exact .unOp _ _ _ rfl | exact .index _ _ _ | exact .max _ _ _ rfl rfl | exact .min _ _ _ rfl rfl | exact .nilCheck _ _ rfl)) | with_reducible refine Calmly.gl_tf (fun _ _ => ?_) | with_reducible refine Calmly.gl_ft (fun _ _ => ?_)) | ((with_reducible refine Calmly.is_eff ?_); refine Calmly.mix_eff rfl (fun _ _ => ?_)) | ((with_reducible refine Calmly.is_gf ?_); refine Calmly.mix_gf rfl rfl rfl ?_; first | with_reducible refine Calmly.gf_tt (fun _ _ => ?_) | with_reducible refine Calmly.gf_ff (fun _ _ => ?_) | with_reducible refine Calmly.gf_tf (kept_of hk) (fun _ _ => ?_) | with_reducible refine Calmly.gf_ft (kept_of hk) (fun _ _ => ?_)) | ((with_reducible refine Calmly.is_tail ?_); first | refine Calmly.mix_tail_nil ?_ | refine Calmly.mix_tail rfl (fun _ _ => ?_)) | ((with_reducible refine Calmly.is_kept ?_); refine ⟨kept_of hk, ?_⟩) | (with_reducible refine Calmly.mix_alt ?_ ?_))
    refine ⟨(ko_below BU).trans (KeepsOthers.setCell _ _ _), (Keeps.of_below BU).trans (Keeps.setCell _ _ _ rfl), hS2.bel.setCell (by show w.heap.size ≤ w.heap.size + 1 + 1; omega) _, ?_, ?_, ?_⟩
    · rw [Below.heap_setCell _ _ _ _ (by show w.heap.size + 1 ≠ w.heap.size + 1 + 1; omega)]
      exact hS2.fn
    · have := setBlk hS2.sum 0 (.int .i64 (s + f))
      simpa using this
    · have h9 := hS2.sz
      simp only [World.setCell, Array.size_modify]
      omega
  case done =>
    rintro D ys W hD hys hi hK
    rw [sumP_all _ _ _ hys] at hi
    have g1 := cell_block hi.sum 0
    go_wp2_with fail
    refine ⟨by simp, .inl ⟨_, _, rfl, run_takeDeferred hK, ?_⟩⟩
    exact ⟨.int .i64 _, by simp [results, Tryz.results96, go_sem], rfl, belowD hi.bel (by omega) hK⟩

end Go.Proofs.YtaiikekgckjdeaaGreat
