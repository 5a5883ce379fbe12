/- A region that draws its order, walked by a plan, with a fact S that holds in all its worlds: what is loaded from blocks that S knows is loaded early. A move of a spring. -/
import Derived.Test.YtaiikekgckjdeaaGreatK06
namespace Go.Calmly
open Go
inductive PlanS where
  | fl (i : Nat) (k : PlanS)
  | ld (i : Nat) (k : PlanS)
  | eff (i : Nat) (k : PlanS)
  | alt (i : Nat) (k r : PlanS)
  | tail (l : List Nat)
section
variable (P : Program) (ops : Array Oper) (Q : Exit → Act → World → Prop) (w0 : World) (S : World → Prop)
def wpMixS : PlanS → Act → World → Prop
  | .fl i k, a, w => match ops[i]? with
    | none => False
    | some o => if Region.wanted o (yielded ops a.tmps) then Early P a.eval o.op ∧ o.wp P a w0 (fun a' w' => w' = w0 ∧ wpMixS k a' w) NoQ else wpMixS k (a.put o.dst undef) w
  | .ld i k, a, w => match ops[i]? with
    | none => False
    | some o => Region.wanted o (yielded ops a.tmps) = true ∧ ∃ v, (∀ u, S u → (execOp a.eval o).run P u = .ok (.value v) u) ∧ wpMixS k (a.put o.dst v) w
  | .eff i k, a, w => wpOp P ops NoQ i (fun a' w' => S w' ∧ wpMixS k a' w') a w
  | .alt i k r, a, w => wpOp P ops NoQ i (fun a' w' => S w' ∧ wpMixS k a' w') a w ∧ wpMixS r a w
  | .tail l, a, w => wpOps P ops Q l a w
def planOkS (md : Region.Mode) (n : Nat) : PlanS → Nat → Array Bool → List Nat → Bool
  | .fl i k, fuel, L, done => match fuel with
    | 0 => false
    | f + 1 => done.isEmpty && decide (i < n) && (Region.ready md ops L).contains i && Region.free md ops L i && planOkS md n k f (L.setIfInBounds i true) []
  | .ld i k, fuel, L, done => match fuel with
    | 0 => false
    | f + 1 => done.isEmpty && decide (i < n) && (Region.ready md ops L).contains i && Region.free md ops L i && planOkS md n k f (L.setIfInBounds i true) []
  | .eff i k, fuel, L, done => match fuel with
    | 0 => false
    | f + 1 => decide (i < n) && (Region.ready md ops L).contains i && (Region.ready md ops L).all (fun j => j == i || done.contains j) && planOkS md n k f (L.setIfInBounds i true) []
  | .alt i k r, fuel, L, done => match fuel with
    | 0 => false
    | f + 1 => decide (i < n) && (Region.ready md ops L).contains i && planOkS md n k f (L.setIfInBounds i true) [] && planOkS md n r (f + 1) L (i :: done)
  | .tail l, fuel, L, done => done.isEmpty && chainOk ops md n l fuel L
def stepS (n : Nat) (i : Nat) (K : Act → World → Prop) (a : Act) (w : World) : Prop :=
  if i < n then wpOp P ops NoQ i (fun a' w' => S w' ∧ K a' w') a w else wpOp P ops Q i K a w
def AnyS (md : Region.Mode) (n : Nat) : Nat → Array Bool → Act → World → Prop
  | 0, L, a, w => Region.ready md ops L = [] ∧ Q .normal a w
  | fuel + 1, L, a, w => (Region.ready md ops L = [] → Q .normal a w) ∧ ∀ i ∈ Region.ready md ops L, stepS P ops Q S n i (AnyS md n fuel (L.setIfInBounds i true)) a w
end
section
variable {P : Program} {ops : Array Oper} {Q : Exit → Act → World → Prop} {w0 : World} {S : World → Prop} {md : Region.Mode} {n : Nat}
theorem yields_mono {S' : World → Prop} {o : Oper} {v : Value} {a : Act} (h : ∀ u, S u → S' u) (hy : YieldsIf P ops S' o v a) : YieldsIf P ops S o v a :=
  hy.imp (fun ⟨hw, hv⟩ => ⟨hw, fun w hs => hv w (h w hs)⟩) id
theorem any_of_anyS : ∀ (fuel : Nat) (L : Array Bool) (a : Act) (w : World), AnyS P ops Q S md n fuel L a w → wpAny P md ops Q fuel L a w
  | 0, _, _, _, h => h
  | fuel + 1, L, a, w, h => ⟨h.1, fun i hi => by
      have h1 := h.2 i hi
      unfold stepS at h1
      split at h1
      · exact wpOp_noQ (fun a w hk => any_of_anyS fuel _ a w hk.2) h1
      · exact wpOp_mono (fun a w hk => any_of_anyS fuel _ a w hk) h1⟩
theorem yields_opS {i : Nat} {o : Oper} {v : Value} {a : Act} (hi : ops[i]? = some o) (hy : YieldsIf P ops S o v a)
    {K : Act → World → Prop} {w : World} (hS : S w) (h : K (a.put o.dst v) w) : wpOp P ops NoQ i (fun a' w' => S w' ∧ K a' w') a w :=
  hy.wpOp hi hS ⟨hS, h⟩
theorem anyS_first {i : Nat} {oi : Oper} {v : Value} (hi : ops[i]? = some oi) (hin : i < n) (hsel : ∀ (j : Nat) (o : Oper) cs b, ops[j]? = some o → o.op ≠ .select cs b)
    (htail : tailOk ops md n = true) :
    ∀ (fuel : Nat) (L : Array Bool) (a : Act) (w : World), Closed ops md L →
      (∀ j oj, ops[j]? = some oj → j ≠ i → L.getD j true = false → (∀ e ∈ oj.after, Region.binds md e = true → e.on ≠ i) → oi.apart ops oj = true) →
      i ∈ Region.ready md ops L → YieldsIf P ops S oi v a → S w →
      AnyS P ops Q S md n fuel (L.setIfInBounds i true) (a.put oi.dst v) w → AnyS P ops Q S md n (fuel + 1) L a w := by
  intro fuel
  induction fuel with
  | zero =>
    intro L a w _ _ hr hy hS H
    refine ⟨fun h => (by rw [h] at hr; cases hr), fun j hj => ?_⟩
    by_cases hji : j = i
    · subst hji
      unfold stepS
      rw [if_pos hin]
      exact yields_opS hi hy hS H
    · have := ready_mono hj hji
      rw [H.1] at this
      cases this
  | succ fuel ih =>
    intro L a w hcl hfree hr hy hS H
    refine ⟨fun h => (by rw [h] at hr; cases hr), fun j hj => ?_⟩
    by_cases hji : j = i
    · subst hji
      unfold stepS
      rw [if_pos hin]
      exact yields_opS hi hy hS H
    · have h1 := H.2 j (ready_mono hj hji)
      obtain ⟨hjun, oj, hoj, hall⟩ := mem_ready.1 hj
      have hnot : ∀ e ∈ oj.after, Region.binds md e = true → e.on ≠ i := fun e he hb heq => by
        have h1 := hall e he hb
        have h0 := (mem_ready.1 hr).1
        rw [heq] at h1
        rcases Nat.lt_or_ge i L.size with h' | h'
        · simp [h'] at h0 h1; rw [h0] at h1; cases h1
        · simp [Array.getElem?_eq_none h'] at h1
      have hjn : j < n := by
        rcases Nat.lt_or_ge j n with h' | h'
        · exact h'
        · have hjs : j < ops.size := (Array.getElem?_eq_some_iff.1 hoj).1
          unfold tailOk at htail
          rw [List.all_eq_true] at htail
          have h2 := htail j (List.mem_range.2 hjs)
          have h3 : ¬ j < n := by omega
          simp only [h3, decide_false, Bool.false_or, List.all_eq_true] at h2
          have h4 := waits_listed hcl 8 j i oj hoj hall (h2 i (List.mem_range.2 hin))
          have h0 := (mem_ready.1 hr).1
          rw [getD_both h0] at h4
          cases h4
      unfold stepS at h1 ⊢
      rw [if_pos hjn] at h1 ⊢
      have h2 := wpOp_putIf hoj (hfree j oj hoj hji hjun hnot) (fun cs b => hsel i oi cs b hi) (fun cs b => hsel j oj cs b hoj) (fun _ _ _ h => h) hy h1
      have hfree' : ∀ k ok, ops[k]? = some ok → k ≠ i → (L.setIfInBounds j true).getD k true = false →
          (∀ e ∈ ok.after, Region.binds md e = true → e.on ≠ i) → oi.apart ops ok = true := fun k ok hk hki hun hno => by
        refine hfree k ok hk hki ?_ hno
        by_cases hjk : j = k
        · subst hjk; exact hjun
        · rw [getD_set_ne true hjk] at hun; exact hun
      refine wpOp_mono (fun a' w' h3 => ⟨h3.2.1, ih (L.setIfInBounds j true) a' w' (closed_set hcl hj) hfree' (ready_mono hr (Ne.symm hji)) h3.1 h3.2.1 ?_⟩) h2
      rw [Array.setIfInBounds_comm _ _ hji]
      exact h3.2.2

theorem anyS_done {L : Array Bool} {a : Act} {w : World} (hr : Region.ready md ops L = []) (h : Q .normal a w) : ∀ fuel, AnyS P ops Q S md n fuel L a w
  | 0 => ⟨hr, h⟩
  | _ + 1 => ⟨fun _ => h, by rw [hr]; simp⟩

theorem chain_soundS : ∀ (l : List Nat) (fuel : Nat) (L : Array Bool) (a : Act) (w : World), chainOk ops md n l fuel L = true → wpOps P ops Q l a w → AnyS P ops Q S md n fuel L a w
  | [], fuel, L, a, w, hc, h => anyS_done (by simpa [chainOk] using hc) h fuel
  | i :: l, 0, L, a, w, hc, h => by simp [chainOk] at hc
  | i :: l, fuel + 1, L, a, w, hc, h => by
    simp only [chainOk, Bool.and_eq_true, decide_eq_true_eq, List.all_eq_true, beq_iff_eq] at hc
    obtain ⟨⟨⟨h1, h2⟩, h3⟩, h4⟩ := hc
    refine ⟨fun h0 => (by rw [h0] at h1; simp at h1), fun j hj => ?_⟩
    obtain rfl := h2 j hj
    unfold stepS
    rw [if_neg (by omega)]
    rw [wpOps_cons] at h
    exact wpOp_mono (fun a w hk => chain_soundS l fuel _ a w h4 hk) h

theorem mix_soundS (hSk : ∀ u, S u → Kept w0 u) (hsel : Region.noSelect ops = true) (htail : tailOk ops md n = true) : ∀ (p : PlanS) (fuel : Nat) (L : Array Bool) (done : List Nat) (a : Act) (w : World), Closed ops md L →
    planOkS ops md n p fuel L done = true → S w → wpMixS P ops Q w0 S p a w →
    (done = [] → AnyS P ops Q S md n fuel L a w) ∧ ∀ j ∈ Region.ready md ops L, j ∉ done → ∃ f, fuel = f + 1 ∧ stepS P ops Q S n j (AnyS P ops Q S md n f (L.setIfInBounds j true)) a w
  | .tail l, fuel, L, done, a, w, hcl, hok, hS, h => by
    simp only [planOkS, Bool.and_eq_true, List.isEmpty_iff] at hok
    obtain ⟨rfl, hc⟩ := hok
    have hA := chain_soundS (P := P) (S := S) l fuel L a w hc h
    refine ⟨fun _ => hA, fun j hj _ => ?_⟩
    cases fuel with
    | zero => rw [hA.1] at hj; cases hj
    | succ f => exact ⟨f, rfl, hA.2 j hj⟩
  | .fl i k, 0, L, done, a, w, hcl, hok, hS, h => by simp [planOkS] at hok
  | .ld i k, 0, L, done, a, w, hcl, hok, hS, h => by simp [planOkS] at hok
  | .eff i k, 0, L, done, a, w, hcl, hok, hS, h => by simp [planOkS] at hok
  | .alt i k r, 0, L, done, a, w, hcl, hok, hS, h => by simp [planOkS] at hok
  | .fl i k, fuel + 1, L, done, a, w, hcl, hok, hS, h => by
    simp only [planOkS, Bool.and_eq_true, List.isEmpty_iff, decide_eq_true_eq] at hok
    obtain ⟨⟨⟨⟨rfl, hin⟩, hr⟩, hf⟩, hk⟩ := hok
    have hr' : i ∈ Region.ready md ops L := by simpa using hr
    suffices hA : AnyS P ops Q S md n (fuel + 1) L a w by exact ⟨fun _ => hA, fun j hj _ => ⟨fuel, rfl, hA.2 j hj⟩⟩
    cases ho : ops[i]? with
    | none => simp only [wpMixS, ho] at h
    | some o =>
      simp only [wpMixS, ho] at h
      split at h
      · rename_i hw
        obtain ⟨v, hy0, hK⟩ := early_yields hw h.1 h.2
        have hy : YieldsIf P ops S o v a := yields_mono hSk hy0
        exact anyS_first ho hin (Region.noSelect_spec hsel) htail fuel L a w hcl (Region.free_spec ho hf) hr' hy hS ((mix_soundS hSk hsel htail k fuel _ [] _ w (closed_set hcl hr') hk hS hK).1 rfl)
      · rename_i hw
        exact anyS_first ho hin (Region.noSelect_spec hsel) htail fuel L a w hcl (Region.free_spec ho hf) hr' (v := undef) (.inr ⟨by simpa using hw, rfl⟩) hS ((mix_soundS hSk hsel htail k fuel _ [] _ w (closed_set hcl hr') hk hS h).1 rfl)
  | .ld i k, fuel + 1, L, done, a, w, hcl, hok, hS, h => by
    simp only [planOkS, Bool.and_eq_true, List.isEmpty_iff, decide_eq_true_eq] at hok
    obtain ⟨⟨⟨⟨rfl, hin⟩, hr⟩, hf⟩, hk⟩ := hok
    have hr' : i ∈ Region.ready md ops L := by simpa using hr
    suffices hA : AnyS P ops Q S md n (fuel + 1) L a w by exact ⟨fun _ => hA, fun j hj _ => ⟨fuel, rfl, hA.2 j hj⟩⟩
    cases ho : ops[i]? with
    | none => simp only [wpMixS, ho] at h
    | some o =>
      simp only [wpMixS, ho] at h
      obtain ⟨hw, v, hy, hK⟩ := h
      exact anyS_first ho hin (Region.noSelect_spec hsel) htail fuel L a w hcl (Region.free_spec ho hf) hr' (.inl ⟨hw, hy⟩) hS ((mix_soundS hSk hsel htail k fuel _ [] _ w (closed_set hcl hr') hk hS hK).1 rfl)
  | .eff i k, fuel + 1, L, done, a, w, hcl, hok, hS, h => by
    simp only [planOkS, Bool.and_eq_true, decide_eq_true_eq, List.all_eq_true, Bool.or_eq_true, beq_iff_eq] at hok
    obtain ⟨⟨⟨hin, hr⟩, hall⟩, hk⟩ := hok
    have hr' : i ∈ Region.ready md ops L := by simpa using hr
    have hst : stepS P ops Q S n i (AnyS P ops Q S md n fuel (L.setIfInBounds i true)) a w := by
      unfold stepS
      rw [if_pos hin]
      exact wpOp_mono (fun a' w' hh => ⟨hh.1, (mix_soundS hSk hsel htail k fuel _ [] _ w' (closed_set hcl hr') hk hh.1 hh.2).1 rfl⟩) h
    have hone : ∀ j ∈ Region.ready md ops L, j ∉ done → j = i := fun j hj hd => by
      rcases hall j hj with h1 | h1
      · exact h1
      · exact absurd (by simpa using h1) hd
    refine ⟨fun hd => ⟨fun h0 => (by rw [h0] at hr'; cases hr'), fun j hj => ?_⟩, fun j hj hd => ⟨fuel, rfl, ?_⟩⟩
    · obtain rfl := hone j hj (by rw [hd]; simp)
      exact hst
    · obtain rfl := hone j hj hd
      exact hst
  | .alt i k r, fuel + 1, L, done, a, w, hcl, hok, hS, h => by
    simp only [planOkS, Bool.and_eq_true, decide_eq_true_eq] at hok
    obtain ⟨⟨⟨hin, hr⟩, hk⟩, hrest⟩ := hok
    have hr' : i ∈ Region.ready md ops L := by simpa using hr
    have hst : stepS P ops Q S n i (AnyS P ops Q S md n fuel (L.setIfInBounds i true)) a w := by
      unfold stepS
      rw [if_pos hin]
      exact wpOp_mono (fun a' w' hh => ⟨hh.1, (mix_soundS hSk hsel htail k fuel _ [] _ w' (closed_set hcl hr') hk hh.1 hh.2).1 rfl⟩) h.1
    have hR := (mix_soundS hSk hsel htail r (fuel + 1) L (i :: done) a w hcl hrest hS h.2).2
    have hall : ∀ j ∈ Region.ready md ops L, j ∉ done → stepS P ops Q S n j (AnyS P ops Q S md n fuel (L.setIfInBounds j true)) a w := fun j hj hd => by
      by_cases hji : j = i
      · subst hji; exact hst
      · obtain ⟨f, hf, hh⟩ := hR j hj (by simp [hji, hd])
        obtain rfl : fuel = f := by omega
        exact hh
    exact ⟨fun hd => ⟨fun h0 => (by rw [h0] at hr'; cases hr'), fun j hj => hall j hj (by rw [hd]; simp)⟩, fun j hj hd => ⟨fuel, rfl, hall j hj hd⟩⟩


structure WpMixS (P : Program) (ops : Array Oper) (Q : Exit → Act → World → Prop) (w0 : World) (S : World → Prop) (p : PlanS) (a : Act) (w : World) : Prop where
  out : wpMixS P ops Q w0 S p a w
theorem wp_region_mixS {id : Nat} {a : Act} {w : World} {l : List Oper} (w0 : World) (S : World → Prop) (hSk : ∀ u, S u → Kept w0 u) (hS : S w.drew) (n : Nat) (p : PlanS) (hm : P.follows .mixedOrders = true)
    (hB : (Region.noSelect l.toArray && tailOk l.toArray .any n && planOkS l.toArray .any n p l.toArray.size (Array.replicate l.toArray.size false) []) = true)
    (h : WpMixS P l.toArray Q w0 S p a w.drew) : (Code.region id l.toArray true).wp P Q a w := by
  simp only [Bool.and_eq_true] at hB
  obtain ⟨⟨h1, h2⟩, h3⟩ := hB
  exact wp_region_any hm (any_of_anyS _ _ _ _ ((mix_soundS hSk h1 h2 p _ _ [] a _ (closed_start _) h3 hS h.out).1 rfl))
theorem wpIn_region_mixS {id r m : Nat} {a : Act} {w : World} {l : List Oper} (w0 : World) (S : World → Prop) (hSk : ∀ u, S u → Kept w0 u) (hS : S w.drew) (n : Nat) (p : PlanS) (hm : P.follows .mixedOrders = true)
    (hB : (noDefer l && (Region.noSelect l.toArray && tailOk l.toArray .any n && planOkS l.toArray .any n p l.toArray.size (Array.replicate l.toArray.size false) [])) = true) (hQ : ∀ a w, ¬ Q .outgrown a w)
    (h : WpMixS P l.toArray Q w0 S p a w.drew) : (Code.region id l.toArray true).wpIn (Fence.wide.inRound r) m P Q a w := by
  simp only [Bool.and_eq_true] at hB
  obtain ⟨h0, ⟨h1, h2⟩, h3⟩ := hB
  exact wpIn_region_any hm (anyIn (noDefer_ops h0) hQ _ _ _ _ (any_of_anyS _ _ _ _ ((mix_soundS hSk h1 h2 p _ _ [] a _ (closed_start _) h3 hS h.out).1 rfl)))
/-! ### The moves -/
theorem isS_fl {i : Nat} {k : PlanS} {a : Act} {w : World} (h : WpMixS P ops Q w0 S (.fl i k) a w) : WpMixS P ops Q w0 S (.fl i k) a w := h
theorem isS_ld {i : Nat} {k : PlanS} {a : Act} {w : World} (h : WpMixS P ops Q w0 S (.ld i k) a w) : WpMixS P ops Q w0 S (.ld i k) a w := h
theorem isS_eff {i : Nat} {k : PlanS} {a : Act} {w : World} (h : WpMixS P ops Q w0 S (.eff i k) a w) : WpMixS P ops Q w0 S (.eff i k) a w := h
theorem isS_tail {l : List Nat} {a : Act} {w : World} (h : WpMixS P ops Q w0 S (.tail l) a w) : WpMixS P ops Q w0 S (.tail l) a w := h
theorem mixS_fl {i : Nat} {k : PlanS} {dst : Option Tmp} {op : Op} {ty : TypeId} {pos : String} {after : Array Edge} {a : Act} {w : World} (hi : ops[i]? = some ⟨dst, op, ty, pos, after, none⟩) (he : Early P a.eval op)
    (h : ∀ K : Act → World → Prop, (∀ a', WpMixS P ops Q w0 S k a' w → K a' w0) → Oper.wp P ⟨dst, op, ty, pos, after, none⟩ a w0 K NoQ) : WpMixS P ops Q w0 S (.fl i k) a w := by
  refine ⟨?_⟩
  simp only [wpMixS, hi, Region.wanted, if_true]
  exact ⟨he, h _ fun a' hh => ⟨rfl, hh.out⟩⟩
/-- A load of one cell that all worlds of S have. -/
theorem mixS_ld {i : Nat} {k : PlanS} {dst : Option Tmp} {t : TypeId} {x : Operand} {ty : TypeId} {pos : String} {after : Array Edge} {a : Act} {w : World} {p : Addr} {v : Value} (hi : ops[i]? = some ⟨dst, .load t x, ty, pos, after, none⟩) (hc : ∀ u, S u → u.cell? p = some v)
    (hl : ∀ u : World, u.cell? p = some v → (execOp a.eval ⟨dst, .load t x, ty, pos, after, none⟩).run P u = .ok (.value v) u)
    (h : ∀ K : Act → World → Prop, (∀ a', WpMixS P ops Q w0 S k a' w → K a' w) → Oper.wp P ⟨dst, .assign (.const v), ty, pos, after, none⟩ a w K NoQ) : WpMixS P ops Q w0 S (.ld i k) a w := by
  refine ⟨?_⟩
  simp only [wpMixS, hi, wanted_none, true_and]
  exact ⟨v, fun u hu => hl u (hc u hu), h (fun a' _ => wpMixS P ops Q w0 S k a' w) (fun _ hh => hh.out)⟩
theorem mixS_eff {i : Nat} {k : PlanS} {dst : Option Tmp} {op : Op} {ty : TypeId} {pos : String} {after : Array Edge} {a : Act} {w : World} (hi : ops[i]? = some ⟨dst, op, ty, pos, after, none⟩)
    (h : ∀ K : Act → World → Prop, (∀ a' w', S w' ∧ WpMixS P ops Q w0 S k a' w' → K a' w') → Oper.wp P ⟨dst, op, ty, pos, after, none⟩ a w K NoQ) : WpMixS P ops Q w0 S (.eff i k) a w := by
  refine ⟨?_⟩
  exact op_of hi (wanted_none rfl) (h _ fun _ _ hh => ⟨hh.1, hh.2.out⟩)
theorem mixS_tail_nil {a : Act} {w : World} (h : Q .normal a w) : WpMixS P ops Q w0 S (.tail []) a w := ⟨h⟩
theorem mixS_tail {i : Nat} {l : List Nat} {dst : Option Tmp} {op : Op} {ty : TypeId} {pos : String} {after : Array Edge} {a : Act} {w : World} (hi : ops[i]? = some ⟨dst, op, ty, pos, after, none⟩)
    (h : ∀ K : Act → World → Prop, (∀ a' w', WpMixS P ops Q w0 S (.tail l) a' w' → K a' w') → Oper.wp P ⟨dst, op, ty, pos, after, none⟩ a w K Q) : WpMixS P ops Q w0 S (.tail (i :: l)) a w := by
  refine ⟨?_⟩
  show wpOps P ops Q (i :: l) a w
  rw [wpOps_cons]
  exact op_of hi (wanted_none rfl) (h _ fun _ _ hh => hh.out)
end
end Go.Calmly

namespace Go.Proofs.YtaiikekgckjdeaaGreat
open Go.RowKit Go.Shelf
attribute [local go_sem] Oper.semAt_some
open Calmly (Kept)

theorem owns_keeps {L : Nat → Prop} {w w' : World} {B n k : Nat} {v : Value} {e : TypeId} {xs : List Value} (h : w.ownsRow B e k v n xs) (hk : Keeps L w w') (hL : ∀ b, B ≤ b → ¬ L b) : w'.ownsRow B e k v n xs := by
  obtain ⟨h1, h2⟩ := h
  refine ⟨h1, ?_⟩
  rcases h2 with h2 | ⟨g, cap, cur, hv, hg, hh, r'⟩
  · exact .inl h2
  · exact .inr ⟨g, cap, cur, hv, hg, hk.same g _ (hL g hg) hh rfl, r'⟩
theorem Keeps.of_belowB {L : Nat → Prop} {B : Nat} {A A' : World} (h : Below B A A') (hL : ∀ b, B ≤ b → L b) : Keeps L A A' := ⟨h.size, fun b o hb ho _ => (h.block b (by
  have h1 := (Array.getElem?_eq_some_iff.1 ho).1
  rcases Nat.lt_or_ge b B with h2 | h2
  · exact h2
  · exact absurd (hL b h2) hb)).trans ho⟩
theorem ko_grown {W W' : World} {row : Option Nat} (hg : W.grownBy W' row) (hr : ∀ r, row = some r → ∃ o, W.heap[r]? = some o ∧ o.isCells = true) : KeepsOthers W W' := ⟨hg.size, fun k o hk ho => by
  rw [hg.block k (Array.getElem?_eq_some_iff.1 hk).1 ?_]
  · exact hk
  · intro he
    obtain ⟨o', h1, h2⟩ := hr k he.symm
    rw [hk] at h1
    cases h1
    rw [ho] at h2
    cases h2⟩
/-- An append of a slip to a row of the call's own: nothing that is no row of cells is touched. -/
theorem appS1K {ops : Array Oper} {rest : List Oper} {o : Oper} {a : Act} {Q : Exit → Act → World → Prop} {Wx : World} (w0 : World) {B : Nat} {av : Option Addr} {n c : Nat} {l : List Sp} {x : Int} {y : Bool} (hW : Wx = w0.alloc (.cells #[.int .i64 x, .bool y] 75)) (hgd : o.guard = none) (s x' : Operand)
    (ho : o.op = .call { callee := .builtin .append, args := #[s, x'], argTypes := #[55, 55] })
    (hown : OwS w0 B av n c l) (hs : a.eval s = .slice av n c) (hx : a.eval x' = .slice (some ⟨w0.heap.size, 0, none⟩) 1 1)
    (hb1 : n + 1 ≤ 1099511627776) (hB : B ≤ w0.heap.size)
    (h : ∀ a' c' w', OwS w' B a' (n + 1) c' (l ++ [(x, y)]) → Below B w0 w' → KeepsOthers w0 w' → (∀ b, b < w0.heap.size → (∀ g o, av = some ⟨g, o, none⟩ → b ≠ g) → w'.heap[b]? = w0.heap[b]?) → wpList Tryz.prog ops Q rest (a.put o.dst (.slice a' (n + 1) c')) w') :
    wpList Tryz.prog ops Q (o :: rest) a Wx := by
  subst hW
  obtain ⟨i0, hi, hz0, hz1, hz2⟩ := info_parts Tryz.info_sp
  have hal : KeepsOthers w0 (w0.alloc (.cells #[.int .i64 x, .bool y] 75)) := KeepsOthers.alloc _ _
  refine wpList_append_own _ hgd s x' _ ho B _ i0 (.agg #[.int .i64 0, .bool false]) 2 16 Tryz.underlying55 hi hz0 hz1 hz2 rfl (by decide) _ n _ hs (World.ownsRow.alloc hown _) ⟨w0.heap.size, 0, none⟩ 1 1 [.int .i64 x, .bool y] hx rfl (cells_new w0 #[.int .i64 x, .bool y] _) (by simp [Value.oneCell']) (by unfold maxLen; omega) (by omega) (by simp; omega) ?_
  intro v' w1 ho1 hg hn
  have hrow : ∀ j, (Value.slice av n c).ownBlock = some j → B ≤ j := fun j hj => (World.ownsRow.lt hown j hj).1
  have hb0 : Below B w0 (w0.alloc (.cells #[.int .i64 x, .bool y] 75)) := (Below.refl _ _).alloc hB _
  have hb2 : Below B w0 w1 := hb0.trans (grown_below hg (by simp; omega) hrow)
  have hko : KeepsOthers w0 w1 := hal.trans (ko_grown hg (fun r hr => by
    rcases hown.2 with ⟨h1, _⟩ | ⟨g, cap, cur, h1, _, h3, _⟩
    · cases h1; cases hr
    · cases h1
      cases hr
      exact ⟨_, (Below.heap_alloc w0 _ g (Array.getElem?_eq_some_iff.1 h3).1).trans h3, rfl⟩))
  obtain ⟨a', c', rfl⟩ := owns_slice ho1
  refine h a' c' w1 ?_ hb2 hko (fun b hb hne => ?_)
  rotate_left
  · rw [hg.block b (by simp; omega) ?_]
    · exact Below.heap_alloc w0 _ b hb
    · intro he
      cases av with
      | none => cases he
      | some p =>
        obtain ⟨g, o, z⟩ := p
        rcases hown.2 with ⟨h1, _⟩ | ⟨g', cap, cur, h1, _⟩
        · cases h1
        · cases h1
          cases he
          exact hne _ _ rfl rfl
  unfold OwS
  rw [List.flatMap_append]
  exact ho1
theorem OwS.lt {w : World} {B : Nat} {av : Option Addr} {n c : Nat} {l : List Sp} (h : OwS w B av n c l) : ∀ g o, av = some ⟨g, o, none⟩ → g < w.heap.size := by
  rintro g o rfl
  exact (World.ownsRow.lt h g rfl).2
/-- What lies between two rounds of a move. -/
structure MvI (w : World) (N : Nat) (at2 : Int) (rows : List Sp) (wk ls : Int) (W : World) : Prop where
  bel : Below w.heap.size w W
  at_ : W.heap[w.heap.size + 1]? = some (.cells #[.int .i64 at2] 3)
  r1 : W.heap[w.heap.size + 1 + 1]? = some (.cells #[.int .i64 0, .slice none 0 0] 57)
  r2 : W.heap[w.heap.size + 1 + 1 + 1]? = some (.cells #[.int .i64 0, .int .i64 0] 64)
  out : ∃ av cv, W.heap[w.heap.size + 1 + 1 + 1 + 1]? = some (.cells #[.int .i64 at2, .slice av rows.length cv] 57) ∧ OwS W N av rows.length cv rows
  all : W.heap[w.heap.size + 1 + 1 + 1 + 1 + 1]? = some (.cells #[.int .i64 wk, .int .i64 ls] 64)
  sz : N ≤ W.heap.size
theorem MvI.keep {w : World} {N : Nat} {at2 : Int} {rows : List Sp} {wk ls : Int} {W W' : World} (h : MvI w N at2 rows wk ls W) (hb : Below W.heap.size W W') : MvI w N at2 rows wk ls W' := by
  obtain ⟨h1, h2, h3, h4, ⟨av, cv, h5, h6⟩, h7, h8⟩ := h
  exact ⟨h1.trans (hb.mono h1.size), blk_keep h2 hb, blk_keep h3 hb, blk_keep h4 hb, ⟨av, cv, blk_keep h5 hb, h6.keep hb⟩, blk_keep h7 hb, by have := hb.size; omega⟩
theorem MvI.grown {w : World} {N B : Nat} {at2 : Int} {rows : List Sp} {wk ls : Int} {W W' : World} {row : Option Nat} (h : MvI w N at2 rows wk ls W) (hB : w.heap.size ≤ B) (hg : W.grownBy W' row) (hr : ∀ r, row = some r → B ≤ r ∧ ∃ o : Obj, W.heap[r]? = some o ∧ o.isCells = false) : MvI w N at2 rows wk ls W' := by
  obtain ⟨h1, h2, h3, h4, ⟨av, cv, h5, h6⟩, h7, h8⟩ := h
  have hk := keeps_of_grown hg (fun r e => (hr r e).2)
  exact ⟨h1.trans (grown_below hg h1.size (fun k e => by have := (hr k e).1; omega)), hk.blk (by simp) h2, hk.blk (by simp) h3, hk.blk (by simp) h4, ⟨av, cv, hk.blk (by simp) h5, owns_keeps h6 hk (fun _ _ h => h)⟩, hk.blk (by simp) h7, by have := hk.size; omega⟩
/-- What all worlds know while the works are added. -/
structure SMv (w : World) (b9 b12 : Nat) (w2 l2 ls : Int) (u : World) : Prop where
  kept : Kept w u
  add : u.heap[b12]? = some (.cells #[.int .i64 w2, .int .i64 l2] 64)
  one : u.cell? ⟨b9, 1, none⟩ = some (.int .i64 ls)
theorem SMv.keepAnd {w : World} {b9 b12 : Nat} {w2 l2 ls : Int} {u : World} {G : Prop} (h : SMv w b9 b12 w2 l2 ls u) (g : G) : SMv w b9 b12 w2 l2 ls u ∧ G := ⟨h, g⟩
theorem SMv.setAnd {w : World} {b9 b12 : Nat} {w2 l2 ls : Int} {u : World} {v : Value} {G : Prop} (h : SMv w b9 b12 w2 l2 ls u) (h1 : w.heap.size ≤ b9) (h2 : b12 ≠ b9) (g : G) : SMv w b9 b12 w2 l2 ls (u.setCell ⟨b9, 0, none⟩ v) ∧ G := by
  obtain ⟨⟨k1, k2⟩, k3, k4⟩ := h
  refine ⟨⟨⟨by simpa using k1, fun b hb => ?_⟩, ?_, ?_⟩, g⟩
  · rw [Below.heap_setCell _ _ _ _ (by show b ≠ b9; omega)]
    exact k2 b hb
  · rw [Below.heap_setCell _ _ _ _ (by exact h2)]
    exact k3
  · have := cell_blk k4
    obtain ⟨cs, t, z, hh⟩ := this
    simp only [World.cell?, World.setCell, hh, Array.getElem?_modify] at k4 ⊢
    simpa using k4
/-- The rows, the work and the loss of a move so far. -/
def mvRow (l : List El) (sl : List Sp) (at2 : Int) (i : Nat) : Sp := (mvSlip (l[i]?.getD el0).2.1 (l[i]?.getD el0).2.2 (sl[i]?.getD sp0).1 (sl[i]?.getD sp0).2 at2, mvBr (l[i]?.getD el0).2.1 (l[i]?.getD el0).2.2 (sl[i]?.getD sp0).1 (sl[i]?.getD sp0).2 at2)
def mvW (l : List El) (sl : List Sp) (at1 at2 : Int) (i : Nat) : Int := mvWork (l[i]?.getD el0).1 (l[i]?.getD el0).2.1 (l[i]?.getD el0).2.2 (sl[i]?.getD sp0).1 (sl[i]?.getD sp0).2 at1 at2
def mvL (l : List El) (sl : List Sp) (at2 : Int) (i : Nat) : Int := mvLoss (l[i]?.getD el0).1 (l[i]?.getD el0).2.1 (l[i]?.getD el0).2.2 (sl[i]?.getD sp0).1 (sl[i]?.getD sp0).2 at2
def mvRows (l : List El) (sl : List Sp) (at2 : Int) {n : Nat} (pre : List (Fin n)) : List Sp := pre.map (fun i => mvRow l sl at2 i.val)
theorem mvWork_bd {k y s at1 at2 : Int} {b br : Bool} (h : ElB k y s at1) (h2 : ElB k y s at2) : -3000000000000 ≤ mvWork k y b s br at1 at2 ∧ mvWork k y b s br at1 at2 ≤ 3000000000000 ∧ 0 ≤ mvLoss k y b s br at2 ∧ mvLoss k y b s br at2 ≤ 100000000000 := by
  have hk := h.k
  have hy := h.y
  have hs := h.s
  have ha := h.a
  have ha2 := h2.a
  have d1 := mul_abs (a := at2 - s) (x := at2 - s) (A := 50000) (C := 50000) (by omega) (by omega) (by omega) (by omega)
  have d2 : 0 ≤ (at2 - s) * (at2 - s) := by
    rcases Int.le_total 0 (at2 - s) with h0 | h0
    · exact Int.mul_nonneg h0 h0
    · exact Int.mul_nonneg_of_nonpos_of_nonpos h0 h0
  have v1 := mul_abs (a := y) (x := y) (A := 1000) (C := 1000) (by omega) (by omega) (by omega) (by omega)
  have v2 : 0 ≤ y * y := Int.mul_nonneg (by omega) (by omega)
  obtain ⟨mn, hmn⟩ : ∃ v, min ((at2 - s) * (at2 - s)) (y * y) = v := ⟨_, rfl⟩
  have p1 := mul_abs (a := k) (x := mn) (A := 1000) (C := 1000000) (by omega) (by omega) (by omega) (by omega)
  have p2 := mul_abs (a := k) (x := at1 - s) (A := 1000) (C := 50000) (by omega) (by omega) (by omega) (by omega)
  have p3 := mul_abs (a := k * (at1 - s)) (x := at1 - s) (A := 50000000) (C := 50000) (by omega) (by omega) (by omega) (by omega)
  have p5 := mul_abs (a := 2 * k) (x := y) (A := 2000) (C := 1000) (by omega) (by omega) (by omega) (by omega)
  have p5' : 0 ≤ 2 * k * y := Int.mul_nonneg (by omega) (by omega)
  obtain ⟨ov, hov⟩ : ∃ v, ovr y (at2 - s) = v := ⟨_, rfl⟩
  have hob : 0 ≤ ov ∧ ov ≤ 50000 := by unfold ovr at hov; omega
  have p6 := mul_abs (a := 2 * k * y) (x := ov) (A := 2000000) (C := 50000) (by omega) (by omega) (by omega) (by omega)
  have p6' : 0 ≤ 2 * k * y * ov := Int.mul_nonneg (by omega) (by omega)
  have p7 := mul_abs (a := k) (x := y) (A := 1000) (C := 1000) (by omega) (by omega) (by omega) (by omega)
  have p7' : 0 ≤ k * y := Int.mul_nonneg (by omega) (by omega)
  have p8 := mul_abs (a := k * y) (x := y) (A := 1000000) (C := 1000) (by omega) (by omega) (by omega) (by omega)
  have p8' : 0 ≤ k * y * y := Int.mul_nonneg (by omega) (by omega)
  unfold mvWork mvLoss
  rw [hmn, hov]
  refine ⟨?_, ?_, ?_, ?_⟩ <;> (split <;> (try split) <;> (try split) <;> omega)

set_option maxRecDepth 100000 in
set_option maxHeartbeats 8000000 in
theorem move_any (a a2 : Option Addr) (n c c2 : Nat) (l : List El) (at1 at2 : Int) (sl : List Sp) (w : World) (h1 : SEl w a n c l) (h2 : SSp w a2 n c2 sl) (hn : n ≤ 6) (hB : ∀ i, i < n → ElB (l[i]?.getD el0).1 (l[i]?.getD el0).2.1 (sl[i]?.getD sp0).1 at1) (hB2 : ∀ i, i < n → ElB (l[i]?.getD el0).1 (l[i]?.getD el0).2.1 (sl[i]?.getD sp0).1 at2) :
    Calls Tryz.prog 61 #[.slice a n c, .agg #[.int .i64 at1, .slice a2 n c2], .int .i64 at2] w fun e w' => ∃ av cv, e = .returned (.tuple #[.agg #[.int .i64 at2, .slice av n cv], .agg #[.int .i64 (sumR (mvW l sl at1 at2) n), .int .i64 (sumR (mvL l sl at2) n)]]) ∧ OwS w' w.heap.size av n cv ((List.range n).map (mvRow l sl at2)) ∧ Below w.heap.size w w' := by
  have m1 := h1.max
  have c1 := h1.cap
  have m2 := h2.max
  have cc2 := h2.cap
  have HB := Lib.hid hB
  have HB2 := Lib.hid hB2
  clear hB hB2
  have y0 := blk_keep (blk_keep (blk_keep (blk_keep (blk_keep (alloc_new (w) (.cells #[.int .i64 at1, .slice a2 n c2] 57)) ((Below.refl _ _).alloc (Nat.le_refl _) (.cells #[.int .i64 at2] 3))) ((Below.refl _ _).alloc (Nat.le_refl _) (.cells #[.int .i64 0, .slice none 0 0] 57))) ((Below.refl _ _).alloc (Nat.le_refl _) (.cells #[.int .i64 0, .int .i64 0] 64))) ((Below.refl _ _).alloc (Nat.le_refl _) (.cells #[.int .i64 at2, .slice none 0 0] 57))) ((Below.refl _ _).alloc (Nat.le_refl _) (.cells #[.int .i64 0, .int .i64 0] 64))
  have y1 := blk_keep (blk_keep (blk_keep (blk_keep (alloc_new ((w).alloc (.cells #[.int .i64 at1, .slice a2 n c2] 57)) (.cells #[.int .i64 at2] 3)) ((Below.refl _ _).alloc (Nat.le_refl _) (.cells #[.int .i64 0, .slice none 0 0] 57))) ((Below.refl _ _).alloc (Nat.le_refl _) (.cells #[.int .i64 0, .int .i64 0] 64))) ((Below.refl _ _).alloc (Nat.le_refl _) (.cells #[.int .i64 at2, .slice none 0 0] 57))) ((Below.refl _ _).alloc (Nat.le_refl _) (.cells #[.int .i64 0, .int .i64 0] 64))
  have y2 := blk_keep (blk_keep (blk_keep (alloc_new (((w).alloc (.cells #[.int .i64 at1, .slice a2 n c2] 57)).alloc (.cells #[.int .i64 at2] 3)) (.cells #[.int .i64 0, .slice none 0 0] 57)) ((Below.refl _ _).alloc (Nat.le_refl _) (.cells #[.int .i64 0, .int .i64 0] 64))) ((Below.refl _ _).alloc (Nat.le_refl _) (.cells #[.int .i64 at2, .slice none 0 0] 57))) ((Below.refl _ _).alloc (Nat.le_refl _) (.cells #[.int .i64 0, .int .i64 0] 64))
  have y3 := blk_keep (blk_keep (alloc_new ((((w).alloc (.cells #[.int .i64 at1, .slice a2 n c2] 57)).alloc (.cells #[.int .i64 at2] 3)).alloc (.cells #[.int .i64 0, .slice none 0 0] 57)) (.cells #[.int .i64 0, .int .i64 0] 64)) ((Below.refl _ _).alloc (Nat.le_refl _) (.cells #[.int .i64 at2, .slice none 0 0] 57))) ((Below.refl _ _).alloc (Nat.le_refl _) (.cells #[.int .i64 0, .int .i64 0] 64))
  have y4 := blk_keep (alloc_new (((((w).alloc (.cells #[.int .i64 at1, .slice a2 n c2] 57)).alloc (.cells #[.int .i64 at2] 3)).alloc (.cells #[.int .i64 0, .slice none 0 0] 57)).alloc (.cells #[.int .i64 0, .int .i64 0] 64)) (.cells #[.int .i64 at2, .slice none 0 0] 57)) ((Below.refl _ _).alloc (Nat.le_refl _) (.cells #[.int .i64 0, .int .i64 0] 64))
  have y5 := alloc_new ((((((w).alloc (.cells #[.int .i64 at1, .slice a2 n c2] 57)).alloc (.cells #[.int .i64 at2] 3)).alloc (.cells #[.int .i64 0, .slice none 0 0] 57)).alloc (.cells #[.int .i64 0, .int .i64 0] 64)).alloc (.cells #[.int .i64 at2, .slice none 0 0] 57)) (.cells #[.int .i64 0, .int .i64 0] 64)
  have BW : Below w.heap.size w (((((((w).alloc (.cells #[.int .i64 at1, .slice a2 n c2] 57)).alloc (.cells #[.int .i64 at2] 3)).alloc (.cells #[.int .i64 0, .slice none 0 0] 57)).alloc (.cells #[.int .i64 0, .int .i64 0] 64)).alloc (.cells #[.int .i64 at2, .slice none 0 0] 57)).alloc (.cells #[.int .i64 0, .int .i64 0] 64)) := ((((((Below.refl w.heap.size w).alloc (Nat.le_refl _) (.cells #[.int .i64 at1, .slice a2 n c2] 57)).alloc (by simp <;> omega) (.cells #[.int .i64 at2] 3)).alloc (by simp <;> omega) (.cells #[.int .i64 0, .slice none 0 0] 57)).alloc (by simp <;> omega) (.cells #[.int .i64 0, .int .i64 0] 64)).alloc (by simp <;> omega) (.cells #[.int .i64 at2, .slice none 0 0] 57)).alloc (by simp <;> omega) (.cells #[.int .i64 0, .int .i64 0] 64)
  have hsz : (((((((w).alloc (.cells #[.int .i64 at1, .slice a2 n c2] 57)).alloc (.cells #[.int .i64 at2] 3)).alloc (.cells #[.int .i64 0, .slice none 0 0] 57)).alloc (.cells #[.int .i64 0, .int .i64 0] 64)).alloc (.cells #[.int .i64 at2, .slice none 0 0] 57)).alloc (.cells #[.int .i64 0, .int .i64 0] 64)).heap.size = w.heap.size + 6 := by simp
  simp only [World.size_alloc] at y1 y2 y3 y4 y5
  refine (callsIn_wide (n := 5)).1 ?_
  refine callsIn_of_wp_marks Tryz.func61 rfl trivial ?_ rfl
  simp only [Tryz.ntmps61, List.size_toArray, List.length_cons, List.length_nil, Nat.reduceAdd, Nat.reduceSub, Array.replicate_succ, Array.replicate_zero, List.push_toArray, List.append_toArray, List.nil_append, List.cons_append]
  refine wpIn_wide.2 ?_
  go_wp2_with fail
  generalize ((((((w).alloc (.cells #[.int .i64 at1, .slice a2 n c2] 57)).alloc (.cells #[.int .i64 at2] 3)).alloc (.cells #[.int .i64 0, .slice none 0 0] 57)).alloc (.cells #[.int .i64 0, .int .i64 0] 64)).alloc (.cells #[.int .i64 at2, .slice none 0 0] 57)).alloc (.cells #[.int .i64 0, .int .i64 0] 64) = W3 at *
  refine (elements_any a a2 n c n c2 at1 _).mono ?_
  rintro e w3 ⟨rfl, rfl⟩
  have z0 := blk_keep (alloc_new W3 (.cells #[.slice a n c] 60)) ((Below.refl _ _).alloc (Nat.le_refl _) (.cells #[.int .i64 at1, .slice a2 n c2] 57))
  have z1 := alloc_new (W3.alloc (.cells #[.slice a n c] 60)) (.cells #[.int .i64 at1, .slice a2 n c2] 57)
  simp only [World.size_alloc] at z1
  have BV : Below W3.heap.size W3 ((W3.alloc (.cells #[.slice a n c] 60)).alloc (.cells #[.int .i64 at1, .slice a2 n c2] 57)) := ((Below.refl _ _).alloc (Nat.le_refl _) _).alloc (by simp) _
  have hszV : ((W3.alloc (.cells #[.slice a n c] 60)).alloc (.cells #[.int .i64 at1, .slice a2 n c2] 57)).heap.size = W3.heap.size + 2 := by simp
  go_wp2_with fail
  generalize (W3.alloc (.cells #[.slice a n c] 60)).alloc (.cells #[.int .i64 at1, .slice a2 n c2] 57) = V at *
  replace y1 := blk_keep y1 BV
  replace y2 := blk_keep y2 BV
  replace y3 := blk_keep y3 BV
  replace y4 := blk_keep y4 BV
  replace y5 := blk_keep y5 BV
  replace BW := BW.trans (BV.mono BW.size)
  clear y0
  rw [hsz] at z0 z1
  refine (wpIn_wide (n := 5)).1 ?_
  refine range_mid (gf := 92) (m := 4) rfl (enters_of Tryz.func92 (by kernel_rfl) rfl) (enc := fun i : Fin n => #[elAt l sl at1 i.val]) (Kp := Keeps (fun b => b = w.heap.size + 1 + 1 + 1 + 1 ∨ b = w.heap.size + 1 + 1 + 1 + 1 + 1 ∨ V.heap.size ≤ b))
    (elements_onon V (w.heap.size + 6 + 1) (w.heap.size + 6) a a2 n c c2 l sl at1 (fun b => b = w.heap.size + 1 + 1 + 1 + 1 ∨ b = w.heap.size + 1 + 1 + 1 + 1 + 1 ∨ V.heap.size ≤ b) z1 z0 (h1.keep BW) (h2.keep BW) (by omega) (by omega) (fun b o h0 ha => by have := h1.blk b o h0 ha; omega) (fun b o h0 ha => by have := h2.blk b o h0 ha; omega) _) (fun h k => h.trans k) (fun W l o o' _ hl ho => Keeps.put o' hl ho) (fun _ => rfl)
    (fun pre W => MvI w V.heap.size at2 (mvRows l sl at2 pre) (sumP (mvW l sl at1 at2) pre) (sumP (mvL l sl at2) pre) W) (fun pre W W' row h hg hr => h.grown (by omega) hg hr) ⟨BW, y1, y2, y3, ⟨none, 0, y4, OwS.nil _ _⟩, y5, Nat.le_refl _⟩
    (fun pre x a' W => ∃ b, (MvI w V.heap.size at2 (mvRows l sl at2 pre) (sumP (mvW l sl at1 at2) pre) (sumP (mvL l sl at2) pre) W ∧ W.heap[b]? = some (.cells #[.int .i64 (l[x.val]?.getD el0).1, .int .i64 (l[x.val]?.getD el0).2.1, .bool (l[x.val]?.getD el0).2.2, .int .i64 (sl[x.val]?.getD sp0).1, .bool (sl[x.val]?.getD sp0).2, .int .i64 at1] 138)) ∧ (pre.length < n ∧ a' = { tmps := #[.slice a n c, .agg #[.int .i64 at1, .slice a2 n c2], .int .i64 at2, undef, .pointer (some ⟨w.heap.size, 0, none⟩), .pointer (some ⟨w.heap.size + 1, 0, none⟩), .pointer (some ⟨w.heap.size + 1 + 1, 0, none⟩), .pointer (some ⟨w.heap.size + 1 + 1 + 1, 0, none⟩), .pointer (some ⟨w.heap.size + 1 + 1 + 1 + 1, 0, none⟩), .pointer (some ⟨w.heap.size + 1 + 1 + 1 + 1 + 1, 0, none⟩), .pointer (some ⟨b, 0, none⟩), undef, undef, .int .i64 at2, .agg #[.int .i64 at2, .slice none 0 0], .slice a n c, .agg #[.int .i64 at1, .slice a2 n c2], .func (.func 92) #[] #[.pointer (some ⟨w.heap.size + 6 + 1, 0, none⟩), .pointer (some ⟨w.heap.size + 6, 0, none⟩)], elAt l sl at1 x.val, undef, undef, undef, undef, undef, undef, undef, undef, undef, undef, undef, undef, undef, undef, undef, undef, undef, undef, undef, undef, undef, undef, undef, undef, undef, undef, undef], defers := [] }))
    ?own ?assign ?body ?done
  case own =>
    rintro pre x a' s W W' row ⟨b, ⟨h1, h2⟩, h3⟩ hg hr
    exact ⟨b, ⟨h1.grown (by omega) hg hr, (keeps_of_grown hg (fun r e => (hr r e).2)).blk (by simp) h2⟩, h3⟩
  case assign =>
    rintro r pre x W K hi hlen hK
    simp only [elAt, elV] at hK ⊢
    have hW := hi.sz
    gi_wp2
    refine hK _ _ (KeepsOthers.alloc _ _) (Keeps.of_below ((Below.refl _ _).alloc (Nat.le_refl _) _)) ⟨W.heap.size, ⟨hi.keep ((Below.refl _ _).alloc (Nat.le_refl _) _), alloc_new _ _⟩, hlen, rfl⟩
  case body =>
    rintro r pre x a' W ⟨b, ⟨hS, hb⟩, hlen, rfl⟩
    have hEB := HB.out x.val x.isLt
    have hEB2 := HB2.out x.val x.isLt
    have hw1 := sumP_bd (mvW l sl at1 at2) 3000000000000 (fun i hi => by
      have := mvWork_bd (b := (l[i]?.getD el0).2.2) (br := (sl[i]?.getD sp0).2) (HB.out i hi) (HB2.out i hi)
      unfold mvW; omega) pre
    have hl1 := sumP_bd (mvL l sl at2) 100000000000 (fun i hi => by
      have := mvWork_bd (b := (l[i]?.getD el0).2.2) (br := (sl[i]?.getD sp0).2) (HB.out i hi) (HB2.out i hi)
      unfold mvL; omega) pre
    have hx1 := mvWork_bd (b := (l[x.val]?.getD el0).2.2) (br := (sl[x.val]?.getD sp0).2) hEB hEB2
    have hR : mvRows l sl at2 (pre ++ [x]) = mvRows l sl at2 pre ++ [mvRow l sl at2 x.val] := by simp [mvRows]
    have hlr : (mvRows l sl at2 pre).length = pre.length := by simp [mvRows]
    rw [hR, sumP_snoc, sumP_snoc]
    clear hR
    generalize sumP (mvW l sl at1 at2) pre = wk at hS hw1 ⊢
    generalize sumP (mvL l sl at2) pre = ls at hS hl1 ⊢
    generalize mvRows l sl at2 pre = rows at hS hlr ⊢
    simp only [elAt, elV, mvW, mvL, mvRow]
    generalize (l[x.val]?.getD el0).1 = e1 at *
    generalize (l[x.val]?.getD el0).2.1 = e2 at *
    generalize (l[x.val]?.getD el0).2.2 = e3 at *
    generalize (sl[x.val]?.getD sp0).1 = e4 at *
    generalize (sl[x.val]?.getD sp0).2 = e5 at *
    have HMV := fun (u : World) => moved_any e1 e2 e3 e4 e5 at1 at2 u hEB hEB2
    obtain ⟨s2, hs2⟩ : ∃ v, mvSlip e2 e3 e4 e5 at2 = v := ⟨_, rfl⟩
    obtain ⟨b2, hb2⟩ : ∃ v, mvBr e2 e3 e4 e5 at2 = v := ⟨_, rfl⟩
    obtain ⟨w2, hw2⟩ : ∃ v, mvWork e1 e2 e3 e4 e5 at1 at2 = v := ⟨_, rfl⟩
    obtain ⟨l2, hl2⟩ : ∃ v, mvLoss e1 e2 e3 e4 e5 at2 = v := ⟨_, rfl⟩
    rw [hs2, hb2, hw2, hl2] at HMV
    rw [hw2, hl2] at hx1
    rw [hs2, hb2, hw2, hl2]
    have HM := Lib.hid HMV
    clear HMV hs2 hb2 hw2 hl2
    have hwb : -20000000000000 ≤ wk ∧ wk ≤ 20000000000000 := by omega
    have hlb : -20000000000000 ≤ ls ∧ ls ≤ 20000000000000 := by omega
    obtain ⟨i1, i2, i3, i4, ⟨av, cv, i5, i6⟩, i7, i8⟩ := hS
    have hlen2 : rows.length ≤ 6 := by omega
    clear hlr
    have g0 := cell_block i2 0
    have g2 := cell_block hb 0
    have g3 := cell_block hb 1
    have g4 := cell_block hb 2
    have g5 := cell_block hb 3
    have g6 := cell_block hb 4
    have g7 := cell_block hb 5
    clear hw1 hl1
    have HN := Lib.hid (show V.heap.size = w.heap.size + 8 by omega)
    clear hsz hszV
    refine wpIn_block ?_
    refine wpIn_seq_k (fun K5 hK5 => ?_)
    refine Calmly.wpIn_region_plain (by kernel_rfl) (by rintro a w ⟨h, _⟩; cases h) ?_
    go_wp2_with fail
    refine (HM.out _).mono ?_
    rintro e u1 ⟨rfl, hs⟩
    unfold elV
    have BU : Below W.heap.size W ((u1.alloc (.cells #[.int .i64 e1, .int .i64 e2, .bool e3, .int .i64 s2, .bool b2, .int .i64 at2] 138)).alloc (.cells #[.int .i64 w2, .int .i64 l2] 64)) := (hs.alloc hs.size _).alloc (by have := hs.size; simp; omega) _
    have x1 := blk_keep (alloc_new u1 (.cells #[.int .i64 e1, .int .i64 e2, .bool e3, .int .i64 s2, .bool b2, .int .i64 at2] 138)) ((Below.refl _ _).alloc (Nat.le_refl _) (.cells #[.int .i64 w2, .int .i64 l2] 64))
    have x2 := alloc_new (u1.alloc (.cells #[.int .i64 e1, .int .i64 e2, .bool e3, .int .i64 s2, .bool b2, .int .i64 at2] 138)) (.cells #[.int .i64 w2, .int .i64 l2] 64)
    simp only [World.size_alloc] at x2
    have hsu := hs.size
    go_wp2_with fail
    have hUs : ((u1.alloc (.cells #[.int .i64 e1, .int .i64 e2, .bool e3, .int .i64 s2, .bool b2, .int .i64 at2] 138)).alloc (.cells #[.int .i64 w2, .int .i64 l2] 64)).heap.size = u1.heap.size + 2 := by simp
    generalize (u1.alloc (.cells #[.int .i64 e1, .int .i64 e2, .bool e3, .int .i64 s2, .bool b2, .int .i64 at2] 138)).alloc (.cells #[.int .i64 w2, .int .i64 l2] 64) = U at *
    have HUs := Lib.hid hUs
    have hVU : V.heap.size ≤ U.heap.size := by omega
    have hVu1 : V.heap.size ≤ u1.heap.size := by omega
    clear hUs
    have j2 := blk_keep i2 BU
    have j3 := blk_keep i3 BU
    have j4 := blk_keep i4 BU
    have j5 := blk_keep i5 BU
    have j6 := i6.keep BU
    have j7 := blk_keep i7 BU
    clear g0 g2 g3 g4 g5 g6 g7
    have f0 := cell_block j5 0
    have f1 := cell_block j5 1
    have f2 := cell_block x1 3
    have f3 := cell_block x1 4
    have mm := j6.ss.max
    have mc := j6.ss.cap
    refine wpIn_seq_k (fun K6 hK6 => ?_)
    refine Calmly.wpIn_region_plain (by kernel_rfl) (by rintro a w ⟨h, _⟩; cases h) ?_
    go_wp2_with (first | (refine appS1K U (B := V.heap.size) rfl rfl _ _ rfl j6 rfl rfl (by omega) hVU (fun a6 c6 w6 ho6 hb6 hko6 hsm6 => ?_); have k5 := (hb6.block _ (by have := HN.out; omega)).trans j5; have f4 := frozen_block k5 1; have f5 := cell_block k5 1))
    have hn6 := hb6.size
    have hX : KeepsOthers U (w6.setCell ⟨w.heap.size + 1 + 1 + 1 + 1, 1, none⟩ (.slice a6 (rows.length + 1) c6)) := hko6.trans (KeepsOthers.setCell _ _ _)
    have k5' := setBlk k5 1 (.slice a6 (rows.length + 1) c6)
    have hne : ∀ b, b ≠ w.heap.size + 1 + 1 + 1 + 1 → (w6.setCell ⟨w.heap.size + 1 + 1 + 1 + 1, 1, none⟩ (.slice a6 (rows.length + 1) c6)).heap[b]? = w6.heap[b]? := fun b hb => Below.heap_setCell _ _ _ _ hb
    have q2 := (hne (w.heap.size + 1) (by omega)).trans ((hb6.block _ (by have := HN.out; omega)).trans j2)
    have q3 := (hne (w.heap.size + 1 + 1) (by omega)).trans ((hb6.block _ (by have := HN.out; omega)).trans j3)
    have q4 := (hne (w.heap.size + 1 + 1 + 1) (by omega)).trans ((hb6.block _ (by have := HN.out; omega)).trans j4)
    have q7 := (hne (w.heap.size + 1 + 1 + 1 + 1 + 1) (by omega)).trans ((hb6.block _ (by have := HN.out; omega)).trans j7)
    have q12 : (w6.setCell ⟨w.heap.size + 1 + 1 + 1 + 1, 1, none⟩ (.slice a6 (rows.length + 1) c6)).heap[u1.heap.size + 1]? = some (.cells #[.int .i64 w2, .int .i64 l2] 64) := (hne (u1.heap.size + 1) (by have := HN.out; omega)).trans ((hsm6 _ (by have := HUs.out; omega) (fun g o hg => by have := OwS.lt i6 g o hg; omega)).trans x2)
    simp at k5'
    have B6 : Below w.heap.size w (w6.setCell ⟨w.heap.size + 1 + 1 + 1 + 1, 1, none⟩ (.slice a6 (rows.length + 1) c6)) := ((i1.trans (BU.mono i1.size)).trans (hb6.mono (by have := HN.out; omega))).setCell (by show w.heap.size ≤ w.heap.size + 1 + 1 + 1 + 1; omega) _
    have ho7 : OwS (w6.setCell ⟨w.heap.size + 1 + 1 + 1 + 1, 1, none⟩ (.slice a6 (rows.length + 1) c6)) V.heap.size a6 (rows.length + 1) c6 (rows ++ [(s2, b2)]) := owns_apart ho6 hne (by have := HN.out; omega)
    have hXU : Keeps (fun b => b = w.heap.size + 1 + 1 + 1 + 1 ∨ b = w.heap.size + 1 + 1 + 1 + 1 + 1 ∨ V.heap.size ≤ b) U (w6.setCell ⟨w.heap.size + 1 + 1 + 1 + 1, 1, none⟩ (.slice a6 (rows.length + 1) c6)) := (Keeps.of_belowB hb6 (fun b hb => .inr (.inr hb))).trans (Keeps.setCell _ _ _ (.inl rfl))
    have hXs : V.heap.size ≤ (w6.setCell ⟨w.heap.size + 1 + 1 + 1 + 1, 1, none⟩ (.slice a6 (rows.length + 1) c6)).heap.size := by simp only [World.size_setCell]; omega
    generalize w6.setCell ⟨w.heap.size + 1 + 1 + 1 + 1, 1, none⟩ (.slice a6 (rows.length + 1) c6) = X at *
    clear hne k5 f4 f5 f0 f1 f2 f3 hb6 hko6 hsm6 ho6 hn6 j2 j3 j4 j5 j6 j7
    have hS : SMv w (w.heap.size + 1 + 1 + 1 + 1 + 1) (u1.heap.size + 1) w2 l2 ls X.drew := ⟨⟨B6.size, B6.block⟩, q12, cell_block q7 1⟩
    refine Calmly.wpIn_region_mixS w (SMv w (w.heap.size + 1 + 1 + 1 + 1 + 1) (u1.heap.size + 1) w2 l2 ls) (fun _ h => h.kept) hS 12 (.fl 0 <| .fl 2 <| .fl 5 <| .fl 7 <| .ld 3 <| .ld 6 <| .ld 8 <| .fl 9 <| .eff 1 <| .fl 4 <| .fl 10 <| .eff 11 <| .tail [12, 13]) (by kernel_rfl) (by kernel_rfl) (by rintro a w ⟨h, _⟩; cases h) ?_
    have c12 : ∀ u, SMv w (w.heap.size + 1 + 1 + 1 + 1 + 1) (u1.heap.size + 1) w2 l2 ls u → u.cell? ⟨u1.heap.size + 1, 0, none⟩ = some (.int .i64 w2) := fun u h => cell_block h.add 0
    have c13 : ∀ u, SMv w (w.heap.size + 1 + 1 + 1 + 1 + 1) (u1.heap.size + 1) w2 l2 ls u → u.cell? ⟨u1.heap.size + 1, 1, none⟩ = some (.int .i64 l2) := fun u h => cell_block h.add 1
    have c91 : ∀ u, SMv w (w.heap.size + 1 + 1 + 1 + 1 + 1) (u1.heap.size + 1) w2 l2 ls u → u.cell? ⟨w.heap.size + 1 + 1 + 1 + 1 + 1, 1, none⟩ = some (.int .i64 ls) := fun u h => h.one
    have hXD : Below X.heap.size X X.drew := (Below.refl _ _).drew
    replace q2 := blk_keep q2 hXD
    replace q3 := blk_keep q3 hXD
    replace q4 := blk_keep q4 hXD
    replace k5' := blk_keep k5' hXD
    replace q7 := blk_keep q7 hXD
    replace ho7 := ho7.keep hXD
    replace B6 := B6.drew
    replace hX := hX.trans (ko_below hXD)
    replace hXU := hXU.trans (Keeps.of_below hXD)
    replace hXs := Nat.le_trans hXs hXD.size
    clear q12 hXD
    generalize X.drew = Y at *
    have d0 := cell_block q7 0
    have d1 := cell_block q7 1
    have d2 := frozen_block q7 0
    have d3 := frozen_block q7 1
    have hge : w.heap.size ≤ w.heap.size + 1 + 1 + 1 + 1 + 1 := by omega
    have hne : u1.heap.size + 1 ≠ w.heap.size + 1 + 1 + 1 + 1 + 1 := by have := HN.out; omega
    go_wp2_with (first | ((with_reducible refine Calmly.isS_fl ?_); refine Calmly.mixS_fl rfl ?_ (fun _ _ => ?_); (first | exact .move _ | exact .load _ _ | exact .fieldAddr _ _ _ (by kernel_rfl) | exact .assign _ | exact .binOp _ _ _ _ _ rfl | exact .indexAddr _ _ _ | exact .len _ _ (by kernel_rfl) | exact .field _ _ _ | exact .extract _ _ | exact .pick _ _ _ | exact .build _ _ | exact .slice _ _ _ _ _ | exact .unOp _ _ _ rfl | exact .index _ _ _ | exact .max _ _ _ rfl rfl | exact .min _ _ _ rfl rfl | exact .nilCheck _ _ rfl)) | ((with_reducible refine Calmly.isS_eff ?_); refine Calmly.mixS_eff rfl (fun _ _ => ?_)) | ((with_reducible refine Calmly.isS_tail ?_); first | refine Calmly.mixS_tail_nil ?_ | refine Calmly.mixS_tail rfl (fun _ _ => ?_)) | ((with_reducible refine Calmly.isS_ld ?_); first | (refine Calmly.mixS_ld rfl c12 ?_ (fun _ _ => ?_); focus (intro u hu; simp [execOp, go_sem, hu]; done)) | (refine Calmly.mixS_ld rfl c13 ?_ (fun _ _ => ?_); focus (intro u hu; simp [execOp, go_sem, hu]; done)) | (refine Calmly.mixS_ld rfl c91 ?_ (fun _ _ => ?_); focus (intro u hu; simp [execOp, go_sem, hu]; done))) | (with_reducible refine SMv.keepAnd hS ?_) | (with_reducible refine SMv.setAnd hS hge hne ?_))
    have z7 := setBlk (setBlk q7 0 (.int .i64 (wk + w2))) 1 (.int .i64 (ls + l2))
    have hne2 : ∀ b, b ≠ w.heap.size + 1 + 1 + 1 + 1 + 1 → ((Y.setCell ⟨w.heap.size + 1 + 1 + 1 + 1 + 1, 0, none⟩ (.int .i64 (wk + w2))).setCell ⟨w.heap.size + 1 + 1 + 1 + 1 + 1, 1, none⟩ (.int .i64 (ls + l2))).heap[b]? = Y.heap[b]? := fun b hb => by
      rw [Below.heap_setCell _ _ _ _ hb, Below.heap_setCell _ _ _ _ hb]
    refine ⟨trivial, (((ko_below BU).trans hX).trans (KeepsOthers.setCell _ _ _)).trans (KeepsOthers.setCell _ _ _), (((Keeps.of_below BU).trans hXU).trans (Keeps.setCell _ _ _ (.inr (.inl rfl)))).trans (Keeps.setCell _ _ _ (.inr (.inl rfl))), (B6.setCell hge _).setCell hge _, (hne2 _ (by omega)).trans q2, (hne2 _ (by omega)).trans q3, (hne2 _ (by omega)).trans q4, ⟨a6, c6, ?_, ?_⟩, by simpa using z7, by simp only [World.size_setCell]; exact hXs⟩
    · rw [List.length_append]
      exact (hne2 _ (by omega)).trans k5'
    · rw [List.length_append]
      exact owns_apart ho7 hne2 (by have := HN.out; omega)
  case done =>
    rintro D ys W hD hys hi hK
    have hN : V.heap.size = w.heap.size + 8 := by omega
    have hrw : mvRows l sl at2 ys = (List.range n).map (mvRow l sl at2) := by rw [← hys]; simp [mvRows]
    have hrl : ((List.range n).map (mvRow l sl at2)).length = n := by simp
    rw [sumP_all _ _ _ hys, sumP_all _ _ _ hys, hrw] at hi
    clear hrw
    obtain ⟨wk, hwk⟩ : ∃ v, sumR (mvW l sl at1 at2) n = v := ⟨_, rfl⟩
    obtain ⟨ls, hls⟩ : ∃ v, sumR (mvL l sl at2) n = v := ⟨_, rfl⟩
    obtain ⟨rows, hrows⟩ : ∃ v, (List.range n).map (mvRow l sl at2) = v := ⟨_, rfl⟩
    rw [hwk, hls, hrows] at hi
    rw [hrows] at hrl
    have HWK := Lib.hid hwk
    have HLS := Lib.hid hls
    have HRW := Lib.hid hrows
    clear hwk hls hrows
    obtain ⟨i1, i2, i3, i4, ⟨av, cv, i5, i6⟩, i7, i8⟩ := hi
    rw [hrl] at i5 i6
    clear hrl
    have HN := Lib.hid hN
    have HD := Lib.hid hD
    clear hN hD hsz hszV BV
    go_wp2_with fail
    refine Calmly.wp_region_mix_at w (kept_of i1) 3 (.alt 0 (.alt 1 (.eff 2 <| .tail [3]) (.eff 2 (.eff 1 <| .tail [3]))) (.eff 1 (.eff 0 <| .eff 2 <| .tail [3]))) (by kernel_rfl) (by kernel_rfl) ?_
    have hWD : Below W.heap.size W W.drew := (Below.refl _ _).drew
    replace i3 := blk_keep i3 hWD
    replace i4 := blk_keep i4 hWD
    replace i5 := blk_keep i5 hWD
    replace i7 := blk_keep i7 hWD
    replace i6 := i6.keep hWD
    replace hK := blk_keep hK hWD
    have hk := i1.drew
    clear hWD i1 i2 i8
    generalize W.drew = Z at *
    have c0 := cell_block i5 0
    have c1 := cell_block i5 1
    have k0 := cell_block i7 0
    have k1 := cell_block i7 1
    have m0 := cell_block i3 0
    have m1 := cell_block i3 1
    have f0 := frozen_block i3 0
    have f1 := frozen_block i3 1
    have hr1 : w.heap.size ≤ w.heap.size + 1 + 1 := by omega
    have hlt1 : w.heap.size + 1 + 1 < V.heap.size := by have := HN.out; omega
    have hD1 : D ≠ w.heap.size + 1 + 1 := by have := HN.out; have := HD.out; omega
    go_wp2_with (first | ((with_reducible refine kept_st2M hk hr1 i3 (fun hk' ho hn0 => ?_)); generalize World.setCell (World.setCell Z _ _) _ _ = Z2 at *; replace hk := hk'; clear hk'; replace c0 := (sameCell (ho (w.heap.size + 1 + 1 + 1 + 1) (by omega)) _).trans c0; replace c1 := (sameCell (ho (w.heap.size + 1 + 1 + 1 + 1) (by omega)) _).trans c1; replace k0 := (sameCell (ho (w.heap.size + 1 + 1 + 1 + 1 + 1) (by omega)) _).trans k0; replace k1 := (sameCell (ho (w.heap.size + 1 + 1 + 1 + 1 + 1) (by omega)) _).trans k1; replace i4 := (ho (w.heap.size + 1 + 1 + 1) (by omega)).trans i4; replace i6 := owns_apart i6 ho hlt1; replace hK := (ho D hD1).trans hK; clear m0 m1 f0 f1 ho; have m0 := cell_block i4 0; have m1 := cell_block i4 1; have f0 := frozen_block i4 0; have f1 := frozen_block i4 1) | ((with_reducible refine Calmly.is_fl ?_); refine Calmly.mix_fl rfl ?_ (fun _ _ => ?_); (first | exact .move _ | exact .load _ _ | exact .fieldAddr _ _ _ (by kernel_rfl) | exact .assign _ | exact .binOp _ _ _ _ _ rfl | exact .indexAddr _ _ _ | exact .len _ _ (by kernel_rfl) | exact .field _ _ _ | exact .extract _ _ | exact .pick _ _ _ | exact .build _ _ | exact .slice _ _ _ _ _ | exact .unOp _ _ _ rfl | exact .index _ _ _ | exact .max _ _ _ rfl rfl | exact .min _ _ _ rfl rfl | exact .nilCheck _ _ rfl)) | ((with_reducible refine Calmly.is_gl ?_); refine Calmly.mix_gl rfl rfl rfl ?_; first | ((first | with_reducible refine Calmly.gl_tt ?_ (fun _ _ => ?_) | with_reducible refine Calmly.gl_ff ?_ (fun _ _ => ?_)); (first | exact .move _ | exact .load _ _ | exact .fieldAddr _ _ _ (by kernel_rfl) | exact .assign _ | exact .binOp _ _ _ _ _ rfl | exact .indexAddr _ _ _ | exact .len _ _ (by kernel_rfl) | exact .field _ _ _ | exact .extract _ _ | exact .pick _ _ _ | exact .build _ _ | exact .slice _ _ _ _ _ | exact .unOp _ _ _ rfl | exact .index _ _ _ | exact .max _ _ _ rfl rfl | exact .min _ _ _ rfl rfl | exact .nilCheck _ _ rfl)) | with_reducible refine Calmly.gl_tf (fun _ _ => ?_) | with_reducible refine Calmly.gl_ft (fun _ _ => ?_)) | ((with_reducible refine Calmly.is_eff ?_); refine Calmly.mix_eff rfl (fun _ _ => ?_)) | ((with_reducible refine Calmly.is_gf ?_); refine Calmly.mix_gf rfl rfl rfl ?_; first | with_reducible refine Calmly.gf_tt (fun _ _ => ?_) | with_reducible refine Calmly.gf_ff (fun _ _ => ?_) | with_reducible refine Calmly.gf_tf (kept_of hk) (fun _ _ => ?_) | with_reducible refine Calmly.gf_ft (kept_of hk) (fun _ _ => ?_)) | ((with_reducible refine Calmly.is_tail ?_); first | refine Calmly.mix_tail_nil ?_ | refine Calmly.mix_tail rfl (fun _ _ => ?_)) | ((with_reducible refine Calmly.is_kept ?_); refine ⟨kept_of hk, ?_⟩) | (with_reducible refine Calmly.mix_alt ?_ ?_))
    all_goals
      obtain ⟨_, h3⟩ := kept_st2M (G := _ ∧ _ ∧ _) (x := .int .i64 wk) (y := .int .i64 ls) hk (show w.heap.size ≤ w.heap.size + 1 + 1 + 1 by omega) i4 (fun h1 h2 h3 => ⟨h1, h2, h3⟩)
      generalize World.setCell (World.setCell Z2 _ _) _ _ = Z3 at *
      obtain ⟨hk3, ho3, hn1⟩ := h3
      have q0 := (ho3 (w.heap.size + 1 + 1) (by omega)).trans hn0
      have hK3 := (ho3 D (by have := HN.out; have := HD.out; omega)).trans hK
      have o3 := owns_apart i6 ho3 (by have := HN.out; omega)
      have hDw : w.heap.size ≤ D := by have := HN.out; have := HD.out; omega
      have hne : ∀ g, g ≠ D → ∀ o', (Z3.putObj D o').heap[g]? = Z3.heap[g]? := fun g hg o' => World.putObj_heap_other hg
      have hq := (hne (w.heap.size + 1 + 1) (by have := HN.out; have := HD.out; omega) (.deferred none)).trans q0
      have hr := (hne (w.heap.size + 1 + 1 + 1) (by have := HN.out; have := HD.out; omega) (.deferred none)).trans hn1
      have e0 := cell_block hq 0
      have e1 := cell_block hq 1
      have e2 := cell_block hr 0
      have e3 := cell_block hr 1
      have hput : Keeps (fun _ => False) Z3 (Z3.putObj D (.deferred none)) := Keeps.put _ hK3 rfl
      refine ⟨by simp, .inl ⟨_, _, rfl, run_takeDeferred hK3, ?_⟩⟩
      refine ⟨.tuple #[.agg #[.int .i64 at2, .slice av n cv], .agg #[.int .i64 wk, .int .i64 ls]], by simp [results, Tryz.results61, go_sem, e0, e1, e2, e3], av, cv, by rw [HWK.out, HLS.out], ?_, belowD hk3 hDw hK3⟩
      rw [HRW.out]
      exact owns_lower (owns_keeps o3 hput (fun _ _ h => h)) (by have := HN.out; omega)
end Go.Proofs.YtaiikekgckjdeaaGreat
