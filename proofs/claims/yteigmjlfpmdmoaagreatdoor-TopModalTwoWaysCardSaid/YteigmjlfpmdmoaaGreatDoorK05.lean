/- A range over a function that keeps a box of its own, which lay there before; its body may return. strings.SplitSeq: the parts of a text, yielded one after the other. A range over a function whose body is never left early, and may rely on something of each value it is handed. A region that draws its order, walked by a plan within a round of a range over a function. A region that draws its order, walked by a plan within the wide fence: what comes last is walked in the fence (a yield may be there). A region walked by a plan: an operation whose guard is itself an operation that was not carried out. -/
import Derived.Test.YteigmjlfpmdmoaaGreatDoorK04
namespace Go
open Go.RowKit Go.Shelf

/-- What abides what the iterator does: walks' objects of its own, and the box pb. -/
def AbidesBox {β : Type} (B pb : Nat) (J : β → World → Prop) : Prop :=
  ∀ s W W' row, J s W → W.grownBy W' row → (∀ r, row = some r → r = pb ∨ (B ≤ r ∧ ∃ o : Obj, W.heap[r]? = some o ∧ o.isWalk = true)) → J s W'
def OwnBox {β : Type} (B pb : Nat) (I : β → World → Prop) : Prop :=
  ∀ s W W' row, I s W → W.grownBy W' row → (∀ r, row = some r → r = pb ∨ (B ≤ r ∧ ∃ o : Obj, W.heap[r]? = some o ∧ o.isCells = false)) → I s W'
theorem OwnBox.from {β : Type} {B pb : Nat} {I : β → World → Prop} (h : OwnBox B pb I) : OwnFrom B I := fun s W W' row hs hg hr => h s W W' row hs hg (fun r e => .inr (hr r e))

/-- Every round goes on, or the walk ends. -/
def OnOnB {α : Type} (P : Program) (gf : Nat) (lb : Array Value) (enc : α → Array Value) (Kp : World → World → Prop) (Px : List α → α → Prop) (S : List α → Prop) (N m pb : Nat) (w : World) : Prop :=
  ∀ (l : Nat) (J Jx : List α → World → Prop) (W : World), Below w.heap.size w W → AbidesBox W.heap.size pb J → AbidesBox W.heap.size pb Jx →
    (∀ pre x W1, J pre W1 → pre.length < N → Px pre x → YieldAt Fence.wide m P l (enc x) W1 fun e W' => (e = .returned (.bool true) ∧ J (pre ++ [x]) W' ∧ Kp W1 W') ∨ (e = .returned (.bool false) ∧ Jx (pre ++ [x]) W')) →
    J [] W → Calls P gf (#[.func (.yield l) #[] #[]] ++ lb) W fun e W' => (∃ v, e = .returned v) ∧ ((∃ xs, S xs ∧ J xs W') ∨ ∃ pre, Jx pre W')
theorem range_box {P : Program} {n : Nat} {α : Type} {g : Operand} {ps : Array Tmp} {assign body : Code} {Q : Exit → Act → World → Prop} {a : Act} {w : World} {gf : Nat} {lb : Array Value}
    (hg : a.eval g = .func (.func gf) #[] lb) (eg : ∀ args w, (callFunc gf args).run P w = .ok (.enter gf args) w)
    {enc : α → Array Value} {Kp : World → World → Prop} {Px : List α → α → Prop} {S : List α → Prop} {N m pb : Nat} (hpb : pb < w.heap.size) (hseq : OnOnB P gf lb enc Kp Px S N m pb w)
    (hKt : ∀ {A B C : World}, Kp A B → Kp B C → Kp A C) (hKb : ∀ (W : World) (l : Nat) (o o' : Obj), w.heap.size ≤ l → W.heap[l]? = some o → o.isCells = false → Kp W (W.putObj l o')) (hps : ∀ x, (enc x).size = ps.size)
    (I Ix : List α → World → Prop) (hJ : OwnBox w.heap.size pb I) (h0 : I [] w) (Mid : List α → α → Act → World → Prop) (hM : ∀ pre x a', OwnFrom w.heap.size (fun (_ : Unit) W => Mid pre x a' W))
    (hassign : ∀ (l : Nat) (pre : List α) (x : α) (W : World) (K : Act → World → Prop), I pre W → pre.length < N → Px pre x → (∀ a' W', KeepsOthers W W' → Kp W W' → Mid pre x a' W' → K a' W') →
      assign.wpIn (Fence.wide.inRound l) m P (Exit.then K (fun _ _ _ => False)) { tmps := (ps.zip (enc x)).foldl (fun t (p, v) => t.setIfInBounds p v) a.tmps, defers := [] } W)
    (hbody : ∀ (l : Nat) (pre : List α) (x : α) (a' : Act) (W : World), Mid pre x a' W → body.wpIn (Fence.wide.inRound l) m P (fun e _ W' => (e = .normal ∧ KeepsOthers W W' ∧ Kp W W' ∧ I (pre ++ [x]) W') ∨ (e = .ret ∧ KeepsOthers W W' ∧ Ix (pre ++ [x]) W')) a' W)
    (hJx : OwnBox w.heap.size pb Ix)
    (hdone : ∀ (D : Nat) (xs : List α) (W : World), w.heap.size ≤ D → S xs → I xs W → W.heap[D]? = some (.deferred (some [])) → Q .normal { a with defers := { target := .collected D, args := #[] } :: a.defers } W)
    (hstop : ∀ (D : Nat) (xs : List α) (W : World), w.heap.size ≤ D → Ix xs W → W.heap[D]? = some (.deferred (some [])) → Code.ret.wpIn Fence.wide n P Q { a with defers := { target := .collected D, args := #[] } :: a.defers } W) :
    (Code.rangeFunc g ps assign body).wpIn Fence.wide n P Q a w := by
  have hI : OwnFrom w.heap.size I := hJ.from
  have Ix_own : OwnFrom w.heap.size Ix := hJx.from
  refine wpIn_rangeFunc fun fn hfn => ?_
  obtain ⟨rec, hrec⟩ : ∃ rec : LoopState → Option Code → Loop, rec = fun st pe => { state := st, pending := pe, fn, tmps := a.tmps, params := ps, assign, body, defers := w.heap.size } := ⟨_, rfl⟩
  obtain ⟨W1, hW1⟩ : ∃ W1, (w.alloc (.deferred (some []))).alloc (.loop (rec .ready none)) = W1 := ⟨_, rfl⟩
  have hL : W1.heap[w.heap.size + 1]? = some (.loop (rec .ready none)) := by
    have := Go.Proofs.YteigmjlfpmdmoaaGreatDoor.alloc_new (w.alloc (.deferred (some []))) (.loop (rec .ready none))
    rw [← hW1]
    simpa using this
  have hD : W1.heap[w.heap.size]? = some (.deferred (some [])) := by
    rw [← hW1, Below.heap_alloc _ _ _ (by simp)]
    exact Go.Proofs.YteigmjlfpmdmoaaGreatDoor.alloc_new w _
  have hb1 : Below w.heap.size w W1 := by
    rw [← hW1]
    exact ((Below.refl _ w).alloc (Nat.le_refl _) _).alloc (by simp) _
  have hI1 : I [] W1 := by
    rw [← hW1]
    exact hI.alloc _ (hI.alloc _ h0)
  have hs1 : W1.heap.size = w.heap.size + 2 := by rw [← hW1]; simp
  refine ⟨w.heap.size + 1, [{ target := .collected w.heap.size, args := #[] }], W1, { target := .fn (.func gf) lb, args := #[.func (.yield (w.heap.size + 1)) #[] #[]] }, W1, gf, #[.func (.yield (w.heap.size + 1)) #[] #[]] ++ lb, W1, ?_, ?_, fun _ _ => trivial, ?_, fun h => absurd h (by simp [Fence.wide]), ?_⟩
  · rw [← hW1, hrec]
    exact run_enterLoop_outer _ _ _ _ _
  · simp only [resolve, hg]
    simp [go_sem]
  · simp [invoke, go_sem, eg]
  · refine callsIn_wide.2 ?_
    refine (hseq (w.heap.size + 1) (fun pre W => (I pre W ∧ W.heap[w.heap.size + 1]? = some (.loop (rec .ready none))) ∧ W.heap[w.heap.size]? = some (.deferred (some []))) (fun pre W => (Ix pre W ∧ W.heap[w.heap.size + 1]? = some (.loop (rec .done (some .ret)))) ∧ W.heap[w.heap.size]? = some (.deferred (some []))) W1 hb1 ?_ ?_ ?_ ⟨⟨hI1, hL⟩, hD⟩).mono ?_
    · -- what the iterator does of its own
      rintro s A B row ⟨⟨hs, hl⟩, hk⟩ hg' hr
      have hne : ∀ j, w.heap.size ≤ j → j < w.heap.size + 2 → some j ≠ row := fun j hi hj e => by
        rcases hr j e.symm with h | ⟨h, _⟩ <;> omega
      refine ⟨⟨hJ s A B row hs hg' fun r e => ?_, ?_⟩, ?_⟩
      · rcases hr r e with h | ⟨h1, o, h2, h3⟩
        · exact .inl h
        · exact .inr ⟨by omega, o, h2, Obj.not_cells_of_walk h3⟩
      · exact (hg'.block _ (Array.getElem?_eq_some_iff.1 hl).1 (hne _ (by omega) (by omega))).trans hl
      · exact (hg'.block _ (Array.getElem?_eq_some_iff.1 hk).1 (hne _ (by omega) (by omega))).trans hk
    · -- what the iterator does of its own
      rintro s A B row ⟨⟨hs, hl⟩, hk⟩ hg' hr
      have hne : ∀ j, w.heap.size ≤ j → j < w.heap.size + 2 → some j ≠ row := fun j hi hj e => by
        rcases hr j e.symm with h | ⟨h, _⟩ <;> omega
      refine ⟨⟨hJx s A B row hs hg' fun r e => ?_, ?_⟩, ?_⟩
      · rcases hr r e with h | ⟨h1, o, h2, h3⟩
        · exact .inl h
        · exact .inr ⟨by omega, o, h2, Obj.not_cells_of_walk h3⟩
      · exact (hg'.block _ (Array.getElem?_eq_some_iff.1 hl).1 (hne _ (by omega) (by omega))).trans hl
      · exact (hg'.block _ (Array.getElem?_eq_some_iff.1 hk).1 (hne _ (by omega) (by omega))).trans hk
    · -- one round
      rintro pre x W ⟨⟨hi, hl⟩, hk⟩ hlen hpx
      have hy := run_yield (P := P) (args := enc x) hl (by rw [hrec]; exact hps x)
      rw [hrec] at hy
      refine ⟨fn, _, assign, body, hy, roundIn_of_wpIn hfn (hassign _ pre x W _ hi hlen hpx ?_)⟩
      intro a' Wa ha1 ha2 ha3
      have hl1 := ha1.same _ _ hl rfl
      have hk1 := ha1.same _ _ hk rfl
      have hlt : w.heap.size + 1 < Wa.heap.size := (Array.getElem?_eq_some_iff.1 hl1).1
      refine ⟨_, run_beginRound hl1 (by rw [hrec]), ?_⟩
      have hl2 : (Wa.putObj (w.heap.size + 1) (.loop { rec .ready none with state := .busy })).heap[w.heap.size + 1]? = some (.loop { rec .ready none with state := .busy }) := World.putObj_heap_same hlt
      have hk2 : (Wa.putObj (w.heap.size + 1) (.loop { rec .ready none with state := .busy })).heap[w.heap.size]? = some (.deferred (some [])) := (World.putObj_heap_other (by omega)).trans hk1
      refine wpIn_mono (hbody _ pre x a' _ ((hM pre x a').putObj (s := ()) _ ha3 (by omega) hl1 rfl)) ?_
      rintro e a3 W3 (⟨rfl, hb3, hk3, hi3⟩ | ⟨rfl, hb3, hi3⟩)
      · have hl3 := hb3.same _ _ hl2 rfl
        have hr := run_endRound (P := P) none hl3
        rw [hrec] at hr hl3
        refine ⟨_, _, hr, .inl ⟨rfl, ⟨⟨hI.putObj _ hi3 (by omega) hl3 rfl, ?_⟩, ?_⟩, ?_⟩⟩
        · rw [hrec]
          exact World.putObj_heap_same (Array.getElem?_eq_some_iff.1 hl3).1
        · exact (World.putObj_heap_other (by omega)).trans (hb3.same _ _ hk2 rfl)
        · exact hKt ha2 (hKt (hKt (hKb _ _ _ _ (by omega) hl1 rfl) hk3) (hKb _ _ _ _ (by omega) hl3 rfl))
      · have hl3 := hb3.same _ _ hl2 rfl
        have hr := run_endRound (P := P) (some .ret) hl3
        rw [hrec] at hr hl3
        refine ⟨_, _, hr, .inr ⟨rfl, ⟨Ix_own.putObj _ hi3 (by omega) hl3 rfl, ?_⟩, ?_⟩⟩
        · rw [hrec]
          exact World.putObj_heap_same (Array.getElem?_eq_some_iff.1 hl3).1
        · exact (World.putObj_heap_other (by omega)).trans (hb3.same _ _ hk2 rfl)
    · -- at the end
      rintro e W2 ⟨⟨v, rfl⟩, ⟨xs, hS, ⟨hi, hl⟩, hk⟩ | ⟨xs, ⟨hi, hl⟩, hk⟩⟩
      · have hr := run_endLoop (P := P) hl (by rw [hrec]; simp)
        rw [hrec] at hr
        exact ⟨none, _, hr, hdone _ xs _ (Nat.le_refl _) hS (hI.putObj _ hi (by omega) hl rfl) ((World.putObj_heap_other (by omega)).trans hk)⟩
      · have hr := run_endLoop (P := P) hl (by rw [hrec]; simp)
        rw [hrec] at hr
        exact ⟨some .ret, _, hr, hstop _ xs _ (Nat.le_refl _) (Ix_own.putObj _ hi (by omega) hl rfl) ((World.putObj_heap_other (by omega)).trans hk)⟩
end Go

namespace Go.Proofs.YteigmjlfpmdmoaaGreatDoor
open Go.RowKit Go.Shelf
attribute [local go_sem] Oper.semAt_some
open Calmly (Kept)

/-- All cells are as they were, but for those of some blocks. -/
structure KpL (L : Nat → Prop) (A B : World) : Prop where
  size : A.heap.size ≤ B.heap.size
  same : ∀ b o, ¬ L b → A.heap[b]? = some o → o.isCells = true → B.heap[b]? = some o
theorem KpL.refl (L : Nat → Prop) (A : World) : KpL L A A := ⟨Nat.le_refl _, fun _ _ _ h _ => h⟩
theorem KpL.trans {L : Nat → Prop} {A B C : World} (h : KpL L A B) (k : KpL L B C) : KpL L A C := ⟨Nat.le_trans h.size k.size, fun b o hb ho hc => k.same b o hb (h.same b o hb ho hc) hc⟩
theorem KpL.weak {L M : Nat → Prop} {A B : World} (h : KpL L A B) (hm : ∀ b, L b → M b) : KpL M A B := ⟨h.size, fun b o hb ho hc => h.same b o (fun hl => hb (hm b hl)) ho hc⟩
theorem KpL.of_below {L : Nat → Prop} {A B : World} (h : Below A.heap.size A B) : KpL L A B := ⟨h.size, fun b _ _ ho _ => (h.block b (Array.getElem?_eq_some_iff.1 ho).1).trans ho⟩
theorem KpL.of_belowB {L : Nat → Prop} {B : Nat} {A A' : World} (h : Below B A A') (hL : ∀ b, B ≤ b → L b) : KpL L A A' := ⟨h.size, fun b o hb ho _ => (h.block b (by
  rcases Nat.lt_or_ge b B with h2 | h2
  · exact h2
  · exact absurd (hL b h2) hb)).trans ho⟩
theorem KpL.put {L : Nat → Prop} {W : World} {l : Nat} {o : Obj} (o' : Obj) (hl : W.heap[l]? = some o) (ho : o.isCells = false) : KpL L W (W.putObj l o') := ⟨by simp, fun b ob _ hb hc => by
  refine (World.putObj_heap_other ?_).trans hb
  rintro rfl
  rw [hl] at hb
  cases hb
  rw [ho] at hc
  cases hc⟩
theorem KpL.setCell {L : Nat → Prop} (W : World) {b : Nat} (o : Nat) (v : Value) (h : L b) : KpL L W (W.setCell ⟨b, o, none⟩ v) := ⟨by simp, fun k ob hk hb _ => by
  rw [Below.heap_setCell _ _ _ _ (by rintro rfl; exact hk h)]
  exact hb⟩
theorem KpL.blk {L : Nat → Prop} {A B : World} (h : KpL L A B) {b : Nat} {cs : Array Value} {t : TypeId} (hb : ¬ L b) (hc : A.heap[b]? = some (.cells cs t)) : B.heap[b]? = some (.cells cs t) := h.same b _ hb hc rfl
theorem kpl_grown {W W' : World} {row : Option Nat} (hg : W.grownBy W' row) (L : Nat → Prop) (hr : ∀ r, row = some r → L r ∨ ∃ o, W.heap[r]? = some o ∧ o.isCells = false) : KpL L W W' := ⟨hg.size, fun b o hb ho hc => by
  rw [hg.block b (Array.getElem?_eq_some_iff.1 ho).1 ?_]
  · exact ho
  · intro he
    rcases hr b he.symm with h | ⟨o', h1, h2⟩
    · exact hb h
    · rw [ho] at h1
      cases h1
      rw [hc] at h2
      cases h2⟩
theorem grown_set (W : World) (b : Nat) (v : Value) : W.grownBy (W.setCell ⟨b, 0, none⟩ v) (some b) :=
  ⟨rfl, rfl, rfl, by simp, fun k _ hk => Below.heap_setCell _ _ _ _ (fun e => hk (by rw [e]))⟩

theorem var_cells {P : Program} {w : World} {name : String} {vs : Array Value} (h : w.var? P name = some vs) : ∃ g t z, P.globalNamed name = some g ∧ w.heap[g]? = some (.cells vs t z) := by
  unfold World.var? at h
  cases hg : P.globalNamed name with
  | none => simp [hg] at h
  | some g =>
    simp only [hg, Option.bind_some] at h
    cases ho : w.heap[g]? with
    | none => simp [ho] at h
    | some o =>
      cases o <;> simp [ho] at h
      subst h
      exact ⟨g, _, _, rfl, by rw [ho]⟩
theorem var_of {P : Program} {w : World} {name : String} {vs : Array Value} {g : Nat} {t : TypeId} {z : Nat × Nat} (hg : P.globalNamed name = some g) (h : w.heap[g]? = some (.cells vs t z)) : w.var? P name = some vs := by
  unfold World.var?
  simp [hg, h]
/-- The variables hold what they held, if what lay in w0 lies there. -/
theorem Vars.kpl {w0 W W' : World} {L : Nat → Prop} (h : Vars w0) (hb : Below w0.heap.size w0 W) (hk : KpL L W W') (hL : ∀ b, L b → w0.heap.size ≤ b) : Vars W' := by
  have key : ∀ {name : String} {vs : Array Value}, w0.var? Tryz.prog name = some vs → W'.var? Tryz.prog name = some vs := by
    intro name vs hv
    obtain ⟨g, t, z, h1, h2⟩ := var_cells hv
    have hlt : g < w0.heap.size := (Array.getElem?_eq_some_iff.1 h2).1
    exact var_of h1 (hk.same g _ (fun hl => by have := hL g hl; omega) ((hb.block g hlt).trans h2) rfl)
  obtain ⟨⟨t1, p1, h1⟩, ⟨t2, p2, h2⟩, h3, m, h4⟩ := h
  refine ⟨⟨t1, p1, key h1⟩, ⟨t2, p2, key h2⟩, key h3, m, ?_⟩
  have h5 := cell_keep h4 hb
  have hlt := cell_lt h4
  unfold World.cell? at h5 ⊢
  cases hx : W.heap[0]? with
  | none => simp [hx] at h5
  | some o =>
    cases o with
    | cells cs t z =>
      have := hk.same _ _ (fun hl => by have := hL _ hl; omega) hx rfl
      simp only [hx] at h5
      simp only [this]
      exact h5
    | _ => simp [hx] at h5
theorem round_any {m m' : Nat} {P : Program} {l : Nat} {f : FuncId} {tmps : Array Value} {assign body : Code} {w : World} {R : Ending → World → Prop}
    (h : RoundIn Fence.wide m P l f tmps assign body w R) : RoundIn Fence.wide m' P l f tmps assign body w R := ⟨h.1, fun c cs _ => h.2 c cs (room_wide _)⟩

theorem splitSeq0_any (s : List UInt8) (w : World) : Calls Tryz.prog 108 #[.string (bs s), .string (bs [32]), .int .i64 0] w fun e w' =>
    e = .returned (.func (.func 119) #[] #[.pointer (some ⟨w.heap.size + 1, 0, none⟩), .pointer (some ⟨w.heap.size, 0, none⟩), .pointer (some ⟨w.heap.size + 2, 0, none⟩)]) ∧ w' = ((w.alloc (.cells #[.string (bs s)] 9)).alloc (.cells #[.string (bs [32])] 9)).alloc (.cells #[.int .i64 0] 3) := by
  go_enter Tryz.func108, Tryz.ntmps108
  go_wp2_with fail
  go_ret
  exact ⟨rfl, rfl⟩
theorem splitSeq_any (s : List UInt8) (w : World) : Calls Tryz.prog 98 #[.string (bs s), .string (bs [32])] w fun e w' =>
    e = .returned (.func (.func 119) #[] #[.pointer (some ⟨w.heap.size + 1, 0, none⟩), .pointer (some ⟨w.heap.size, 0, none⟩), .pointer (some ⟨w.heap.size + 2, 0, none⟩)]) ∧ w' = ((w.alloc (.cells #[.string (bs s)] 9)).alloc (.cells #[.string (bs [32])] 9)).alloc (.cells #[.int .i64 0] 3) := by
  go_enter Tryz.func98, Tryz.ntmps98
  go_wp2_with fail
  refine (splitSeq0_any s _).mono ?_
  rintro e w1 ⟨rfl, rfl⟩
  go_wp2_with fail
  go_ret
  exact ⟨rfl, rfl⟩

theorem set_one {w : World} {b : Nat} {v : Value} {t : TypeId} (h : w.heap[b]? = some (.cells #[v] t)) (v' : Value) : (w.setCell ⟨b, 0, none⟩ v').heap[b]? = some (.cells #[v'] t) := by
  simp only [World.setCell, Array.getElem?_modify, if_true, h]
  rfl
/-- How long the text in a box is. -/
def boxLen (w : World) (pb : Nat) : Nat := match w.cell? ⟨pb, 0, none⟩ with
  | some (.string b) => b.size
  | _ => 0
theorem boxLen_eq {w : World} {pb : Nat} {r : List UInt8} {t : TypeId} (h : w.heap[pb]? = some (.cells #[.string (bs r)] t)) : boxLen w pb = r.length := by
  unfold boxLen
  rw [cell_block h 0]
  exact bs_size r

set_option maxRecDepth 100000 in
set_option maxHeartbeats 400000 in
theorem split_onB (w0 w : World) (ps pb pk : Nat) (s : List UInt8) (L : Nat → Prop) (hs : s.length ≤ 1000000) (h1 : w.heap[pb]? = some (.cells #[.string (bs s)] 9)) (h2 : w.heap[ps]? = some (.cells #[.string (bs [32])] 9)) (h3 : w.heap[pk]? = some (.cells #[.int .i64 0] 3))
    (hsb : ps ≠ pb) (k1 : ¬ L pb) (k2 : ¬ L ps) (k3 : ¬ L pk) (hv : Vars w0) (hb0 : Below w0.heap.size w0 w) (hL : ∀ b, L b → w0.heap.size ≤ b) (hpb : w0.heap.size ≤ pb) (ky : Nat) :
    OnOnB Tryz.prog 119 #[.pointer (some ⟨ps, 0, none⟩), .pointer (some ⟨pb, 0, none⟩), .pointer (some ⟨pk, 0, none⟩)] (fun i : Fin (cutB 32 s).length => #[.string (bs ((cutB 32 s)[i.val]?.getD []))]) (KpL L) (fun pre x => x.val = pre.length) (fun l => l.length = (cutB 32 s).length) (cutB 32 s).length ky pb w := by
  intro li J Jx W hW hJ hJx hY hJ0
  have HY := Lib.hid hY
  have HJ := Lib.hid hJ
  have HJX := Lib.hid hJx
  clear hY hJ hJx
  have p1 := blk_keep h1 hW
  have p2 := blk_keep h2 hW
  have p3 := blk_keep h3 hW
  have hkb : pk ≠ pb := by
    intro e
    rw [e, p1] at p3
    cases p3
  have B0 := hb0.trans (hW.mono hb0.size)
  have f0 := cell_block p1 0
  have f1 := cell_block p2 0
  have hz1 : (bs [32]).size = 1 := rfl
  clear h1 h2 h3 hb0 hW
  go_enter Tryz.func119, Tryz.ntmps119
  go_wp2_with fail
  go_loopw [7] (fun _ wr => ∃ (k : Nat) (r : List UInt8), (∃ pre : List (Fin (cutB 32 s).length), pre.length = k ∧ J pre wr) ∧ (cutB 32 s).drop k = cutB 32 r ∧ r.length ≤ 1000000 ∧ wr.heap[pb]? = some (.cells #[.string (bs r)] 9) ∧ KpL (fun b => L b ∨ b = pb) W wr) (fun _ wr => boxLen wr pb)
  case atStart => exact ⟨0, s, ⟨[], rfl, hJ0⟩, rfl, hs, p1, KpL.refl _ _⟩
  case round =>
    clear hJ0 f0 f1
    obtain ⟨k, r, ⟨pre, hpre, hJp⟩, hd, hr, hbx, hkp⟩ := hrel
    have HP := Lib.hid hpre
    have HD := Lib.hid hd
    clear hpre hd
    have q2 := hkp.blk (fun h => h.elim k2 hsb) p2
    have q3 := hkp.blk (fun h => h.elim k3 hkb) p3
    have hvr : Vars wr := hv.kpl B0 hkp (fun b h => h.elim (hL b) (fun e => by omega))
    have f0 := cell_block hbx 0
    have f1 := cell_block q2 0
    have f2 := cell_block q3 0
    have hzr := bs_size r
    have HZ := Lib.hid hzr
    clear hzr
    refine (wpIn_wide (n := 5)).1 ?_
    gi_wp2
    refine ⟨trivial, (callsIn_wide.2 (index_any r 32 _ hvr hr)).mono ?_⟩
    rintro e w1 ⟨rfl, rfl⟩
    rcases idx_cases 32 r with ⟨e1, hno⟩ | ⟨x, y, hr2, hno, e1⟩
    · rw [e1]
      have hn : (cutB 32 s).length = k + 1 := by
        have := congrArg List.length HD.out
        rw [cutB_one hno, List.length_drop] at this
        simp at this
        omega
      have hx : (cutB 32 s)[k]?.getD [] = r := by
        have : ((cutB 32 s).drop k)[0]? = some r := by rw [HD.out, cutB_one hno]; rfl
        rw [List.getElem?_drop, Nat.add_zero] at this
        rw [this]; rfl
      obtain ⟨z, hz⟩ : ∃ z : Fin (cutB 32 s).length, z.val = k := ⟨⟨k, by omega⟩, rfl⟩
      obtain ⟨fn, tmps, assign, body, hy, hR⟩ := HY.out pre z wr hJp (by have := HP.out; omega) (hz.trans HP.out.symm)
      rw [hz, hx] at hy
      clear hx
      have HN := Lib.hid hn
      clear hn hz e1
      gi_wp2
      refine (wpIn_wide (n := 5)).1 ?_
      gi_wp2
      refine (round_any hR).mono ?_
      rintro e W5 (⟨rfl, hJ5, hk5⟩ | ⟨rfl, hJ5⟩)
      · gi_wp2
        refine bodyPost_end (results_none rfl _ _ _) rfl ?_
        exact ⟨⟨_, rfl⟩, .inl ⟨_, by have h1 := HP.out; have h2 := HN.out; rw [List.length_append, List.length_singleton]; omega, hJ5⟩⟩
      · gi_wp2
        refine bodyPost_end (results_none rfl _ _ _) rfl ?_
        exact ⟨⟨_, rfl⟩, .inr ⟨_, hJ5⟩⟩
    · rw [e1]
      have hrl : r.length = x.length + 1 + y.length := by rw [hr2, List.length_append, List.length_cons]; omega
      have hd2 : (cutB 32 s).drop k = x :: cutB 32 y := by rw [HD.out, hr2, cutB_at _ hno]
      have hn : k < (cutB 32 s).length := by
        have := congrArg List.length hd2
        rw [List.length_drop] at this
        simp at this
        omega
      have hx : (cutB 32 s)[k]?.getD [] = x := by
        have : ((cutB 32 s).drop k)[0]? = some x := by rw [hd2]; rfl
        rw [List.getElem?_drop, Nat.add_zero] at this
        rw [this]; rfl
      have hd3 : (cutB 32 s).drop (k + 1) = cutB 32 y := by
        rw [← List.drop_drop, hd2]
        rfl
      obtain ⟨z, hz⟩ : ∃ z : Fin (cutB 32 s).length, z.val = k := ⟨⟨k, hn⟩, rfl⟩
      obtain ⟨fn, tmps, assign, body, hy, hR⟩ := HY.out pre z wr hJp (by have := HP.out; omega) (hz.trans HP.out.symm)
      rw [hz, hx] at hy
      have g1 : (bs r).extract 0 x.length = bs x := by
        rw [bs_extract, hr2]
        simp
      have g2 : (bs r).extract (x.length + 1) (bs r).size = bs y := by
        rw [bs_extract, HZ.out, List.take_of_length_le (by simp), hr2]
        congr 1
        rw [← List.drop_drop]
        simp
      have b1 : x.length + 1 ≤ (bs r).size := by rw [HZ.out]; omega
      have b2 : (bs r).size ≤ 1000000 := by rw [HZ.out]; omega
      have b3 : y.length + 1 ≤ r.length := by omega
      have b4 : y.length ≤ 1000000 := by omega
      have HD3 := Lib.hid hd3
      clear hx hn hz hd2 hd3 hrl hr2 e1
      gi_wp2
      refine (round_any hR).mono ?_
      rintro e W5 (⟨rfl, hJ5, hk5⟩ | ⟨rfl, hJ5⟩)
      · have hbx5 := hk5.blk k1 hbx
        have q25 := hk5.blk k2 q2
        have q35 := hk5.blk k3 q3
        clear f0 f1 f2
        have f0 := cell_block hbx5 0
        have f1 := cell_block q25 0
        have f2 := cell_block q35 0
        have hf := frozen_block hbx5 0
        gi_wp2
        go_roundw
        case rel =>
          refine ⟨k + 1, y, ⟨pre ++ [z], by have h1 := HP.out; rw [List.length_append, List.length_singleton]; omega, HJ.out _ _ _ _ hJ5 (grown_set _ _ _) (fun r e => .inl (by cases e; rfl))⟩, HD3.out, b4, set_one hbx5 _, (hkp.trans (hk5.weak (fun b h => .inl h))).trans (KpL.setCell _ _ _ (.inr rfl))⟩
        case measure =>
          rw [boxLen_eq (set_one hbx5 _), boxLen_eq hbx]
          omega
      · gi_wp2
        refine bodyPost_ret (results_none rfl _ _ _) rfl ?_
        exact ⟨⟨_, rfl⟩, .inr ⟨_, hJ5⟩⟩
end Go.Proofs.YteigmjlfpmdmoaaGreatDoor

namespace Go
open Go.RowKit Go.Shelf

/-- Every round goes on. -/
def OnOnP {α : Type} (P : Program) (gf : Nat) (lb : Array Value) (enc : α → Array Value) (Kp : World → World → Prop) (Px : α → World → Prop) (S : List α → Prop) (m : Nat) (w : World) : Prop :=
  ∀ (l : Nat) (J : List α → World → Prop) (W : World), Below w.heap.size w W → AbidesFrom W.heap.size J →
    (∀ pre x W1, J pre W1 → Px x W1 → YieldAt Fence.wide m P l (enc x) W1 fun e W' => e = .returned (.bool true) ∧ J (pre ++ [x]) W' ∧ Kp W1 W') →
    J [] W → Calls P gf (#[.func (.yield l) #[] #[]] ++ lb) W fun e W' => (∃ v, e = .returned v) ∧ ∃ xs, S xs ∧ J xs W'

theorem range_midP {P : Program} {n : Nat} {α : Type} {g : Operand} {ps : Array Tmp} {assign body : Code} {Q : Exit → Act → World → Prop} {a : Act} {w : World} {gf : Nat} {lb : Array Value}
    (hg : a.eval g = .func (.func gf) #[] lb) (eg : ∀ args w, (callFunc gf args).run P w = .ok (.enter gf args) w)
    {enc : α → Array Value} {Kp : World → World → Prop} {Px : α → World → Prop} {S : List α → Prop} {m : Nat} (hseq : OnOnP P gf lb enc Kp Px S m w)
    (hKt : ∀ {A B C : World}, Kp A B → Kp B C → Kp A C) (hKb : ∀ (W : World) (l : Nat) (o o' : Obj), w.heap.size ≤ l → W.heap[l]? = some o → o.isCells = false → Kp W (W.putObj l o')) (hps : ∀ x, (enc x).size = ps.size)
    (I : List α → World → Prop) (hI : OwnFrom w.heap.size I) (h0 : I [] w) (Mid : List α → α → Act → World → Prop) (hM : ∀ pre x a', OwnFrom w.heap.size (fun (_ : Unit) W => Mid pre x a' W))
    (hassign : ∀ (l : Nat) (pre : List α) (x : α) (W : World) (K : Act → World → Prop), I pre W → Px x W → (∀ a' W', KeepsOthers W W' → Kp W W' → Mid pre x a' W' → K a' W') →
      assign.wpIn (Fence.wide.inRound l) m P (Exit.then K (fun _ _ _ => False)) { tmps := (ps.zip (enc x)).foldl (fun t (p, v) => t.setIfInBounds p v) a.tmps, defers := [] } W)
    (hbody : ∀ (l : Nat) (pre : List α) (x : α) (a' : Act) (W : World), Mid pre x a' W → body.wpIn (Fence.wide.inRound l) m P (fun e _ W' => e = .normal ∧ KeepsOthers W W' ∧ Kp W W' ∧ I (pre ++ [x]) W') a' W)
    (hdone : ∀ (D : Nat) (xs : List α) (W : World), w.heap.size ≤ D → S xs → I xs W → W.heap[D]? = some (.deferred (some [])) → Q .normal { a with defers := { target := .collected D, args := #[] } :: a.defers } W) :
    (Code.rangeFunc g ps assign body).wpIn Fence.wide n P Q a w := by
  refine wpIn_rangeFunc fun fn hfn => ?_
  obtain ⟨rec, hrec⟩ : ∃ rec : LoopState → Loop, rec = fun st => { state := st, pending := none, fn, tmps := a.tmps, params := ps, assign, body, defers := w.heap.size } := ⟨_, rfl⟩
  obtain ⟨W1, hW1⟩ : ∃ W1, (w.alloc (.deferred (some []))).alloc (.loop (rec .ready)) = W1 := ⟨_, rfl⟩
  have hL : W1.heap[w.heap.size + 1]? = some (.loop (rec .ready)) := by
    have := Go.Proofs.YteigmjlfpmdmoaaGreatDoor.alloc_new (w.alloc (.deferred (some []))) (.loop (rec .ready))
    rw [← hW1]
    simpa using this
  have hD : W1.heap[w.heap.size]? = some (.deferred (some [])) := by
    rw [← hW1, Below.heap_alloc _ _ _ (by simp)]
    exact Go.Proofs.YteigmjlfpmdmoaaGreatDoor.alloc_new w _
  have hb1 : Below w.heap.size w W1 := by
    rw [← hW1]
    exact ((Below.refl _ w).alloc (Nat.le_refl _) _).alloc (by simp) _
  have hI1 : I [] W1 := by
    rw [← hW1]
    exact hI.alloc _ (hI.alloc _ h0)
  have hs1 : W1.heap.size = w.heap.size + 2 := by rw [← hW1]; simp
  refine ⟨w.heap.size + 1, [{ target := .collected w.heap.size, args := #[] }], W1, { target := .fn (.func gf) lb, args := #[.func (.yield (w.heap.size + 1)) #[] #[]] }, W1, gf, #[.func (.yield (w.heap.size + 1)) #[] #[]] ++ lb, W1, ?_, ?_, fun _ _ => trivial, ?_, fun h => absurd h (by simp [Fence.wide]), ?_⟩
  · rw [← hW1, hrec]
    exact run_enterLoop_outer _ _ _ _ _
  · simp only [resolve, hg]
    simp [go_sem]
  · simp [invoke, go_sem, eg]
  · refine callsIn_wide.2 ?_
    refine (hseq (w.heap.size + 1) (fun pre W => (I pre W ∧ W.heap[w.heap.size + 1]? = some (.loop (rec .ready))) ∧ W.heap[w.heap.size]? = some (.deferred (some []))) W1 hb1 ?_ ?_ ⟨⟨hI1, hL⟩, hD⟩).mono ?_
    · -- what the iterator does of its own
      rintro s A B row ⟨⟨hs, hl⟩, hk⟩ hg' hr
      have hne : ∀ j, j < w.heap.size + 2 → some j ≠ row := fun j hj e => by
        have := (hr j e.symm).1
        omega
      refine ⟨⟨hI s A B row hs hg' fun r e => ?_, ?_⟩, ?_⟩
      · obtain ⟨h1, o, h2, h3⟩ := hr r e
        exact ⟨by omega, o, h2, Obj.not_cells_of_walk h3⟩
      · exact (hg'.block _ (Array.getElem?_eq_some_iff.1 hl).1 (hne _ (by omega))).trans hl
      · exact (hg'.block _ (Array.getElem?_eq_some_iff.1 hk).1 (hne _ (by omega))).trans hk
    · -- one round
      rintro pre x W ⟨⟨hi, hl⟩, hk⟩ hpx
      have hy := run_yield (P := P) (args := enc x) hl (by rw [hrec]; exact hps x)
      rw [hrec] at hy
      refine ⟨fn, _, assign, body, hy, roundIn_of_wpIn hfn (hassign _ pre x W _ hi hpx ?_)⟩
      intro a' Wa ha1 ha2 ha3
      have hl1 := ha1.same _ _ hl rfl
      have hk1 := ha1.same _ _ hk rfl
      have hlt : w.heap.size + 1 < Wa.heap.size := (Array.getElem?_eq_some_iff.1 hl1).1
      refine ⟨_, run_beginRound hl1 (by rw [hrec]), ?_⟩
      have hl2 : (Wa.putObj (w.heap.size + 1) (.loop { rec .ready with state := .busy })).heap[w.heap.size + 1]? = some (.loop { rec .ready with state := .busy }) := World.putObj_heap_same hlt
      have hk2 : (Wa.putObj (w.heap.size + 1) (.loop { rec .ready with state := .busy })).heap[w.heap.size]? = some (.deferred (some [])) := (World.putObj_heap_other (by omega)).trans hk1
      refine wpIn_mono (hbody _ pre x a' _ ((hM pre x a').putObj (s := ()) _ ha3 (by omega) hl1 rfl)) ?_
      rintro e a3 W3 ⟨rfl, hb3, hk3, hi3⟩
      have hl3 := hb3.same _ _ hl2 rfl
      have hr := run_endRound (P := P) none hl3
      rw [hrec] at hr hl3
      refine ⟨_, _, hr, rfl, ⟨⟨hI.putObj _ hi3 (by omega) hl3 rfl, ?_⟩, ?_⟩, ?_⟩
      · rw [hrec]
        exact World.putObj_heap_same (Array.getElem?_eq_some_iff.1 hl3).1
      · exact (World.putObj_heap_other (by omega)).trans (hb3.same _ _ hk2 rfl)
      · exact hKt ha2 (hKt (hKt (hKb _ _ _ _ (by omega) hl1 rfl) hk3) (hKb _ _ _ _ (by omega) hl3 rfl))
    · -- at the end
      rintro e W2 ⟨⟨v, rfl⟩, xs, hS, ⟨hi, hl⟩, hk⟩
      have hr := run_endLoop (P := P) hl (by rw [hrec]; simp)
      rw [hrec] at hr
      exact ⟨none, _, hr, hdone _ xs _ (Nat.le_refl _) hS (hI.putObj _ hi (by omega) hl rfl) ((World.putObj_heap_other (by omega)).trans hk)⟩
end Go

namespace Go.Calmly
open Go
section
variable {P : Program} {ops : Array Oper} {Q : Exit → Act → World → Prop} {r m : Nat}

theorem rowsIn_wide {row : String} {args : Array Value} {w : World} {R : Value → World → Prop} (h : Rows P row args w R) : RowsIn (Fence.wide.inRound r) m P row args w R := fun c cs _ => by
  obtain ⟨v, w', h1, h2⟩ := h c cs
  exact ⟨v, w', h1, stepsIn_wide.2 h2⟩
theorem opIn {o : Oper} {a : Act} {w : World} {K : Act → World → Prop} (hd : ∀ c, o.op ≠ .defer c) (h : o.wp P a w K Q) : o.wpIn (Fence.wide.inRound r) m P a w K Q := by
  refine ⟨fun _ _ => trivial, ?_⟩
  rw [show (Fence.wide.inRound r).round = some r from rfl, Oper.semAt_some r _ _ hd]
  unfold Oper.wp at h
  generalize (execOp a.eval o).run P w = res at *
  cases res with
  | ok x w' =>
    cases x with
    | enter f args =>
      refine ⟨fun hh => absurd hh (by simp [Fence.wide]), CallsIn.inRound r (callsIn_wide.2 (Calls.mono h fun e w'' he => ?_))⟩
      cases e <;> exact he
    | row s args => exact ⟨fun hh => absurd hh (by simp [Fence.wide]), rowsIn_wide h⟩
    | _ => first | exact h | exact h.elim
  | halt x w' => cases x <;> exact h
theorem wpOpIn_of {i : Nat} {a : Act} {w : World} {K : Act → World → Prop} (hd : ∀ (i : Nat) (o : Oper), ops[i]? = some o → ∀ c, o.op ≠ .defer c) (hQ : ∀ a w, ¬ Q .outgrown a w) (h : wpOp P ops Q i K a w) : wpOpIn (Fence.wide.inRound r) m P ops Q i K a w := by
  unfold wpOp at h
  unfold wpOpIn
  cases ho : ops[i]? with
  | none => simp only [ho] at h ⊢; exact h
  | some o =>
    simp only [ho] at h ⊢
    split
    · rename_i hw
      simp only [hw, if_true] at h
      rcases h with h | ⟨_, a', w', h⟩
      · exact opIn (hd i o ho) h
      · exact absurd h (hQ a' w')
    · rename_i hw
      simp only [hw] at h
      exact ⟨fun _ _ => trivial, h⟩
theorem anyIn {md : Region.Mode} (hd : ∀ (i : Nat) (o : Oper), ops[i]? = some o → ∀ c, o.op ≠ .defer c) (hQ : ∀ a w, ¬ Q .outgrown a w) : ∀ (fuel : Nat) (L : Array Bool) (a : Act) (w : World), wpAny P md ops Q fuel L a w → wpAnyIn (Fence.wide.inRound r) m P md ops Q fuel L a w
  | 0, _, _, _, h => h
  | fuel + 1, _, _, _, h => ⟨h.1, fun i hi => wpOpIn_of hd hQ (wpOp_mono (fun a w hk => anyIn hd hQ fuel _ a w hk) (h.2 i hi))⟩
def noDefer (l : List Oper) : Bool := l.all fun o => match o.op with | .defer _ => false | _ => true
theorem noDefer_ops {l : List Oper} (h : noDefer l = true) : ∀ (i : Nat) (o : Oper), l.toArray[i]? = some o → ∀ c, o.op ≠ .defer c := by
  intro i o ho c hc
  have hm : o ∈ l := List.mem_of_getElem? (by simpa using ho)
  have h1 := (List.all_eq_true.1 h) o hm
  rw [hc] at h1
  cases h1
theorem wpIn_region_mix {id : Nat} {a : Act} {w : World} {l : List Oper} (n : Nat) (p : Plan) (hm : P.follows .mixedOrders = true)
    (hB : (noDefer l && (Region.noSelect l.toArray && tailOk l.toArray .any n && planOk l.toArray .any n p l.toArray.size (Array.replicate l.toArray.size false) [])) = true) (hQ : ∀ a w, ¬ Q .outgrown a w)
    (h : WpMix P l.toArray Q w.drew p a w.drew) : (Code.region id l.toArray true).wpIn (Fence.wide.inRound r) m P Q a w := by
  simp only [Bool.and_eq_true] at hB
  obtain ⟨h0, ⟨h1, h2⟩, h3⟩ := hB
  exact wpIn_region_any hm (anyIn (noDefer_ops h0) hQ _ _ _ _ (any_of_anyT _ _ _ _ ((mix_sound h1 h2 p _ _ [] a _ (closed_start _) h3 (Kept.refl _) h.out).1 rfl)))
end
end Go.Calmly

namespace Go.Calmly
open Go
section
variable (P : Program) (ops : Array Oper) (Q : Exit → Act → World → Prop) (w0 : World)
def stepF (n m : Nat) (i : Nat) (K : Act → World → Prop) (a : Act) (w : World) : Prop :=
  if i < n then wpOp P ops NoQ i (fun a' w' => Kept w0 w' ∧ K a' w') a w else wpOpIn Fence.wide m P ops Q i K a w
def AnyF (md : Region.Mode) (n m : Nat) : Nat → Array Bool → Act → World → Prop
  | 0, L, a, w => Region.ready md ops L = [] ∧ Q .normal a w
  | fuel + 1, L, a, w => (Region.ready md ops L = [] → Q .normal a w) ∧ ∀ i ∈ Region.ready md ops L, stepF P ops Q w0 n m i (AnyF md n m fuel (L.setIfInBounds i true)) a w
/-- What is left is walked in the fence. -/
def QTail (m : Nat) (l : List Nat) : Exit → Act → World → Prop := fun e a w => e = .normal ∧ wpOpsIn Fence.wide m P ops Q l a w
def planOkF (md : Region.Mode) (n : Nat) (l : List Nat) : Plan → Nat → Array Bool → List Nat → Bool
  | .fl i k, fuel, L, done => match fuel with
    | 0 => false
    | f + 1 => done.isEmpty && decide (i < n) && (Region.ready md ops L).contains i && Region.free md ops L i && planOkF md n l k f (L.setIfInBounds i true) []
  | .eff i k, fuel, L, done => match fuel with
    | 0 => false
    | f + 1 => decide (i < n) && (Region.ready md ops L).contains i && (Region.ready md ops L).all (fun j => j == i || done.contains j) && planOkF md n l k f (L.setIfInBounds i true) []
  | .alt i k r, fuel, L, done => match fuel with
    | 0 => false
    | f + 1 => decide (i < n) && (Region.ready md ops L).contains i && planOkF md n l k f (L.setIfInBounds i true) [] && planOkF md n l r (f + 1) L (i :: done)
  | .tail l', fuel, L, done => l'.isEmpty && done.isEmpty && chainOk ops md n l fuel L
end
section
variable {P : Program} {ops : Array Oper} {Q : Exit → Act → World → Prop} {w0 : World} {md : Region.Mode} {n m : Nat}
theorem rowsIn_w {row : String} {args : Array Value} {w : World} {R : Value → World → Prop} (h : Rows P row args w R) : RowsIn Fence.wide m P row args w R := fun c cs _ => by
  obtain ⟨v, w', h1, h2⟩ := h c cs
  exact ⟨v, w', h1, stepsIn_wide.2 h2⟩
theorem opWide {o : Oper} {a : Act} {w : World} {K : Act → World → Prop} (h : o.wp P a w K Q) : o.wpIn Fence.wide m P a w K Q := by
  refine ⟨fun _ _ => trivial, ?_⟩
  unfold Oper.wp at h
  show o.uponIn Fence.wide m P a K Q ((execOp a.eval o).run P w)
  generalize (execOp a.eval o).run P w = res at *
  cases res with
  | ok x w' =>
    cases x with
    | enter f args =>
      refine ⟨fun hh => absurd hh (by simp [Fence.wide]), callsIn_wide.2 (Calls.mono h fun e w'' he => ?_)⟩
      cases e <;> exact he
    | row s args => exact ⟨fun hh => absurd hh (by simp [Fence.wide]), rowsIn_w h⟩
    | _ => first | exact h | exact h.elim
  | halt x w' => cases x <;> exact h
theorem wpOpF_noQ {i : Nat} {K K' : Act → World → Prop} {a : Act} {w : World} (h : ∀ a w, K a w → K' a w) (hh : wpOp P ops NoQ i K a w) : wpOpIn Fence.wide m P ops Q i K' a w := by
  have h1 := wpOp_mono h hh
  unfold wpOp at h1
  unfold wpOpIn
  cases ho : ops[i]? with
  | none => simp only [ho] at h1 ⊢; exact h1
  | some o =>
    simp only [ho] at h1 ⊢
    split
    · rename_i hw
      simp only [hw, if_true] at h1
      rcases h1 with h1 | ⟨_, _, _, h1⟩
      · exact opWide (wp_noQ h1)
      · exact h1.elim
    · rename_i hw
      simp only [hw] at h1
      exact ⟨fun _ _ => trivial, h1⟩
theorem anyIn_of_anyF : ∀ (fuel : Nat) (L : Array Bool) (a : Act) (w : World), AnyF P ops Q w0 md n m fuel L a w → wpAnyIn Fence.wide m P md ops Q fuel L a w
  | 0, _, _, _, h => h
  | fuel + 1, L, a, w, h => ⟨h.1, fun i hi => by
      have h1 := h.2 i hi
      unfold stepF at h1
      split at h1
      · exact wpOpF_noQ (fun a w hk => anyIn_of_anyF fuel _ a w hk.2) h1
      · exact wpOpIn_mono (fun a w hk => anyIn_of_anyF fuel _ a w hk) h1⟩
theorem anyF_first {i : Nat} {oi : Oper} {v : Value} (hi : ops[i]? = some oi) (hin : i < n) (hsel : ∀ (j : Nat) (o : Oper) cs b, ops[j]? = some o → o.op ≠ .select cs b)
    (htail : tailOk ops md n = true) :
    ∀ (fuel : Nat) (L : Array Bool) (a : Act) (w : World), Closed ops md L →
      (∀ j oj, ops[j]? = some oj → j ≠ i → L.getD j true = false → (∀ e ∈ oj.after, Region.binds md e = true → e.on ≠ i) → oi.apart ops oj = true) →
      i ∈ Region.ready md ops L → YieldsIf P ops (Kept w0) oi v a → Kept w0 w →
      AnyF P ops Q w0 md n m fuel (L.setIfInBounds i true) (a.put oi.dst v) w → AnyF P ops Q w0 md n m (fuel + 1) L a w := by
  intro fuel
  induction fuel with
  | zero =>
    intro L a w _ _ hr hy hS H
    refine ⟨fun h => (by rw [h] at hr; cases hr), fun j hj => ?_⟩
    by_cases hji : j = i
    · subst hji
      unfold stepF
      rw [if_pos hin]
      exact yields_op hi hy hS H
    · have := ready_mono hj hji
      rw [H.1] at this
      cases this
  | succ fuel ih =>
    intro L a w hcl hfree hr hy hS H
    refine ⟨fun h => (by rw [h] at hr; cases hr), fun j hj => ?_⟩
    by_cases hji : j = i
    · subst hji
      unfold stepF
      rw [if_pos hin]
      exact yields_op hi hy hS H
    · have h1 := H.2 j (ready_mono hj hji)
      obtain ⟨hjun, oj, hoj, hall⟩ := mem_ready.1 hj
      have hnot : ∀ e ∈ oj.after, Region.binds md e = true → e.on ≠ i := fun e he hb heq => by
        have h1 := hall e he hb
        have h0 := (mem_ready.1 hr).1
        rw [heq] at h1
        rcases Nat.lt_or_ge i L.size with h' | h'
        · simp [h'] at h0 h1; rw [h0] at h1; cases h1
        · simp [Array.getElem?_eq_none h'] at h1
      have hjn : j < n := by
        rcases Nat.lt_or_ge j n with h' | h'
        · exact h'
        · have hjs : j < ops.size := (Array.getElem?_eq_some_iff.1 hoj).1
          unfold tailOk at htail
          rw [List.all_eq_true] at htail
          have h2 := htail j (List.mem_range.2 hjs)
          have h3 : ¬ j < n := by omega
          simp only [h3, decide_false, Bool.false_or, List.all_eq_true] at h2
          have h4 := waits_listed hcl 8 j i oj hoj hall (h2 i (List.mem_range.2 hin))
          have h0 := (mem_ready.1 hr).1
          rw [getD_both h0] at h4
          cases h4
      unfold stepF at h1 ⊢
      rw [if_pos hjn] at h1 ⊢
      have h2 := wpOp_putIf hoj (hfree j oj hoj hji hjun hnot) (fun cs b => hsel i oi cs b hi) (fun cs b => hsel j oj cs b hoj) (fun _ _ _ h => h) hy h1
      have hfree' : ∀ k ok, ops[k]? = some ok → k ≠ i → (L.setIfInBounds j true).getD k true = false →
          (∀ e ∈ ok.after, Region.binds md e = true → e.on ≠ i) → oi.apart ops ok = true := fun k ok hk hki hun hno => by
        refine hfree k ok hk hki ?_ hno
        by_cases hjk : j = k
        · subst hjk; exact hjun
        · rw [getD_set_ne true hjk] at hun; exact hun
      refine wpOp_mono (fun a' w' h3 => ⟨h3.2.1, ih (L.setIfInBounds j true) a' w' (closed_set hcl hj) hfree' (ready_mono hr (Ne.symm hji)) h3.1 h3.2.1 ?_⟩) h2
      rw [Array.setIfInBounds_comm _ _ hji]
      exact h3.2.2

theorem anyF_done {L : Array Bool} {a : Act} {w : World} (hr : Region.ready md ops L = []) (h : Q .normal a w) : ∀ fuel, AnyF P ops Q w0 md n m fuel L a w
  | 0 => ⟨hr, h⟩
  | _ + 1 => ⟨fun _ => h, by rw [hr]; simp⟩
theorem chain_soundF : ∀ (l : List Nat) (fuel : Nat) (L : Array Bool) (a : Act) (w : World), chainOk ops md n l fuel L = true → wpOpsIn Fence.wide m P ops Q l a w → AnyF P ops Q w0 md n m fuel L a w
  | [], fuel, L, a, w, hc, h => anyF_done (by simpa [chainOk] using hc) h fuel
  | i :: l, 0, L, a, w, hc, h => by simp [chainOk] at hc
  | i :: l, fuel + 1, L, a, w, hc, h => by
    simp only [chainOk, Bool.and_eq_true, decide_eq_true_eq, List.all_eq_true, beq_iff_eq] at hc
    obtain ⟨⟨⟨h1, h2⟩, h3⟩, h4⟩ := hc
    refine ⟨fun h0 => (by rw [h0] at h1; simp at h1), fun j hj => ?_⟩
    obtain rfl := h2 j hj
    unfold stepF
    rw [if_neg (by omega)]
    rw [wpOpsIn_cons] at h
    exact wpOpIn_mono (fun a w hk => chain_soundF l fuel _ a w h4 hk) h
theorem mix_soundF {l : List Nat} (hsel : Region.noSelect ops = true) (htail : tailOk ops md n = true) : ∀ (p : Plan) (fuel : Nat) (L : Array Bool) (done : List Nat) (a : Act) (w : World), Closed ops md L →
    planOkF ops md n l p fuel L done = true → Kept w0 w → wpMix P ops (QTail P ops Q m l) w0 p a w →
    (done = [] → AnyF P ops Q w0 md n m fuel L a w) ∧ ∀ j ∈ Region.ready md ops L, j ∉ done → ∃ f, fuel = f + 1 ∧ stepF P ops Q w0 n m j (AnyF P ops Q w0 md n m f (L.setIfInBounds j true)) a w
  | .tail l', fuel, L, done, a, w, hcl, hok, hS, h => by
    simp only [planOkF, Bool.and_eq_true, List.isEmpty_iff] at hok
    obtain ⟨⟨rfl, rfl⟩, hc⟩ := hok
    have hA := chain_soundF (P := P) (w0 := w0) (m := m) l fuel L a w hc h.2
    refine ⟨fun _ => hA, fun j hj _ => ?_⟩
    cases fuel with
    | zero => rw [hA.1] at hj; cases hj
    | succ f => exact ⟨f, rfl, hA.2 j hj⟩
  | .fl i k, 0, L, done, a, w, hcl, hok, hS, h => by simp [planOkF] at hok
  | .eff i k, 0, L, done, a, w, hcl, hok, hS, h => by simp [planOkF] at hok
  | .alt i k r, 0, L, done, a, w, hcl, hok, hS, h => by simp [planOkF] at hok
  | .fl i k, fuel + 1, L, done, a, w, hcl, hok, hS, h => by
    simp only [planOkF, Bool.and_eq_true, List.isEmpty_iff, decide_eq_true_eq] at hok
    obtain ⟨⟨⟨⟨rfl, hin⟩, hr⟩, hf⟩, hk⟩ := hok
    have hr' : i ∈ Region.ready md ops L := by simpa using hr
    suffices hA : AnyF P ops Q w0 md n m (fuel + 1) L a w by exact ⟨fun _ => hA, fun j hj _ => ⟨fuel, rfl, hA.2 j hj⟩⟩
    cases ho : ops[i]? with
    | none => simp only [wpMix, ho] at h
    | some o =>
      simp only [wpMix, ho] at h
      split at h
      · rename_i hw
        obtain ⟨v, hy, hK⟩ := early_yields hw h.1 h.2
        exact anyF_first ho hin (Region.noSelect_spec hsel) htail fuel L a w hcl (Region.free_spec ho hf) hr' hy hS ((mix_soundF hsel htail k fuel _ [] _ w (closed_set hcl hr') hk hS hK).1 rfl)
      · rename_i hw
        exact anyF_first ho hin (Region.noSelect_spec hsel) htail fuel L a w hcl (Region.free_spec ho hf) hr' (v := undef) (.inr ⟨by simpa using hw, rfl⟩) hS ((mix_soundF hsel htail k fuel _ [] _ w (closed_set hcl hr') hk hS h).1 rfl)
  | .eff i k, fuel + 1, L, done, a, w, hcl, hok, hS, h => by
    simp only [planOkF, Bool.and_eq_true, decide_eq_true_eq, List.all_eq_true, Bool.or_eq_true, beq_iff_eq] at hok
    obtain ⟨⟨⟨hin, hr⟩, hall⟩, hk⟩ := hok
    have hr' : i ∈ Region.ready md ops L := by simpa using hr
    have hst : stepF P ops Q w0 n m i (AnyF P ops Q w0 md n m fuel (L.setIfInBounds i true)) a w := by
      unfold stepF
      rw [if_pos hin]
      exact wpOp_mono (fun a' w' hh => ⟨hh.1, (mix_soundF hsel htail k fuel _ [] _ w' (closed_set hcl hr') hk hh.1 hh.2).1 rfl⟩) h
    have hone : ∀ j ∈ Region.ready md ops L, j ∉ done → j = i := fun j hj hd => by
      rcases hall j hj with h1 | h1
      · exact h1
      · exact absurd (by simpa using h1) hd
    refine ⟨fun hd => ⟨fun h0 => (by rw [h0] at hr'; cases hr'), fun j hj => ?_⟩, fun j hj hd => ⟨fuel, rfl, ?_⟩⟩
    · obtain rfl := hone j hj (by rw [hd]; simp)
      exact hst
    · obtain rfl := hone j hj hd
      exact hst
  | .alt i k r, fuel + 1, L, done, a, w, hcl, hok, hS, h => by
    simp only [planOkF, Bool.and_eq_true, decide_eq_true_eq] at hok
    obtain ⟨⟨⟨hin, hr⟩, hk⟩, hrest⟩ := hok
    have hr' : i ∈ Region.ready md ops L := by simpa using hr
    have hst : stepF P ops Q w0 n m i (AnyF P ops Q w0 md n m fuel (L.setIfInBounds i true)) a w := by
      unfold stepF
      rw [if_pos hin]
      exact wpOp_mono (fun a' w' hh => ⟨hh.1, (mix_soundF hsel htail k fuel _ [] _ w' (closed_set hcl hr') hk hh.1 hh.2).1 rfl⟩) h.1
    have hR := (mix_soundF hsel htail r (fuel + 1) L (i :: done) a w hcl hrest hS h.2).2
    have hall : ∀ j ∈ Region.ready md ops L, j ∉ done → stepF P ops Q w0 n m j (AnyF P ops Q w0 md n m fuel (L.setIfInBounds j true)) a w := fun j hj hd => by
      by_cases hji : j = i
      · subst hji; exact hst
      · obtain ⟨f, hf, hh⟩ := hR j hj (by simp [hji, hd])
        obtain rfl : fuel = f := by omega
        exact hh
    exact ⟨fun hd => ⟨fun h0 => (by rw [h0] at hr'; cases hr'), fun j hj => hall j hj (by rw [hd]; simp)⟩, fun j hj hd => ⟨fuel, rfl, hall j hj hd⟩⟩


theorem wpIn_region_tail {id : Nat} {a : Act} {w : World} {l : List Oper} (n : Nat) (p : Plan) (tl : List Nat) (hm : P.follows .mixedOrders = true)
    (hB : (Region.noSelect l.toArray && tailOk l.toArray .any n && planOkF l.toArray .any n tl p l.toArray.size (Array.replicate l.toArray.size false) []) = true)
    (h : WpMix P l.toArray (QTail P l.toArray Q m tl) w.drew p a w.drew) : (Code.region id l.toArray true).wpIn Fence.wide m P Q a w := by
  simp only [Bool.and_eq_true] at hB
  obtain ⟨⟨h1, h2⟩, h3⟩ := hB
  exact wpIn_region_any hm (anyIn_of_anyF _ _ _ _ ((mix_soundF h1 h2 p _ _ [] a _ (closed_start _) h3 (Kept.refl _) h.out).1 rfl))
/-- One operation of what is left. -/
theorem tail_in {i : Nat} {l : List Nat} {dst : Option Tmp} {op : Op} {ty : TypeId} {pos : String} {after : Array Edge} {a : Act} {w : World} (hi : ops[i]? = some ⟨dst, op, ty, pos, after, none⟩)
    (h : ∀ K : Act → World → Prop, (∀ a' w', wpOpsIn Fence.wide m P ops Q l a' w' → K a' w') → Oper.wpIn Fence.wide m P ⟨dst, op, ty, pos, after, none⟩ a w K Q) : wpOpsIn Fence.wide m P ops Q (i :: l) a w := by
  rw [wpOpsIn_cons]
  unfold wpOpIn
  simp only [hi, wanted_none, if_true]
  exact h _ fun _ _ hh => hh
/-- A region in its order, walked plainly within a round. -/
theorem opsIn_plain {r : Nat} (hd : ∀ (i : Nat) (o : Oper), ops[i]? = some o → ∀ c, o.op ≠ .defer c) (hQ : ∀ a w, ¬ Q .outgrown a w) : ∀ (l : List Nat) (a : Act) (w : World), wpOps P ops Q l a w → wpOpsIn (Fence.wide.inRound r) m P ops Q l a w
  | [], _, _, h => h
  | i :: l, a, w, h => by
    rw [wpOps_cons] at h
    rw [wpOpsIn_cons]
    exact wpOpIn_of hd hQ (wpOp_mono (fun a w hk => opsIn_plain hd hQ l a w hk) h)
theorem wpIn_region_plain {id r : Nat} {a : Act} {w : World} {l : List Oper} (h0 : noDefer l = true) (hQ : ∀ a w, ¬ Q .outgrown a w)
    (h : wpList P l.toArray Q l a w) : (Code.region id l.toArray false).wpIn (Fence.wide.inRound r) m P Q a w := by
  refine wpIn_region (opsIn_plain (noDefer_ops h0) hQ _ _ _ ?_)
  rw [List.range_eq_range', show l.toArray.size = l.length by simp, wpOps_eq_wpList l 0 (by simp)]
  exact h
/-- A region that draws its order, walked by a plan within a round, compared with an older world. -/
theorem wpIn_region_mix_at {id r : Nat} {a : Act} {w : World} {l : List Oper} (w0 : World) (hk : Kept w0 w) (n : Nat) (p : Plan) (hm : P.follows .mixedOrders = true)
    (hB : (noDefer l && (Region.noSelect l.toArray && tailOk l.toArray .any n && planOk l.toArray .any n p l.toArray.size (Array.replicate l.toArray.size false) [])) = true) (hQ : ∀ a w, ¬ Q .outgrown a w)
    (h : WpMix P l.toArray Q w0 p a w.drew) : (Code.region id l.toArray true).wpIn (Fence.wide.inRound r) m P Q a w := by
  simp only [Bool.and_eq_true] at hB
  obtain ⟨h0, ⟨h1, h2⟩, h3⟩ := hB
  have hk' : Kept w0 w.drew := ⟨hk.size, hk.block⟩
  exact wpIn_region_any hm (anyIn (noDefer_ops h0) hQ _ _ _ _ (any_of_anyT _ _ _ _ ((mix_sound h1 h2 p _ _ [] a _ (closed_start _) h3 hk' h.out).1 rfl)))
end
end Go.Calmly

namespace Go.Calmly
section
variable {P : Program} {ops : Array Oper} {Q : Exit → Act → World → Prop} {w0 : World}
theorem wanted_un {o : Oper} {g d : Nat} {want : Bool} {a : Act} (hg : o.guard = some (g, want)) (hd : (ops[g]?).bind (·.dst) = some d) (hv : a.tmps[d]? = some undef) :
    Region.wanted o (yielded ops a.tmps) = false := by
  simp only [Region.wanted, hg, yielded, hd, Option.bind_some, hv]
  cases want <;> rfl
theorem mix_glu {i : Nat} {k : Plan} {dst : Option Tmp} {op : Op} {ty : TypeId} {pos : String} {after : Array Edge} {a : Act} {w : World} {g d : Nat} {want : Bool} (hi : ops[i]? = some ⟨dst, op, ty, pos, after, some (g, want)⟩) (hd : (ops[g]?).bind (·.dst) = some d) (hv : a.tmps[d]? = some undef)
    (h : ∀ K : Act → World → Prop, (∀ a', WpMix P ops Q w0 k a' w → K a' w0) → Oper.wp P ⟨dst, .assign (.const undef), ty, pos, after, none⟩ a w0 K NoQ) : WpMix P ops Q w0 (.gl i k) a w := by
  refine ⟨?_⟩
  have hw := wanted_un (o := ⟨dst, op, ty, pos, after, some (g, want)⟩) rfl hd hv
  simp only [Plan.gl, wpMix, hi, hw, Bool.false_eq_true, if_false]
  exact h (fun a' _ => wpMix P ops Q w0 k a' w) (fun _ hh => hh.out)
theorem mix_gfu {i : Nat} {k : Plan} {dst : Option Tmp} {op : Op} {ty : TypeId} {pos : String} {after : Array Edge} {a : Act} {w : World} {g d : Nat} {want : Bool} (hi : ops[i]? = some ⟨dst, op, ty, pos, after, some (g, want)⟩) (hd : (ops[g]?).bind (·.dst) = some d) (hv : a.tmps[d]? = some undef) (hk : Kept w0 w)
    (h : ∀ K : Act → World → Prop, (∀ a', WpMix P ops Q w0 k a' w → K a' w) → Oper.wp P ⟨dst, .assign (.const undef), ty, pos, after, none⟩ a w K NoQ) : WpMix P ops Q w0 (.gf i k) a w := by
  refine ⟨?_⟩
  show wpOp P ops NoQ i (fun a' w' => Kept w0 w' ∧ wpMix P ops Q w0 k a' w') a w
  exact op_off (K := fun a' w' => Kept w0 w' ∧ wpMix P ops Q w0 k a' w') hi (wanted_un rfl hd hv) ⟨hk, h (fun a' _ => wpMix P ops Q w0 k a' w) (fun _ hh => hh.out)⟩
end
end Go.Calmly
