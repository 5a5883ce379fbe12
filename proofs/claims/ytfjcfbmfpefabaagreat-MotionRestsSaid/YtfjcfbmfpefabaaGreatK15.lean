/- A range over a function whose body is never left early, and may rely on something of each value it is handed. Chapter 2: what a loop over all lists of times keeps, and rows that are grown anew. Contracts of chapter 2: responses, spectra, and where samples are outside of a band. Contracts of chapter 2: samples with waves added, and sums of sizes. -/
import Derived.Test.YtfjcfbmfpefabaaGreatK14
import Derived.ArgAppend
namespace Go
open Go.RowKit Go.Shelf

/-- Every round goes on. -/
def OnOnP {α : Type} (P : Program) (gf : Nat) (lb : Array Value) (enc : α → Array Value) (Kp : World → World → Prop) (Px : α → World → Prop) (S : List α → Prop) (m : Nat) (w : World) : Prop :=
  ∀ (l : Nat) (J : List α → World → Prop) (W : World), Below w.heap.size w W → AbidesFrom W.heap.size J →
    (∀ pre x W1, J pre W1 → Px x W1 → YieldAt Fence.wide m P l (enc x) W1 fun e W' => e = .returned (.bool true) ∧ J (pre ++ [x]) W' ∧ Kp W1 W') →
    J [] W → Calls P gf (#[.func (.yield l) #[] #[]] ++ lb) W fun e W' => (∃ v, e = .returned v) ∧ ∃ xs, S xs ∧ J xs W'

theorem range_midP {P : Program} {n : Nat} {α : Type} {g : Operand} {ps : Array Tmp} {assign body : Code} {Q : Exit → Act → World → Prop} {a : Act} {w : World} {gf : Nat} {lb : Array Value}
    (hg : a.eval g = .func (.func gf) #[] lb) (eg : ∀ args w, (callFunc gf args).run P w = .ok (.enter gf args) w)
    {enc : α → Array Value} {Kp : World → World → Prop} {Px : α → World → Prop} {S : List α → Prop} {m : Nat} (hseq : OnOnP P gf lb enc Kp Px S m w)
    (hKt : ∀ {A B C : World}, Kp A B → Kp B C → Kp A C) (hKb : ∀ (W : World) (l : Nat) (o o' : Obj), w.heap.size ≤ l → W.heap[l]? = some o → o.isCells = false → Kp W (W.putObj l o')) (hps : ∀ x, (enc x).size = ps.size)
    (I : List α → World → Prop) (hI : OwnFrom w.heap.size I) (h0 : I [] w) (Mid : List α → α → Act → World → Prop) (hM : ∀ pre x a', OwnFrom w.heap.size (fun (_ : Unit) W => Mid pre x a' W))
    (hassign : ∀ (l : Nat) (pre : List α) (x : α) (W : World) (K : Act → World → Prop), I pre W → Px x W → (∀ a' W', KeepsOthers W W' → Kp W W' → Mid pre x a' W' → K a' W') →
      assign.wpIn (Fence.wide.inRound l) m P (Exit.then K (fun _ _ _ => False)) { tmps := (ps.zip (enc x)).foldl (fun t (p, v) => t.setIfInBounds p v) a.tmps, defers := [] } W)
    (hbody : ∀ (l : Nat) (pre : List α) (x : α) (a' : Act) (W : World), Mid pre x a' W → body.wpIn (Fence.wide.inRound l) m P (fun e _ W' => e = .normal ∧ KeepsOthers W W' ∧ Kp W W' ∧ I (pre ++ [x]) W') a' W)
    (hdone : ∀ (D : Nat) (xs : List α) (W : World), w.heap.size ≤ D → S xs → I xs W → W.heap[D]? = some (.deferred (some [])) → Q .normal { a with defers := { target := .collected D, args := #[] } :: a.defers } W) :
    (Code.rangeFunc g ps assign body).wpIn Fence.wide n P Q a w := by
  refine wpIn_rangeFunc fun fn hfn => ?_
  obtain ⟨rec, hrec⟩ : ∃ rec : LoopState → Loop, rec = fun st => { state := st, pending := none, fn, tmps := a.tmps, params := ps, assign, body, defers := w.heap.size } := ⟨_, rfl⟩
  obtain ⟨W1, hW1⟩ : ∃ W1, (w.alloc (.deferred (some []))).alloc (.loop (rec .ready)) = W1 := ⟨_, rfl⟩
  have hL : W1.heap[w.heap.size + 1]? = some (.loop (rec .ready)) := by
    have := Go.Proofs.YtfjcfbmfpefabaaGreat.alloc_new (w.alloc (.deferred (some []))) (.loop (rec .ready))
    rw [← hW1]
    simpa using this
  have hD : W1.heap[w.heap.size]? = some (.deferred (some [])) := by
    rw [← hW1, Below.heap_alloc _ _ _ (by simp)]
    exact Go.Proofs.YtfjcfbmfpefabaaGreat.alloc_new w _
  have hb1 : Below w.heap.size w W1 := by
    rw [← hW1]
    exact ((Below.refl _ w).alloc (Nat.le_refl _) _).alloc (by simp) _
  have hI1 : I [] W1 := by
    rw [← hW1]
    exact hI.alloc _ (hI.alloc _ h0)
  have hs1 : W1.heap.size = w.heap.size + 2 := by rw [← hW1]; simp
  refine ⟨w.heap.size + 1, [{ target := .collected w.heap.size, args := #[] }], W1, { target := .fn (.func gf) lb, args := #[.func (.yield (w.heap.size + 1)) #[] #[]] }, W1, gf, #[.func (.yield (w.heap.size + 1)) #[] #[]] ++ lb, W1, ?_, ?_, fun _ _ => trivial, ?_, fun h => absurd h (by simp [Fence.wide]), ?_⟩
  · rw [← hW1, hrec]
    exact run_enterLoop_outer _ _ _ _ _
  · simp only [resolve, hg]
    simp [go_sem]
  · simp [invoke, go_sem, eg]
  · refine callsIn_wide.2 ?_
    refine (hseq (w.heap.size + 1) (fun pre W => (I pre W ∧ W.heap[w.heap.size + 1]? = some (.loop (rec .ready))) ∧ W.heap[w.heap.size]? = some (.deferred (some []))) W1 hb1 ?_ ?_ ⟨⟨hI1, hL⟩, hD⟩).mono ?_
    · -- what the iterator does of its own
      rintro s A B row ⟨⟨hs, hl⟩, hk⟩ hg' hr
      have hne : ∀ j, j < w.heap.size + 2 → some j ≠ row := fun j hj e => by
        have := (hr j e.symm).1
        omega
      refine ⟨⟨hI s A B row hs hg' fun r e => ?_, ?_⟩, ?_⟩
      · obtain ⟨h1, o, h2, h3⟩ := hr r e
        exact ⟨by omega, o, h2, Obj.not_cells_of_walk h3⟩
      · exact (hg'.block _ (Array.getElem?_eq_some_iff.1 hl).1 (hne _ (by omega))).trans hl
      · exact (hg'.block _ (Array.getElem?_eq_some_iff.1 hk).1 (hne _ (by omega))).trans hk
    · -- one round
      rintro pre x W ⟨⟨hi, hl⟩, hk⟩ hpx
      have hy := run_yield (P := P) (args := enc x) hl (by rw [hrec]; exact hps x)
      rw [hrec] at hy
      refine ⟨fn, _, assign, body, hy, roundIn_of_wpIn hfn (hassign _ pre x W _ hi hpx ?_)⟩
      intro a' Wa ha1 ha2 ha3
      have hl1 := ha1.same _ _ hl rfl
      have hk1 := ha1.same _ _ hk rfl
      have hlt : w.heap.size + 1 < Wa.heap.size := (Array.getElem?_eq_some_iff.1 hl1).1
      refine ⟨_, run_beginRound hl1 (by rw [hrec]), ?_⟩
      have hl2 : (Wa.putObj (w.heap.size + 1) (.loop { rec .ready with state := .busy })).heap[w.heap.size + 1]? = some (.loop { rec .ready with state := .busy }) := World.putObj_heap_same hlt
      have hk2 : (Wa.putObj (w.heap.size + 1) (.loop { rec .ready with state := .busy })).heap[w.heap.size]? = some (.deferred (some [])) := (World.putObj_heap_other (by omega)).trans hk1
      refine wpIn_mono (hbody _ pre x a' _ ((hM pre x a').putObj (s := ()) _ ha3 (by omega) hl1 rfl)) ?_
      rintro e a3 W3 ⟨rfl, hb3, hk3, hi3⟩
      have hl3 := hb3.same _ _ hl2 rfl
      have hr := run_endRound (P := P) none hl3
      rw [hrec] at hr hl3
      refine ⟨_, _, hr, rfl, ⟨⟨hI.putObj _ hi3 (by omega) hl3 rfl, ?_⟩, ?_⟩, ?_⟩
      · rw [hrec]
        exact World.putObj_heap_same (Array.getElem?_eq_some_iff.1 hl3).1
      · exact (World.putObj_heap_other (by omega)).trans (hb3.same _ _ hk2 rfl)
      · exact hKt ha2 (hKt (hKt (hKb _ _ _ _ (by omega) hl1 rfl) hk3) (hKb _ _ _ _ (by omega) hl3 rfl))
    · -- at the end
      rintro e W2 ⟨⟨v, rfl⟩, xs, hS, ⟨hi, hl⟩, hk⟩
      have hr := run_endLoop (P := P) hl (by rw [hrec]; simp)
      rw [hrec] at hr
      exact ⟨none, _, hr, hdone _ xs _ (Nat.le_refl _) hS (hI.putObj _ hi (by omega) hl rfl) ((World.putObj_heap_other (by omega)).trans hk)⟩
end Go

namespace Go.Proofs.YtfjcfbmfpefabaaGreat
open Go.RowKit Go.Shelf
open Calmly (Kept)

/-- All cells are as they were, but for those of some blocks. -/
structure Keeps (L : List Nat) (A B : World) : Prop where
  size : A.heap.size ≤ B.heap.size
  same : ∀ b o, b ∉ L → A.heap[b]? = some o → o.isCells = true → B.heap[b]? = some o
theorem Keeps.refl (L : List Nat) (A : World) : Keeps L A A := ⟨Nat.le_refl _, fun _ _ _ h _ => h⟩
theorem Keeps.trans {L : List Nat} {A B C : World} (h : Keeps L A B) (k : Keeps L B C) : Keeps L A C := ⟨Nat.le_trans h.size k.size, fun b o hb ho hc => k.same b o hb (h.same b o hb ho hc) hc⟩
theorem Keeps.of_below {L : List Nat} {A B : World} (h : Below A.heap.size A B) : Keeps L A B := ⟨h.size, fun b _ _ ho _ => (h.block b (Array.getElem?_eq_some_iff.1 ho).1).trans ho⟩
theorem Keeps.drew {L : List Nat} (A : World) : Keeps L A A.drew := ⟨Nat.le_refl _, fun _ _ _ h _ => h⟩
theorem Keeps.put {L : List Nat} {W : World} {l : Nat} {o : Obj} (o' : Obj) (hl : W.heap[l]? = some o) (ho : o.isCells = false) : Keeps L W (W.putObj l o') := ⟨by simp, fun b ob _ hb hc => by
  refine (World.putObj_heap_other ?_).trans hb
  rintro rfl
  rw [hl] at hb
  cases hb
  rw [ho] at hc
  cases hc⟩
theorem Keeps.setCell {L : List Nat} (W : World) {b : Nat} (o : Nat) (v : Value) (h : b ∈ L) : Keeps L W (W.setCell ⟨b, o, none⟩ v) := ⟨by simp, fun k ob hk hb _ => by
  rw [Below.heap_setCell _ _ _ _ (by rintro rfl; exact hk h)]
  exact hb⟩
theorem cell_blk {w : World} {b o : Nat} {v : Value} (h : w.cell? ⟨b, o, none⟩ = some v) : ∃ cs t z, w.heap[b]? = some (.cells cs t z) := by
  unfold World.cell? at h
  cases hb : w.heap[b]? with
  | none => simp [hb] at h
  | some ob =>
    cases ob <;> simp [hb] at h
    exact ⟨_, _, _, rfl⟩
theorem Keeps.cell {L : List Nat} {A B : World} (h : Keeps L A B) {b o : Nat} {v : Value} (hb : b ∉ L) (hc : A.cell? ⟨b, o, none⟩ = some v) : B.cell? ⟨b, o, none⟩ = some v := by
  obtain ⟨cs, t, z, hh⟩ := cell_blk hc
  rw [World.cell?_of_block ((h.same b _ hb hh rfl).trans hh.symm)]
  exact hc
theorem Keeps.blk {L : List Nat} {A B : World} (h : Keeps L A B) {b : Nat} {cs : Array Value} {t : TypeId} (hb : b ∉ L) (hc : A.heap[b]? = some (.cells cs t)) : B.heap[b]? = some (.cells cs t) := h.same b _ hb hc rfl
theorem Keeps.si {L : List Nat} {A B : World} (h : Keeps L A B) {a : Option Addr} {n c : Nat} {xs : List Int} (hs : SI A a n c xs) (hL : ∀ b o, a = some ⟨b, o, none⟩ → b ∉ L) : SI B a n c xs := by
  obtain ⟨h1, h2, h3, h4⟩ := hs
  refine ⟨h1, h2, h3, ?_⟩
  rcases h4 with h4 | ⟨b, off, ha, hc⟩
  · exact .inl h4
  · refine .inr ⟨b, off, ha, fun i hi => ?_⟩
    have := hc i hi
    have hs : i < (xs.map (Value.int .i64)).length := by omega
    rw [List.getElem?_eq_getElem hs] at this ⊢
    exact h.cell (hL b off ha) this
theorem OwI.keeps {L : List Nat} {A B : World} {B0 : Nat} {a : Option Addr} {n c : Nat} {xs : List Int} (hs : OwI A B0 a n c xs) (h : Keeps L A B) (hL : ∀ b, b ∈ L → b < B0) : OwI B B0 a n c xs := by
  obtain ⟨h1, h2⟩ := hs
  refine ⟨h1, ?_⟩
  rcases h2 with h2 | ⟨g, cap, cur, hv, hg, hh, r⟩
  · exact .inl h2
  · exact .inr ⟨g, cap, cur, hv, hg, h.same g _ (fun hm => by have := hL g hm; omega) hh rfl, r⟩
theorem OwI.ge {A : World} {B0 : Nat} {a : Option Addr} {n c : Nat} {xs : List Int} (hs : OwI A B0 a n c xs) : ∀ b o, a = some ⟨b, o, none⟩ → B0 ≤ b := by
  rintro b o rfl
  obtain ⟨h1, h2⟩ := hs
  rcases h2 with ⟨h2, _⟩ | ⟨g, cap, cur, hv, hg, r⟩
  · cases h2
  · cases hv
    exact hg

/-- 'append' to a slice that is full: a row of its own, whatever the slice was. -/
theorem appG {ops : Array Oper} {rest : List Oper} {o : Oper} {a : Act} {Q : Exit → Act → World → Prop} {w0 : World} {av : Option Addr} {n c : Nat} {xs : List Int} {v : Int} (hgd : o.guard = none) (s x : Operand)
    (ho : o.op = .call { callee := .builtin .append, args := #[s, x], argTypes := #[22, 22] })
    (hsi : SI w0 av n c xs) (hc : c = n) (hs : a.eval s = .slice av n c) (hx : a.eval x = .slice (some ⟨w0.heap.size, 0, none⟩) 1 1) (hb1 : n + 1 ≤ 17592186044416)
    (h : ∀ a' c' w', OwI w' w0.heap.size a' (n + 1) c' (xs ++ [v]) → Below w0.heap.size w0 w' → w0.heap.size < w'.heap.size → wpList Tryz.prog ops Q rest (a.put o.dst (.slice a' (n + 1) c')) w') :
    wpList Tryz.prog ops Q (o :: rest) a (w0.alloc (.cells #[.int .i64 v] 3)) := by
  obtain ⟨i0, hi, hz0, hz1, hz2⟩ := info_parts Tryz.info_int
  have hb : Below w0.heap.size w0 (w0.alloc (.cells #[.int .i64 v] 3)) := (Below.refl _ _).alloc (Nat.le_refl _) _
  have hsi' := hsi.keep hb
  refine wpList_append_grows _ hgd s x _ ho _ i0 (.int .i64 0) 1 8 Tryz.underlying22 hi hz0 hz1 hz2 rfl (by decide) av n c (xs.map (Value.int .i64)) hs ?_ ?_ ?_ ⟨w0.heap.size, 0, none⟩ 1 1 [Value.int .i64 v] hx rfl (cells_new w0 _ _) (by simp [Value.oneCell']) (by omega) (by unfold maxLen; omega) (by omega) ?_
  · rintro rfl
    exact ⟨hsi.none_.1, hsi.none_.2.1⟩
  · have := hsi.len
    simp
    omega
  · rintro b rfl j u hj
    have hjl : j < (xs.map (Value.int .i64)).length := (List.getElem?_eq_some_iff.1 hj).1
    obtain ⟨h1, _, _, h4⟩ := hsi'
    rcases h4 with h4 | ⟨b', off, hb', hcell⟩
    · have : (xs.map (Value.int .i64)).length = 0 := by omega
      omega
    · cases hb'
      rw [Addr.add_lit, hcell j (by omega)]
      exact hj
  · intro v' w1 ho1 hg
    obtain ⟨a', c', rfl⟩ := owns_slice ho1
    have hsz := hg.size
    refine h a' c' w1 ?_ (hb.trans (grown_below hg (by simp) (fun k hk => by cases hk))) (by simp at hsz; omega)
    have ho2 : w1.ownsRow w0.heap.size 3 1 (.slice a' (n + 1) c') (n + 1) ((xs ++ [v]).map (Value.int .i64)) := by
      obtain ⟨k1, k2⟩ := ho1
      refine ⟨by simpa using k1, ?_⟩
      rcases k2 with k2 | ⟨g, cap, cur, hv, hg', r⟩
      · exact .inl k2
      · exact .inr ⟨g, cap, cur, hv, by simp at hg'; omega, by simpa using r⟩
    exact ho2
end Go.Proofs.YtfjcfbmfpefabaaGreat

namespace Go.Proofs.YtfjcfbmfpefabaaGreat
open Go.RowKit
open Calmly (Kept)

theorem tdiv_bd {X C : Int} (h1 : -C ≤ X) (h2 : X ≤ C) : -C ≤ X.tdiv 1000 ∧ X.tdiv 1000 ≤ C := by
  have h : (X.tdiv 1000).natAbs ≤ X.natAbs := by
    rw [Int.natAbs_tdiv]
    exact Nat.div_le_self _ _
  omega
/-- How great the numbers of a response are. -/
theorem rspT_num {xs : List Int} {st dm : Int} (ho : oscE (st, dm) = 0) (hx : ∀ j : Nat, -1000 ≤ xs[j]?.getD 0 ∧ xs[j]?.getD 0 ≤ 1000) (k : Nat) (hk : k ≤ 26) :
    (-10000000000000 ≤ (rspT xs st dm k).1 ∧ (rspT xs st dm k).1 ≤ 10000000000000) ∧ (-10000000000000 ≤ (rspT xs st dm k).2 ∧ (rspT xs st dm k).2 ≤ 10000000000000) := by
  obtain ⟨h1, h2⟩ := oscE_ok ho
  have h3 := rspT_bd (xs := xs) (st := st) (dm := dm) h1 h2 hx k
  have h4 := rspB_mono (j := k) (k := 26) hk
  have h5 := rspB_pos k
  have h6 := rspB_num.2
  omega
theorem rsp_nums {st dm u v x : Int} (ho : oscE (st, dm) = 0) (hu : -10000000000000 ≤ u ∧ u ≤ 10000000000000) (hv : -10000000000000 ≤ v ∧ v ≤ 10000000000000) (hx : -1000 ≤ x ∧ x ≤ 1000) :
    (-30000000000000000 ≤ st * u ∧ st * u ≤ 30000000000000000) ∧ (-10000000000000000 ≤ dm * (u - v) ∧ dm * (u - v) ≤ 10000000000000000) ∧ (-40000000000000000 ≤ (st * u + dm * (u - v)).tdiv 1000 ∧ (st * u + dm * (u - v)).tdiv 1000 ≤ 40000000000000000) := by
  obtain ⟨h1, h2⟩ := oscE_ok ho
  obtain ⟨p1, p2, _⟩ := rsp_step (st := st) (dm := dm) (a := u) (b := v) (x := x) (A := 10000000000000) (B := 10000000000000) h1 h2 hx hu hv
  have p3 := tdiv_bd (X := st * u + dm * (u - v)) (C := 40000000000000000) (by omega) (by omega)
  exact ⟨by omega, by omega, p3⟩

set_option maxRecDepth 100000 in
set_option maxHeartbeats 1000000 in
theorem response_any (a : Option Addr) (n c : Nat) (xs : List Int) (st dm : Int) (w : World) (h1 : SI w a n c xs) (hn : n ≤ 26) (ho : oscE (st, dm) = 0) (hb : ∀ j : Nat, -1000 ≤ xs[j]?.getD 0 ∧ xs[j]?.getD 0 ≤ 1000) :
    Calls Tryz.prog 51 #[.slice a n c, .agg #[.int .i64 st, .int .i64 dm]] w fun e w' => ∃ a' c', e = .returned (.slice a' n c') ∧ OwI w' (w.heap.size + 1) a' n c' (rspTo xs st dm n) ∧ Below w.heap.size w w' := by
  have m1 := h1.max
  have c1 := h1.cap
  have HO := Lib.hid ho
  have HB := Lib.hid hb
  clear ho hb
  have hA : Below w.heap.size w (w.alloc (.cells #[.int .i64 st, .int .i64 dm] 52)) := (Below.refl _ _).alloc (Nat.le_refl _) _
  have x1 := alloc_new w (.cells #[.int .i64 st, .int .i64 dm] 52)
  go_enter Tryz.func51, Tryz.ntmps51
  go_wp2_with fail
  obtain ⟨V, hV⟩ : ∃ V, w.alloc (.cells #[.int .i64 st, .int .i64 dm] 52) = V := ⟨_, rfl⟩
  have hVs : V.heap.size = w.heap.size + 1 := by rw [← hV]; simp
  rw [hV] at hA x1 ⊢
  clear hV
  go_loopw [5, 6, 7, 13] (fun o l s i wr => ∃ (k c' : Nat) (a' : Option Addr), i = .int .i64 (k : Int) ∧ k ≤ n ∧ l = .int .i64 (rspT xs st dm k).1 ∧ s = .int .i64 (rspT xs st dm k).2 ∧ o = .slice a' k c' ∧ OwI wr (w.heap.size + 1) a' k c' (rspTo xs st dm k) ∧ Below V.heap.size V wr) (fun _ _ _ i _ => n - (intOf i).toNat)
  case atStart => exact ⟨0, 0, none, rfl, by omega, rfl, rfl, rfl, OwI.nil _ _, Below.refl _ _⟩
  case round =>
    obtain ⟨k, c', a', rfl, hk, rfl, rfl, rfl, hown, hbr⟩ := hrel
    have hs := hbr.size
    have hbw := hA.trans (hbr.mono hA.size)
    have x2 := blk_keep x1 hbr
    have f0 := cell_block x2 0
    have f1 := cell_block x2 1
    by_cases hlt : k < n
    · obtain ⟨ba, oa, rfl, hca⟩ := (h1.keep hbw).at_ (by omega)
      have ea := hca k hlt
      have hx := HB.out k
      obtain ⟨b1, b2⟩ := rspT_num HO.out HB.out k (by omega)
      have hn1 : rspT xs st dm (k + 1) = (2 * (rspT xs st dm k).1 - (rspT xs st dm k).2 - (st * (rspT xs st dm k).1 + dm * ((rspT xs st dm k).1 - (rspT xs st dm k).2)).tdiv 1000 - xs[k]?.getD 0, (rspT xs st dm k).1) := rfl
      have hn2 := rspTo_succ xs st dm k
      obtain ⟨x, hxx⟩ : ∃ x, xs[k]?.getD 0 = x := ⟨_, rfl⟩
      obtain ⟨p, hpp⟩ : ∃ p, rspT xs st dm k = p := ⟨_, rfl⟩
      obtain ⟨u, v⟩ := p
      rw [hxx] at ea hx hn1
      rw [hpp] at b1 b2 hn1 ⊢
      dsimp only at b1 b2 hn1 ⊢
      obtain ⟨⟨g1, g2⟩, ⟨g3, g4⟩, g5, g6⟩ := rsp_nums HO.out b1 b2 hx
      rw [hn1] at hn2
      have HN1 := Lib.hid hn1
      have HN2 := Lib.hid hn2
      clear hca hn1 hn2 hxx hpp
      obtain ⟨hx1, hx2⟩ := hx
      obtain ⟨b1, b1'⟩ := b1
      obtain ⟨b2, b2'⟩ := b2
      have hi : (k : Int) < (n : Int) := by omega
      have hi0 : (0 : Int) ≤ (k : Int) := by omega
      go_wp2_with (first | (at_builtin; refine appI rfl _ _ rfl hown rfl rfl (by omega) (by omega) ?_; intro a2' c2' w5 ho5 hb5 hs5))
      go_roundw
      case rel => exact ⟨k + 1, c2', a2', by go_num, by omega, by rw [HN1.out], by rw [HN1.out], rfl, by rw [HN2.out]; exact ho5, hbr.trans (hb5.mono (by omega))⟩
      case measure => simp [intOf]; omega
    · have hle : (n : Int) ≤ (k : Int) := by omega
      obtain rfl : n = k := by omega
      go_wp2_with fail
      go_ret
      exact ⟨a', c', rfl, hown, hbw⟩

set_option maxRecDepth 100000 in
set_option maxHeartbeats 1000000 in
theorem ResponseOf_any (step st dm : Int) (a : Option Addr) (n c : Nat) (xs : List Int) (w : World) (h1 : SI w a n c xs) (E : Int) (X : List Int) (hE : firstE [(recF step xs).2, oscE (st, dm)] = E) (hno : E ≠ 0 → X = []) (hok : E = 0 → X = rspTo xs st dm n) :
    Calls Tryz.prog 17 #[.agg #[.int .i64 step, .slice a n c], .agg #[.int .i64 st, .int .i64 dm]] w fun e w' => ∃ a' n' c', e = .returned (.tuple #[.slice a' n' c', .int .i64 E]) ∧ SI w' a' n' c' X ∧ Below w.heap.size w w' := by
  have hb2 : Below w.heap.size w ((w.alloc (.cells #[.int .i64 step, .slice a n c] 24)).alloc (.cells #[.int .i64 st, .int .i64 dm] 52)) := ((Below.refl _ _).alloc (Nat.le_refl _) _).alloc (by simp) _
  obtain ⟨l1, l2⟩ : n ≤ xs.length ∧ xs.length ≤ n := by have := h1.len; omega
  have m1 := h1.max
  have c1 := h1.cap
  obtain ⟨F, hF⟩ : ∃ F, (recF step xs).2 = F := ⟨_, rfl⟩
  rw [hF] at hE
  have HE := Lib.hid hE
  have HF := Lib.hid hF
  have HNO := Lib.hid hno
  have HOK := Lib.hid hok
  clear hE hF hno hok
  have x1 := box1 (w := w) (o := .cells #[.int .i64 step, .slice a n c] 24) (W := w.alloc (.cells #[.int .i64 step, .slice a n c] 24)) (Below.alloc (Below.refl _ _) (Nat.le_refl _) (.cells #[.int .i64 st, .int .i64 dm] 52))
  have x2 := alloc_new (w.alloc (.cells #[.int .i64 step, .slice a n c] 24)) (.cells #[.int .i64 st, .int .i64 dm] 52)
  simp only [World.size_alloc] at x2
  go_enter Tryz.func17, Tryz.ntmps17
  go_wp2_with fail
  refine Calmly.wp_region_mix 6 (.fl 0 <| .fl 2 <| .eff 1 <| .eff 3 <| .eff 4 <| .eff 5 <| .tail [6]) (by kernel_rfl) (by kernel_rfl) ?_
  have BW := hb2.drew
  replace x1 := blk_keep x1 (Below.refl _ _).drew
  replace x2 := blk_keep x2 (Below.refl _ _).drew
  generalize World.drew _ = V at x1 x2 BW ⊢
  have f0 := cell_block x1 0
  have f1 := cell_block x1 1
  have f2 := cell_block x2 0
  have f3 := cell_block x2 1
  have hk := Below.refl V.heap.size V
  go_wp2_with (first | ((with_reducible refine Calmly.is_fl ?_); refine Calmly.mix_fl rfl ?_ (fun _ _ => ?_); (first | exact .move _ | exact .load _ _ | exact .fieldAddr _ _ _ (by kernel_rfl) | exact .assign _ | exact .binOp _ _ _ _ _ rfl | exact .indexAddr _ _ _ | exact .len _ _ (by kernel_rfl) | exact .field _ _ _ | exact .extract _ _ | exact .pick _ _ _ | exact .build _ _ | exact .slice _ _ _ _ _ | exact .unOp _ _ _ rfl | exact .index _ _ _ | exact .max _ _ _ rfl rfl | exact .min _ _ _ rfl rfl)) | ((with_reducible refine Calmly.is_gl ?_); refine Calmly.mix_gl rfl rfl rfl ?_; first | ((first | with_reducible refine Calmly.gl_tt ?_ (fun _ _ => ?_) | with_reducible refine Calmly.gl_ff ?_ (fun _ _ => ?_)); (first | exact .move _ | exact .load _ _ | exact .fieldAddr _ _ _ (by kernel_rfl) | exact .assign _ | exact .binOp _ _ _ _ _ rfl | exact .indexAddr _ _ _ | exact .len _ _ (by kernel_rfl) | exact .field _ _ _ | exact .extract _ _ | exact .pick _ _ _ | exact .build _ _ | exact .slice _ _ _ _ _ | exact .unOp _ _ _ rfl | exact .index _ _ _ | exact .max _ _ _ rfl rfl | exact .min _ _ _ rfl rfl)) | with_reducible refine Calmly.gl_tf (fun _ _ => ?_) | with_reducible refine Calmly.gl_ft (fun _ _ => ?_)) | ((with_reducible refine Calmly.is_eff ?_); refine Calmly.mix_eff rfl (fun _ _ => ?_)) | ((with_reducible refine Calmly.is_gf ?_); refine Calmly.mix_gf rfl rfl rfl ?_; first | with_reducible refine Calmly.gf_tt (fun _ _ => ?_) | with_reducible refine Calmly.gf_ff (fun _ _ => ?_) | with_reducible refine Calmly.gf_tf (kept_of hk) (fun _ _ => ?_) | with_reducible refine Calmly.gf_ft (kept_of hk) (fun _ _ => ?_)) | ((with_reducible refine Calmly.is_kept ?_); refine ⟨kept_of hk, ?_⟩) | (with_reducible refine Calmly.mix_alt ?_ ?_) | (refine kept_alloc hk (fun hk' hblk hge => ?_); replace hk := hk'; clear hk') | (go_at_call 21; refine (recordErr_any step a n c xs _ (h1.keep BW) F HF.out).mono ?_; rintro e w1 ⟨rfl, hs⟩; replace hk := step_of hk hs) | (go_at_call 50; refine (oscillatorErr_any st dm _).mono ?_; rintro e w1 ⟨rfl, hs⟩; replace hk := step_of hk hs))
  refine (nFirst_any _ 2 2 _ _ (SI.two _ _ _ _ (by simp))).mono ?_
  rintro e w2 ⟨rfl, rfl⟩
  rw [HE.out]
  replace BW := BW.trans (hk.mono BW.size)
  replace x1 := blk_keep x1 hk
  replace x2 := blk_keep x2 hk
  clear f0 f1 f2 f3
  have f0 := cell_block x1 0
  have f1 := cell_block x1 1
  have f2 := cell_block x2 0
  have f3 := cell_block x2 1
  by_cases hz : E = 0
  case neg =>
    obtain rfl := HNO.out hz
    have b1 : (E != 0) = true := by simpa using hz
    clear hz
    go_wp2_with (first | ((with_reducible refine Calmly.is_fl ?_); refine Calmly.mix_fl rfl ?_ (fun _ _ => ?_); (first | exact .move _ | exact .load _ _ | exact .fieldAddr _ _ _ (by kernel_rfl) | exact .assign _ | exact .binOp _ _ _ _ _ rfl | exact .indexAddr _ _ _ | exact .len _ _ (by kernel_rfl) | exact .field _ _ _ | exact .extract _ _ | exact .pick _ _ _ | exact .build _ _ | exact .slice _ _ _ _ _ | exact .unOp _ _ _ rfl | exact .index _ _ _ | exact .max _ _ _ rfl rfl | exact .min _ _ _ rfl rfl)) | ((with_reducible refine Calmly.is_gl ?_); refine Calmly.mix_gl rfl rfl rfl ?_; first | ((first | with_reducible refine Calmly.gl_tt ?_ (fun _ _ => ?_) | with_reducible refine Calmly.gl_ff ?_ (fun _ _ => ?_)); (first | exact .move _ | exact .load _ _ | exact .fieldAddr _ _ _ (by kernel_rfl) | exact .assign _ | exact .binOp _ _ _ _ _ rfl | exact .indexAddr _ _ _ | exact .len _ _ (by kernel_rfl) | exact .field _ _ _ | exact .extract _ _ | exact .pick _ _ _ | exact .build _ _ | exact .slice _ _ _ _ _ | exact .unOp _ _ _ rfl | exact .index _ _ _ | exact .max _ _ _ rfl rfl | exact .min _ _ _ rfl rfl)) | with_reducible refine Calmly.gl_tf (fun _ _ => ?_) | with_reducible refine Calmly.gl_ft (fun _ _ => ?_)) | ((with_reducible refine Calmly.is_eff ?_); refine Calmly.mix_eff rfl (fun _ _ => ?_)) | ((with_reducible refine Calmly.is_gf ?_); refine Calmly.mix_gf rfl rfl rfl ?_; first | with_reducible refine Calmly.gf_tt (fun _ _ => ?_) | with_reducible refine Calmly.gf_ff (fun _ _ => ?_) | with_reducible refine Calmly.gf_tf (kept_of hk) (fun _ _ => ?_) | with_reducible refine Calmly.gf_ft (kept_of hk) (fun _ _ => ?_)) | ((with_reducible refine Calmly.is_tail ?_); first | refine Calmly.mix_tail_nil ?_ | refine Calmly.mix_tail rfl (fun _ _ => ?_)) | ((with_reducible refine Calmly.is_kept ?_); refine ⟨kept_of hk, ?_⟩) | (with_reducible refine Calmly.mix_alt ?_ ?_))
    go_ret2
    exact ⟨none, 0, 0, rfl, Sl.nil _ 1, BW⟩
  subst hz
  obtain rfl := HOK.out rfl
  have hz2 : F = 0 ∧ oscE (st, dm) = 0 := ⟨firstE_all HE.out _ (by simp), firstE_all HE.out _ (by simp)⟩
  obtain ⟨rfl, ho⟩ := hz2
  obtain ⟨q1, q2, q3, q4, q5⟩ := recF_ok HF.out
  have hq : n ≤ 26 := by omega
  have H5 := Lib.hid q5
  have HO := Lib.hid ho
  clear q1 q2 q3 q4 q5 ho
  go_wp2_with (first | ((with_reducible refine Calmly.is_fl ?_); refine Calmly.mix_fl rfl ?_ (fun _ _ => ?_); (first | exact .move _ | exact .load _ _ | exact .fieldAddr _ _ _ (by kernel_rfl) | exact .assign _ | exact .binOp _ _ _ _ _ rfl | exact .indexAddr _ _ _ | exact .len _ _ (by kernel_rfl) | exact .field _ _ _ | exact .extract _ _ | exact .pick _ _ _ | exact .build _ _ | exact .slice _ _ _ _ _ | exact .unOp _ _ _ rfl | exact .index _ _ _ | exact .max _ _ _ rfl rfl | exact .min _ _ _ rfl rfl)) | ((with_reducible refine Calmly.is_gl ?_); refine Calmly.mix_gl rfl rfl rfl ?_; first | ((first | with_reducible refine Calmly.gl_tt ?_ (fun _ _ => ?_) | with_reducible refine Calmly.gl_ff ?_ (fun _ _ => ?_)); (first | exact .move _ | exact .load _ _ | exact .fieldAddr _ _ _ (by kernel_rfl) | exact .assign _ | exact .binOp _ _ _ _ _ rfl | exact .indexAddr _ _ _ | exact .len _ _ (by kernel_rfl) | exact .field _ _ _ | exact .extract _ _ | exact .pick _ _ _ | exact .build _ _ | exact .slice _ _ _ _ _ | exact .unOp _ _ _ rfl | exact .index _ _ _ | exact .max _ _ _ rfl rfl | exact .min _ _ _ rfl rfl)) | with_reducible refine Calmly.gl_tf (fun _ _ => ?_) | with_reducible refine Calmly.gl_ft (fun _ _ => ?_)) | ((with_reducible refine Calmly.is_eff ?_); refine Calmly.mix_eff rfl (fun _ _ => ?_)) | ((with_reducible refine Calmly.is_gf ?_); refine Calmly.mix_gf rfl rfl rfl ?_; first | with_reducible refine Calmly.gf_tt (fun _ _ => ?_) | with_reducible refine Calmly.gf_ff (fun _ _ => ?_) | with_reducible refine Calmly.gf_tf (kept_of hk) (fun _ _ => ?_) | with_reducible refine Calmly.gf_ft (kept_of hk) (fun _ _ => ?_)) | ((with_reducible refine Calmly.is_tail ?_); first | refine Calmly.mix_tail_nil ?_ | refine Calmly.mix_tail rfl (fun _ _ => ?_)) | ((with_reducible refine Calmly.is_kept ?_); refine ⟨kept_of hk, ?_⟩) | (with_reducible refine Calmly.mix_alt ?_ ?_))
  refine (response_any a n c xs st dm _ (h1.keep BW) hq HO.out H5.out).mono ?_
  rintro e w3 ⟨a', c', rfl, o3, hs⟩
  go_wp2_with fail
  go_ret2
  exact ⟨a', n, c', rfl, o3.si, BW.trans (hs.mono BW.size)⟩

set_option maxRecDepth 100000 in
set_option maxHeartbeats 1000000 in
theorem outside_any (a : Option Addr) (n c : Nat) (xs : List Int) (b : Option Addr) (m d : Nat) (l : List Four) (w : World) (h1 : SI w a n c xs) (h2 : SB w b m d l) (hn0 : 0 < n) (hn : n ≤ 26) (hb : ∀ j : Nat, -1000 ≤ xs[j]?.getD 0 ∧ xs[j]?.getD 0 ≤ 1000) (hm : m ≤ 1000) (ho : ∀ k, k < l.length → oscE (l[k]?.getD four0).1 = 0) :
    Calls Tryz.prog 57 #[.slice a n c, .slice b m d] w fun e w' => ∃ a' n' c', e = .returned (.slice a' n' c') ∧ OwI w' w.heap.size a' n' c' (outT xs l m) ∧ Below w.heap.size w w' := by
  obtain ⟨l1, l2⟩ : n ≤ xs.length ∧ xs.length ≤ n := by have := h1.len; omega
  obtain ⟨k1, k2⟩ : m ≤ l.length ∧ l.length ≤ m := by have := h2.len; omega
  have m1 := h1.max
  have c1 := h1.cap
  have m2 := h2.max
  have c2 := h2.cap
  have HB := Lib.hid hb
  have HO := Lib.hid ho
  clear hb ho
  go_enter Tryz.func57, Tryz.ntmps57
  go_wp2_with fail
  go_loopw [5, 10] (fun o i wr => ∃ (k n' c' : Nat) (a' : Option Addr), i = .int .i64 (k : Int) ∧ k ≤ m ∧ o = .slice a' n' c' ∧ n' ≤ k ∧ OwI wr w.heap.size a' n' c' (outT xs l k) ∧ Below w.heap.size w wr) (fun _ i _ => m - (intOf i).toNat)
  case atStart => exact ⟨0, 0, 0, none, rfl, by omega, rfl, by omega, OwI.nil _ _, Below.refl _ _⟩
  case round =>
    obtain ⟨k, n', c', a', rfl, hk, rfl, hnk, hown, hbr⟩ := hrel
    have hrs := hbr.size
    by_cases hlt : k < m
    · obtain ⟨cb, co, rfl, hcc⟩ := (h2.keep hbr).at_ (by omega)
      obtain ⟨y0, y1, y2, y3⟩ := hcc k hlt
      have hoo := HO.out k (by omega)
      have hns := outT_succ xs l k
      obtain ⟨rr, hrr⟩ : ∃ rr, l[k]?.getD four0 = rr := ⟨_, rfl⟩
      obtain ⟨⟨st, dm⟩, ⟨lo, hi⟩⟩ := rr
      rw [hrr] at y0 y1 y2 y3 hoo hns
      dsimp only at y0 y1 y2 y3 hoo
      clear hrr hcc
      obtain ⟨P, hP⟩ : ∃ P, gsT (rspTo xs st dm n) n = P := ⟨_, rfl⟩
      have hob : outB xs ((st, dm), (lo, hi)) = !(wIn P lo hi) := by
        unfold outB pkO
        rw [show xs.length = n by omega, hP]
      rw [hob] at hns
      have hPb : ∀ j : Nat, -9000000000000000000 ≤ (rspTo xs st dm n)[j]?.getD 0 ∧ (rspTo xs st dm n)[j]?.getD 0 ≤ 9000000000000000000 := by
        intro j
        rcases Nat.lt_or_ge j n with hj | hj
        · rw [rspTo_get xs st dm n j hj]
          have := rspT_num hoo HB.out (j + 1) (by omega)
          omega
        · rw [List.getElem?_eq_none (by rw [rspTo_len]; exact hj)]
          simp
      have HP := Lib.hid hP
      have HPB := Lib.hid hPb
      have HOO := Lib.hid hoo
      clear hP hPb hob hoo
      have hi1 : (k : Int) < (m : Int) := by omega
      have hi0 : (0 : Int) ≤ (k : Int) := by omega
      cases hwb : wIn P lo hi
      · have hns2 : outT xs l (k + 1) = outT xs l k ++ [(k : Int)] := by rw [hns, hwb]; rfl
        have HNS := Lib.hid hns2
        have HWB := Lib.hid hwb
        clear hns hns2 hwb
        go_wp2_with fail
        refine Calmly.wp_region_mix 12 (.fl 0 <| .fl 1 <| .fl 2 <| .fl 5 <| .fl 6 <| .fl 7 <| .fl 8 <| .fl 9 <| .fl 10 <| .eff 3 <| .eff 4 <| .eff 11 <| .tail [12]) (by kernel_rfl) (by kernel_rfl) ?_
        have x1 := blk_keep (alloc_new wr (.cells #[.int .i64 st, .int .i64 dm, .int .i64 lo, .int .i64 hi] 105)) (Below.refl _ _).drew
        have BV : Below wr.heap.size wr (wr.alloc (.cells #[.int .i64 st, .int .i64 dm, .int .i64 lo, .int .i64 hi] 105)).drew := ((Below.refl _ _).alloc (Nat.le_refl _) _).drew
        generalize World.drew _ = V at x1 BV ⊢
        have f0 := cell_block x1 0
        have f1 := cell_block x1 1
        have f2 := cell_block x1 2
        have f3 := cell_block x1 3
        have hk := Below.refl V.heap.size V
        go_wp2_with (first | ((with_reducible refine Calmly.is_fl ?_); refine Calmly.mix_fl rfl ?_ (fun _ _ => ?_); (first | exact .move _ | exact .load _ _ | exact .fieldAddr _ _ _ (by kernel_rfl) | exact .assign _ | exact .binOp _ _ _ _ _ rfl | exact .indexAddr _ _ _ | exact .len _ _ (by kernel_rfl) | exact .field _ _ _ | exact .extract _ _ | exact .pick _ _ _ | exact .build _ _ | exact .slice _ _ _ _ _ | exact .unOp _ _ _ rfl | exact .index _ _ _ | exact .max _ _ _ rfl rfl | exact .min _ _ _ rfl rfl)) | ((with_reducible refine Calmly.is_gl ?_); refine Calmly.mix_gl rfl rfl rfl ?_; first | ((first | with_reducible refine Calmly.gl_tt ?_ (fun _ _ => ?_) | with_reducible refine Calmly.gl_ff ?_ (fun _ _ => ?_)); (first | exact .move _ | exact .load _ _ | exact .fieldAddr _ _ _ (by kernel_rfl) | exact .assign _ | exact .binOp _ _ _ _ _ rfl | exact .indexAddr _ _ _ | exact .len _ _ (by kernel_rfl) | exact .field _ _ _ | exact .extract _ _ | exact .pick _ _ _ | exact .build _ _ | exact .slice _ _ _ _ _ | exact .unOp _ _ _ rfl | exact .index _ _ _ | exact .max _ _ _ rfl rfl | exact .min _ _ _ rfl rfl)) | with_reducible refine Calmly.gl_tf (fun _ _ => ?_) | with_reducible refine Calmly.gl_ft (fun _ _ => ?_)) | ((with_reducible refine Calmly.is_eff ?_); refine Calmly.mix_eff rfl (fun _ _ => ?_)) | ((with_reducible refine Calmly.is_gf ?_); refine Calmly.mix_gf rfl rfl rfl ?_; first | with_reducible refine Calmly.gf_tt (fun _ _ => ?_) | with_reducible refine Calmly.gf_ff (fun _ _ => ?_) | with_reducible refine Calmly.gf_tf (kept_of hk) (fun _ _ => ?_) | with_reducible refine Calmly.gf_ft (kept_of hk) (fun _ _ => ?_)) | ((with_reducible refine Calmly.is_tail ?_); first | refine Calmly.mix_tail_nil ?_ | refine Calmly.mix_tail rfl (fun _ _ => ?_)) | ((with_reducible refine Calmly.is_kept ?_); refine ⟨kept_of hk, ?_⟩) | (with_reducible refine Calmly.mix_alt ?_ ?_) | (go_at_call 51; refine (response_any a n c xs st dm _ ((h1.keep hbr).keep BV) hn HOO.out HB.out).mono ?_; rintro e w3 ⟨a3, c3, rfl, o3, hs3⟩; replace hk := step_of hk hs3) | (go_at_call 84; refine (peak_any a3 n c3 _ _ o3.si hn0 HPB.out).mono ?_; rintro e w4 ⟨rfl, rfl⟩; rw [HP.out]) | (go_at_call 60; refine (nWithin_any _ _ _ _).mono ?_; rintro e w5 ⟨rfl, rfl⟩; rw [HWB.out]) | (at_builtin; refine appI rfl _ _ rfl (hown.keep (BV.trans (hk.mono BV.size))) rfl rfl (by omega) (by have := BV.size; have := hk.size; omega) ?_; intro a2' c2' w6 ho6 hb6 hs6))
        go_roundw
        case rel => exact ⟨k + 1, n' + 1, c2', a2', by go_num, by omega, rfl, by omega, by rw [HNS.out]; exact ho6, hbr.trans ((BV.trans (hk.mono BV.size)).mono hrs |>.trans (hb6.mono (by omega)))⟩
        case measure => simp [intOf]; omega
      · have hns2 : outT xs l (k + 1) = outT xs l k := by rw [hns, hwb]; rfl
        have HNS := Lib.hid hns2
        have HWB := Lib.hid hwb
        clear hns hns2 hwb
        go_wp2_with fail
        refine Calmly.wp_region_mix 12 (.fl 0 <| .fl 1 <| .fl 2 <| .fl 5 <| .fl 6 <| .fl 7 <| .fl 8 <| .fl 9 <| .fl 10 <| .eff 3 <| .eff 4 <| .eff 11 <| .tail [12]) (by kernel_rfl) (by kernel_rfl) ?_
        have x1 := blk_keep (alloc_new wr (.cells #[.int .i64 st, .int .i64 dm, .int .i64 lo, .int .i64 hi] 105)) (Below.refl _ _).drew
        have BV : Below wr.heap.size wr (wr.alloc (.cells #[.int .i64 st, .int .i64 dm, .int .i64 lo, .int .i64 hi] 105)).drew := ((Below.refl _ _).alloc (Nat.le_refl _) _).drew
        generalize World.drew _ = V at x1 BV ⊢
        have f0 := cell_block x1 0
        have f1 := cell_block x1 1
        have f2 := cell_block x1 2
        have f3 := cell_block x1 3
        have hk := Below.refl V.heap.size V
        go_wp2_with (first | ((with_reducible refine Calmly.is_fl ?_); refine Calmly.mix_fl rfl ?_ (fun _ _ => ?_); (first | exact .move _ | exact .load _ _ | exact .fieldAddr _ _ _ (by kernel_rfl) | exact .assign _ | exact .binOp _ _ _ _ _ rfl | exact .indexAddr _ _ _ | exact .len _ _ (by kernel_rfl) | exact .field _ _ _ | exact .extract _ _ | exact .pick _ _ _ | exact .build _ _ | exact .slice _ _ _ _ _ | exact .unOp _ _ _ rfl | exact .index _ _ _ | exact .max _ _ _ rfl rfl | exact .min _ _ _ rfl rfl)) | ((with_reducible refine Calmly.is_gl ?_); refine Calmly.mix_gl rfl rfl rfl ?_; first | ((first | with_reducible refine Calmly.gl_tt ?_ (fun _ _ => ?_) | with_reducible refine Calmly.gl_ff ?_ (fun _ _ => ?_)); (first | exact .move _ | exact .load _ _ | exact .fieldAddr _ _ _ (by kernel_rfl) | exact .assign _ | exact .binOp _ _ _ _ _ rfl | exact .indexAddr _ _ _ | exact .len _ _ (by kernel_rfl) | exact .field _ _ _ | exact .extract _ _ | exact .pick _ _ _ | exact .build _ _ | exact .slice _ _ _ _ _ | exact .unOp _ _ _ rfl | exact .index _ _ _ | exact .max _ _ _ rfl rfl | exact .min _ _ _ rfl rfl)) | with_reducible refine Calmly.gl_tf (fun _ _ => ?_) | with_reducible refine Calmly.gl_ft (fun _ _ => ?_)) | ((with_reducible refine Calmly.is_eff ?_); refine Calmly.mix_eff rfl (fun _ _ => ?_)) | ((with_reducible refine Calmly.is_gf ?_); refine Calmly.mix_gf rfl rfl rfl ?_; first | with_reducible refine Calmly.gf_tt (fun _ _ => ?_) | with_reducible refine Calmly.gf_ff (fun _ _ => ?_) | with_reducible refine Calmly.gf_tf (kept_of hk) (fun _ _ => ?_) | with_reducible refine Calmly.gf_ft (kept_of hk) (fun _ _ => ?_)) | ((with_reducible refine Calmly.is_tail ?_); first | refine Calmly.mix_tail_nil ?_ | refine Calmly.mix_tail rfl (fun _ _ => ?_)) | ((with_reducible refine Calmly.is_kept ?_); refine ⟨kept_of hk, ?_⟩) | (with_reducible refine Calmly.mix_alt ?_ ?_) | (go_at_call 51; refine (response_any a n c xs st dm _ ((h1.keep hbr).keep BV) hn HOO.out HB.out).mono ?_; rintro e w3 ⟨a3, c3, rfl, o3, hs3⟩; replace hk := step_of hk hs3) | (go_at_call 84; refine (peak_any a3 n c3 _ _ o3.si hn0 HPB.out).mono ?_; rintro e w4 ⟨rfl, rfl⟩; rw [HP.out]) | (go_at_call 60; refine (nWithin_any _ _ _ _).mono ?_; rintro e w5 ⟨rfl, rfl⟩; rw [HWB.out]))
        go_roundw
        case rel => exact ⟨k + 1, n', c', a', by go_num, by omega, rfl, by omega, by rw [HNS.out]; exact hown.keep (BV.trans (hk.mono BV.size)), hbr.trans ((BV.trans (hk.mono BV.size)).mono hrs)⟩
        case measure => simp [intOf]; omega
    · have hle : (m : Int) ≤ (k : Int) := by omega
      obtain rfl : m = k := by omega
      go_wp2_with fail
      go_ret
      exact ⟨a', n', c', rfl, hown, hbr⟩
end Go.Proofs.YtfjcfbmfpefabaaGreat

namespace Go.Proofs.YtfjcfbmfpefabaaGreat
open Go.RowKit
open Calmly (Kept)

theorem eqnil_none (w : World) : Sem.run Tryz.prog (binOp .eql 22 (.slice none 0 0) (.slice none 0 0)) w = .ok (.bool true) w := by kernel_rfl
theorem eqnil_some (x : Addr) (n c : Nat) (w : World) : Sem.run Tryz.prog (binOp .eql 22 (.slice (some x) n c) (.slice none 0 0)) w = .ok (.bool false) w := by kernel_rfl
set_option maxRecDepth 100000 in
set_option maxHeartbeats 400000 in
theorem clone_any (a : Option Addr) (n c : Nat) (xs : List Int) (w : World) (h1 : SI w a n c xs) (hn : n ≤ 1099511627776) :
    Calls Tryz.prog 58 #[.slice a n c] w fun e w' => ∃ a' c', e = .returned (.slice a' n c') ∧ OwI w' w.heap.size a' n c' xs ∧ Below w.heap.size w w' := by
  have hc := h1.cap
  have hm := h1.max
  rcases a with _ | p
  · obtain ⟨rfl, rfl, rfl⟩ := h1.none_
    go_enter Tryz.func58, Tryz.ntmps58
    have hq := eqnil_none w
    go_wp2_with fail
    go_ret
    exact ⟨none, 0, rfl, OwI.nil _ _, Below.refl _ _⟩
  · have hb : Below w.heap.size w (w.alloc (.cells #[] 3)) := (Below.refl _ _).alloc (Nat.le_refl _) _
    go_enter Tryz.func58, Tryz.ntmps58
    have hq := eqnil_some p n c w
    go_wp2_with (at_builtin; refine appL rfl _ _ rfl (OwI.empty w (Nat.le_refl _)) (h1.keep hb) rfl rfl (by omega) (by simp) ?_; intro a' c' w1 ho hb1)
    go_ret
    exact ⟨a', c', rfl, by simpa using ho, hb.trans hb1⟩

set_option maxHeartbeats 400000 in
theorem clip_any (a : Option Addr) (n c : Nat) (xs : List Int) (w : World) (h1 : SI w a n c xs) :
    Calls Tryz.prog 83 #[.slice a n c] w fun e w' => e = .returned (.slice a n n) ∧ w = w' := by
  have hc := h1.cap
  have hm := h1.max
  rcases a with _ | p
  · obtain ⟨rfl, rfl, rfl⟩ := h1.none_
    go_enter Tryz.func83, Tryz.ntmps83
    go_wp2_with fail
    go_ret
    exact ⟨rfl, rfl⟩
  · have hc1 : (n : Int) ≤ (c : Int) := by omega
    go_enter Tryz.func83, Tryz.ntmps83
    go_wp2_with fail
    go_ret
    exact ⟨rfl, rfl⟩

set_option maxRecDepth 100000 in
set_option maxHeartbeats 1000000 in
theorem sizes_any (a : Option Addr) (n c : Nat) (xs : List Int) (w : World) (h1 : SI w a n c xs) (hn : n ≤ 1000000) (hb : ∀ j : Nat, -1000000000 ≤ xs[j]?.getD 0 ∧ xs[j]?.getD 0 ≤ 1000000000) :
    Calls Tryz.prog 55 #[.slice a n c] w fun e w' => e = .returned (.int .i64 (szT xs n)) ∧ w = w' := by
  have m1 := h1.max
  have c1 := h1.cap
  have hsb : ∀ k : Nat, 0 ≤ szT xs k ∧ szT xs k ≤ 1000000000 * (k : Int) := by
    intro k
    induction k with
    | zero => simp [szT]
    | succ k ih =>
      have := hb k
      rw [szT, sizeOf_abs]
      omega
  have HB := Lib.hid hb
  have HS := Lib.hid hsb
  clear hb hsb
  go_enter Tryz.func55, Tryz.ntmps55
  go_wp2_with fail
  go_loop [3, 8] (fun s i => ∃ k : Nat, k ≤ n ∧ i = .int .i64 k ∧ s = .int .i64 (szT xs k)) (fun _ i => n - (intOf i).toNat)
  case atStart => exact ⟨0, by omega, rfl, rfl⟩
  case round =>
    obtain ⟨k, hk, rfl, rfl⟩ := hrel
    obtain ⟨s1, s2⟩ := HS.out k
    by_cases hlt : k < n
    · obtain ⟨b1, o1, rfl, hc1⟩ := h1.at_ (by omega)
      have e1 := hc1 k hlt
      clear hc1
      have hd : szT xs (k + 1) = szT xs k + ((xs[k]?.getD 0).natAbs : Nat) := by rw [szT, sizeOf_abs]
      have hx := HB.out k
      obtain ⟨x, hxx⟩ : ∃ x, xs[k]?.getD 0 = x := ⟨_, rfl⟩
      obtain ⟨m, hm⟩ : ∃ m, szT xs k = m := ⟨_, rfl⟩
      rw [hxx] at e1 hx hd
      rw [hm] at hd s1 s2 ⊢
      have HD := Lib.hid hd
      clear hxx hm hd
      obtain ⟨hx1, hx2⟩ := hx
      have hxa : ((x.natAbs : Nat) : Int) ≤ 1000000000 := by omega
      have hi : (k : Int) < (n : Int) := by omega
      have hi0 : (0 : Int) ≤ (k : Int) := by omega
      go_wp2_with fail
      refine (nSize_any _ _ (by omega) (by omega)).mono ?_
      rintro e w1 ⟨rfl, rfl⟩
      go_wp2_with fail
      go_round
      case rel => exact ⟨k + 1, by omega, by go_num, by rw [HD.out]⟩
      case measure => simp [intOf]; omega
    · have hle : (n : Int) ≤ (k : Int) := by omega
      obtain rfl : k = n := by omega
      go_wp2_with fail
      go_ret
      exact ⟨rfl, rfl⟩

/-- How great samples with waves are. -/
theorem ad_nums {xs : List Int} {ws : List (List Int)} {ts : List Int} (hx : ∀ j : Nat, -1000 ≤ xs[j]?.getD 0 ∧ xs[j]?.getD 0 ≤ 1000) (hw : ∀ i t : Nat, -1000 ≤ (ws[i]?.getD [])[t]?.getD 0 ∧ (ws[i]?.getD [])[t]?.getD 0 ≤ 1000) (ht : ∀ j : Nat, -2 ≤ ts[j]?.getD 0 ∧ ts[j]?.getD 0 ≤ 2) (p i : Nat) (hi : i ≤ 5) :
    (-11000 ≤ xs[p]?.getD 0 + adS ws ts p i ∧ xs[p]?.getD 0 + adS ws ts p i ≤ 11000) ∧ (-2000 ≤ ts[i]?.getD 0 * (ws[i]?.getD [])[p]?.getD 0 ∧ ts[i]?.getD 0 * (ws[i]?.getD [])[p]?.getD 0 ≤ 2000) := by
  have h1 := hx p
  have h2 := adS_bd hw ht p i
  have h3 := hw i p
  have h4 := ht i
  have := pr_bd (c := ts[i]?.getD 0) (a := (ws[i]?.getD [])[p]?.getD 0) (C := 2) (A := 1000) h4.1 h4.2 h3.1 h3.2
  omega

set_option maxRecDepth 100000 in
set_option maxHeartbeats 2000000 in
theorem added_any (a : Option Addr) (n c : Nat) (xs : List Int) (b : Option Addr) (m d : Nat) (ws : List (List Int)) (t : Option Addr) (e : Nat) (ts : List Int) (w : World) (h1 : SI w a n c xs) (h2 : SW w b m d ws) (h3 : SI w t m e ts) (hn0 : 0 < n) (hn : n ≤ 26) (hm : m ≤ 5)
    (hx : ∀ j : Nat, -1000 ≤ xs[j]?.getD 0 ∧ xs[j]?.getD 0 ≤ 1000) (hl : ∀ i, i < ws.length → (ws[i]?.getD []).length = n) (hw : ∀ i t : Nat, -1000 ≤ (ws[i]?.getD [])[t]?.getD 0 ∧ (ws[i]?.getD [])[t]?.getD 0 ≤ 1000) (ht : ∀ j : Nat, -2 ≤ ts[j]?.getD 0 ∧ ts[j]?.getD 0 ≤ 2) :
    Calls Tryz.prog 56 #[.slice a n c, .slice b m d, .slice t m e] w fun r w' => ∃ a' c', r = .returned (.tuple #[.slice a' n c', .bool (decide (gsT (adTo xs ws ts m) n ≤ 1000))]) ∧ OwI w' w.heap.size a' n c' (adTo xs ws ts m) ∧ Below w.heap.size w w' := by
  obtain ⟨l1, l2⟩ : n ≤ xs.length ∧ xs.length ≤ n := by have := h1.len; omega
  obtain ⟨k1, k2⟩ : m ≤ ws.length ∧ ws.length ≤ m := by have := h2.len; omega
  have m1 := h1.max
  have c1 := h1.cap
  have m2 := h2.max
  have c2 := h2.cap
  have m3 := h3.max
  have c3 := h3.cap
  have HX := Lib.hid hx
  have HL := Lib.hid hl
  have HW := Lib.hid hw
  have HT := Lib.hid ht
  clear hx hl hw ht
  go_enter Tryz.func56, Tryz.ntmps56
  go_wp2_with fail
  refine (clone_any a n c xs _ h1 (by omega)).mono ?_
  rintro r w1 ⟨a1, c1', rfl, o1, hb1⟩
  obtain ⟨g, rfl, hg1, hg2⟩ := o1.at_ hn0
  have o0 : OwI w1 w.heap.size (some ⟨g, 0, none⟩) n c1' (adTo xs ws ts 0) := by rw [adTo_zero]; exact o1
  have m4 := o1.si.max
  have c4 := o1.si.cap
  clear o1
  go_wp2_with fail
  go_loopw [17] (fun i wr => ∃ k : Nat, k ≤ m ∧ i = .int .i64 k ∧ OwI wr w.heap.size (some ⟨g, 0, none⟩) n c1' (adTo xs ws ts k) ∧ Below w.heap.size w wr) (fun i _ => m - (intOf i).toNat)
  case atStart => exact ⟨0, by omega, rfl, o0, hb1⟩
  case round =>
    clear o0 hb1
    obtain ⟨k, hk, rfl, hown, hbr⟩ := hrel
    by_cases hlt : k < m
    · obtain ⟨bw, ow, rfl, hcw⟩ := h2.at_ (by omega)
      obtain ⟨aw, nw, cw, ew, sw⟩ := hcw k hlt
      replace ew := cell_keep ew hbr
      obtain ⟨q1, q2⟩ : nw ≤ n ∧ n ≤ nw := by
        have h5 := sw.len
        have h6 := HL.out k (by omega)
        omega
      obtain rfl : nw = n := by omega
      have m5 := sw.max
      have c5 := sw.cap
      clear hcw q1 q2
      have hi : (k : Int) < (m : Int) := by omega
      have hi0 : (0 : Int) ≤ (k : Int) := by omega
      have hown0 : OwI wr w.heap.size (some ⟨g, 0, none⟩) nw c1' (adMid xs ws ts k 0) := by rw [adMid_zero]; exact hown
      have hbr0 := hbr
      have hrz := hbr.size
      go_wp2_with fail
      go_loopw [24] (fun j wz => ∃ p : Nat, p ≤ nw ∧ j = .int .i64 p ∧ OwI wz w.heap.size (some ⟨g, 0, none⟩) nw c1' (adMid xs ws ts k p) ∧ Below w.heap.size w wz) (fun j _ => nw - (intOf j).toNat)
      case atStart => exact ⟨0, by omega, rfl, hown0, hbr0⟩
      case round =>
        clear hown hown0 hbr hbr0
        obtain ⟨p, hp, rfl, hown, hbz⟩ := hrel
        by_cases hpl : p < nw
        · have hj : (p : Int) < (nw : Int) := by omega
          have hj0 : (0 : Int) ≤ (p : Int) := by omega
          have ex := hown.cell p hpl
          rw [adMid_get xs ws ts k p (by omega)] at ex
          have fx := hown.free p
          obtain ⟨bx, ox, rfl, hcx⟩ := (sw.keep hbz).at_ hn0
          have e2 := hcx p hpl
          obtain ⟨bt, ot, rfl, hct⟩ := (h3.keep hbz).at_ (by omega)
          have e3 := hct k hlt
          obtain ⟨⟨n1, n2⟩, n3, n4⟩ := ad_nums HX.out HW.out HT.out p k (by omega)
          have st := hown.stored p (xs[p]?.getD 0 + adS ws ts p k + ts[k]?.getD 0 * (ws[k]?.getD [])[p]?.getD 0)
          rw [adMid_set xs ws ts k p (by omega)] at st
          have ST := Lib.hid st
          clear hcx hct st
          obtain ⟨x, hxx⟩ : ∃ x, xs[p]?.getD 0 + adS ws ts p k = x := ⟨_, rfl⟩
          obtain ⟨y, hyy⟩ : ∃ y, ts[k]?.getD 0 = y := ⟨_, rfl⟩
          obtain ⟨z, hzz⟩ : ∃ z, (ws[k]?.getD [])[p]?.getD 0 = z := ⟨_, rfl⟩
          rw [hxx] at ex n1 n2 ST
          rw [hyy] at e3 n3 n4 ST
          rw [hzz] at e2 n3 n4 ST
          clear hxx hyy hzz
          go_wp2_with fail
          refine Calmly.wp_region_mix 10 (.fl 0 <| .fl 1 <| .fl 2 <| .fl 3 <| .fl 4 <| .fl 5 <| .fl 6 <| .fl 7 <| .fl 8 <| .fl 9 <| .tail [10, 11, 12]) (by kernel_rfl) (by kernel_rfl) ?_
          have hk := Below.refl wr.drew.heap.size wr.drew
          go_wp2_with (first | ((with_reducible refine Calmly.is_fl ?_); refine Calmly.mix_fl rfl ?_ (fun _ _ => ?_); (first | exact .move _ | exact .load _ _ | exact .fieldAddr _ _ _ (by kernel_rfl) | exact .assign _ | exact .binOp _ _ _ _ _ rfl | exact .indexAddr _ _ _ | exact .len _ _ (by kernel_rfl) | exact .field _ _ _ | exact .extract _ _ | exact .pick _ _ _ | exact .build _ _ | exact .slice _ _ _ _ _ | exact .unOp _ _ _ rfl | exact .index _ _ _ | exact .max _ _ _ rfl rfl | exact .min _ _ _ rfl rfl)) | ((with_reducible refine Calmly.is_gl ?_); refine Calmly.mix_gl rfl rfl rfl ?_; first | ((first | with_reducible refine Calmly.gl_tt ?_ (fun _ _ => ?_) | with_reducible refine Calmly.gl_ff ?_ (fun _ _ => ?_)); (first | exact .move _ | exact .load _ _ | exact .fieldAddr _ _ _ (by kernel_rfl) | exact .assign _ | exact .binOp _ _ _ _ _ rfl | exact .indexAddr _ _ _ | exact .len _ _ (by kernel_rfl) | exact .field _ _ _ | exact .extract _ _ | exact .pick _ _ _ | exact .build _ _ | exact .slice _ _ _ _ _ | exact .unOp _ _ _ rfl | exact .index _ _ _ | exact .max _ _ _ rfl rfl | exact .min _ _ _ rfl rfl)) | with_reducible refine Calmly.gl_tf (fun _ _ => ?_) | with_reducible refine Calmly.gl_ft (fun _ _ => ?_)) | ((with_reducible refine Calmly.is_eff ?_); refine Calmly.mix_eff rfl (fun _ _ => ?_)) | ((with_reducible refine Calmly.is_gf ?_); refine Calmly.mix_gf rfl rfl rfl ?_; first | with_reducible refine Calmly.gf_tt (fun _ _ => ?_) | with_reducible refine Calmly.gf_ff (fun _ _ => ?_) | with_reducible refine Calmly.gf_tf (kept_of hk) (fun _ _ => ?_) | with_reducible refine Calmly.gf_ft (kept_of hk) (fun _ _ => ?_)) | ((with_reducible refine Calmly.is_tail ?_); first | refine Calmly.mix_tail_nil ?_ | refine Calmly.mix_tail rfl (fun _ _ => ?_)) | ((with_reducible refine Calmly.is_kept ?_); refine ⟨kept_of hk, ?_⟩) | (with_reducible refine Calmly.mix_alt ?_ ?_))
          go_roundw
          case rel => exact ⟨p + 1, by omega, by go_num, ST.out.1.drew, hbz.trans ST.out.2.drew⟩
          case measure => simp [intOf]; omega
        · have hle : (nw : Int) ≤ (p : Int) := by omega
          go_wp2_with fail
          go_roundw
          case rel =>
            rw [adMid_all xs ws ts k p (by omega)] at hown
            exact ⟨k + 1, by omega, by go_num, hown, hbz⟩
          case measure => simp [intOf]; omega
    · have hle : (m : Int) ≤ (k : Int) := by omega
      obtain rfl : k = m := by omega
      have hpb : ∀ j : Nat, -9000000000000000000 ≤ (adTo xs ws ts k)[j]?.getD 0 ∧ (adTo xs ws ts k)[j]?.getD 0 ≤ 9000000000000000000 := by
        intro j
        rcases Nat.lt_or_ge j xs.length with hj | hj
        · rw [adTo_get xs ws ts k j hj]
          have := ad_nums HX.out HW.out HT.out j k hm
          omega
        · rw [List.getElem?_eq_none (by rw [adTo_len]; exact hj)]
          simp
      have HPB := Lib.hid hpb
      clear hpb
      go_wp2_with fail
      refine (peak_any _ n c1' _ _ hown.si hn0 HPB.out).mono ?_
      rintro r w2 ⟨rfl, rfl⟩
      go_wp2_with fail
      go_ret2
      exact ⟨_, c1', rfl, hown, hbr⟩
end Go.Proofs.YtfjcfbmfpefabaaGreat
