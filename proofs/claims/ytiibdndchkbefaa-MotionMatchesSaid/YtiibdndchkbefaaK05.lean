/- Plain law of chapter 2: the errors of oscillators, bands, waves and times; where samples are outside of a band. Chapter 2: what a loop over all lists of times keeps, and rows that are grown anew. Contracts of chapter 2: the error of a record alone, and sums. Contracts of chapter 2: the greatest size of numbers. Contracts of chapter 2: traces. Contracts of chapter 2: velocities and displacements. Contracts of chapter 2: the end of samples. Contracts of chapter 2: the end of a record. -/
import Derived.Test.YtiibdndchkbefaaK04
import Derived.ArgAppend
namespace Go.Proofs.Ytiibdndchkbefaa

theorem eachE_drop {α : Type} (f : α → Int) (l : List α) (d : α) (k : Nat) (h : k < l.length) : firstE ((l.drop k).map f) = if f (l[k]?.getD d) = 0 then firstE ((l.drop (k + 1)).map f) else f (l[k]?.getD d) := by
  rw [List.drop_eq_getElem_cons h, List.map_cons, firstE, List.getElem?_eq_getElem h]
  rfl
theorem firstE_all {l : List Int} (h : firstE l = 0) : ∀ x ∈ l, x = 0 := by
  induction l with
  | nil => simp
  | cons y l ih =>
    rw [firstE] at h
    split at h
    · rename_i hy
      intro x hx
      rcases List.mem_cons.1 hx with rfl | hx
      · exact hy
      · exact ih h x hx
    · exact absurd h (by assumption)
theorem unlessE_zero {b : Bool} {x : Int} (h : unlessE b x = 0) (hx : x ≠ 0) : b = true := by
  cases b
  · exact absurd h hx
  · rfl

/-- The error of an oscillator, of a row of a band, of a band. -/
def oscE (o : Int × Int) : Int := unlessE (wIn o.1 0 3000 && wIn o.2 0 500) 2
theorem oscE_ok {o : Int × Int} (h : oscE o = 0) : (0 ≤ o.1 ∧ o.1 ≤ 3000) ∧ (0 ≤ o.2 ∧ o.2 ≤ 500) := by
  have := unlessE_zero h (by decide)
  rw [Bool.and_eq_true, wIn_iff, wIn_iff] at this
  exact this
def bndE (b : Four) : Int := firstE [oscE b.1, unlessE (wIn b.2.1 0 1000000 && wIn b.2.2 0 1000000) 2, unlessE (decide (b.2.1 ≤ b.2.2)) 9]
theorem bndE_ok {b : Four} (h : bndE b = 0) : oscE b.1 = 0 ∧ (0 ≤ b.2.1 ∧ b.2.1 ≤ 1000000) ∧ (0 ≤ b.2.2 ∧ b.2.2 ≤ 1000000) ∧ b.2.1 ≤ b.2.2 := by
  have h1 := firstE_all h _ (List.mem_cons_self)
  have h2 := unlessE_zero (firstE_all h _ (List.mem_cons_of_mem _ (List.mem_cons_self))) (by decide)
  have h3 := unlessE_zero (firstE_all h _ (List.mem_cons_of_mem _ (List.mem_cons_of_mem _ (List.mem_cons_self)))) (by decide)
  rw [Bool.and_eq_true, wIn_iff, wIn_iff] at h2
  exact ⟨h1, h2.1, h2.2, of_decide_eq_true h3⟩
def bandE (l : List Four) : Int := firstE [unlessE (decide (0 < l.length)) 10, unlessE (decide (l.length ≤ 6)) 8, firstE (l.map bndE)]
theorem bandE_ok {l : List Four} (h : bandE l = 0) : 0 < l.length ∧ l.length ≤ 6 ∧ ∀ k, k < l.length → bndE (l[k]?.getD four0) = 0 := by
  have h1 := unlessE_zero (firstE_all h _ (List.mem_cons_self)) (by decide)
  have h2 := unlessE_zero (firstE_all h _ (List.mem_cons_of_mem _ (List.mem_cons_self))) (by decide)
  have h3 := firstE_all h _ (List.mem_cons_of_mem _ (List.mem_cons_of_mem _ (List.mem_cons_self)))
  refine ⟨of_decide_eq_true h1, of_decide_eq_true h2, fun k hk => ?_⟩
  refine firstE_all h3 _ ?_
  rw [List.getElem?_eq_getElem hk]
  exact List.mem_map_of_mem (List.getElem_mem hk)
/-- The error of a wave for so many samples, of waves, of times. -/
def wavE (n : Nat) (x : List Int) : Int := if x.length = n then (if badS x 0 = none then unlessE (decide (sumT x n = 0 ∧ sumT (sumsF x) n = 0)) 21 else 2) else 10
theorem wavE_ok {n : Nat} {x : List Int} (h : wavE n x = 0) : x.length = n ∧ badS x 0 = none ∧ sumT x n = 0 ∧ sumT (sumsF x) n = 0 := by
  unfold wavE at h
  split at h
  · split at h
    · have := of_decide_eq_true (unlessE_zero h (by decide))
      exact ⟨by assumption, by assumption, this.1, this.2⟩
    · cases h
  · cases h
def wavesE (n : Nat) (ws : List (List Int)) : Int := firstE [unlessE (decide (ws.length ≤ 3)) 8, firstE (ws.map (wavE n))]
theorem wavesE_ok {n : Nat} {ws : List (List Int)} (h : wavesE n ws = 0) : ws.length ≤ 3 ∧ ∀ k, k < ws.length → wavE n (ws[k]?.getD []) = 0 := by
  have h1 := unlessE_zero (firstE_all h _ (List.mem_cons_self)) (by decide)
  have h3 := firstE_all h _ (List.mem_cons_of_mem _ (List.mem_cons_self))
  refine ⟨of_decide_eq_true h1, fun k hk => ?_⟩
  refine firstE_all h3 _ ?_
  rw [List.getElem?_eq_getElem hk]
  exact List.mem_map_of_mem (List.getElem_mem hk)
def timE (t : Int) : Int := unlessE (wIn t (-2) 2) 2
def timesE (m : Nat) (ts : List Int) : Int := firstE [unlessE (decide (ts.length = m)) 10, firstE (ts.map timE)]
theorem timesE_ok {m : Nat} {ts : List Int} (h : timesE m ts = 0) : ts.length = m ∧ ∀ j : Nat, -2 ≤ ts[j]?.getD 0 ∧ ts[j]?.getD 0 ≤ 2 := by
  have h1 := unlessE_zero (firstE_all h _ (List.mem_cons_self)) (by decide)
  have h3 := firstE_all h _ (List.mem_cons_of_mem _ (List.mem_cons_self))
  refine ⟨of_decide_eq_true h1, fun j => ?_⟩
  rcases Nat.lt_or_ge j ts.length with hj | hj
  · have := firstE_all h3 (timE (ts[j]?.getD 0)) (by rw [List.getElem?_eq_getElem hj]; exact List.mem_map_of_mem (List.getElem_mem hj))
    exact wIn_iff.1 (unlessE_zero this (by decide))
  · rw [List.getElem?_eq_none hj]
    simp

/-- Where samples are outside of a band. -/
def pkO (xs : List Int) (o : Int × Int) : Int := gsT (rspTo xs o.1 o.2 xs.length) xs.length
def outB (xs : List Int) (b : Four) : Bool := !(wIn (pkO xs b.1) b.2.1 b.2.2)
def outT (xs : List Int) (l : List Four) (k : Nat) : List Int := ((List.range k).filter (fun i => outB xs (l[i]?.getD four0))).map (fun i => ((i : Nat) : Int))
theorem outT_succ (xs : List Int) (l : List Four) (k : Nat) : outT xs l (k + 1) = if outB xs (l[k]?.getD four0) = true then outT xs l k ++ [(k : Int)] else outT xs l k := by
  unfold outT
  rw [List.range_succ, List.filter_append, List.map_append]
  simp only [List.filter_cons, List.filter_nil]
  split <;> simp
theorem outT_len (xs : List Int) (l : List Four) (k : Nat) : (outT xs l k).length ≤ k := by
  unfold outT
  rw [List.length_map]
  exact Nat.le_trans (List.length_filter_le _ _) (by simp)
/-- Times with which samples are in the band. -/
def goodM (xs : List Int) (ws : List (List Int)) (l : List Four) (ts : List Int) : Bool := decide (gsT (adTo xs ws ts ws.length) xs.length ≤ 1000) && (outT (adTo xs ws ts ws.length) l l.length).isEmpty
theorem rspTo_len (xs : List Int) (st dm : Int) (k : Nat) : (rspTo xs st dm k).length = k := by simp [rspTo]
theorem rspTo_get (xs : List Int) (st dm : Int) (n k : Nat) (h : k < n) : (rspTo xs st dm n)[k]?.getD 0 = (rspT xs st dm (k + 1)).1 := by
  unfold rspTo
  rw [List.getElem?_map, List.getElem?_range h]
  rfl
/-- How great the added samples are. -/
theorem adS_bd {ws : List (List Int)} {ts : List Int} (hw : ∀ i t : Nat, -1000 ≤ (ws[i]?.getD [])[t]?.getD 0 ∧ (ws[i]?.getD [])[t]?.getD 0 ≤ 1000) (ht : ∀ j : Nat, -2 ≤ ts[j]?.getD 0 ∧ ts[j]?.getD 0 ≤ 2) (t i : Nat) :
    -(2000 * (i : Int)) ≤ adS ws ts t i ∧ adS ws ts t i ≤ 2000 * (i : Int) := by
  induction i with
  | zero => simp [adS]
  | succ i ih =>
    rw [adS]
    have h1 := hw i t
    have h2 := ht i
    have := pr_bd (c := ts[i]?.getD 0) (a := (ws[i]?.getD [])[t]?.getD 0) (C := 2) (A := 1000) h2.1 h2.2 h1.1 h1.2
    omega
theorem wavesE_bd {n : Nat} {ws : List (List Int)} (h : wavesE n ws = 0) : ∀ i t : Nat, -1000 ≤ (ws[i]?.getD [])[t]?.getD 0 ∧ (ws[i]?.getD [])[t]?.getD 0 ≤ 1000 := by
  intro i t
  rcases Nat.lt_or_ge i ws.length with hi | hi
  · exact badS_none (wavE_ok ((wavesE_ok h).2 i hi)).2.1 t
  · rw [List.getElem?_eq_none hi]
    simp
end Go.Proofs.Ytiibdndchkbefaa

namespace Go.Proofs.Ytiibdndchkbefaa
open Go.RowKit Go.Shelf
open Calmly (Kept)

/-- All cells are as they were, but for those of some blocks. -/
structure Keeps (L : List Nat) (A B : World) : Prop where
  size : A.heap.size ≤ B.heap.size
  same : ∀ b o, b ∉ L → A.heap[b]? = some o → o.isCells = true → B.heap[b]? = some o
theorem Keeps.refl (L : List Nat) (A : World) : Keeps L A A := ⟨Nat.le_refl _, fun _ _ _ h _ => h⟩
theorem Keeps.trans {L : List Nat} {A B C : World} (h : Keeps L A B) (k : Keeps L B C) : Keeps L A C := ⟨Nat.le_trans h.size k.size, fun b o hb ho hc => k.same b o hb (h.same b o hb ho hc) hc⟩
theorem Keeps.of_below {L : List Nat} {A B : World} (h : Below A.heap.size A B) : Keeps L A B := ⟨h.size, fun b _ _ ho _ => (h.block b (Array.getElem?_eq_some_iff.1 ho).1).trans ho⟩
theorem Keeps.drew {L : List Nat} (A : World) : Keeps L A A.drew := ⟨Nat.le_refl _, fun _ _ _ h _ => h⟩
theorem Keeps.put {L : List Nat} {W : World} {l : Nat} {o : Obj} (o' : Obj) (hl : W.heap[l]? = some o) (ho : o.isCells = false) : Keeps L W (W.putObj l o') := ⟨by simp, fun b ob _ hb hc => by
  refine (World.putObj_heap_other ?_).trans hb
  rintro rfl
  rw [hl] at hb
  cases hb
  rw [ho] at hc
  cases hc⟩
theorem Keeps.setCell {L : List Nat} (W : World) {b : Nat} (o : Nat) (v : Value) (h : b ∈ L) : Keeps L W (W.setCell ⟨b, o, none⟩ v) := ⟨by simp, fun k ob hk hb _ => by
  rw [Below.heap_setCell _ _ _ _ (by rintro rfl; exact hk h)]
  exact hb⟩
theorem cell_blk {w : World} {b o : Nat} {v : Value} (h : w.cell? ⟨b, o, none⟩ = some v) : ∃ cs t z, w.heap[b]? = some (.cells cs t z) := by
  unfold World.cell? at h
  cases hb : w.heap[b]? with
  | none => simp [hb] at h
  | some ob =>
    cases ob <;> simp [hb] at h
    exact ⟨_, _, _, rfl⟩
theorem Keeps.cell {L : List Nat} {A B : World} (h : Keeps L A B) {b o : Nat} {v : Value} (hb : b ∉ L) (hc : A.cell? ⟨b, o, none⟩ = some v) : B.cell? ⟨b, o, none⟩ = some v := by
  obtain ⟨cs, t, z, hh⟩ := cell_blk hc
  rw [World.cell?_of_block ((h.same b _ hb hh rfl).trans hh.symm)]
  exact hc
theorem Keeps.blk {L : List Nat} {A B : World} (h : Keeps L A B) {b : Nat} {cs : Array Value} {t : TypeId} (hb : b ∉ L) (hc : A.heap[b]? = some (.cells cs t)) : B.heap[b]? = some (.cells cs t) := h.same b _ hb hc rfl
theorem Keeps.si {L : List Nat} {A B : World} (h : Keeps L A B) {a : Option Addr} {n c : Nat} {xs : List Int} (hs : SI A a n c xs) (hL : ∀ b o, a = some ⟨b, o, none⟩ → b ∉ L) : SI B a n c xs := by
  obtain ⟨h1, h2, h3, h4⟩ := hs
  refine ⟨h1, h2, h3, ?_⟩
  rcases h4 with h4 | ⟨b, off, ha, hc⟩
  · exact .inl h4
  · refine .inr ⟨b, off, ha, fun i hi => ?_⟩
    have := hc i hi
    have hs : i < (xs.map (Value.int .i64)).length := by omega
    rw [List.getElem?_eq_getElem hs] at this ⊢
    exact h.cell (hL b off ha) this
theorem OwI.keeps {L : List Nat} {A B : World} {B0 : Nat} {a : Option Addr} {n c : Nat} {xs : List Int} (hs : OwI A B0 a n c xs) (h : Keeps L A B) (hL : ∀ b, b ∈ L → b < B0) : OwI B B0 a n c xs := by
  obtain ⟨h1, h2⟩ := hs
  refine ⟨h1, ?_⟩
  rcases h2 with h2 | ⟨g, cap, cur, hv, hg, hh, r⟩
  · exact .inl h2
  · exact .inr ⟨g, cap, cur, hv, hg, h.same g _ (fun hm => by have := hL g hm; omega) hh rfl, r⟩
theorem OwI.ge {A : World} {B0 : Nat} {a : Option Addr} {n c : Nat} {xs : List Int} (hs : OwI A B0 a n c xs) : ∀ b o, a = some ⟨b, o, none⟩ → B0 ≤ b := by
  rintro b o rfl
  obtain ⟨h1, h2⟩ := hs
  rcases h2 with ⟨h2, _⟩ | ⟨g, cap, cur, hv, hg, r⟩
  · cases h2
  · cases hv
    exact hg

/-- 'append' to a slice that is full: a row of its own, whatever the slice was. -/
theorem appG {ops : Array Oper} {rest : List Oper} {o : Oper} {a : Act} {Q : Exit → Act → World → Prop} {w0 : World} {av : Option Addr} {n c : Nat} {xs : List Int} {v : Int} (hgd : o.guard = none) (s x : Operand)
    (ho : o.op = .call { callee := .builtin .append, args := #[s, x], argTypes := #[22, 22] })
    (hsi : SI w0 av n c xs) (hc : c = n) (hs : a.eval s = .slice av n c) (hx : a.eval x = .slice (some ⟨w0.heap.size, 0, none⟩) 1 1) (hb1 : n + 1 ≤ 17592186044416)
    (h : ∀ a' c' w', OwI w' w0.heap.size a' (n + 1) c' (xs ++ [v]) → Below w0.heap.size w0 w' → w0.heap.size < w'.heap.size → wpList Try.prog ops Q rest (a.put o.dst (.slice a' (n + 1) c')) w') :
    wpList Try.prog ops Q (o :: rest) a (w0.alloc (.cells #[.int .i64 v] 3)) := by
  obtain ⟨i0, hi, hz0, hz1, hz2⟩ := info_parts Try.info_int
  have hb : Below w0.heap.size w0 (w0.alloc (.cells #[.int .i64 v] 3)) := (Below.refl _ _).alloc (Nat.le_refl _) _
  have hsi' := hsi.keep hb
  refine wpList_append_grows _ hgd s x _ ho _ i0 (.int .i64 0) 1 8 Try.underlying22 hi hz0 hz1 hz2 rfl (by decide) av n c (xs.map (Value.int .i64)) hs ?_ ?_ ?_ ⟨w0.heap.size, 0, none⟩ 1 1 [Value.int .i64 v] hx rfl (cells_new w0 _ _) (by simp [Value.oneCell']) (by omega) (by unfold maxLen; omega) (by omega) ?_
  · rintro rfl
    exact ⟨hsi.none_.1, hsi.none_.2.1⟩
  · have := hsi.len
    simp
    omega
  · rintro b rfl j u hj
    have hjl : j < (xs.map (Value.int .i64)).length := (List.getElem?_eq_some_iff.1 hj).1
    obtain ⟨h1, _, _, h4⟩ := hsi'
    rcases h4 with h4 | ⟨b', off, hb', hcell⟩
    · have : (xs.map (Value.int .i64)).length = 0 := by omega
      omega
    · cases hb'
      rw [Addr.add_lit, hcell j (by omega)]
      exact hj
  · intro v' w1 ho1 hg
    obtain ⟨a', c', rfl⟩ := owns_slice ho1
    have hsz := hg.size
    refine h a' c' w1 ?_ (hb.trans (grown_below hg (by simp) (fun k hk => by cases hk))) (by simp at hsz; omega)
    have ho2 : w1.ownsRow w0.heap.size 3 1 (.slice a' (n + 1) c') (n + 1) ((xs ++ [v]).map (Value.int .i64)) := by
      obtain ⟨k1, k2⟩ := ho1
      refine ⟨by simpa using k1, ?_⟩
      rcases k2 with k2 | ⟨g, cap, cur, hv, hg', r⟩
      · exact .inl k2
      · exact .inr ⟨g, cap, cur, hv, by simp at hg'; omega, by simpa using r⟩
    exact ho2
end Go.Proofs.Ytiibdndchkbefaa

namespace Go.Proofs.Ytiibdndchkbefaa
open Go.RowKit
open Calmly (Kept)

set_option maxHeartbeats 400000 in
theorem recordErr_any (step : Int) (a : Option Addr) (n c : Nat) (xs : List Int) (w : World) (h1 : SI w a n c xs) (E : Int) (hE : (recF step xs).2 = E) :
    Calls Try.prog 92 #[.agg #[.int .i64 step, .slice a n c]] w fun e w' => e = .returned (.int .i64 E) ∧ Below w.heap.size w w' := by
  have hb : ∀ o, Below w.heap.size w (w.alloc o) := fun o => (Below.refl _ _).alloc (Nat.le_refl _) _
  obtain ⟨I, hI⟩ : ∃ I, recF step xs = (I, E) := ⟨(recF step xs).1, by rw [← hE]⟩
  have HI := Lib.hid hI
  clear hI hE
  go_enter Try.func92, Try.ntmps92
  go_wp2_with fail
  refine (CheckRecord_any step a n c xs _ (h1.keep (hb _)) I E HI.out).mono ?_
  rintro e w1 ⟨rfl, hs⟩
  have BW := (hb (.cells #[.int .i64 step, .slice a n c] 24)).trans (hs.mono (by simp))
  go_wp2_with fail
  go_ret
  exact ⟨rfl, BW⟩

set_option maxRecDepth 100000 in
set_option maxHeartbeats 1000000 in
theorem sums_any (a : Option Addr) (n c : Nat) (xs : List Int) (w : World) (h1 : SI w a n c xs) (hn : n ≤ 1000000) (hb : ∀ j : Nat, -1000000000 ≤ xs[j]?.getD 0 ∧ xs[j]?.getD 0 ≤ 1000000000) :
    Calls Try.prog 111 #[.slice a n c] w fun e w' => ∃ a' c', e = .returned (.slice a' n c') ∧ OwI w' w.heap.size a' n c' (sumsF xs) ∧ Below w.heap.size w w' := by
  obtain ⟨l1, l2⟩ : n ≤ xs.length ∧ xs.length ≤ n := by have := h1.len; omega
  have m1 := h1.max
  have c1 := h1.cap
  have HB := Lib.hid hb
  clear hb
  go_enter Try.func111, Try.ntmps111
  go_wp2_with fail
  go_loopw [4, 3, 9] (fun s v i wr => ∃ (k c' : Nat) (a' : Option Addr), i = .int .i64 (k : Int) ∧ k ≤ n ∧ s = .int .i64 (sumT xs k) ∧ v = .slice a' k c' ∧ OwI wr w.heap.size a' k c' (sumsTo xs k) ∧ Below w.heap.size w wr) (fun _ _ i _ => n - (intOf i).toNat)
  case atStart => exact ⟨0, 0, none, rfl, by omega, rfl, rfl, OwI.nil _ _, Below.refl _ _⟩
  case round =>
    obtain ⟨k, c', a', rfl, hk, rfl, rfl, hown, hbr⟩ := hrel
    have hs := hbr.size
    obtain ⟨b1, b2⟩ := sumT_bd HB.out k
    by_cases hlt : k < n
    · obtain ⟨ba, oa, rfl, hca⟩ := (h1.keep hbr).at_ (by omega)
      have ea := hca k hlt
      have hx := HB.out k
      have hn1 : sumT xs (k + 1) = sumT xs k + xs[k]?.getD 0 := rfl
      have hn2 := sumsTo_succ xs k
      rw [hn1] at hn2
      obtain ⟨x, hxx⟩ : ∃ x, xs[k]?.getD 0 = x := ⟨_, rfl⟩
      obtain ⟨s, hss⟩ : ∃ s, sumT xs k = s := ⟨_, rfl⟩
      rw [hxx] at ea hx hn1 hn2
      rw [hss] at b1 b2 hn1 hn2 ⊢
      have HN1 := Lib.hid hn1
      have HN2 := Lib.hid hn2
      clear hca hn1 hn2 hxx hss
      have hi : (k : Int) < (n : Int) := by omega
      have hi0 : (0 : Int) ≤ (k : Int) := by omega
      go_wp2_with (first | (at_builtin; refine appI rfl _ _ rfl hown rfl rfl (by omega) (by omega) ?_; intro a2' c2' w5 ho5 hb5 hs5))
      go_roundw
      case rel => exact ⟨k + 1, c2', a2', by go_num, by omega, by rw [HN1.out], rfl, by rw [HN2.out]; exact ho5, hbr.trans hb5⟩
      case measure => simp [intOf]; omega
    · have hle : (n : Int) ≤ (k : Int) := by omega
      obtain rfl : n = k := by omega
      go_wp2_with fail
      go_ret
      refine ⟨a', c', rfl, ?_, hbr⟩
      have e : sumsF xs = sumsTo xs n := by unfold sumsF sumsTo; rw [show xs.length = n by omega]
      rw [e]
      exact hown
end Go.Proofs.Ytiibdndchkbefaa

namespace Go.Proofs.Ytiibdndchkbefaa
open Go.RowKit
open Calmly (Kept)

set_option maxRecDepth 100000 in
set_option maxHeartbeats 1000000 in
theorem nMax_any (a : Option Addr) (n c : Nat) (xs : List Int) (w : World) (h1 : SI w a n c xs) (h0 : 0 < n) :
    Calls Try.prog 149 #[.slice a n c] w fun e w' => e = .returned (.int .i64 (mxT xs n)) ∧ w = w' := by
  have m1 := h1.max
  have c1 := h1.cap
  obtain ⟨b1, o1, rfl, hc1⟩ := h1.at_ h0
  have e0 := hc1 0 h0
  simp only [Nat.add_zero] at e0
  have hn1 : (1 : Int) ≤ (n : Int) := by omega
  have hn0 : (0 : Int) < (n : Int) := by omega
  go_enter Try.func149, Try.ntmps149
  go_wp2_with fail
  go_loop [3, 4] (fun m i => ∃ k : Nat, 1 ≤ k ∧ k ≤ n ∧ i = .int .i64 k ∧ m = .int .i64 (mxT xs k)) (fun _ i => n - (intOf i).toNat)
  case atStart => exact ⟨1, by omega, by omega, rfl, by simp [mxT]⟩
  case round =>
    obtain ⟨k, hk0, hk, rfl, rfl⟩ := hrel
    by_cases hlt : k < n
    · have e1 := hc1 k hlt
      clear hc1
      have hd : mxT xs (k + 1) = max (mxT xs k) (xs[k]?.getD 0) := rfl
      have HD := Lib.hid hd
      clear hd
      obtain ⟨x, hx⟩ : ∃ x, xs[k]?.getD 0 = x := ⟨_, rfl⟩
      obtain ⟨m, hm⟩ : ∃ m, mxT xs k = m := ⟨_, rfl⟩
      rw [hx] at e1
      rw [hx, hm] at HD
      rw [hm]
      clear hx hm
      have hi : (k : Int) < (n : Int) := by omega
      have hi0 : (0 : Int) ≤ (k : Int) := by omega
      rcases Int.lt_or_le m x with t | t
      · have t' : m ≤ x := by omega
        go_wp2_with fail
        go_round
        case rel => exact ⟨k + 1, by omega, by omega, by go_num, by rw [HD.out]; exact congrArg _ (by omega)⟩
        case measure => simp [intOf]; omega
      · go_wp2_with fail
        go_round
        case rel => exact ⟨k + 1, by omega, by omega, by go_num, by rw [HD.out]; exact congrArg _ (by omega)⟩
        case measure => simp [intOf]; omega
    · have hle : (n : Int) ≤ (k : Int) := by omega
      obtain rfl : k = n := by omega
      go_wp2_with fail
      go_ret
      exact ⟨rfl, rfl⟩

set_option maxRecDepth 100000 in
set_option maxHeartbeats 1000000 in
theorem nMin_any (a : Option Addr) (n c : Nat) (xs : List Int) (w : World) (h1 : SI w a n c xs) (h0 : 0 < n) :
    Calls Try.prog 150 #[.slice a n c] w fun e w' => e = .returned (.int .i64 (mnT xs n)) ∧ w = w' := by
  have m1 := h1.max
  have c1 := h1.cap
  obtain ⟨b1, o1, rfl, hc1⟩ := h1.at_ h0
  have e0 := hc1 0 h0
  simp only [Nat.add_zero] at e0
  have hn1 : (1 : Int) ≤ (n : Int) := by omega
  have hn0 : (0 : Int) < (n : Int) := by omega
  go_enter Try.func150, Try.ntmps150
  go_wp2_with fail
  go_loop [3, 4] (fun m i => ∃ k : Nat, 1 ≤ k ∧ k ≤ n ∧ i = .int .i64 k ∧ m = .int .i64 (mnT xs k)) (fun _ i => n - (intOf i).toNat)
  case atStart => exact ⟨1, by omega, by omega, rfl, by simp [mnT]⟩
  case round =>
    obtain ⟨k, hk0, hk, rfl, rfl⟩ := hrel
    by_cases hlt : k < n
    · have e1 := hc1 k hlt
      clear hc1
      have hd : mnT xs (k + 1) = min (mnT xs k) (xs[k]?.getD 0) := rfl
      have HD := Lib.hid hd
      clear hd
      obtain ⟨x, hx⟩ : ∃ x, xs[k]?.getD 0 = x := ⟨_, rfl⟩
      obtain ⟨m, hm⟩ : ∃ m, mnT xs k = m := ⟨_, rfl⟩
      rw [hx] at e1
      rw [hx, hm] at HD
      rw [hm]
      clear hx hm
      have hi : (k : Int) < (n : Int) := by omega
      have hi0 : (0 : Int) ≤ (k : Int) := by omega
      rcases Int.lt_or_le x m with t | t
      · have t' : x ≤ m := by omega
        go_wp2_with fail
        go_round
        case rel => exact ⟨k + 1, by omega, by omega, by go_num, by rw [HD.out]; exact congrArg _ (by omega)⟩
        case measure => simp [intOf]; omega
      · go_wp2_with fail
        go_round
        case rel => exact ⟨k + 1, by omega, by omega, by go_num, by rw [HD.out]; exact congrArg _ (by omega)⟩
        case measure => simp [intOf]; omega
    · have hle : (n : Int) ≤ (k : Int) := by omega
      obtain rfl : k = n := by omega
      go_wp2_with fail
      go_ret
      exact ⟨rfl, rfl⟩

set_option maxHeartbeats 400000 in
theorem peak_any (a : Option Addr) (n c : Nat) (xs : List Int) (w : World) (h1 : SI w a n c xs) (h0 : 0 < n) (hb : ∀ j : Nat, -9000000000000000000 ≤ xs[j]?.getD 0 ∧ xs[j]?.getD 0 ≤ 9000000000000000000) :
    Calls Try.prog 104 #[.slice a n c] w fun e w' => e = .returned (.int .i64 (gsT xs n)) ∧ w = w' := by
  have hp := peak_law xs n h0
  have hm : -9000000000000000000 ≤ mnT xs n ∧ mnT xs n ≤ 9000000000000000000 := by
    have key : ∀ k, -9000000000000000000 ≤ mnT xs k ∧ mnT xs k ≤ 9000000000000000000 := by
      intro k
      induction k with
      | zero => exact hb 0
      | succ k ih =>
        have := hb k
        rw [mnT]
        omega
    exact key n
  obtain ⟨hm1, hm2⟩ := hm
  have HP := Lib.hid hp
  clear hp hb
  go_enter Try.func104, Try.ntmps104
  go_wp2_with fail
  refine (nMax_any a n c xs _ h1 h0).mono ?_
  rintro e w1 ⟨rfl, rfl⟩
  go_wp2_with fail
  refine (nMin_any a n c xs _ h1 h0).mono ?_
  rintro e w1 ⟨rfl, rfl⟩
  obtain ⟨M, hM⟩ : ∃ M, mxT xs n = M := ⟨_, rfl⟩
  obtain ⟨m, hm⟩ : ∃ m, mnT xs n = m := ⟨_, rfl⟩
  rw [hM, hm] at HP
  rw [hm] at hm1 hm2 ⊢
  rw [hM]
  clear hM hm
  go_wp2_with fail
  all_goals
    go_ret
    refine ⟨ret_int ?_, rfl⟩
    rw [← HP.out]
    omega

set_option maxRecDepth 100000 in
set_option maxHeartbeats 1000000 in
theorem rGreatest_any (a : Option Addr) (n c : Nat) (xs : List Int) (w : World) (h1 : SI w a n c xs) (hb : ∀ j : Nat, -9000000000000000000 ≤ xs[j]?.getD 0 ∧ xs[j]?.getD 0 ≤ 9000000000000000000) :
    Calls Try.prog 93 #[.slice a n c] w fun e w' => e = .returned (.int .i64 (gsT xs n)) ∧ ∃ k, w' = w.drewN k := by
  have m1 := h1.max
  have c1 := h1.cap
  have HB := Lib.hid hb
  clear hb
  go_enter Try.func93, Try.ntmps93
  go_wp2_with fail
  go_loopw [3, 4] (fun g i wr => ∃ k : Nat, k ≤ n ∧ i = .int .i64 k ∧ g = .int .i64 (gsT xs k) ∧ ∃ q, wr = w.drewN q) (fun _ i _ => n - (intOf i).toNat)
  case atStart => exact ⟨0, by omega, rfl, rfl, 0, rfl⟩
  case round =>
    obtain ⟨k, hk, rfl, rfl, q, rfl⟩ := hrel
    by_cases hlt : k < n
    · obtain ⟨b1, o1, rfl, hc1⟩ := h1.at_ (by omega)
      have e1 := hc1 k hlt
      clear hc1
      have hd : gsT xs (k + 1) = max (gsT xs k) (((xs[k]?.getD 0).natAbs : Nat) : Int) := by rw [gsT, sizeOf_abs]
      have HD := Lib.hid hd
      clear hd
      have hx := HB.out k
      obtain ⟨x, hxx⟩ : ∃ x, xs[k]?.getD 0 = x := ⟨_, rfl⟩
      obtain ⟨m, hm⟩ : ∃ m, gsT xs k = m := ⟨_, rfl⟩
      rw [hxx] at e1 hx
      rw [hxx, hm] at HD
      rw [hm]
      clear hxx hm
      obtain ⟨hx1, hx2⟩ := hx
      have hi : (k : Int) < (n : Int) := by omega
      have hi0 : (0 : Int) ≤ (k : Int) := by omega
      go_wp2_with fail
      refine (size_any _ _ (by omega) (by omega)).mono ?_
      rintro e w1 ⟨rfl, rfl⟩
      rcases Int.lt_or_le m ((x.natAbs : Nat) : Int) with t | t
      · have t' : m ≤ ((x.natAbs : Nat) : Int) := by omega
        go_wp2_with fail
        go_roundw
        case rel => exact ⟨k + 1, by omega, by go_num, by rw [HD.out]; exact congrArg _ (by omega), q, rfl⟩
        case measure => simp [intOf]; omega
      · go_wp2_with fail
        go_roundw
        case rel => exact ⟨k + 1, by omega, by go_num, by rw [HD.out]; exact congrArg _ (by omega), q, rfl⟩
        case measure => simp [intOf]; omega
    · have hle : (n : Int) ≤ (k : Int) := by omega
      obtain rfl : k = n := by omega
      go_wp2_with fail
      go_ret
      exact ⟨rfl, q, rfl⟩
end Go.Proofs.Ytiibdndchkbefaa

namespace Go.Proofs.Ytiibdndchkbefaa
open Go.RowKit
open Calmly (Kept)

/-- Three cells of a block are stored into. -/
theorem set3 {v : World} {r : Nat} {u0 u1 u2 x y z : Value} {t : TypeId} (h : v.heap[r]? = some (.cells #[u0, u1, u2] t)) :
    (((v.setCell ⟨r, 0, none⟩ x).setCell ⟨r, 1, none⟩ y).setCell ⟨r, 2, none⟩ z).cell? ⟨r, 0, none⟩ = some x ∧ (((v.setCell ⟨r, 0, none⟩ x).setCell ⟨r, 1, none⟩ y).setCell ⟨r, 2, none⟩ z).cell? ⟨r, 1, none⟩ = some y ∧ (((v.setCell ⟨r, 0, none⟩ x).setCell ⟨r, 1, none⟩ y).setCell ⟨r, 2, none⟩ z).cell? ⟨r, 2, none⟩ = some z := by
  have h3 : (((v.setCell ⟨r, 0, none⟩ x).setCell ⟨r, 1, none⟩ y).setCell ⟨r, 2, none⟩ z).heap[r]? = some (.cells #[x, y, z] t) := by
    simp [World.setCell, Array.getElem?_modify, h]
  exact ⟨cell_block h3 0, cell_block h3 1, cell_block h3 2⟩

set_option maxRecDepth 100000 in
set_option maxHeartbeats 1000000 in
theorem of_any (a : Option Addr) (n c : Nat) (xs : List Int) (w : World) (h1 : SI w a n c xs) (hn : n ≤ 26) (hb : ∀ j : Nat, -1000 ≤ xs[j]?.getD 0 ∧ xs[j]?.getD 0 ≤ 1000) :
    Calls Try.prog 148 #[.slice a n c] w fun e w' => ∃ av cv ad cd Bd, e = .returned (.agg #[.slice a n c, .slice av n cv, .slice ad n cd]) ∧ OwI w' (w.heap.size + 1) av n cv (sumsF xs) ∧ OwI w' Bd ad n cd (sumsF (sumsF xs)) ∧ w.heap.size + 1 ≤ Bd ∧ Below w.heap.size w w' := by
  have hA : ∀ o, Below w.heap.size w (w.alloc o) := fun o => (Below.refl _ _).alloc (Nat.le_refl _) _
  have m1 := h1.max
  have c1 := h1.cap
  obtain ⟨l1, l2⟩ : n ≤ xs.length ∧ xs.length ≤ n := by have := h1.len; omega
  have HB := Lib.hid hb
  have hb2 : Hid (∀ j : Nat, -1000000000 ≤ (sumsF xs)[j]?.getD 0 ∧ (sumsF xs)[j]?.getD 0 ≤ 1000000000) := Lib.hid (fun j => by
    rcases Nat.lt_or_ge j xs.length with h | h
    · rw [sumsF_get xs j h]
      have := sumT_bd hb (j + 1)
      omega
    · rw [List.getElem?_eq_none (by rw [sumsF_len]; exact h)]
      simp)
  clear hb
  go_enter Try.func148, Try.ntmps148
  go_wp2_with fail
  refine (sums_any a n c xs _ (h1.keep (hA _)) (by omega) (fun j => by have := HB.out j; omega)).mono ?_
  rintro e w1 ⟨av, cv, rfl, ov, hs⟩
  have x1 := box1 (w := w) (o := .cells #[.slice none 0 0, .slice none 0 0, .slice none 0 0] 177) hs
  have BW := (hA (.cells #[.slice none 0 0, .slice none 0 0, .slice none 0 0] 177)).trans (hs.mono (by simp))
  replace ov : OwI w1 (w.heap.size + 1) av n cv (sumsF xs) := by simpa using ov
  clear hs
  go_wp2_with fail
  refine (sums_any av n cv (sumsF xs) _ ov.si (by omega) hb2.out).mono ?_
  rintro e w2 ⟨ad, cd, rfl, od, hs⟩
  have x2 := blk_keep x1 hs
  have BW2 := BW.trans (hs.mono BW.size)
  have ov2 := ov.keep hs
  have hlt := blk_lt x1
  have f0 := cell_block x2 0
  have f1 := cell_block x2 1
  have f2 := cell_block x2 2
  have f3 := frozen_block x2 0
  have f4 := frozen_block x2 1
  have f5 := frozen_block x2 2
  clear hs ov BW x1
  go_wp2_with fail
  obtain ⟨s1, s2, s3⟩ := set3 (x := .slice a n c) (y := .slice av n cv) (z := .slice ad n cd) x2
  refine bodyPost_ret (v := .agg #[.slice a n c, .slice av n cv, .slice ad n cd]) (by simp [results, Try.results148, go_sem, s1, s2, s3]) rfl ⟨av, cv, ad, cd, w1.heap.size, rfl, ?_, ?_, by omega, ?_⟩
  · exact (ov2.under2 (by omega) _ _).under (by omega) _
  · exact (od.under2 (by omega) _ _).under (by omega) _
  · exact ((BW2.setCell (by simp) _).setCell (by simp) _).setCell (by simp) _
end Go.Proofs.Ytiibdndchkbefaa

namespace Go.Proofs.Ytiibdndchkbefaa
open Go.RowKit
open Calmly (Kept)

theorem idx_tr1 (a b d : Option Addr) (n c m e k f : Nat) (w : World) : Sem.run Try.prog (Instr.index 177 (.agg #[.slice a n c, .slice b m e, .slice d k f]) (.int .i64 1)) w = .ok (.slice b m e) w := by kernel_rfl
theorem idx_tr2 (a b d : Option Addr) (n c m e k f : Nat) (w : World) : Sem.run Try.prog (Instr.index 177 (.agg #[.slice a n c, .slice b m e, .slice d k f]) (.int .i64 2)) w = .ok (.slice d k f) w := by kernel_rfl

set_option maxRecDepth 100000 in
set_option maxHeartbeats 1000000 in
theorem VelocitiesOf_any (step : Int) (a : Option Addr) (n c : Nat) (xs : List Int) (w : World) (h1 : SI w a n c xs) (E : Int) (X : List Int) (hE : (recF step xs).2 = E) (hno : E ≠ 0 → X = []) (hok : E = 0 → X = sumsF xs) :
    Calls Try.prog 31 #[.agg #[.int .i64 step, .slice a n c]] w fun e w' => ∃ a' n' c', e = .returned (.tuple #[.slice a' n' c', .int .i64 E]) ∧ SI w' a' n' c' X ∧ Below w.heap.size w w' := by
  have hA : ∀ (A : World) (o : Obj), Below A.heap.size A (A.alloc o) := fun A o => (Below.refl _ _).alloc (Nat.le_refl _) _
  have HE := Lib.hid hE
  have HNO := Lib.hid hno
  have HOK := Lib.hid hok
  clear hE hno hok
  have m1 := h1.max
  have c1 := h1.cap
  go_enter Try.func31, Try.ntmps31
  go_wp2_with fail
  have key : Calls Try.prog 98 #[.agg #[.int .i64 step, .slice a n c], .int .i64 1] (w.alloc (.cells #[.int .i64 step, .slice a n c] 24)) fun e w' => ∃ a' n' c', e = .returned (.tuple #[.slice a' n' c', .int .i64 E]) ∧ SI w' a' n' c' X ∧ Below (w.heap.size + 1) (w.alloc (.cells #[.int .i64 step, .slice a n c] 24)) w' := by
    obtain ⟨V, hV⟩ : ∃ V, w.alloc (.cells #[.int .i64 step, .slice a n c] 24) = V := ⟨_, rfl⟩
    have hVs : V.heap.size = w.heap.size + 1 := by rw [← hV]; simp
    have g1 : SI V a n c xs := by rw [← hV]; exact h1.keep (hA _ _)
    rw [hV, ← hVs]
    clear hV hVs h1
    go_enter Try.func98, Try.ntmps98
    go_wp2_with fail
    refine (recordErr_any step a n c xs _ (g1.keep (hA _ _)) E HE.out).mono ?_
    rintro e w1 ⟨rfl, hs⟩
    have x1 := box1 (w := V) (o := .cells #[.int .i64 step, .slice a n c] 24) hs
    have BW := (hA V (.cells #[.int .i64 step, .slice a n c] 24)).trans (hs.mono (by simp))
    clear hs
    have f0 := cell_block x1 0
    have f1 := cell_block x1 1
    by_cases hz : E = 0
    case neg =>
      obtain rfl := HNO.out hz
      have b1 : (E != 0) = true := by simpa using hz
      clear hz
      go_wp2_with fail
      go_ret2
      exact ⟨none, 0, 0, rfl, Sl.nil _ 1, BW⟩
    subst hz
    obtain rfl := HOK.out rfl
    obtain ⟨q1, q2, q3, q4, q5⟩ := recF_ok HE.out
    have hn : n ≤ 26 := by have := g1.len; omega
    have H5 := Lib.hid q5
    clear q1 q2 q3 q4 q5
    go_wp2_with fail
    refine (of_any a n c xs _ (g1.keep BW) hn H5.out).mono ?_
    rintro e w2 ⟨av, cv, ad, cd, Bd, rfl, ov, od, hB, hs⟩
    have BW2 := BW.trans (hs.mono BW.size)
    have sv := ov.si
    clear hs f0 f1 ov od
    have hix := idx_tr1 a av ad n c n cv n cd w2
    go_wp2_with fail
    go_ret2
    exact ⟨av, n, cv, rfl, sv, BW2⟩
  refine key.mono ?_
  rintro e w1 ⟨a', n', c', rfl, hs, hb⟩
  have BW := (hA w (.cells #[.int .i64 step, .slice a n c] 24)).trans (hb.mono (by simp))
  go_wp2_with fail
  go_ret2
  exact ⟨a', n', c', rfl, hs, BW⟩

set_option maxRecDepth 100000 in
set_option maxHeartbeats 1000000 in
theorem DisplacementsOf_any (step : Int) (a : Option Addr) (n c : Nat) (xs : List Int) (w : World) (h1 : SI w a n c xs) (E : Int) (X : List Int) (hE : (recF step xs).2 = E) (hno : E ≠ 0 → X = []) (hok : E = 0 → X = sumsF (sumsF xs)) :
    Calls Try.prog 32 #[.agg #[.int .i64 step, .slice a n c]] w fun e w' => ∃ a' n' c', e = .returned (.tuple #[.slice a' n' c', .int .i64 E]) ∧ SI w' a' n' c' X ∧ Below w.heap.size w w' := by
  have hA : ∀ (A : World) (o : Obj), Below A.heap.size A (A.alloc o) := fun A o => (Below.refl _ _).alloc (Nat.le_refl _) _
  have HE := Lib.hid hE
  have HNO := Lib.hid hno
  have HOK := Lib.hid hok
  clear hE hno hok
  have m1 := h1.max
  have c1 := h1.cap
  go_enter Try.func32, Try.ntmps32
  go_wp2_with fail
  have key : Calls Try.prog 98 #[.agg #[.int .i64 step, .slice a n c], .int .i64 2] (w.alloc (.cells #[.int .i64 step, .slice a n c] 24)) fun e w' => ∃ a' n' c', e = .returned (.tuple #[.slice a' n' c', .int .i64 E]) ∧ SI w' a' n' c' X ∧ Below (w.heap.size + 1) (w.alloc (.cells #[.int .i64 step, .slice a n c] 24)) w' := by
    obtain ⟨V, hV⟩ : ∃ V, w.alloc (.cells #[.int .i64 step, .slice a n c] 24) = V := ⟨_, rfl⟩
    have hVs : V.heap.size = w.heap.size + 1 := by rw [← hV]; simp
    have g1 : SI V a n c xs := by rw [← hV]; exact h1.keep (hA _ _)
    rw [hV, ← hVs]
    clear hV hVs h1
    go_enter Try.func98, Try.ntmps98
    go_wp2_with fail
    refine (recordErr_any step a n c xs _ (g1.keep (hA _ _)) E HE.out).mono ?_
    rintro e w1 ⟨rfl, hs⟩
    have x1 := box1 (w := V) (o := .cells #[.int .i64 step, .slice a n c] 24) hs
    have BW := (hA V (.cells #[.int .i64 step, .slice a n c] 24)).trans (hs.mono (by simp))
    clear hs
    have f0 := cell_block x1 0
    have f1 := cell_block x1 1
    by_cases hz : E = 0
    case neg =>
      obtain rfl := HNO.out hz
      have b1 : (E != 0) = true := by simpa using hz
      clear hz
      go_wp2_with fail
      go_ret2
      exact ⟨none, 0, 0, rfl, Sl.nil _ 1, BW⟩
    subst hz
    obtain rfl := HOK.out rfl
    obtain ⟨q1, q2, q3, q4, q5⟩ := recF_ok HE.out
    have hn : n ≤ 26 := by have := g1.len; omega
    have H5 := Lib.hid q5
    clear q1 q2 q3 q4 q5
    go_wp2_with fail
    refine (of_any a n c xs _ (g1.keep BW) hn H5.out).mono ?_
    rintro e w2 ⟨av, cv, ad, cd, Bd, rfl, ov, od, hB, hs⟩
    have BW2 := BW.trans (hs.mono BW.size)
    have sv := od.si
    clear hs f0 f1 ov od
    have hix := idx_tr2 a av ad n c n cv n cd w2
    go_wp2_with fail
    go_ret2
    exact ⟨ad, n, cd, rfl, sv, BW2⟩
  refine key.mono ?_
  rintro e w1 ⟨a', n', c', rfl, hs, hb⟩
  have BW := (hA w (.cells #[.int .i64 step, .slice a n c] 24)).trans (hb.mono (by simp))
  go_wp2_with fail
  go_ret2
  exact ⟨a', n', c', rfl, hs, BW⟩
end Go.Proofs.Ytiibdndchkbefaa

namespace Go.Proofs.Ytiibdndchkbefaa
open Go.RowKit
open Calmly (Kept)

set_option maxRecDepth 100000 in
set_option maxHeartbeats 1000000 in
theorem end_any (a : Option Addr) (n c : Nat) (xs : List Int) (w : World) (h1 : SI w a n c xs) (hn0 : 0 < n) (hn : n ≤ 26) (hb : ∀ j : Nat, -1000 ≤ xs[j]?.getD 0 ∧ xs[j]?.getD 0 ≤ 1000) (V D : Int) (hV : sumT xs n = V) (hD : sumT (sumsF xs) n = D) :
    Calls Try.prog 99 #[.slice a n c] w fun e w' => e = .returned (.agg #[.int .i64 V, .int .i64 D]) ∧ Below w.heap.size w w' := by
  have hA : ∀ (A : World) (o : Obj), Below A.heap.size A (A.alloc o) := fun A o => (Below.refl _ _).alloc (Nat.le_refl _) _
  obtain ⟨l1, l2⟩ : n ≤ xs.length ∧ xs.length ≤ n := by have := h1.len; omega
  have m1 := h1.max
  have c1 := h1.cap
  have HB := Lib.hid hb
  have e1 : (sumsF xs)[n - 1]?.getD 0 = V := by rw [sumsF_get xs (n - 1) (by omega), ← hV]; congr 1; omega
  have e2 : (sumsF (sumsF xs))[n - 1]?.getD 0 = D := by rw [sumsF_get (sumsF xs) (n - 1) (by rw [sumsF_len]; omega), ← hD]; congr 1; omega
  have HE1 := Lib.hid e1
  have HE2 := Lib.hid e2
  clear hb e1 e2 hV hD
  have hn1 : ((n : Int) - 1).toNat = n - 1 := by omega
  have hn2 : (0 : Int) ≤ (n : Int) - 1 := by omega
  have hn3 : (n : Int) - 1 < (n : Int) := by omega
  go_enter Try.func99, Try.ntmps99
  go_wp2_with fail
  refine (of_any a n c xs _ (h1.keep (hA _ _)) hn HB.out).mono ?_
  rintro e w1 ⟨av, cv, ad, cd, Bd, rfl, ov, od, hBd, hs⟩
  have x1 := box1 (w := w) (o := .cells #[.int .i64 0, .int .i64 0] 58) hs
  have BW := (hA w (.cells #[.int .i64 0, .int .i64 0] 58)).trans (hs.mono (by simp))
  have hk3 := hA w1 (.cells #[.slice a n c, .slice av n cv, .slice ad n cd] 177)
  have x3 := alloc_new w1 (.cells #[.slice a n c, .slice av n cv, .slice ad n cd] 177)
  have sv := ov.si.keep hk3
  have sd := od.si.keep hk3
  replace x1 := blk_keep x1 hk3
  replace BW := BW.trans (hk3.mono BW.size)
  obtain ⟨bv, oV, rfl, hcv⟩ := sv.at_ hn0
  obtain ⟨bd, oD, rfl, hcd⟩ := sd.at_ hn0
  have ev := hcv (n - 1) (by omega)
  have ed := hcd (n - 1) (by omega)
  rw [HE1.out] at ev
  rw [HE2.out] at ed
  clear hs hk3 hcv hcd ov od
  go_wp2_with fail
  refine Calmly.wp_region_mix 10 (.fl 0 <| .fl 1 <| .fl 2 <| .fl 3 <| .fl 4 <| .fl 5 <| .fl 6 <| .fl 7 <| .fl 8 <| .fl 9 <| .tail [10, 11]) (by kernel_rfl) (by kernel_rfl) ?_
  replace x3 := blk_keep x3 (Below.refl _ _).drew
  replace x1 := blk_keep x1 (Below.refl _ _).drew
  replace ev := cell_keep ev (Below.refl _ _).drew
  replace ed := cell_keep ed (Below.refl _ _).drew
  replace BW := BW.drew
  clear sv sd
  generalize World.drew _ = U at x1 x3 ev ed BW ⊢
  have f0 := cell_block x3 0
  have f1 := cell_block x3 1
  have f2 := cell_block x3 2
  have g0 := cell_block x1 0
  have g1 := cell_block x1 1
  have g2 := frozen_block x1 0
  have g3 := frozen_block x1 1
  have hk := Below.refl U.heap.size U
  go_wp2_with (first | ((with_reducible refine Calmly.is_fl ?_); refine Calmly.mix_fl rfl ?_ (fun _ _ => ?_); (first | exact .move _ | exact .load _ _ | exact .fieldAddr _ _ _ (by kernel_rfl) | exact .assign _ | exact .binOp _ _ _ _ _ rfl | exact .indexAddr _ _ _ | exact .len _ _ (by kernel_rfl) | exact .field _ _ _ | exact .extract _ _ | exact .pick _ _ _ | exact .build _ _ | exact .slice _ _ _ _ _ | exact .unOp _ _ _ rfl | exact .index _ _ _ | exact .max _ _ _ rfl rfl | exact .min _ _ _ rfl rfl)) | ((with_reducible refine Calmly.is_gl ?_); refine Calmly.mix_gl rfl rfl rfl ?_; first | ((first | with_reducible refine Calmly.gl_tt ?_ (fun _ _ => ?_) | with_reducible refine Calmly.gl_ff ?_ (fun _ _ => ?_)); (first | exact .move _ | exact .load _ _ | exact .fieldAddr _ _ _ (by kernel_rfl) | exact .assign _ | exact .binOp _ _ _ _ _ rfl | exact .indexAddr _ _ _ | exact .len _ _ (by kernel_rfl) | exact .field _ _ _ | exact .extract _ _ | exact .pick _ _ _ | exact .build _ _ | exact .slice _ _ _ _ _ | exact .unOp _ _ _ rfl | exact .index _ _ _ | exact .max _ _ _ rfl rfl | exact .min _ _ _ rfl rfl)) | with_reducible refine Calmly.gl_tf (fun _ _ => ?_) | with_reducible refine Calmly.gl_ft (fun _ _ => ?_)) | ((with_reducible refine Calmly.is_eff ?_); refine Calmly.mix_eff rfl (fun _ _ => ?_)) | ((with_reducible refine Calmly.is_gf ?_); refine Calmly.mix_gf rfl rfl rfl ?_; first | with_reducible refine Calmly.gf_tt (fun _ _ => ?_) | with_reducible refine Calmly.gf_ff (fun _ _ => ?_) | with_reducible refine Calmly.gf_tf (kept_of hk) (fun _ _ => ?_) | with_reducible refine Calmly.gf_ft (kept_of hk) (fun _ _ => ?_)) | ((with_reducible refine Calmly.is_tail ?_); first | refine Calmly.mix_tail_nil ?_ | refine Calmly.mix_tail rfl (fun _ _ => ?_)) | ((with_reducible refine Calmly.is_kept ?_); refine ⟨kept_of hk, ?_⟩) | (with_reducible refine Calmly.mix_alt ?_ ?_))
  obtain ⟨s1, s2, s3, s4⟩ := set2 (x := .int .i64 V) (y := .int .i64 D) g0 g1
  refine bodyPost_ret (v := .agg #[.int .i64 V, .int .i64 D]) (by simp [results, Try.results99, go_sem, s1, s2]) rfl ⟨rfl, ?_⟩
  exact (BW.setCell (by simp) _).setCell (by simp) _
end Go.Proofs.Ytiibdndchkbefaa

namespace Go.Proofs.Ytiibdndchkbefaa
open Go.RowKit
open Calmly (Kept)

set_option maxRecDepth 100000 in
set_option maxHeartbeats 1000000 in
theorem EndOf_any (step : Int) (a : Option Addr) (n c : Nat) (xs : List Int) (w : World) (h1 : SI w a n c xs) (E V D : Int) (hE : (recF step xs).2 = E) (hno : E ≠ 0 → V = 0 ∧ D = 0) (hok : E = 0 → sumT xs n = V ∧ sumT (sumsF xs) n = D) :
    Calls Try.prog 33 #[.agg #[.int .i64 step, .slice a n c]] w fun e w' => e = .returned (.tuple #[.agg #[.int .i64 V, .int .i64 D], .int .i64 E]) ∧ Below w.heap.size w w' := by
  have hb2 : Below w.heap.size w ((w.alloc (.cells #[.int .i64 step, .slice a n c] 24)).alloc (.cells #[.int .i64 0, .int .i64 0] 58)) := ((Below.refl _ _).alloc (Nat.le_refl _) _).alloc (by simp) _
  have HE := Lib.hid hE
  have HNO := Lib.hid hno
  have HOK := Lib.hid hok
  clear hE hno hok
  have m1 := h1.max
  have c1 := h1.cap
  go_enter Try.func33, Try.ntmps33
  go_wp2_with fail
  refine (recordErr_any step a n c xs _ (h1.keep hb2) E HE.out).mono ?_
  rintro e w1 ⟨rfl, hs⟩
  obtain ⟨x1, x2⟩ := box2 (w := w) (o := .cells #[.int .i64 step, .slice a n c] 24) (o' := .cells #[.int .i64 0, .int .i64 0] 58) hs
  have BW := hb2.trans (hs.mono hb2.size)
  have hlt := blk_lt x2
  clear hs
  have f0 := cell_block x1 0
  have f1 := cell_block x1 1
  have g0 := cell_block x2 0
  have g1 := cell_block x2 1
  have g2 := frozen_block x2 0
  have g3 := frozen_block x2 1
  by_cases hz : E = 0
  case neg =>
    obtain ⟨rfl, rfl⟩ := HNO.out hz
    have b1 : (E != 0) = true := by simpa using hz
    clear hz
    go_wp2_with fail
    obtain ⟨s1, s2, s3, s4⟩ := set2 (x := .int .i64 0) (y := .int .i64 0) g0 g1
    refine bodyPost_ret (v := .tuple #[.agg #[.int .i64 0, .int .i64 0], .int .i64 E]) (by simp [results, Try.results33, go_sem, s1, s2]) rfl ⟨rfl, ?_⟩
    exact (BW.setCell (by simp) _).setCell (by simp) _
  subst hz
  obtain ⟨hV, hD⟩ := HOK.out rfl
  obtain ⟨q1, q2, q3, q4, q5⟩ := recF_ok HE.out
  have hl := h1.len
  have hn0 : 0 < n := by omega
  have hn : n ≤ 26 := by omega
  have H5 := Lib.hid q5
  have HV := Lib.hid hV
  have HD := Lib.hid hD
  clear q1 q2 q3 q4 q5 hV hD hl
  go_wp2_with fail
  refine (end_any a n c xs _ (h1.keep BW) hn0 hn H5.out V D HV.out HD.out).mono ?_
  rintro e w2 ⟨rfl, hs⟩
  replace x2 := blk_keep x2 hs
  replace BW := BW.trans (hs.mono BW.size)
  clear f0 f1 g0 g1 g2 g3 hs
  have g0 := cell_block x2 0
  have g1 := cell_block x2 1
  have g2 := frozen_block x2 0
  have g3 := frozen_block x2 1
  go_wp2_with fail
  obtain ⟨s1, s2, s3, s4⟩ := set2 (x := .int .i64 V) (y := .int .i64 D) g0 g1
  refine bodyPost_ret (v := .tuple #[.agg #[.int .i64 V, .int .i64 D], .int .i64 0]) (by simp [results, Try.results33, go_sem, s1, s2]) rfl ⟨rfl, ?_⟩
  exact (BW.setCell (by simp) _).setCell (by simp) _
end Go.Proofs.Ytiibdndchkbefaa
