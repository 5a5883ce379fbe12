/- Contracts of chapter 6: the count below a square. Contracts of chapter 6: the enclosure of a mode. Contracts of chapter 6: EnclosureOf. Contracts of chapter 6: the error of a decay. Contracts of chapter 6: a decay opened. -/
import Derived.Test.YteigmjlfpmdmoaaGreatDoorK08
namespace Go.Proofs.YteigmjlfpmdmoaaGreatDoor
open Go.RowKit Go.Shelf
attribute [local go_sem] Oper.semAt_some
open Calmly (Kept)

set_option maxHeartbeats 1000000 in
theorem determinants_any (x y : Value) (num den : Int) (w : World) :
    Calls Tryz.prog 93 #[.agg #[x, y], .int .i64 num, .int .i64 den] w fun e w' => e = .returned (.func (.func 106) #[] #[.pointer (some ⟨w.heap.size, 0, none⟩), .pointer (some ⟨w.heap.size + 2, 0, none⟩), .pointer (some ⟨w.heap.size + 1, 0, none⟩)]) ∧ w' = ((w.alloc (.cells #[x, y] 118)).alloc (.cells #[.int .i64 num] 3)).alloc (.cells #[.int .i64 den] 3) := by
  go_enter Tryz.func93, Tryz.ntmps93
  go_wp2
  go_ret
  exact ⟨rfl, rfl⟩

/-- The count, the last sign, the last determinant. -/
def bStep (st : Int × Int × Int) (x : Int) : Int × Int × Int := if x.sign ≠ 0 ∧ x.sign ≠ st.2.1 then (st.1 + 1, x.sign, x) else (st.1, st.2.1, x)
def bAll (l : List Int) : Int × Int × Int := l.foldl bStep (0, 1, 1)
theorem bAll_snoc (l : List Int) (x : Int) : bAll (l ++ [x]) = bStep (bAll l) x := by simp [bAll]
theorem bAll_bd (l : List Int) : 0 ≤ (bAll l).1 ∧ (bAll l).1 ≤ l.length := by
  unfold bAll
  suffices h : ∀ (st : Int × Int × Int) (n : Nat), 0 ≤ st.1 ∧ st.1 ≤ n → 0 ≤ (l.foldl bStep st).1 ∧ (l.foldl bStep st).1 ≤ (n + l.length : Nat) by
    have := h (0, 1, 1) 0 ⟨by decide, by decide⟩
    simpa using this
  induction l with
  | nil => intro st n h; simpa using h
  | cons x l ih =>
    intro st n h
    have := ih (bStep st x) (n + 1) (by unfold bStep; split <;> simp <;> omega)
    rw [List.foldl_cons]
    simp only [List.length_cons]
    rw [show n + (l.length + 1) = n + 1 + l.length by omega]
    exact this
def belowF (ms ks : List Int) (num den : Int) : Int := (bAll (dets ms ks num den ms.length)).1
def modeF (ms ks : List Int) (num den : Int) : Bool := (bAll (dets ms ks num den ms.length)).2.2 == 0

/-- Blocks laid one after the other. -/
theorem allocs_below (os : List Obj) (w : World) : Below w.heap.size w (os.foldl World.alloc w) ∧ (os.foldl World.alloc w).heap.size = w.heap.size + os.length := by
  induction os generalizing w with
  | nil => exact ⟨Below.refl _ _, rfl⟩
  | cons o os ih =>
    obtain ⟨h1, h2⟩ := ih (w.alloc o)
    have h3 : Below w.heap.size w (w.alloc o) := (Below.refl _ _).alloc (Nat.le_refl _) _
    refine ⟨h3.trans (h1.mono (by simp)), ?_⟩
    rw [List.foldl_cons, h2]
    simp
    omega
theorem allocs_at (os : List Obj) (w : World) (j : Nat) (hj : j < os.length) : (os.foldl World.alloc w).heap[w.heap.size + j]? = os[j]? := by
  induction os generalizing w j with
  | nil => simp at hj
  | cons o os ih =>
    rw [List.foldl_cons]
    cases j with
    | zero => exact blk_keep (alloc_new w o) (allocs_below os _).1
    | succ j =>
      have := ih (w.alloc o) j (by simpa using hj)
      simp only [World.size_alloc] at this
      rw [List.getElem?_cons_succ, ← this]
      congr 1
      omega
theorem own_blk {β : Type} (B b : Nat) (f : β → Obj) (hf : ∀ s, (f s).isCells = true) : OwnFrom B (fun s W => W.heap[b]? = some (f s)) := fun s X Y row hs hg hr => by
  refine (hg.block b (Array.getElem?_eq_some_iff.1 hs).1 ?_).trans hs
  intro e
  obtain ⟨_, o, ho, hc⟩ := hr b e.symm
  rw [hs] at ho
  cases ho
  rw [hf] at hc
  cases hc
theorem own_pure {β : Type} (B : Nat) (p : β → Prop) : OwnFrom B (fun s _ => p s) := fun _ _ _ _ hs _ _ => hs
/-- What the caller's own cells hold. -/
def Cd (w : World) (s : Nat) (st : Int × Int × Int) (W : World) : Prop :=
  ((W.heap[s + 1]? = some (.cells #[.int .i64 st.1] 3) ∧ W.heap[s + 1 + 1]? = some (.cells #[.int .i64 st.2.1] 3)) ∧ W.heap[s + 1 + 1 + 1]? = some (.cells #[.int .i64 st.2.2] 3)) ∧ Below s w W
theorem own_cd {β : Type} (w : World) (B : Nat) (f : β → Int × Int × Int) (hB : w.heap.size ≤ B) : OwnFrom B (fun s W => Cd w w.heap.size (f s) W) :=
  OwnFrom.and (OwnFrom.and (OwnFrom.and (own_blk B _ (fun s => .cells #[.int .i64 (f s).1] 3) (fun _ => rfl)) (own_blk B _ (fun s => .cells #[.int .i64 (f s).2.1] 3) (fun _ => rfl))) (own_blk B _ (fun s => .cells #[.int .i64 (f s).2.2] 3) (fun _ => rfl))) (ownFrom_below (Nat.le_refl _) hB)

theorem Dt.set {w v : World} {bf bd bn : Nat} {F : Obj} {num den : Int} (h : Dt w bf bd bn F num den v) {r o : Nat} (h1 : w.heap.size ≤ r) (h2 : r < bf) (h3 : r < bd) (h4 : r < bn) (x : Value) : Dt w bf bd bn F num den (v.setCell ⟨r, o, none⟩ x) := by
  obtain ⟨d1, d2, d3, d4, d5⟩ := h
  have hs : (v.setCell ⟨r, o, none⟩ x).heap.size = v.heap.size := by simp [World.setCell]
  have hk : ∀ k, k ≠ r → (v.setCell ⟨r, o, none⟩ x).heap[k]? = v.heap[k]? := fun k hk => Below.heap_setCell _ _ _ _ hk
  exact ⟨by omega, fun k hk' => (hk k (by omega)).trans (d2 k hk'), (hk _ (by omega)).trans d3, (hk _ (by omega)).trans d4, (hk _ (by omega)).trans d5⟩
theorem Dt.put {w v : World} {bf bd bn : Nat} {F : Obj} {num den : Int} (h : Dt w bf bd bn F num den v) {l : Nat} (h1 : w.heap.size ≤ l) (h2 : bf < l) (h3 : bd < l) (h4 : bn < l) (o : Obj) : Dt w bf bd bn F num den (v.putObj l o) := by
  obtain ⟨d1, d2, d3, d4, d5⟩ := h
  have hk : ∀ k, k ≠ l → (v.putObj l o).heap[k]? = v.heap[k]? := fun k hk => World.putObj_heap_other hk
  exact ⟨by simpa using d1, fun k hk' => (hk k (by omega)).trans (d2 k hk'), (hk _ (by omega)).trans d3, (hk _ (by omega)).trans d4, (hk _ (by omega)).trans d5⟩
theorem blk_set {W : World} {b : Nat} {u : Value} {t : TypeId} (h : W.heap[b]? = some (.cells #[u] t)) (v : Value) : (W.setCell ⟨b, 0, none⟩ v).heap[b]? = some (.cells #[v] t) := by
  simp [World.setCell, Array.getElem?_modify, h]
theorem blk_other {W : World} {b r : Nat} {o : Obj} (h : W.heap[b]? = some o) (hne : b ≠ r) (v : Value) : (W.setCell ⟨r, 0, none⟩ v).heap[b]? = some o := (Below.heap_setCell _ _ _ _ hne).trans h
theorem Cd.set3 {w W : World} {st : Int × Int × Int} (h : Cd w w.heap.size st W) (x : Int) : Cd w w.heap.size (st.1, st.2.1, x) (W.setCell ⟨w.heap.size + 1 + 1 + 1, 0, none⟩ (.int .i64 x)) := by
  obtain ⟨⟨⟨h1, h2⟩, h3⟩, hb⟩ := h
  exact ⟨⟨⟨blk_other h1 (by omega) _, blk_other h2 (by omega) _⟩, blk_set h3 _⟩, hb.setCell (by show _ ≤ w.heap.size + 1 + 1 + 1; omega) _⟩
theorem Cd.set12 {w W : World} {st : Int × Int × Int} (h : Cd w w.heap.size st W) (x y : Int) : Cd w w.heap.size (x, y, st.2.2) ((W.setCell ⟨w.heap.size + 1, 0, none⟩ (.int .i64 x)).setCell ⟨w.heap.size + 1 + 1, 0, none⟩ (.int .i64 y)) := by
  obtain ⟨⟨⟨h1, h2⟩, h3⟩, hb⟩ := h
  exact ⟨⟨⟨blk_other (blk_set h1 _) (by omega) _, blk_set (blk_other h2 (by omega) _) _⟩, blk_other (blk_other h3 (by omega) _) (by omega) _⟩, (hb.setCell (by show _ ≤ w.heap.size + 1; omega) _).setCell (by show _ ≤ w.heap.size + 1 + 1; omega) _⟩
theorem Cd.cells {w W : World} {st : Int × Int × Int} (h : Cd w w.heap.size st W) : W.cell? ⟨w.heap.size + 1, 0, none⟩ = some (.int .i64 st.1) ∧ W.cell? ⟨w.heap.size + 1 + 1, 0, none⟩ = some (.int .i64 st.2.1) ∧ W.cell? ⟨w.heap.size + 1 + 1 + 1, 0, none⟩ = some (.int .i64 st.2.2) ∧
    W.frozen? ⟨w.heap.size + 1, 0, none⟩ = false ∧ W.frozen? ⟨w.heap.size + 1 + 1, 0, none⟩ = false ∧ W.frozen? ⟨w.heap.size + 1 + 1 + 1, 0, none⟩ = false := by
  obtain ⟨⟨⟨h1, h2⟩, h3⟩, _⟩ := h
  exact ⟨cell_block h1 0, cell_block h2 0, cell_block h3 0, frozen_block h1 0, frozen_block h2 0, frozen_block h3 0⟩

set_option maxRecDepth 100000 in
set_option maxHeartbeats 4000000 in
theorem below_any (a b : Option Addr) (m c d : Nat) (ms ks : List Int) (num den : Int) (w : World) (h1 : SI w a m c ms) (h2 : SI w b m d ks) (he : (checkF ms ks).2 = 0) (hq : Sq num den) :
    Calls Tryz.prog 68 #[.agg #[.slice a m c, .slice b m d], .int .i64 num, .int .i64 den] w fun e w' => e = .returned (.tuple #[.int .i64 (belowF ms ks num den), .bool (modeF ms ks num den)]) ∧ Below w.heap.size w w' := by
  refine (callsIn_wide (n := 5)).1 ?_
  refine callsIn_of_wp_marks Tryz.func68 rfl trivial ?_ rfl
  simp only [Tryz.ntmps68, List.size_toArray, List.length_cons, List.length_nil, Nat.reduceAdd, Nat.reduceSub, Array.replicate_succ, Array.replicate_zero, List.push_toArray, List.append_toArray, List.nil_append, List.cons_append]
  gi_wp2_with (refine ⟨trivial, ?_⟩; gi_at_call 93; refine (callsIn_wide.2 (determinants_any _ _ _ _ _)).mono ?_; rintro e w' ⟨rfl, rfl⟩)
  obtain ⟨V, hV⟩ : ∃ V, (((((((w.alloc (.cells #[.slice a m c, .slice b m d] 118)).alloc (.cells #[.int .i64 0] 3)).alloc (.cells #[.int .i64 1] 3)).alloc (.cells #[.int .i64 1] 3)).alloc (.cells #[.slice a m c, .slice b m d] 118)).alloc (.cells #[.int .i64 num] 3)).alloc (.cells #[.int .i64 den] 3)) = V := ⟨_, rfl⟩
  have hVl : ([(.cells #[.slice a m c, .slice b m d] 118), (.cells #[.int .i64 0] 3), (.cells #[.int .i64 1] 3), (.cells #[.int .i64 1] 3), (.cells #[.slice a m c, .slice b m d] 118), (.cells #[.int .i64 num] 3), (.cells #[.int .i64 den] 3)] : List Obj).foldl World.alloc w = V := hV
  obtain ⟨hVb, hVs⟩ := allocs_below [(.cells #[.slice a m c, .slice b m d] 118), (.cells #[.int .i64 0] 3), (.cells #[.int .i64 1] 3), (.cells #[.int .i64 1] 3), (.cells #[.slice a m c, .slice b m d] 118), (.cells #[.int .i64 num] 3), (.cells #[.int .i64 den] 3)] w
  have hVa := allocs_at [(.cells #[.slice a m c, .slice b m d] 118), (.cells #[.int .i64 0] 3), (.cells #[.int .i64 1] 3), (.cells #[.int .i64 1] 3), (.cells #[.slice a m c, .slice b m d] 118), (.cells #[.int .i64 num] 3), (.cells #[.int .i64 den] 3)] w
  rw [hVl] at hVb hVs hVa
  clear hVl
  have hv1 := hVa 1 (by simp)
  have hv2 := hVa 2 (by simp)
  have hv3 := hVa 3 (by simp)
  have hv4 := hVa 4 (by simp)
  have hv5 := hVa 5 (by simp)
  have hv6 := hVa 6 (by simp)
  simp only [List.length_cons, List.length_nil, Nat.reduceAdd] at hVs
  clear hVa
  rw [hV]
  clear hV
  have hDV : Dt w (w.heap.size + 1 + 1 + 1 + 1) (w.heap.size + 1 + 1 + 1 + 1 + 2) (w.heap.size + 1 + 1 + 1 + 1 + 1) (.cells #[.slice a m c, .slice b m d] 118) num den V := ⟨by omega, hVb.block, hv4, hv6, hv5⟩
  have hCV : Cd w w.heap.size (bAll []) V := ⟨⟨⟨hv1, hv2⟩, hv3⟩, hVb⟩
  clear hv1 hv2 hv3 hv4 hv5 hv6
  obtain ⟨l1, l2⟩ : m ≤ ms.length ∧ ms.length ≤ m := by have := h1.len; omega
  have hq0 : m ≤ 4 := by have := (checkF_ok he).2.2.1; omega
  refine range_mid (gf := 106) (N := m) (m := 4) rfl (enters_of Tryz.func106 (by kernel_rfl) rfl) (enc := fun x : Int => #[Value.int .i64 x])
    (Kp := fun A B => Dt w (w.heap.size + 1 + 1 + 1 + 1) (w.heap.size + 1 + 1 + 1 + 1 + 2) (w.heap.size + 1 + 1 + 1 + 1 + 1) (.cells #[.slice a m c, .slice b m d] 118) num den A → Dt w (w.heap.size + 1 + 1 + 1 + 1) (w.heap.size + 1 + 1 + 1 + 1 + 2) (w.heap.size + 1 + 1 + 1 + 1 + 1) (.cells #[.slice a m c, .slice b m d] 118) num den B)
    (S := fun xs => xs = dets ms ks num den m) ?_ (fun h k d => k (h d)) ?_ (fun _ => rfl)
    (fun pre W => Cd w w.heap.size (bAll pre) W) (own_cd w _ _ (by omega)) hCV
    (fun pre x a' W => (Cd w w.heap.size ((bAll pre).1, (bAll pre).2.1, x) W ∧ pre.length < m) ∧ a' = ⟨#[Value.agg #[Value.slice a m c, Value.slice b m d], Value.int IntKind.i64 num, Value.int IntKind.i64 den,
          Value.pointer (some { block := w.heap.size, off := 0 }), undef, undef, Value.int IntKind.i64 0,
          Value.bool false, Value.pointer (some { block := w.heap.size + 1, off := 0 }),
          Value.pointer (some { block := w.heap.size + 1 + 1, off := 0 }),
          Value.pointer (some { block := w.heap.size + 1 + 1 + 1, off := 0 }), undef,
          Value.agg #[Value.slice a m c, Value.slice b m d], Value.int IntKind.i64 num, Value.int IntKind.i64 den,
          Value.func (Fn.func 106) #[]
            #[Value.pointer (some { block := w.heap.size + 1 + 1 + 1 + 1, off := 0 }),
              Value.pointer (some { block := w.heap.size + 1 + 1 + 1 + 1 + 2, off := 0 }),
              Value.pointer (some { block := w.heap.size + 1 + 1 + 1 + 1 + 1, off := 0 })],
          .int .i64 x, undef, undef, undef, undef, undef, undef, undef, undef, undef, undef, undef, undef, undef, undef,
          undef], []⟩)
    (fun pre x a' => OwnFrom.and (OwnFrom.and (own_cd w _ _ (by omega)) (own_pure _ (fun _ => pre.length < m))) (own_pure _ (fun _ => a' = _))) ?assign ?body ?done
  · intro l J W hW hJ hY hJ0
    refine (dets_call l J (fun _ _ => False) w W a b m c d _ _ _ ms ks num den h1 h2 he hq (hDV.below hW) hJ 4 (fun pre x W1 hj hl => (hY pre x W1 hj hl).mono (fun e W' h => .inl ⟨h.1, h.2.1, h.2.2⟩)) hJ0).mono ?_
    rintro e W' ⟨hv, h | ⟨_, h⟩⟩
    · exact ⟨hv, _, rfl, h⟩
    · exact h.elim
  · intro W l o o' hl ho hc hd
    exact hd.put (by omega) (by omega) (by omega) (by omega) _
  case assign =>
    rintro l pre x W K hi hlen hK
    obtain ⟨c1, c2, c3, r1, r2, r3⟩ := hi.cells
    gi_wp2
    exact hK _ _ (KeepsOthers.setCell _ _ _) (fun h => h.set (by omega) (by omega) (by omega) (by omega) _) ⟨⟨hi.set3 x, hlen⟩, rfl⟩
  case body =>
    rintro l pre x a' W ⟨⟨hC, hlen⟩, rfl⟩
    obtain ⟨c1, c2, c3, r1, r2, r3⟩ := hC.cells
    have hbd := bAll_bd pre
    obtain ⟨st, hst⟩ : ∃ st, bAll pre = st := ⟨_, rfl⟩
    rw [hst] at hC hbd c1 c2 c3
    obtain ⟨ct, la, dd⟩ := st
    dsimp only at hC hbd c1 c2 c3
    have hI : Cd w w.heap.size (bAll (pre ++ [x])) = Cd w w.heap.size (bStep (ct, la, dd) x) := by rw [bAll_snoc, hst]
    rw [hI]
    obtain ⟨sg, hs⟩ : ∃ sg, x.sign = sg := ⟨_, rfl⟩
    have hI2 : bStep (ct, la, dd) x = if sg ≠ 0 ∧ sg ≠ la then (ct + 1, sg, x) else (ct, la, x) := by rw [← hs]; rfl
    have hcall : Calls Tryz.prog 71 #[.int .i64 x] W fun e w' => e = .returned (.int .i64 sg) ∧ W = w' := by rw [← hs]; exact sign_any x W
    rw [hI2]
    clear hI hI2 hst hs
    by_cases hx : sg = 0
    · rw [if_neg (fun h => h.1 hx)]
      have hx1 : (sg != 0) = false := by simp [hx]
      clear hx
      gi_wp2_with (refine ⟨trivial, ?_⟩; gi_at_call 71; refine (CallsIn.inRound l (callsIn_wide.2 hcall)).mono ?_; rintro e w' ⟨rfl, rfl⟩)
      exact KeepsOthers.refl _
    · have hx1 : (sg != 0) = true := by simpa using hx
      by_cases hy : sg = la
      · rw [if_neg (fun h => h.2 hy)]
        have hy1 : (sg != la) = false := by simp [hy]
        clear hx hy
        gi_wp2_with (refine ⟨trivial, ?_⟩; gi_at_call 71; refine (CallsIn.inRound l (callsIn_wide.2 hcall)).mono ?_; rintro e w' ⟨rfl, rfl⟩)
        exact KeepsOthers.refl _
      · have hy1 : (sg != la) = true := by simpa using hy
        rw [if_pos ⟨hx, hy⟩]
        clear hx hy
        gi_wp2_with (refine ⟨trivial, ?_⟩; gi_at_call 71; refine (CallsIn.inRound l (callsIn_wide.2 hcall)).mono ?_; rintro e w' ⟨rfl, rfl⟩)
        exact ⟨(KeepsOthers.setCell _ _ _).trans (KeepsOthers.setCell _ _ _), fun h => (h.set (by omega) (by omega) (by omega) (by omega) _).set (by omega) (by omega) (by omega) (by omega) _, hC.set12 _ _⟩
  case done =>
    rintro D xs W hD rfl hi hK
    obtain ⟨c1, c2, c3, r1, r2, r3⟩ := hi.cells
    gi_wp2
    refine wpIn_wide.2 ?_
    refine Calmly.wp_region_mix 4 (.fl 0 <| .fl 1 <| .fl 2 <| .fl 3 <| .tail [4]) (by kernel_rfl) (by kernel_rfl) ?_
    have hk := Below.refl W.drew.heap.size W.drew
    go_wp2_with (first | ((with_reducible refine Calmly.is_fl ?_); refine Calmly.mix_fl rfl ?_ (fun _ _ => ?_); (first | exact .move _ | exact .load _ _ | exact .fieldAddr _ _ _ (by kernel_rfl) | exact .assign _ | exact .binOp _ _ _ _ _ rfl | exact .indexAddr _ _ _ | exact .len _ _ (by kernel_rfl) | exact .field _ _ _ | exact .extract _ _ | exact .pick _ _ _ | exact .build _ _ | exact .slice _ _ _ _ _ | exact .unOp _ _ _ rfl | exact .index _ _ _ | exact .max _ _ _ rfl rfl | exact .min _ _ _ rfl rfl | exact .nilCheck _ _ rfl)) | ((with_reducible refine Calmly.is_gl ?_); refine Calmly.mix_gl rfl rfl rfl ?_; first | ((first | with_reducible refine Calmly.gl_tt ?_ (fun _ _ => ?_) | with_reducible refine Calmly.gl_ff ?_ (fun _ _ => ?_)); (first | exact .move _ | exact .load _ _ | exact .fieldAddr _ _ _ (by kernel_rfl) | exact .assign _ | exact .binOp _ _ _ _ _ rfl | exact .indexAddr _ _ _ | exact .len _ _ (by kernel_rfl) | exact .field _ _ _ | exact .extract _ _ | exact .pick _ _ _ | exact .build _ _ | exact .slice _ _ _ _ _ | exact .unOp _ _ _ rfl | exact .index _ _ _ | exact .max _ _ _ rfl rfl | exact .min _ _ _ rfl rfl | exact .nilCheck _ _ rfl)) | with_reducible refine Calmly.gl_tf (fun _ _ => ?_) | with_reducible refine Calmly.gl_ft (fun _ _ => ?_)) | ((with_reducible refine Calmly.is_eff ?_); refine Calmly.mix_eff rfl (fun _ _ => ?_)) | ((with_reducible refine Calmly.is_gf ?_); refine Calmly.mix_gf rfl rfl rfl ?_; first | with_reducible refine Calmly.gf_tt (fun _ _ => ?_) | with_reducible refine Calmly.gf_ff (fun _ _ => ?_) | with_reducible refine Calmly.gf_tf (kept_of hk) (fun _ _ => ?_) | with_reducible refine Calmly.gf_ft (kept_of hk) (fun _ _ => ?_)) | ((with_reducible refine Calmly.is_tail ?_); first | refine Calmly.mix_tail_nil ?_ | refine Calmly.mix_tail rfl (fun _ _ => ?_)) | ((with_reducible refine Calmly.is_kept ?_); refine ⟨kept_of hk, ?_⟩) | (with_reducible refine Calmly.mix_alt ?_ ?_))
    gi_wp2
    refine ⟨by simp, .inl ⟨_, _, rfl, run_takeDeferred (show W.drew.heap[D]? = _ from hK), ?_⟩⟩
    have hm : m = ms.length := by omega
    refine ⟨.tuple #[.int .i64 (bAll (dets ms ks num den m)).1, .bool ((bAll (dets ms ks num den m)).2.2 == 0)], by simp [results, Tryz.results68, go_sem], ?_, ?_⟩
    · unfold belowF modeF
      rw [← hm]
    · exact hi.2.drew.trans (belowK_b (w := V) (by omega) W.drew D _ _ hD hK rfl rfl)
end Go.Proofs.YteigmjlfpmdmoaaGreatDoor

namespace Go.Proofs.YteigmjlfpmdmoaaGreatDoor
open Go.RowKit
open Calmly (Kept)

/-- The search for the last whole number that, divided by the denominator, is not greater than the square. -/
def encLoop (ms ks : List Int) (mode den : Int) : Nat → Int → Int → Int
  | 0, lo, _ => lo
  | f + 1, lo, hi => if lo < hi then (if mode < belowF ms ks (((lo + hi + 1) / 2)) den then encLoop ms ks mode den f lo (((lo + hi + 1) / 2) - 1) else encLoop ms ks mode den f (((lo + hi + 1) / 2)) hi) else lo
def encLo (ms ks : List Int) (mode den : Int) : Int := encLoop ms ks mode den 4000 0 (80 * den)
def encF (ms ks : List Int) (mode den : Int) : Int × Int :=
  if modeF ms ks (encLo ms ks mode den) den = true ∧ belowF ms ks (encLo ms ks mode den) den = mode then (encLo ms ks mode den, encLo ms ks mode den) else (encLo ms ks mode den, encLo ms ks mode den + 1)
theorem encLoop_end {ms ks : List Int} {mode den lo hi : Int} (f : Nat) (h : hi ≤ lo) : encLoop ms ks mode den f lo hi = lo := by
  cases f with
  | zero => rfl
  | succ f => rw [encLoop, if_neg (by omega)]
set_option maxRecDepth 100000 in
set_option maxHeartbeats 4000000 in
theorem enclosure_any (a b : Option Addr) (m c d : Nat) (ms ks : List Int) (mode den : Int) (w : World) (h1 : SI w a m c ms) (h2 : SI w b m d ks) (he : (checkF ms ks).2 = 0) (hd1 : 1 ≤ den) (hd2 : den ≤ 50) :
    Calls Tryz.prog 74 #[.agg #[.slice a m c, .slice b m d], .int .i64 mode, .int .i64 den] w fun e w' => e = .returned (.agg #[.int .i64 (encF ms ks mode den).1, .int .i64 (encF ms ks mode den).2]) ∧ Below w.heap.size w w' := by
  have hb2 : Below w.heap.size w ((w.alloc (.cells #[.slice a m c, .slice b m d] 118)).alloc (.cells #[.int .i64 0, .int .i64 0] 46)) := ((Below.refl _ _).alloc (Nat.le_refl _) _).alloc (by simp) _
  go_enter Tryz.func74, Tryz.ntmps74
  go_wp2_with fail
  refine wp_gen (fun v => Below w.heap.size w v ∧ v.heap[w.heap.size]? = some (.cells #[.slice a m c, .slice b m d] 118) ∧ v.heap[w.heap.size + 1]? = some (.cells #[.int .i64 0, .int .i64 0] 46)) ⟨hb2, box2 (Below.refl _ _)⟩ ?_
  clear hb2
  rintro v ⟨hbv, hx, hy⟩
  go_loopw [7, 8] (fun x y wr => ∃ (f : Nat) (lo hi : Int), x = .int .i64 lo ∧ y = .int .i64 hi ∧ 0 ≤ lo ∧ lo ≤ hi ∧ hi ≤ 80 * den ∧ hi - lo ≤ f ∧ encLoop ms ks mode den f lo hi = encLo ms ks mode den ∧ Below (w.heap.size + 2) v wr) (fun x y _ => (intOf y - intOf x).toNat)
  case atStart => exact ⟨4000, 0, 80 * den, rfl, rfl, by omega, by omega, by omega, by omega, rfl, Below.refl _ _⟩
  case round =>
    obtain ⟨f, lo, hi, rfl, rfl, i1, i2, i3, i4, hE, hbr⟩ := hrel
    have hsz := blk_lt hy
    have hsr := hbr.size
    have hbw := hbv.trans (hbr.mono (by omega))
    have hx' : wr.heap[w.heap.size]? = some (.cells #[.slice a m c, .slice b m d] 118) := (hbr.block _ (by omega)).trans hx
    have hy' : wr.heap[w.heap.size + 1]? = some (.cells #[.int .i64 0, .int .i64 0] 46) := (hbr.block _ (by omega)).trans hy
    have f0 : wr.cell? ⟨w.heap.size, 0, none⟩ = some (.slice a m c) := cell_block hx' 0
    have f1 : wr.cell? ⟨w.heap.size, 1, none⟩ = some (.slice b m d) := cell_block hx' 1
    have HE := Lib.hid hE
    clear hE
    by_cases hlt : lo < hi
    · have hst : encLoop ms ks mode den f lo hi = if mode < belowF ms ks ((lo + hi + 1) / 2) den then encLoop ms ks mode den (f - 1) lo ((lo + hi + 1) / 2 - 1) else encLoop ms ks mode den (f - 1) ((lo + hi + 1) / 2) hi := by
        obtain ⟨f', rfl⟩ : ∃ f', f = f' + 1 := ⟨f - 1, by omega⟩
        rw [encLoop, if_pos hlt]
        rfl
      have HS := Lib.hid hst
      clear hst
      go_wp2_with fail
      refine (below_any a b m c d ms ks ((lo + hi + 1) / 2) den wr (h1.keep hbw) (h2.keep hbw) he ⟨by omega, by omega, by omega, by omega⟩).mono ?_
      rintro e w5 ⟨rfl, hb5⟩
      have hbr5 := hbr.trans (hb5.mono (by omega))
      by_cases hgt : mode < belowF ms ks ((lo + hi + 1) / 2) den
      · rw [if_pos hgt] at HS
        go_wp2_with fail
        go_roundw
        case rel => exact ⟨f - 1, lo, (lo + hi + 1) / 2 - 1, rfl, rfl, by omega, by omega, by omega, by omega, by rw [← HS.out]; exact HE.out, hbr5⟩
        case measure => simp [intOf]; omega
      · rw [if_neg hgt] at HS
        have hle : belowF ms ks ((lo + hi + 1) / 2) den ≤ mode := by omega
        clear hgt
        go_wp2_with fail
        go_roundw
        case rel => exact ⟨f - 1, (lo + hi + 1) / 2, hi, rfl, rfl, by omega, by omega, by omega, by omega, by rw [← HS.out]; exact HE.out, hbr5⟩
        case measure => simp [intOf]; omega
    · have hle : hi ≤ lo := by omega
      have hlo := HE.out
      rw [encLoop_end f hle] at hlo
      subst hlo
      go_wp2_with fail
      refine (below_any a b m c d ms ks (encLo ms ks mode den) den wr (h1.keep hbw) (h2.keep hbw) he ⟨by omega, by omega, by omega, by omega⟩).mono ?_
      rintro e w5 ⟨rfl, hb5⟩
      have hy5 := blk_keep hy' hb5
      have g0 : w5.cell? ⟨w.heap.size + 1, 0, none⟩ = some (.int .i64 0) := cell_block hy5 0
      have g1 : w5.cell? ⟨w.heap.size + 1, 1, none⟩ = some (.int .i64 0) := cell_block hy5 1
      have g2 := frozen_block hy5 0
      have g3 := frozen_block hy5 1
      have hb6 : Below w.heap.size w w5 := hbw.trans (hb5.mono (by omega))
      have hfin : ∀ x y : Int, Below w.heap.size w ((w5.setCell ⟨w.heap.size + 1, 0, none⟩ (.int .i64 x)).setCell ⟨w.heap.size + 1, 1, none⟩ (.int .i64 y)) := fun x y => (hb6.setCell (by simp) _).setCell (by simp) _
      have hs2 : ∀ x y : Int, _ := fun x y => set2 (x := .int .i64 x) (y := .int .i64 y) g0 g1
      cases hm : modeF ms ks (encLo ms ks mode den) den
      · have hr : encF ms ks mode den = (encLo ms ks mode den, encLo ms ks mode den + 1) := by
          unfold encF
          rw [if_neg (fun h => by rw [hm] at h; cases h.1)]
        go_wp2_with fail
        rw [hr]
        obtain ⟨s1, s2, s3, s4⟩ := hs2 (encLo ms ks mode den) (encLo ms ks mode den + 1)
        refine bodyPost_ret (v := .agg #[.int .i64 (encLo ms ks mode den), .int .i64 (encLo ms ks mode den + 1)]) (by simp [results, Tryz.results74, go_sem, s1, s2]) rfl ⟨rfl, hfin _ _⟩
      · by_cases hc : belowF ms ks (encLo ms ks mode den) den = mode
        · have hc1 : (belowF ms ks (encLo ms ks mode den) den == mode) = true := by simp [hc]
          have hr : encF ms ks mode den = (encLo ms ks mode den, encLo ms ks mode den) := by
            unfold encF
            rw [if_pos ⟨hm, hc⟩]
          clear hc
          go_wp2_with fail
          rw [hr]
          obtain ⟨s1, s2, s3, s4⟩ := hs2 (encLo ms ks mode den) (encLo ms ks mode den)
          refine bodyPost_ret (v := .agg #[.int .i64 (encLo ms ks mode den), .int .i64 (encLo ms ks mode den)]) (by simp [results, Tryz.results74, go_sem, s1, s2]) rfl ⟨rfl, hfin _ _⟩
        · have hc1 : (belowF ms ks (encLo ms ks mode den) den == mode) = false := by simp [hc]
          have hr : encF ms ks mode den = (encLo ms ks mode den, encLo ms ks mode den + 1) := by
            unfold encF
            rw [if_neg (fun h => hc h.2)]
          clear hc
          go_wp2_with fail
          rw [hr]
          obtain ⟨s1, s2, s3, s4⟩ := hs2 (encLo ms ks mode den) (encLo ms ks mode den + 1)
          refine bodyPost_ret (v := .agg #[.int .i64 (encLo ms ks mode den), .int .i64 (encLo ms ks mode den + 1)]) (by simp [results, Tryz.results74, go_sem, s1, s2]) rfl ⟨rfl, hfin _ _⟩

end Go.Proofs.YteigmjlfpmdmoaaGreatDoor

namespace Go.Proofs.YteigmjlfpmdmoaaGreatDoor
open Go.RowKit
open Calmly (Kept)

/-- The error of an enclosure. -/
def encErr (ms ks : List Int) (mode den : Int) : Int := firstE [(checkF ms ks).2, unlessE (wIn mode 0 ((ms.length : Int) - 1)) 6, unlessE (wIn den 1 50) 2]
theorem firstE_three (x y z : Int) : firstE [x, y, z] = if x = 0 then (if y = 0 then z else y) else x := by
  unfold firstE
  split
  · exact firstE_two y z
  · rfl
theorem encErr_ok {ms ks : List Int} {mode den : Int} (h : encErr ms ks mode den = 0) : (checkF ms ks).2 = 0 ∧ 0 ≤ mode ∧ mode ≤ (ms.length : Int) - 1 ∧ 1 ≤ den ∧ den ≤ 50 := by
  unfold encErr at h
  rw [firstE_three] at h
  split at h
  · rename_i h1
    split at h
    · rename_i h2
      refine ⟨h1, ?_⟩
      have h3 : wIn mode 0 ((ms.length : Int) - 1) = true := by
        cases hw : wIn mode 0 ((ms.length : Int) - 1)
        · rw [hw] at h2; cases h2
        · rfl
      have h4 : wIn den 1 50 = true := by
        cases hw : wIn den 1 50
        · rw [hw] at h; cases h
        · rfl
      have := wIn_iff.1 h3
      have := wIn_iff.1 h4
      omega
    · rename_i h2
      exact absurd h h2
  · rename_i h1
    exact absurd h h1

set_option maxRecDepth 100000 in
set_option maxHeartbeats 4000000 in
theorem EnclosureOf_any (a b : Option Addr) (n c m d : Nat) (ms ks : List Int) (mode den : Int) (w : World) (h1 : SI w a n c ms) (h2 : SI w b m d ks)
    (E lo hi : Int) (hE : encErr ms ks mode den = E) (hok : E = 0 → encF ms ks mode den = (lo, hi)) (hno : E ≠ 0 → lo = 0 ∧ hi = 0) :
    Calls Tryz.prog 32 #[.agg #[.slice a n c, .slice b m d], .int .i64 mode, .int .i64 den] w fun e w' => e = .returned (.tuple #[.agg #[.int .i64 lo, .int .i64 hi], .int .i64 E]) ∧ Below w.heap.size w w' := by
  have HE := Lib.hid hE
  have HOK := Lib.hid hok
  have HNO := Lib.hid hno
  clear hE hok hno
  have hb2 : Below w.heap.size w ((w.alloc (.cells #[.slice a n c, .slice b m d] 52)).alloc (.cells #[.int .i64 0, .int .i64 0] 46)) := ((Below.refl _ _).alloc (Nat.le_refl _) _).alloc (by simp) _
  obtain ⟨k1, k2⟩ : m ≤ ks.length ∧ ks.length ≤ m := by have := h2.len; omega
  obtain ⟨l1, l2⟩ : n ≤ ms.length ∧ ms.length ≤ n := by have := h1.len; omega
  have m1 := h1.max
  have c1 := h1.cap
  go_enter Tryz.func32, Tryz.ntmps32
  go_wp2_with fail
  refine (open_any a b n c m d ms ks _ (h1.keep hb2) (h2.keep hb2)).mono ?_
  rintro e w1 ⟨rfl, hb1⟩
  obtain ⟨x1, x2⟩ := box2 (w := w) (o := .cells #[.slice a n c, .slice b m d] 52) (o' := .cells #[.int .i64 0, .int .i64 0] 46) hb1
  have hs1 := blk_lt x2
  have hs0 := blk_lt x1
  have f0 : w1.cell? ⟨w.heap.size, 0, none⟩ = some (.slice a n c) := cell_block x1 0
  have g0 : w1.cell? ⟨w.heap.size + 1, 0, none⟩ = some (.int .i64 0) := cell_block x2 0
  have g1 : w1.cell? ⟨w.heap.size + 1, 1, none⟩ = some (.int .i64 0) := cell_block x2 1
  have g2 := frozen_block x2 0
  have g3 := frozen_block x2 1
  have hbw : Below w.heap.size w w1 := hb2.trans (hb1.mono (by simp; omega))
  go_wp2_with fail
  refine (mWithin_any _ _ _ _).mono ?_
  rintro e w' ⟨rfl, rfl⟩
  go_wp2_with fail
  refine (unless_any _ _ _).mono ?_
  rintro e w' ⟨rfl, rfl⟩
  go_wp2_with fail
  refine (isDen_any _ _).mono ?_
  rintro e w' ⟨rfl, rfl⟩
  go_wp2_with fail
  refine (unless_any _ _ _).mono ?_
  rintro e w' ⟨rfl, rfl⟩
  go_wp2_with fail
  have hE1 : firstE [(checkF ms ks).2, unlessE (wIn mode 0 ((n : Int) - 1)) 6, unlessE (wIn den 1 50) 2] = E := by
    rw [show (n : Int) = (ms.length : Int) by omega]
    exact HE.out
  refine (first_any _ 3 3 _ _ (SI.three _ _ _ _ _ (by simp))).mono ?_
  rintro e w' ⟨rfl, rfl⟩
  rw [hE1]
  clear hE1
  have hu : ∀ o, Below w1.heap.size w1 ((w1.alloc (.cells #[.slice a n c, .slice b m d] 118)).alloc o) := fun o => ((Below.refl _ _).alloc (Nat.le_refl _) _).alloc (by simp) _
  by_cases hz : E = 0
  · subst hz
    have hlh := HOK.out rfl
    obtain ⟨he0, hm0, hm1, hd0, hd1⟩ := encErr_ok HE.out
    obtain ⟨q1, q2, q3, q4, q5⟩ := checkF_ok he0
    have hmn : m = n := by omega
    subst hmn
    have HLH := Lib.hid hlh
    have HE0 := Lib.hid he0
    clear hlh he0 q4 q5 q1
    go_wp2_with fail
    refine (enclosure_any a b m c d ms ks mode den _ ((h1.keep hbw).keep (hu _)) ((h2.keep hbw).keep (hu _)) HE0.out hd0 hd1).mono ?_
    rintro e w3 ⟨rfl, hb3⟩
    rw [HLH.out]
    have hb4 := (hu (.cells #[.int .i64 (checkF ms ks).2, .int .i64 (unlessE (wIn mode 0 ((m : Int) - 1)) 6), .int .i64 (unlessE (wIn den 1 50) 2)] 30)).trans (hb3.mono (by simp; omega))
    have x3 := blk_keep x2 hb4
    have g0 : w3.cell? ⟨w.heap.size + 1, 0, none⟩ = some (.int .i64 0) := cell_block x3 0
    have g1 : w3.cell? ⟨w.heap.size + 1, 1, none⟩ = some (.int .i64 0) := cell_block x3 1
    have g2 := frozen_block x3 0
    have g3 := frozen_block x3 1
    obtain ⟨s1, s2, s3, s4⟩ := set2 (x := .int .i64 lo) (y := .int .i64 hi) g0 g1
    have hb5 := hbw.trans (hb4.mono (by omega))
    go_wp2_with fail
    refine bodyPost_ret (v := .tuple #[.agg #[.int .i64 lo, .int .i64 hi], .int .i64 0]) (by simp [results, Tryz.results32, go_sem, s1, s2]) rfl ⟨rfl, ?_⟩
    exact (hb5.setCell (by simp) _).setCell (by simp) _
  · have hz1 : (E != 0) = true := by simpa using hz
    obtain ⟨rfl, rfl⟩ := HNO.out hz
    clear hz
    go_wp2_with fail
    obtain ⟨s1, s2, s3, s4⟩ := set2 (x := .int .i64 0) (y := .int .i64 0) g0 g1
    have hA : ∀ (A : World) (o o' : Obj), Below A.heap.size A ((A.alloc o).alloc o') := fun A o o' => ((Below.refl _ _).alloc (Nat.le_refl _) _).alloc (by simp) _
    have t1 := cell_keep s1 (hA _ (.cells #[.slice a n c, .slice b m d] 118) (.cells #[.int .i64 (checkF ms ks).2, .int .i64 (unlessE (wIn mode 0 ((n : Int) - 1)) 6), .int .i64 (unlessE (wIn den 1 50) 2)] 30))
    have t2 := cell_keep s2 (hA _ (.cells #[.slice a n c, .slice b m d] 118) (.cells #[.int .i64 (checkF ms ks).2, .int .i64 (unlessE (wIn mode 0 ((n : Int) - 1)) 6), .int .i64 (unlessE (wIn den 1 50) 2)] 30))
    refine bodyPost_ret (v := .tuple #[.agg #[.int .i64 0, .int .i64 0], .int .i64 E]) (by simp [results, Tryz.results32, go_sem, t1, t2]) rfl ⟨rfl, ?_⟩
    exact (((hbw.setCell (by simp) _).setCell (by simp) _).alloc (by simp; omega) _).alloc (by simp; omega) _
end Go.Proofs.YteigmjlfpmdmoaaGreatDoor

namespace Go.Proofs.YteigmjlfpmdmoaaGreatDoor
open Go.RowKit
open Calmly (Kept)

/-- A sample that is too great. -/
def odd1 (x : Int) : Bool := !wIn x (-10000) 10000

set_option maxHeartbeats 400000 in
theorem oddFn_any (x : Int) (w : World) : Calls Tryz.prog 88 #[.int .i64 x] w fun e w' => e = .returned (.bool (odd1 x)) ∧ w = w' := by
  go_enter Tryz.func88, Tryz.ntmps88
  go_wp2_with fail
  refine (isSized_any x 10000 _ (by omega) (by omega)).mono ?_
  rintro e w1 ⟨rfl, rfl⟩
  go_wp2_with fail
  go_ret
  exact ⟨rfl, rfl⟩

set_option maxRecDepth 100000 in
set_option maxHeartbeats 1000000 in
theorem indexOdd_any (a : Option Addr) (n c : Nat) (xs : List Int) (w : World) (h1 : SI w a n c xs) :
    Calls Tryz.prog 101 #[.slice a n c, .func (.func 88) #[] #[]] w fun e w' => (∃ i : Int, e = .returned (.int .i64 i) ∧ decide (0 ≤ i) = xs.any odd1) ∧ w = w' := by
  obtain ⟨l1, l2⟩ : n ≤ xs.length ∧ xs.length ≤ n := by have := h1.len; omega
  have m1 := h1.max
  have c1 := h1.cap
  go_enter Tryz.func101, Tryz.ntmps101
  go_wp2_with fail
  go_loop [8] (fun i => ∃ k : Nat, k ≤ n ∧ i = .int .i64 k ∧ ∀ j, j < k → odd1 (xs[j]?.getD 0) = false) (fun i => n - (intOf i).toNat)
  case atStart => exact ⟨0, by omega, rfl, fun j hj => by omega⟩
  case round =>
    obtain ⟨k, hk, rfl, ht⟩ := hrel
    have HT := Lib.hid ht
    clear ht
    by_cases hlt : k < n
    · obtain ⟨b1, o1, rfl, hc1⟩ := h1.at_ (by omega)
      have e1 := hc1 k hlt
      clear hc1
      have hi : (k : Int) < (n : Int) := by omega
      have hi0 : (0 : Int) ≤ (k : Int) := by omega
      have hx : xs[k]? = some (xs[k]?.getD 0) := by
        have : k < xs.length := by omega
        simp [this]
      have HX := Lib.hid hx
      clear hx
      obtain ⟨x, hxx⟩ : ∃ x, xs[k]?.getD 0 = x := ⟨_, rfl⟩
      rw [hxx] at e1 HX
      have HXX := Lib.hid hxx
      clear hxx
      go_wp2_with fail
      refine (oddFn_any _ _).mono ?_
      rintro e w1 ⟨rfl, rfl⟩
      cases ho : odd1 x
      · go_wp2_with fail
        go_round
        case rel => exact ⟨k + 1, by omega, by go_num, fun j hj => if h : j = k then by subst h; rw [HXX.out]; exact ho else HT.out j (by omega)⟩
        case measure => simp [intOf]; omega
      · go_wp2_with fail
        go_ret
        refine ⟨⟨k, rfl, ?_⟩, rfl⟩
        have : xs.any odd1 = true := List.any_eq_true.2 ⟨x, List.mem_of_getElem? HX.out, ho⟩
        rw [this]
        simp
    · have hle : (n : Int) ≤ (k : Int) := by omega
      go_wp2_with fail
      go_ret
      refine ⟨⟨-1, rfl, ?_⟩, rfl⟩
      have : xs.any odd1 = false := by
        rw [List.any_eq_false]
        intro x hx
        obtain ⟨j, hj, rfl⟩ := List.mem_iff_getElem.1 hx
        have := HT.out j (by omega)
        simp [hj] at this
        simp [this]
      rw [this]
      rfl

set_option maxRecDepth 100000 in
set_option maxHeartbeats 1000000 in
theorem containsOdd_any (a : Option Addr) (n c : Nat) (xs : List Int) (w : World) (h1 : SI w a n c xs) :
    Calls Tryz.prog 87 #[.slice a n c, .func (.func 88) #[] #[]] w fun e w' => e = .returned (.bool (xs.any odd1)) ∧ w = w' := by
  go_enter Tryz.func87, Tryz.ntmps87
  go_wp2_with fail
  refine (indexOdd_any a n c xs _ h1).mono ?_
  rintro e w1 ⟨⟨i, rfl, hi⟩, rfl⟩
  have HI := Lib.hid hi
  clear hi
  go_wp2_with fail
  go_ret
  exact ⟨ret_bool HI.out, rfl⟩

/-- The error of a decay. -/
def decayE (xs : List Int) (off : Int) : Int := firstE [unlessE (decide (0 < xs.length)) 10, unlessE (decide ((xs.length : Int) ≤ 60)) 8, unlessE (!xs.any odd1) 2, unlessE (wIn off 0 10000) 2]

set_option maxRecDepth 100000 in
set_option maxHeartbeats 1000000 in
theorem decayErr_any (a : Option Addr) (n c : Nat) (xs : List Int) (off : Int) (w : World) (h1 : SI w a n c xs) :
    Calls Tryz.prog 57 #[.agg #[.slice a n c, .int .i64 off]] w fun e w' => e = .returned (.int .i64 (decayE xs off)) ∧ Below w.heap.size w w' := by
  obtain ⟨l1, l2⟩ : n ≤ xs.length ∧ xs.length ≤ n := by have := h1.len; omega
  have hb : ∀ o, Below w.heap.size w (w.alloc o) := fun o => (Below.refl _ _).alloc (Nat.le_refl _) _
  go_enter Tryz.func57, Tryz.ntmps57
  go_wp2_with fail
  refine (containsOdd_any a n c xs _ (h1.keep (hb _))).mono ?_
  rintro e w1 ⟨rfl, rfl⟩
  go_wp2_with fail
  refine Calmly.wp_region_mix 19 (.fl 0 <| .fl 1 <| .fl 2 <| .fl 3 <| .fl 5 <| .fl 6 <| .fl 7 <| .fl 8 <| .fl 10 <| .fl 11 <| .fl 13 <| .fl 14 <| .eff 4 <| .eff 9 <| .eff 12 <| .eff 15 <| .eff 16 <| .eff 17 <| .eff 18 <| .tail [19]) (by kernel_rfl) (by kernel_rfl) ?_
  have hk : Below (w.alloc (.cells #[.slice a n c, .int .i64 off] 28)).drew.heap.size (w.alloc (.cells #[.slice a n c, .int .i64 off] 28)).drew (w.alloc (.cells #[.slice a n c, .int .i64 off] 28)).drew := Below.refl _ _
  go_wp2_with (first | ((with_reducible refine Calmly.is_fl ?_); refine Calmly.mix_fl rfl ?_ (fun _ _ => ?_); (first | exact .move _ | exact .load _ _ | exact .fieldAddr _ _ _ (by kernel_rfl) | exact .assign _ | exact .binOp _ _ _ _ _ rfl | exact .indexAddr _ _ _ | exact .len _ _ (by kernel_rfl) | exact .field _ _ _ | exact .extract _ _ | exact .pick _ _ _ | exact .build _ _ | exact .slice _ _ _ _ _ | exact .unOp _ _ _ rfl | exact .index _ _ _ | exact .max _ _ _ rfl rfl | exact .min _ _ _ rfl rfl | exact .nilCheck _ _ rfl)) | ((with_reducible refine Calmly.is_gl ?_); refine Calmly.mix_gl rfl rfl rfl ?_; first | ((first | with_reducible refine Calmly.gl_tt ?_ (fun _ _ => ?_) | with_reducible refine Calmly.gl_ff ?_ (fun _ _ => ?_)); (first | exact .move _ | exact .load _ _ | exact .fieldAddr _ _ _ (by kernel_rfl) | exact .assign _ | exact .binOp _ _ _ _ _ rfl | exact .indexAddr _ _ _ | exact .len _ _ (by kernel_rfl) | exact .field _ _ _ | exact .extract _ _ | exact .pick _ _ _ | exact .build _ _ | exact .slice _ _ _ _ _ | exact .unOp _ _ _ rfl | exact .index _ _ _ | exact .max _ _ _ rfl rfl | exact .min _ _ _ rfl rfl | exact .nilCheck _ _ rfl)) | with_reducible refine Calmly.gl_tf (fun _ _ => ?_) | with_reducible refine Calmly.gl_ft (fun _ _ => ?_)) | ((with_reducible refine Calmly.is_eff ?_); refine Calmly.mix_eff rfl (fun _ _ => ?_)) | ((with_reducible refine Calmly.is_gf ?_); refine Calmly.mix_gf rfl rfl rfl ?_; first | with_reducible refine Calmly.gf_tt (fun _ _ => ?_) | with_reducible refine Calmly.gf_ff (fun _ _ => ?_) | with_reducible refine Calmly.gf_tf (kept_of hk) (fun _ _ => ?_) | with_reducible refine Calmly.gf_ft (kept_of hk) (fun _ _ => ?_)) | ((with_reducible refine Calmly.is_kept ?_); refine ⟨kept_of hk, ?_⟩) | (with_reducible refine Calmly.mix_alt ?_ ?_) | (refine kept_alloc hk (fun hk' hblk hge => ?_); replace hk := hk'; clear hk') | (go_at_call 61; refine (unless_any _ _ _).mono ?_; rintro e w' ⟨rfl, rfl⟩) | (go_at_call 72; refine (mWithin_any _ _ _ _).mono ?_; rintro e w' ⟨rfl, rfl⟩))
  refine (first_any _ 4 4 _ _ (SI.four _ _ _ _ _ _ (size_alloc_drew _ _))).mono ?_
  rintro e w' ⟨rfl, rfl⟩
  go_wp2_with (first | ((with_reducible refine Calmly.is_fl ?_); refine Calmly.mix_fl rfl ?_ (fun _ _ => ?_); (first | exact .move _ | exact .load _ _ | exact .fieldAddr _ _ _ (by kernel_rfl) | exact .assign _ | exact .binOp _ _ _ _ _ rfl | exact .indexAddr _ _ _ | exact .len _ _ (by kernel_rfl) | exact .field _ _ _ | exact .extract _ _ | exact .pick _ _ _ | exact .build _ _ | exact .slice _ _ _ _ _ | exact .unOp _ _ _ rfl | exact .index _ _ _ | exact .max _ _ _ rfl rfl | exact .min _ _ _ rfl rfl | exact .nilCheck _ _ rfl)) | ((with_reducible refine Calmly.is_gl ?_); refine Calmly.mix_gl rfl rfl rfl ?_; first | ((first | with_reducible refine Calmly.gl_tt ?_ (fun _ _ => ?_) | with_reducible refine Calmly.gl_ff ?_ (fun _ _ => ?_)); (first | exact .move _ | exact .load _ _ | exact .fieldAddr _ _ _ (by kernel_rfl) | exact .assign _ | exact .binOp _ _ _ _ _ rfl | exact .indexAddr _ _ _ | exact .len _ _ (by kernel_rfl) | exact .field _ _ _ | exact .extract _ _ | exact .pick _ _ _ | exact .build _ _ | exact .slice _ _ _ _ _ | exact .unOp _ _ _ rfl | exact .index _ _ _ | exact .max _ _ _ rfl rfl | exact .min _ _ _ rfl rfl | exact .nilCheck _ _ rfl)) | with_reducible refine Calmly.gl_tf (fun _ _ => ?_) | with_reducible refine Calmly.gl_ft (fun _ _ => ?_)) | ((with_reducible refine Calmly.is_eff ?_); refine Calmly.mix_eff rfl (fun _ _ => ?_)) | ((with_reducible refine Calmly.is_gf ?_); refine Calmly.mix_gf rfl rfl rfl ?_; first | with_reducible refine Calmly.gf_tt (fun _ _ => ?_) | with_reducible refine Calmly.gf_ff (fun _ _ => ?_) | with_reducible refine Calmly.gf_tf (kept_of hk) (fun _ _ => ?_) | with_reducible refine Calmly.gf_ft (kept_of hk) (fun _ _ => ?_)) | ((with_reducible refine Calmly.is_tail ?_); first | refine Calmly.mix_tail_nil ?_ | refine Calmly.mix_tail rfl (fun _ _ => ?_)) | ((with_reducible refine Calmly.is_kept ?_); refine ⟨kept_of hk, ?_⟩) | (with_reducible refine Calmly.mix_alt ?_ ?_))
  go_ret
  refine ⟨ret_int ?_, (hb _).drew.alloc (by simp) _⟩
  unfold decayE
  rw [show (xs.length : Int) = (n : Int) by omega, show xs.length = n by omega]
end Go.Proofs.YteigmjlfpmdmoaaGreatDoor

namespace Go.Proofs.YteigmjlfpmdmoaaGreatDoor
open Go.RowKit
open Calmly (Kept)

/-- The crossings from a sample on, the last sample that was surely below being known, or -1. -/
def crossF (off : Int) : Int → Int → List Int → List (Int × Int)
  | _, _, [] => []
  | i, b, x :: l => if x < -off then crossF off (i + 1) i l else if off < x ∧ 0 ≤ b then (b, i) :: crossF off (i + 1) (-1) l else crossF off (i + 1) b l
theorem crossF_drop (off : Int) (xs : List Int) (k : Nat) (b : Int) (h : k < xs.length) : crossF off k b (xs.drop k) =
    if xs[k]?.getD 0 < -off then crossF off (k + 1 : Nat) k (xs.drop (k + 1)) else if off < xs[k]?.getD 0 ∧ 0 ≤ b then (b, (k : Int)) :: crossF off (k + 1 : Nat) (-1) (xs.drop (k + 1)) else crossF off (k + 1 : Nat) b (xs.drop (k + 1)) := by
  rw [List.drop_eq_getElem_cons h]
  simp [crossF, h]
theorem crossF_len (off i b : Int) (l : List Int) : (crossF off i b l).length ≤ l.length := by
  induction l generalizing i b with
  | nil => simp [crossF]
  | cons x l ih =>
    unfold crossF
    split
    · have := ih (i + 1) i; simp; omega
    · split
      · have := ih (i + 1) (-1); simp; omega
      · have := ih (i + 1) b; simp; omega
theorem blk_set3 {W : World} {b : Nat} {x y z : Value} {t : TypeId} (h : W.heap[b]? = some (.cells #[x, y, z] t)) (v : Value) : (W.setCell ⟨b, 2, none⟩ v).heap[b]? = some (.cells #[x, y, v] t) := by
  simp [World.setCell, Array.getElem?_modify, h]
/-- Three cells of a block are stored into. -/
theorem set3 {v : World} {r : Nat} {x y z u0 u1 u2 : Value} (h0 : v.cell? ⟨r, 0, none⟩ = some u0) (h1 : v.cell? ⟨r, 1, none⟩ = some u1) (h2 : v.cell? ⟨r, 2, none⟩ = some u2) :
    (((v.setCell ⟨r, 0, none⟩ x).setCell ⟨r, 1, none⟩ y).setCell ⟨r, 2, none⟩ z).cell? ⟨r, 0, none⟩ = some x ∧ (((v.setCell ⟨r, 0, none⟩ x).setCell ⟨r, 1, none⟩ y).setCell ⟨r, 2, none⟩ z).cell? ⟨r, 1, none⟩ = some y ∧
      (((v.setCell ⟨r, 0, none⟩ x).setCell ⟨r, 1, none⟩ y).setCell ⟨r, 2, none⟩ z).cell? ⟨r, 2, none⟩ = some z := by
  obtain ⟨s1, s2, _, _⟩ := set2 (x := x) (y := y) h0 h1
  have e0 : (v.setCell ⟨r, 0, none⟩ x).cell? ⟨r, 2, none⟩ = some u2 := by rw [World.cell?_setCell_other _ _ _ _ (by simp)]; exact h2
  have e1 : ((v.setCell ⟨r, 0, none⟩ x).setCell ⟨r, 1, none⟩ y).cell? ⟨r, 2, none⟩ = some u2 := by rw [World.cell?_setCell_other _ _ _ _ (by simp)]; exact e0
  refine ⟨?_, ?_, World.cell?_setCell_same _ _ _ e1⟩
  · rw [World.cell?_setCell_other _ _ _ _ (by simp)]; exact s1
  · rw [World.cell?_setCell_other _ _ _ _ (by simp)]; exact s2
theorem decayE_ok {xs : List Int} {off : Int} (h : decayE xs off = 0) : 0 < xs.length ∧ xs.length ≤ 60 ∧ (∀ j : Nat, -10000 ≤ xs[j]?.getD 0 ∧ xs[j]?.getD 0 ≤ 10000) ∧ 0 ≤ off ∧ off ≤ 10000 := by
  have hu : ∀ (b : Bool) (x : Int), x ≠ 0 → unlessE b x = 0 → b = true := fun b x hx hb => by
    cases b
    · exact absurd hb hx
    · rfl
  have h4 : ∀ x y z u : Int, firstE [x, y, z, u] = 0 → x = 0 ∧ y = 0 ∧ z = 0 ∧ u = 0 := fun x y z u hh => by
    unfold firstE at hh
    split at hh
    · rw [firstE_three] at hh
      rename_i hx
      refine ⟨hx, ?_⟩
      split at hh
      · split at hh
        · exact ⟨by assumption, by assumption, hh⟩
        · exact absurd hh (by assumption)
      · exact absurd hh (by assumption)
    · exact absurd hh (by assumption)
  obtain ⟨a1, a2, a3, a4⟩ := h4 _ _ _ _ h
  have b1 := hu _ _ (by decide) a1
  have b2 := hu _ _ (by decide) a2
  have b3 := hu _ _ (by decide) a3
  have b4 := hu _ _ (by decide) a4
  simp only [decide_eq_true_eq] at b1 b2
  refine ⟨b1, by omega, fun j => ?_, wIn_iff.1 b4⟩
  rcases Nat.lt_or_ge j xs.length with hj | hj
  · rw [List.getElem?_eq_getElem hj]
    simp only [Bool.not_eq_true', List.any_eq_false] at b3
    have := b3 _ (List.getElem_mem hj)
    unfold odd1 at this
    simp only [Bool.not_eq_true, Bool.not_eq_false'] at this
    simpa using wIn_iff.1 this
  · rw [List.getElem?_eq_none hj]
    decide

set_option maxRecDepth 100000 in
set_option maxHeartbeats 4000000 in
theorem openDecay_err (a : Option Addr) (n c : Nat) (xs : List Int) (off E : Int) (w : World) (h1 : SI w a n c xs) (hE : decayE xs off = E) (hz : E ≠ 0) :
    Calls Tryz.prog 59 #[.agg #[.slice a n c, .int .i64 off]] w fun e w' => e = .returned (.tuple #[.agg #[.slice none 0 0, .int .i64 0, .slice none 0 0], .int .i64 E]) ∧ Below w.heap.size w w' := by
  have hb : Below w.heap.size w ((w.alloc (.cells #[.slice a n c, .int .i64 off] 28)).alloc (.cells #[.slice none 0 0, .int .i64 0, .slice none 0 0] 109)) := ((Below.refl _ _).alloc (Nat.le_refl _) _).alloc (by simp) _
  have HE := Lib.hid hE
  clear hE
  have hz1 : (E != 0) = true := by simpa using hz
  clear hz
  go_enter Tryz.func59, Tryz.ntmps59
  go_wp2_with fail
  refine (decayErr_any a n c xs off _ (h1.keep hb)).mono ?_
  rintro e w1 ⟨rfl, hb1⟩
  obtain ⟨x1, x2⟩ := box2 (w := w) (o := .cells #[.slice a n c, .int .i64 off] 28) (o' := .cells #[.slice none 0 0, .int .i64 0, .slice none 0 0] 109) hb1
  rw [HE.out]
  have g0 : w1.cell? ⟨w.heap.size + 1, 0, none⟩ = some (.slice none 0 0) := cell_block x2 0
  have g1 : w1.cell? ⟨w.heap.size + 1, 1, none⟩ = some (.int .i64 0) := cell_block x2 1
  have g2 : w1.cell? ⟨w.heap.size + 1, 2, none⟩ = some (.slice none 0 0) := cell_block x2 2
  have r0 := frozen_block x2 0
  have r1 := frozen_block x2 1
  have r2 := frozen_block x2 2
  obtain ⟨s0, s1, s2⟩ := set3 (x := .slice none 0 0) (y := .int .i64 0) (z := .slice none 0 0) g0 g1 g2
  have hbw := hb.trans (hb1.mono (by simp; omega))
  go_wp2_with fail
  refine bodyPost_ret (v := .tuple #[.agg #[.slice none 0 0, .int .i64 0, .slice none 0 0], .int .i64 E]) (by simp [results, Tryz.results59, go_sem, s0, s1, s2]) rfl ⟨rfl, ?_⟩
  exact ((hbw.setCell (by simp) _).setCell (by simp) _).setCell (by simp) _

set_option maxRecDepth 100000 in
set_option maxHeartbeats 4000000 in
theorem openDecay_ok (a : Option Addr) (n c : Nat) (xs : List Int) (off : Int) (w : World) (h1 : SI w a n c xs) (hE : decayE xs off = 0) :
    Calls Tryz.prog 59 #[.agg #[.slice a n c, .int .i64 off]] w fun e w' => ∃ a' L c', e = .returned (.tuple #[.agg #[.slice a n c, .int .i64 off, .slice a' L c'], .int .i64 0]) ∧ OwR w' w.heap.size a' L c' (crossF off 0 (-1) xs) ∧ Below w.heap.size w w' := by
  have hb : Below w.heap.size w ((w.alloc (.cells #[.slice a n c, .int .i64 off] 28)).alloc (.cells #[.slice none 0 0, .int .i64 0, .slice none 0 0] 109)) := ((Below.refl _ _).alloc (Nat.le_refl _) _).alloc (by simp) _
  obtain ⟨l1, l2⟩ : n ≤ xs.length ∧ xs.length ≤ n := by have := h1.len; omega
  obtain ⟨v1, v2, v3, v4, v5⟩ := decayE_ok hE
  have HE := Lib.hid hE
  have V3 := Lib.hid v3
  clear hE v3
  go_enter Tryz.func59, Tryz.ntmps59
  go_wp2_with fail
  refine (decayErr_any a n c xs off _ (h1.keep hb)).mono ?_
  rintro e w1 ⟨rfl, hb1⟩
  obtain ⟨x1, x2⟩ := box2 (w := w) (o := .cells #[.slice a n c, .int .i64 off] 28) (o' := .cells #[.slice none 0 0, .int .i64 0, .slice none 0 0] 109) hb1
  rw [HE.out]
  have hs0 := blk_lt x1
  have hs1 := blk_lt x2
  have f0 : w1.cell? ⟨w.heap.size, 0, none⟩ = some (.slice a n c) := cell_block x1 0
  have f1 : w1.cell? ⟨w.heap.size, 1, none⟩ = some (.int .i64 off) := cell_block x1 1
  go_wp2_with fail
  have hbw : Below w.heap.size w w1 := hb.trans (hb1.mono (by simp; omega))
  have ba : Below w1.heap.size w1 (w1.alloc (.cells #[.slice a n c, .int .i64 off, .slice none 0 0] 109)) := (Below.refl _ _).alloc (Nat.le_refl _) _
  go_loopw [6, 20] (fun x z wr => ∃ (k L c' : Nat) (bl : Int) (a' : Option Addr) (acc : List (Int × Int)), k ≤ n ∧ x = .int .i64 bl ∧ z = .int .i64 k ∧ -1 ≤ bl ∧ bl < k ∧ L ≤ k ∧ wr.heap[w1.heap.size]? = some (.cells #[.slice a n c, .int .i64 off, .slice a' L c'] 109) ∧ OwR wr (w1.heap.size + 1) a' L c' acc ∧ acc ++ crossF off k bl (xs.drop k) = crossF off 0 (-1) xs ∧ Below w1.heap.size w1 wr) (fun _ z _ => n - (intOf z).toNat)
  case atStart => exact ⟨0, 0, 0, -1, none, [], by omega, rfl, rfl, by omega, by omega, by omega, alloc_new _ _, OwR.nil _ _, rfl, ba⟩
  case round =>
    obtain ⟨k, L, c', bl, a', acc, hk, rfl, rfl, hb0, hb1', hL, hblk, hown, hcr, hbr⟩ := hrel
    have HCR := Lib.hid hcr
    clear hcr
    have hbw' := hbw.trans (hbr.mono (by omega))
    have f0' := cell_keep f0 hbr
    have f1' := cell_keep f1 hbr
    have hsD := blk_lt hblk
    by_cases hlt : k < n
    · obtain ⟨b1, o1, rfl, hc1⟩ := h1.at_ (by omega)
      have e1 := cell_keep (hc1 k hlt) hbw'
      clear hc1
      have hd := crossF_drop off xs k bl (by omega)
      have hv := V3.out k
      have HD := Lib.hid hd
      clear hd
      obtain ⟨x, hx⟩ : ∃ x, xs[k]?.getD 0 = x := ⟨_, rfl⟩
      rw [hx] at e1 hv HD
      clear hx
      have hi : (k : Int) < (n : Int) := by omega
      have hi0 : (0 : Int) ≤ (k : Int) := by omega
      by_cases t1 : x < -off
      · rw [if_pos t1] at HD
        go_wp2_with fail
        go_roundw
        case rel => exact ⟨k + 1, L, c', k, a', acc, by omega, rfl, by go_num, by omega, by omega, by omega, hblk, hown, by rw [← HD.out]; exact HCR.out, hbr⟩
        case measure => simp [intOf]; omega
      · rw [if_neg t1] at HD
        have t1' : -off ≤ x := by omega
        clear t1
        by_cases t2 : off < x
        · by_cases t3 : 0 ≤ bl
          · rw [if_pos ⟨t2, t3⟩] at HD
            have d2 : wr.cell? ⟨w1.heap.size, 2, none⟩ = some (.slice a' L c') := cell_block hblk 2
            go_wp2_with (refine appR (B := w1.heap.size + 1) (l := acc) rfl _ _ rfl hown rfl rfl (by omega) (by omega) ?_; intro a2 c2 w5 ho5 hb5 hs5; have hblk5 := (hb5.block _ (Nat.lt_succ_self _)).trans hblk; have d5 : w5.cell? ⟨w1.heap.size, 2, none⟩ = some (.slice a' L c') := cell_block hblk5 2; have r5 := frozen_block hblk5 2)
            go_roundw
            case rel =>
              refine ⟨k + 1, L + 1, c2, -1, a2, acc ++ [(bl, (k : Int))], by omega, rfl, by go_num, by omega, by omega, by omega, blk_set3 hblk5 _, ho5.under (by omega) _, ?_, (hbr.trans (hb5.mono (by omega))).setCell (by simp) _⟩
              rw [List.append_assoc]
              exact (congrArg (acc ++ ·) HD.out.symm).trans HCR.out
            case measure => simp [intOf]; omega
          · rw [if_neg (fun h => t3 h.2)] at HD
            have t3' : bl < 0 := by omega
            clear t3
            go_wp2_with fail
            go_roundw
            case rel => exact ⟨k + 1, L, c', bl, a', acc, by omega, rfl, by go_num, by omega, by omega, by omega, hblk, hown, by rw [← HD.out]; exact HCR.out, hbr⟩
            case measure => simp [intOf]; omega
        · rw [if_neg (fun h => t2 h.1)] at HD
          have t2' : x ≤ off := by omega
          clear t2
          go_wp2_with fail
          go_roundw
          case rel => exact ⟨k + 1, L, c', bl, a', acc, by omega, rfl, by go_num, by omega, by omega, by omega, hblk, hown, by rw [← HD.out]; exact HCR.out, hbr⟩
          case measure => simp [intOf]; omega
    · have hle : (n : Int) ≤ (k : Int) := by omega
      have hacc : acc = crossF off 0 (-1) xs := by
        have := HCR.out
        rw [List.drop_eq_nil_of_le (by omega)] at this
        simpa [crossF] using this
      have x2' := blk_keep x2 hbr
      have d0 : wr.cell? ⟨w1.heap.size, 0, none⟩ = some (.slice a n c) := cell_block hblk 0
      have d1 : wr.cell? ⟨w1.heap.size, 1, none⟩ = some (.int .i64 off) := cell_block hblk 1
      have d2 : wr.cell? ⟨w1.heap.size, 2, none⟩ = some (.slice a' L c') := cell_block hblk 2
      have g0 : wr.cell? ⟨w.heap.size + 1, 0, none⟩ = some (.slice none 0 0) := cell_block x2' 0
      have g1 : wr.cell? ⟨w.heap.size + 1, 1, none⟩ = some (.int .i64 0) := cell_block x2' 1
      have g2 : wr.cell? ⟨w.heap.size + 1, 2, none⟩ = some (.slice none 0 0) := cell_block x2' 2
      have r0 := frozen_block x2' 0
      have r1 := frozen_block x2' 1
      have r2 := frozen_block x2' 2
      obtain ⟨s0, s1, s2⟩ := set3 (x := .slice a n c) (y := .int .i64 off) (z := .slice a' L c') g0 g1 g2
      go_wp2_with fail
      refine bodyPost_ret (v := .tuple #[.agg #[.slice a n c, .int .i64 off, .slice a' L c'], .int .i64 0]) (by simp [results, Tryz.results59, go_sem, s0, s1, s2]) rfl ⟨a', L, c', rfl, ?_, ?_⟩
      · rw [← hacc]
        exact (((hown.under (by omega) _).under (by omega) _).under (by omega) _).weak (by omega)
      · exact ((hbw'.setCell (by simp) _).setCell (by simp) _).setCell (by simp) _
end Go.Proofs.YteigmjlfpmdmoaaGreatDoor
