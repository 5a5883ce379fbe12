/- Contracts of chapter 6: the count below a square. -/
import Derived.Test.YtmaidjankakppaaMf
namespace Go.Proofs.Ytmaidjankakppaa
open Go.RowKit Go.Shelf
attribute [local go_sem] Oper.semAt_some
open Calmly (Kept)

set_option maxHeartbeats 1000000 in
theorem determinants_any (x y : Value) (num den : Int) (w : World) :
    Calls Try.prog 132 #[.agg #[x, y], .int .i64 num, .int .i64 den] w fun e w' => e = .returned (.func (.func 147) #[] #[.pointer (some ⟨w.heap.size, 0, none⟩), .pointer (some ⟨w.heap.size + 2, 0, none⟩), .pointer (some ⟨w.heap.size + 1, 0, none⟩)]) ∧ w' = ((w.alloc (.cells #[x, y] 141)).alloc (.cells #[.int .i64 num] 3)).alloc (.cells #[.int .i64 den] 3) := by
  go_enter Try.func132, Try.ntmps132
  go_wp2
  go_ret
  exact ⟨rfl, rfl⟩

/-- The count, the last sign, the last determinant. -/
def bStep (st : Int × Int × Int) (x : Int) : Int × Int × Int := if x.sign ≠ 0 ∧ x.sign ≠ st.2.1 then (st.1 + 1, x.sign, x) else (st.1, st.2.1, x)
def bAll (l : List Int) : Int × Int × Int := l.foldl bStep (0, 1, 1)
theorem bAll_snoc (l : List Int) (x : Int) : bAll (l ++ [x]) = bStep (bAll l) x := by simp [bAll]
theorem bAll_bd (l : List Int) : 0 ≤ (bAll l).1 ∧ (bAll l).1 ≤ l.length := by
  unfold bAll
  suffices h : ∀ (st : Int × Int × Int) (n : Nat), 0 ≤ st.1 ∧ st.1 ≤ n → 0 ≤ (l.foldl bStep st).1 ∧ (l.foldl bStep st).1 ≤ (n + l.length : Nat) by
    have := h (0, 1, 1) 0 ⟨by decide, by decide⟩
    simpa using this
  induction l with
  | nil => intro st n h; simpa using h
  | cons x l ih =>
    intro st n h
    have := ih (bStep st x) (n + 1) (by unfold bStep; split <;> simp <;> omega)
    rw [List.foldl_cons]
    simp only [List.length_cons]
    rw [show n + (l.length + 1) = n + 1 + l.length by omega]
    exact this
def belowF (ms ks : List Int) (num den : Int) : Int := (bAll (dets ms ks num den ms.length)).1
def modeF (ms ks : List Int) (num den : Int) : Bool := (bAll (dets ms ks num den ms.length)).2.2 == 0

/-- Blocks laid one after the other. -/
theorem allocs_below (os : List Obj) (w : World) : Below w.heap.size w (os.foldl World.alloc w) ∧ (os.foldl World.alloc w).heap.size = w.heap.size + os.length := by
  induction os generalizing w with
  | nil => exact ⟨Below.refl _ _, rfl⟩
  | cons o os ih =>
    obtain ⟨h1, h2⟩ := ih (w.alloc o)
    have h3 : Below w.heap.size w (w.alloc o) := (Below.refl _ _).alloc (Nat.le_refl _) _
    refine ⟨h3.trans (h1.mono (by simp)), ?_⟩
    rw [List.foldl_cons, h2]
    simp
    omega
theorem allocs_at (os : List Obj) (w : World) (j : Nat) (hj : j < os.length) : (os.foldl World.alloc w).heap[w.heap.size + j]? = os[j]? := by
  induction os generalizing w j with
  | nil => simp at hj
  | cons o os ih =>
    rw [List.foldl_cons]
    cases j with
    | zero => exact blk_keep (alloc_new w o) (allocs_below os _).1
    | succ j =>
      have := ih (w.alloc o) j (by simpa using hj)
      simp only [World.size_alloc] at this
      rw [List.getElem?_cons_succ, ← this]
      congr 1
      omega
theorem own_blk {β : Type} (B b : Nat) (f : β → Obj) (hf : ∀ s, (f s).isCells = true) : OwnFrom B (fun s W => W.heap[b]? = some (f s)) := fun s X Y row hs hg hr => by
  refine (hg.block b (Array.getElem?_eq_some_iff.1 hs).1 ?_).trans hs
  intro e
  obtain ⟨_, o, ho, hc⟩ := hr b e.symm
  rw [hs] at ho
  cases ho
  rw [hf] at hc
  cases hc
theorem own_pure {β : Type} (B : Nat) (p : β → Prop) : OwnFrom B (fun s _ => p s) := fun _ _ _ _ hs _ _ => hs
/-- What the caller's own cells hold. -/
def Cd (w : World) (s : Nat) (st : Int × Int × Int) (W : World) : Prop :=
  ((W.heap[s + 1]? = some (.cells #[.int .i64 st.1] 3) ∧ W.heap[s + 1 + 1]? = some (.cells #[.int .i64 st.2.1] 3)) ∧ W.heap[s + 1 + 1 + 1]? = some (.cells #[.int .i64 st.2.2] 3)) ∧ Below s w W
theorem own_cd {β : Type} (w : World) (B : Nat) (f : β → Int × Int × Int) (hB : w.heap.size ≤ B) : OwnFrom B (fun s W => Cd w w.heap.size (f s) W) :=
  OwnFrom.and (OwnFrom.and (OwnFrom.and (own_blk B _ (fun s => .cells #[.int .i64 (f s).1] 3) (fun _ => rfl)) (own_blk B _ (fun s => .cells #[.int .i64 (f s).2.1] 3) (fun _ => rfl))) (own_blk B _ (fun s => .cells #[.int .i64 (f s).2.2] 3) (fun _ => rfl))) (ownFrom_below (Nat.le_refl _) hB)

theorem Dt.set {w v : World} {bf bd bn : Nat} {F : Obj} {num den : Int} (h : Dt w bf bd bn F num den v) {r o : Nat} (h1 : w.heap.size ≤ r) (h2 : r < bf) (h3 : r < bd) (h4 : r < bn) (x : Value) : Dt w bf bd bn F num den (v.setCell ⟨r, o, none⟩ x) := by
  obtain ⟨d1, d2, d3, d4, d5⟩ := h
  have hs : (v.setCell ⟨r, o, none⟩ x).heap.size = v.heap.size := by simp [World.setCell]
  have hk : ∀ k, k ≠ r → (v.setCell ⟨r, o, none⟩ x).heap[k]? = v.heap[k]? := fun k hk => Below.heap_setCell _ _ _ _ hk
  exact ⟨by omega, fun k hk' => (hk k (by omega)).trans (d2 k hk'), (hk _ (by omega)).trans d3, (hk _ (by omega)).trans d4, (hk _ (by omega)).trans d5⟩
theorem Dt.put {w v : World} {bf bd bn : Nat} {F : Obj} {num den : Int} (h : Dt w bf bd bn F num den v) {l : Nat} (h1 : w.heap.size ≤ l) (h2 : bf < l) (h3 : bd < l) (h4 : bn < l) (o : Obj) : Dt w bf bd bn F num den (v.putObj l o) := by
  obtain ⟨d1, d2, d3, d4, d5⟩ := h
  have hk : ∀ k, k ≠ l → (v.putObj l o).heap[k]? = v.heap[k]? := fun k hk => World.putObj_heap_other hk
  exact ⟨by simpa using d1, fun k hk' => (hk k (by omega)).trans (d2 k hk'), (hk _ (by omega)).trans d3, (hk _ (by omega)).trans d4, (hk _ (by omega)).trans d5⟩
theorem blk_set {W : World} {b : Nat} {u : Value} {t : TypeId} (h : W.heap[b]? = some (.cells #[u] t)) (v : Value) : (W.setCell ⟨b, 0, none⟩ v).heap[b]? = some (.cells #[v] t) := by
  simp [World.setCell, Array.getElem?_modify, h]
theorem blk_other {W : World} {b r : Nat} {o : Obj} (h : W.heap[b]? = some o) (hne : b ≠ r) (v : Value) : (W.setCell ⟨r, 0, none⟩ v).heap[b]? = some o := (Below.heap_setCell _ _ _ _ hne).trans h
theorem Cd.set3 {w W : World} {st : Int × Int × Int} (h : Cd w w.heap.size st W) (x : Int) : Cd w w.heap.size (st.1, st.2.1, x) (W.setCell ⟨w.heap.size + 1 + 1 + 1, 0, none⟩ (.int .i64 x)) := by
  obtain ⟨⟨⟨h1, h2⟩, h3⟩, hb⟩ := h
  exact ⟨⟨⟨blk_other h1 (by omega) _, blk_other h2 (by omega) _⟩, blk_set h3 _⟩, hb.setCell (by show _ ≤ w.heap.size + 1 + 1 + 1; omega) _⟩
theorem Cd.set12 {w W : World} {st : Int × Int × Int} (h : Cd w w.heap.size st W) (x y : Int) : Cd w w.heap.size (x, y, st.2.2) ((W.setCell ⟨w.heap.size + 1, 0, none⟩ (.int .i64 x)).setCell ⟨w.heap.size + 1 + 1, 0, none⟩ (.int .i64 y)) := by
  obtain ⟨⟨⟨h1, h2⟩, h3⟩, hb⟩ := h
  exact ⟨⟨⟨blk_other (blk_set h1 _) (by omega) _, blk_set (blk_other h2 (by omega) _) _⟩, blk_other (blk_other h3 (by omega) _) (by omega) _⟩, (hb.setCell (by show _ ≤ w.heap.size + 1; omega) _).setCell (by show _ ≤ w.heap.size + 1 + 1; omega) _⟩
theorem Cd.cells {w W : World} {st : Int × Int × Int} (h : Cd w w.heap.size st W) : W.cell? ⟨w.heap.size + 1, 0, none⟩ = some (.int .i64 st.1) ∧ W.cell? ⟨w.heap.size + 1 + 1, 0, none⟩ = some (.int .i64 st.2.1) ∧ W.cell? ⟨w.heap.size + 1 + 1 + 1, 0, none⟩ = some (.int .i64 st.2.2) ∧
    W.frozen? ⟨w.heap.size + 1, 0, none⟩ = false ∧ W.frozen? ⟨w.heap.size + 1 + 1, 0, none⟩ = false ∧ W.frozen? ⟨w.heap.size + 1 + 1 + 1, 0, none⟩ = false := by
  obtain ⟨⟨⟨h1, h2⟩, h3⟩, _⟩ := h
  exact ⟨cell_block h1 0, cell_block h2 0, cell_block h3 0, frozen_block h1 0, frozen_block h2 0, frozen_block h3 0⟩

set_option maxRecDepth 100000 in
set_option maxHeartbeats 4000000 in
theorem below_any (a b : Option Addr) (m c d : Nat) (ms ks : List Int) (num den : Int) (w : World) (h1 : SI w a m c ms) (h2 : SI w b m d ks) (he : (checkF ms ks).2 = 0) (hq : Sq num den) :
    Calls Try.prog 103 #[.agg #[.slice a m c, .slice b m d], .int .i64 num, .int .i64 den] w fun e w' => e = .returned (.tuple #[.int .i64 (belowF ms ks num den), .bool (modeF ms ks num den)]) ∧ Below w.heap.size w w' := by
  refine (callsIn_wide (n := 5)).1 ?_
  refine callsIn_of_wp_marks Try.func103 rfl trivial ?_ rfl
  simp only [Try.ntmps103, List.size_toArray, List.length_cons, List.length_nil, Nat.reduceAdd, Nat.reduceSub, Array.replicate_succ, Array.replicate_zero, List.push_toArray, List.append_toArray, List.nil_append, List.cons_append]
  gi_wp2_with (refine ⟨trivial, ?_⟩; gi_at_call 132; refine (callsIn_wide.2 (determinants_any _ _ _ _ _)).mono ?_; rintro e w' ⟨rfl, rfl⟩)
  obtain ⟨V, hV⟩ : ∃ V, (((((((w.alloc (.cells #[.slice a m c, .slice b m d] 141)).alloc (.cells #[.int .i64 0] 3)).alloc (.cells #[.int .i64 1] 3)).alloc (.cells #[.int .i64 1] 3)).alloc (.cells #[.slice a m c, .slice b m d] 141)).alloc (.cells #[.int .i64 num] 3)).alloc (.cells #[.int .i64 den] 3)) = V := ⟨_, rfl⟩
  have hVl : ([(.cells #[.slice a m c, .slice b m d] 141), (.cells #[.int .i64 0] 3), (.cells #[.int .i64 1] 3), (.cells #[.int .i64 1] 3), (.cells #[.slice a m c, .slice b m d] 141), (.cells #[.int .i64 num] 3), (.cells #[.int .i64 den] 3)] : List Obj).foldl World.alloc w = V := hV
  obtain ⟨hVb, hVs⟩ := allocs_below [(.cells #[.slice a m c, .slice b m d] 141), (.cells #[.int .i64 0] 3), (.cells #[.int .i64 1] 3), (.cells #[.int .i64 1] 3), (.cells #[.slice a m c, .slice b m d] 141), (.cells #[.int .i64 num] 3), (.cells #[.int .i64 den] 3)] w
  have hVa := allocs_at [(.cells #[.slice a m c, .slice b m d] 141), (.cells #[.int .i64 0] 3), (.cells #[.int .i64 1] 3), (.cells #[.int .i64 1] 3), (.cells #[.slice a m c, .slice b m d] 141), (.cells #[.int .i64 num] 3), (.cells #[.int .i64 den] 3)] w
  rw [hVl] at hVb hVs hVa
  clear hVl
  have hv1 := hVa 1 (by simp)
  have hv2 := hVa 2 (by simp)
  have hv3 := hVa 3 (by simp)
  have hv4 := hVa 4 (by simp)
  have hv5 := hVa 5 (by simp)
  have hv6 := hVa 6 (by simp)
  simp only [List.length_cons, List.length_nil, Nat.reduceAdd] at hVs
  clear hVa
  rw [hV]
  clear hV
  have hDV : Dt w (w.heap.size + 1 + 1 + 1 + 1) (w.heap.size + 1 + 1 + 1 + 1 + 2) (w.heap.size + 1 + 1 + 1 + 1 + 1) (.cells #[.slice a m c, .slice b m d] 141) num den V := ⟨by omega, hVb.block, hv4, hv6, hv5⟩
  have hCV : Cd w w.heap.size (bAll []) V := ⟨⟨⟨hv1, hv2⟩, hv3⟩, hVb⟩
  clear hv1 hv2 hv3 hv4 hv5 hv6
  obtain ⟨l1, l2⟩ : m ≤ ms.length ∧ ms.length ≤ m := by have := h1.len; omega
  have hq0 : m ≤ 4 := by have := (checkF_ok he).2.2.1; omega
  refine range_mid (gf := 147) (N := m) (m := 4) rfl (enters_of Try.func147 (by kernel_rfl) rfl) (enc := fun x : Int => #[Value.int .i64 x])
    (Kp := fun A B => Dt w (w.heap.size + 1 + 1 + 1 + 1) (w.heap.size + 1 + 1 + 1 + 1 + 2) (w.heap.size + 1 + 1 + 1 + 1 + 1) (.cells #[.slice a m c, .slice b m d] 141) num den A → Dt w (w.heap.size + 1 + 1 + 1 + 1) (w.heap.size + 1 + 1 + 1 + 1 + 2) (w.heap.size + 1 + 1 + 1 + 1 + 1) (.cells #[.slice a m c, .slice b m d] 141) num den B)
    (S := fun xs => xs = dets ms ks num den m) ?_ (fun h k d => k (h d)) ?_ (fun _ => rfl)
    (fun pre W => Cd w w.heap.size (bAll pre) W) (own_cd w _ _ (by omega)) hCV
    (fun pre x a' W => (Cd w w.heap.size ((bAll pre).1, (bAll pre).2.1, x) W ∧ pre.length < m) ∧ a' = ⟨#[Value.agg #[Value.slice a m c, Value.slice b m d], Value.int IntKind.i64 num, Value.int IntKind.i64 den,
          Value.pointer (some { block := w.heap.size, off := 0 }), undef, undef, Value.int IntKind.i64 0,
          Value.bool false, Value.pointer (some { block := w.heap.size + 1, off := 0 }),
          Value.pointer (some { block := w.heap.size + 1 + 1, off := 0 }),
          Value.pointer (some { block := w.heap.size + 1 + 1 + 1, off := 0 }), undef,
          Value.agg #[Value.slice a m c, Value.slice b m d], Value.int IntKind.i64 num, Value.int IntKind.i64 den,
          Value.func (Fn.func 147) #[]
            #[Value.pointer (some { block := w.heap.size + 1 + 1 + 1 + 1, off := 0 }),
              Value.pointer (some { block := w.heap.size + 1 + 1 + 1 + 1 + 2, off := 0 }),
              Value.pointer (some { block := w.heap.size + 1 + 1 + 1 + 1 + 1, off := 0 })],
          .int .i64 x, undef, undef, undef, undef, undef, undef, undef, undef, undef, undef, undef, undef, undef, undef,
          undef], []⟩)
    (fun pre x a' => OwnFrom.and (OwnFrom.and (own_cd w _ _ (by omega)) (own_pure _ (fun _ => pre.length < m))) (own_pure _ (fun _ => a' = _))) ?assign ?body ?done
  · intro l J W hW hJ hY hJ0
    refine (dets_call l J (fun _ _ => False) w W a b m c d _ _ _ ms ks num den h1 h2 he hq (hDV.below hW) hJ 4 (fun pre x W1 hj hl => (hY pre x W1 hj hl).mono (fun e W' h => .inl ⟨h.1, h.2.1, h.2.2⟩)) hJ0).mono ?_
    rintro e W' ⟨hv, h | ⟨_, h⟩⟩
    · exact ⟨hv, _, rfl, h⟩
    · exact h.elim
  · intro W l o o' hl ho hc hd
    exact hd.put (by omega) (by omega) (by omega) (by omega) _
  case assign =>
    rintro l pre x W K hi hlen hK
    obtain ⟨c1, c2, c3, r1, r2, r3⟩ := hi.cells
    gi_wp2
    exact hK _ _ (KeepsOthers.setCell _ _ _) (fun h => h.set (by omega) (by omega) (by omega) (by omega) _) ⟨⟨hi.set3 x, hlen⟩, rfl⟩
  case body =>
    rintro l pre x a' W ⟨⟨hC, hlen⟩, rfl⟩
    obtain ⟨c1, c2, c3, r1, r2, r3⟩ := hC.cells
    have hbd := bAll_bd pre
    obtain ⟨st, hst⟩ : ∃ st, bAll pre = st := ⟨_, rfl⟩
    rw [hst] at hC hbd c1 c2 c3
    obtain ⟨ct, la, dd⟩ := st
    dsimp only at hC hbd c1 c2 c3
    have hI : Cd w w.heap.size (bAll (pre ++ [x])) = Cd w w.heap.size (bStep (ct, la, dd) x) := by rw [bAll_snoc, hst]
    rw [hI]
    obtain ⟨sg, hs⟩ : ∃ sg, x.sign = sg := ⟨_, rfl⟩
    have hI2 : bStep (ct, la, dd) x = if sg ≠ 0 ∧ sg ≠ la then (ct + 1, sg, x) else (ct, la, x) := by rw [← hs]; rfl
    have hcall : Calls Try.prog 123 #[.int .i64 x] W fun e w' => e = .returned (.int .i64 sg) ∧ W = w' := by rw [← hs]; exact sign_any x W
    rw [hI2]
    clear hI hI2 hst hs
    by_cases hx : sg = 0
    · rw [if_neg (fun h => h.1 hx)]
      have hx1 : (sg != 0) = false := by simp [hx]
      clear hx
      gi_wp2_with (refine ⟨trivial, ?_⟩; gi_at_call 123; refine (CallsIn.inRound l (callsIn_wide.2 hcall)).mono ?_; rintro e w' ⟨rfl, rfl⟩)
      exact KeepsOthers.refl _
    · have hx1 : (sg != 0) = true := by simpa using hx
      by_cases hy : sg = la
      · rw [if_neg (fun h => h.2 hy)]
        have hy1 : (sg != la) = false := by simp [hy]
        clear hx hy
        gi_wp2_with (refine ⟨trivial, ?_⟩; gi_at_call 123; refine (CallsIn.inRound l (callsIn_wide.2 hcall)).mono ?_; rintro e w' ⟨rfl, rfl⟩)
        exact KeepsOthers.refl _
      · have hy1 : (sg != la) = true := by simpa using hy
        rw [if_pos ⟨hx, hy⟩]
        clear hx hy
        gi_wp2_with (refine ⟨trivial, ?_⟩; gi_at_call 123; refine (CallsIn.inRound l (callsIn_wide.2 hcall)).mono ?_; rintro e w' ⟨rfl, rfl⟩)
        exact ⟨(KeepsOthers.setCell _ _ _).trans (KeepsOthers.setCell _ _ _), fun h => (h.set (by omega) (by omega) (by omega) (by omega) _).set (by omega) (by omega) (by omega) (by omega) _, hC.set12 _ _⟩
  case done =>
    rintro D xs W hD rfl hi hK
    obtain ⟨c1, c2, c3, r1, r2, r3⟩ := hi.cells
    gi_wp2
    refine wpIn_wide.2 ?_
    refine Calmly.wp_region_mix 4 (.fl 0 <| .fl 1 <| .fl 2 <| .fl 3 <| .tail [4]) (by kernel_rfl) (by kernel_rfl) ?_
    have hk := Below.refl W.drew.heap.size W.drew
    go_wp2_with (first | ((with_reducible refine Calmly.is_fl ?_); refine Calmly.mix_fl rfl ?_ (fun _ _ => ?_); (first | exact .move _ | exact .load _ _ | exact .fieldAddr _ _ _ (by kernel_rfl) | exact .assign _ | exact .binOp _ _ _ _ _ rfl | exact .indexAddr _ _ _ | exact .len _ _ (by kernel_rfl) | exact .field _ _ _ | exact .extract _ _ | exact .pick _ _ _ | exact .build _ _ | exact .slice _ _ _ _ _ | exact .unOp _ _ _ rfl | exact .index _ _ _ | exact .max _ _ _ rfl rfl | exact .min _ _ _ rfl rfl)) | ((with_reducible refine Calmly.is_gl ?_); refine Calmly.mix_gl rfl rfl rfl ?_; first | ((first | with_reducible refine Calmly.gl_tt ?_ (fun _ _ => ?_) | with_reducible refine Calmly.gl_ff ?_ (fun _ _ => ?_)); (first | exact .move _ | exact .load _ _ | exact .fieldAddr _ _ _ (by kernel_rfl) | exact .assign _ | exact .binOp _ _ _ _ _ rfl | exact .indexAddr _ _ _ | exact .len _ _ (by kernel_rfl) | exact .field _ _ _ | exact .extract _ _ | exact .pick _ _ _ | exact .build _ _ | exact .slice _ _ _ _ _ | exact .unOp _ _ _ rfl | exact .index _ _ _ | exact .max _ _ _ rfl rfl | exact .min _ _ _ rfl rfl)) | with_reducible refine Calmly.gl_tf (fun _ _ => ?_) | with_reducible refine Calmly.gl_ft (fun _ _ => ?_)) | ((with_reducible refine Calmly.is_eff ?_); refine Calmly.mix_eff rfl (fun _ _ => ?_)) | ((with_reducible refine Calmly.is_gf ?_); refine Calmly.mix_gf rfl rfl rfl ?_; first | with_reducible refine Calmly.gf_tt (fun _ _ => ?_) | with_reducible refine Calmly.gf_ff (fun _ _ => ?_) | with_reducible refine Calmly.gf_tf (kept_of hk) (fun _ _ => ?_) | with_reducible refine Calmly.gf_ft (kept_of hk) (fun _ _ => ?_)) | ((with_reducible refine Calmly.is_tail ?_); first | refine Calmly.mix_tail_nil ?_ | refine Calmly.mix_tail rfl (fun _ _ => ?_)) | ((with_reducible refine Calmly.is_kept ?_); refine ⟨kept_of hk, ?_⟩) | (with_reducible refine Calmly.mix_alt ?_ ?_))
    gi_wp2
    refine ⟨by simp, .inl ⟨_, _, rfl, run_takeDeferred (show W.drew.heap[D]? = _ from hK), ?_⟩⟩
    have hm : m = ms.length := by omega
    refine ⟨.tuple #[.int .i64 (bAll (dets ms ks num den m)).1, .bool ((bAll (dets ms ks num den m)).2.2 == 0)], by simp [results, Try.results103, go_sem], ?_, ?_⟩
    · unfold belowF modeF
      rw [← hm]
    · exact hi.2.drew.trans (belowK_b (w := V) (by omega) W.drew D _ _ hD hK rfl rfl)
end Go.Proofs.Ytmaidjankakppaa
