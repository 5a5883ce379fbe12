/- States as values; the state at the beginning. A range over a function whose body may return. The drifts of displacements, yielded one after the other. A new step: pushes and new displacements. -/
import Derived.Test.YtaiikekgckjdeaaGreatK08
namespace Go.Proofs.YtaiikekgckjdeaaGreat
open Go.RowKit
open Calmly (Kept)

theorem BlkT.not {w : World} {b : Nat} {e e' : TypeId} (h : BlkT w b e) (he : e ≠ e') : ¬ BlkT w b e' := by
  rintro ⟨cs, hc⟩
  obtain ⟨cs', hc'⟩ := h
  rw [hc] at hc'
  cases hc'
  exact he rfl
theorem In.blk {w : World} {e : TypeId} {a : Option Addr} (h : In w e a) : ∀ b o, a = some ⟨b, o, none⟩ → BlkT w b e := by
  rintro b o rfl
  rcases h with h | ⟨b', o', h1, h2⟩
  · cases h
  · cases h1; exact h2
theorem In.same {w w' : World} {e : TypeId} {a : Option Addr} (h : In w e a) (hs : ∀ b o, a = some ⟨b, o, none⟩ → w'.heap[b]? = w.heap[b]?) : In w' e a := by
  rcases h with h | ⟨b, o, h1, cs, h2⟩
  · exact .inl h
  · exact .inr ⟨b, o, h1, cs, (hs b o h1).trans h2⟩
/-! ### Holds and states that are read -/
abbrev Ho := Int × List Sp
def ho0 : Ho := (0, [])
structure HlV (w : World) (a : Option Addr) (n c : Nat) (raw : List HoR) (hs : List Ho) : Prop where
  row : SHoR w a n c raw
  len : raw.length = hs.length
  hl : ∀ i, i < hs.length → (raw[i]?.getD hor0).1 = (hs[i]?.getD ho0).1 ∧ SSp w (raw[i]?.getD hor0).2.1 (raw[i]?.getD hor0).2.2.1 (raw[i]?.getD hor0).2.2.2 (hs[i]?.getD ho0).2 ∧ In w 75 (raw[i]?.getD hor0).2.1
theorem HlV.keep {w w' : World} {a : Option Addr} {n c : Nat} {raw : List HoR} {hs : List Ho} (h : HlV w a n c raw hs) (hb : Below w.heap.size w w') : HlV w' a n c raw hs :=
  ⟨h.row.keep hb, h.len, fun i hi => ⟨(h.hl i hi).1, (h.hl i hi).2.1.keep hb, (h.hl i hi).2.2.keep hb⟩⟩
/-- Nothing but blocks of one type has changed. -/
def But (e : TypeId) (w w' : World) : Prop := w.heap.size ≤ w'.heap.size ∧ ∀ b, b < w.heap.size → ¬ BlkT w b e → w'.heap[b]? = w.heap[b]?
theorem But.of_below {e : TypeId} {w w' : World} (h : Below w.heap.size w w') : But e w w' := ⟨h.size, fun b hb _ => h.block b hb⟩
theorem SSp.but {e : TypeId} {w w' : World} {a : Option Addr} {n c : Nat} {l : List Sp} (h : SSp w a n c l) (hi : In w 75 a) (hb : But e w w') (he : 75 ≠ e) : SSp w' a n c l :=
  Sl.same h (fun b o hn ha => hb.2 b (h.blk b o hn ha) ((hi.blk b o ha).not he))
theorem In.but {e e' : TypeId} {w w' : World} {a : Option Addr} (h : In w e' a) (hb : But e w w') (he : e' ≠ e) : In w' e' a :=
  h.same (fun b o ha => hb.2 b (h.blk b o ha).lt ((h.blk b o ha).not he))
theorem HlV.but {e : TypeId} {w w' : World} {a : Option Addr} {n c : Nat} {raw : List HoR} {hs : List Ho} (h : HlV w a n c raw hs) (hi : In w 57 a) (hb : But e w w') (h1 : 75 ≠ e) (h2 : 57 ≠ e) : HlV w' a n c raw hs :=
  ⟨Sl.same h.row (fun b o hn ha => hb.2 b (h.row.blk b o hn ha) ((hi.blk b o ha).not h2)), h.len, fun i hi2 => ⟨(h.hl i hi2).1, (h.hl i hi2).2.1.but (h.hl i hi2).2.2 hb h1, (h.hl i hi2).2.2.but hb h1⟩⟩
abbrev St := List Int × List Int × List Ho
/-- A state that reads as such. -/
structure StV (w : World) (x : StR) (s : St) : Prop where
  now : SI w x.1.1 x.1.2.1 x.1.2.2 s.1
  nowI : In w 3 x.1.1
  bef : SI w x.2.1.1 x.2.1.2.1 x.2.1.2.2 s.2.1
  befI : In w 3 x.2.1.1
  hol : ∃ raw, HlV w x.2.2.1 x.2.2.2.1 x.2.2.2.2 raw s.2.2
  holI : In w 57 x.2.2.1
theorem StV.keep {w w' : World} {x : StR} {s : St} (h : StV w x s) (hb : Below w.heap.size w w') : StV w' x s := by
  obtain ⟨h1, h2, h3, h4, ⟨raw, h5⟩, h6⟩ := h
  exact ⟨h1.keep hb, h2.keep hb, h3.keep hb, h4.keep hb, ⟨raw, h5.keep hb⟩, h6.keep hb⟩
theorem SI.but {e : TypeId} {w w' : World} {a : Option Addr} {n c : Nat} {l : List Int} (h : SI w a n c l) (hi : In w 3 a) (hb : But e w w') (he : 3 ≠ e) : SI w' a n c l :=
  Sl.same h (fun b o _ ha => hb.2 b (hi.blk b o ha).lt ((hi.blk b o ha).not he))
theorem StV.but {w w' : World} {x : StR} {s : St} (h : StV w x s) (hb : But 116 w w') : StV w' x s := by
  obtain ⟨h1, h2, h3, h4, ⟨raw, h5⟩, h6⟩ := h
  exact ⟨h1.but h2 hb (by decide), h2.but hb (by decide), h3.but h4 hb (by decide), h4.but hb (by decide), ⟨raw, h5.but h6 hb (by decide) (by decide)⟩, h6.but hb (by decide)⟩

set_option maxRecDepth 100000 in
theorem mix_makeIa (i : Nat) {w : World} {k : Calmly.Plan} {dst : Option Tmp} {l c : Operand} {ty : TypeId} {pos : String} {after : Array Edge} {a : Act} {W0 : World} {ops : Array Oper} {Q : Exit → Act → World → Prop} {L : Int} {n : Nat}
    (hi : ops[i]? = some ⟨dst, .makeSlice 29 l c, ty, pos, after, none⟩) (hl : a.eval l = .int .i64 L) (hc : a.eval c = .int .i64 L) (hL : L = (n : Int)) (hn : n ≤ 1000000)
    (h : ∀ a1 w', OwI w' w.heap.size a1 n n (List.replicate n 0) → Below w.heap.size w w' → Kept W0 w' ∧ Calmly.WpMix Tryz.prog ops Q W0 k (a.put dst (.slice a1 n n)) w') :
    Calmly.WpMix Tryz.prog ops Q W0 (.eff i k) a w := by
  refine Calmly.mix_eff hi (fun K hK => ?_)
  obtain ⟨i0, hi0, hz0, hz1, hz2⟩ := info_parts Tryz.info_int
  obtain ⟨w', hrun, ho, r2⟩ := run_make_full (P := Tryz.prog) w w.heap.size 29 _ i0 (.int .i64 0) 1 Tryz.underlying29 hi0 hz0 hz1 .i64 .i64 n (by rw [hz2]; omega) (by unfold maxLen; omega) (Nat.le_refl _)
  subst hL
  have h1 : OwI w' w.heap.size (some ⟨w.heap.size, 0, none⟩) n n (List.replicate n 0) := by
    unfold OwI
    rw [Nat.mul_one, show (Value.int IntKind.i64 0).cells = #[Value.int .i64 0] from rfl, toList_madeCells_one] at ho
    simpa using ho
  unfold Oper.wp
  simp [execOp, hl, hc, hrun, Result.andThen]
  exact hK _ _ (h _ w' h1 (grown_below r2 (Nat.le_refl _) (fun k hk => by cases hk)))
theorem kept_allocR {W w : World} {o : Obj} {G : Prop} (h : Below W.heap.size W w) (k : Below w.heap.size w (w.alloc o) → Below W.heap.size W (w.alloc o) → (w.alloc o).heap[w.heap.size]? = some o → W.heap.size ≤ w.heap.size → G) : Kept W (w.alloc o) ∧ G :=
  ⟨kept_of (h.alloc h.size o), k ((Below.refl _ _).alloc (Nat.le_refl _) _) (h.alloc h.size o) (alloc_new w o) h.size⟩
theorem OwI.keepM {w w' : World} {B : Nat} {a : Option Addr} {n c : Nat} {xs : List Int} (h : OwI w B a n c xs) (hb : Below w.heap.size w w') : OwI w' B a n c xs := owns_keep h hb

/-- Here the walk stops. -/
structure Stop (p : Prop) : Prop where
  out : p
/-- The state at the beginning. -/
def bgSt (fs : List Fl) : St := (List.replicate fs.length 0, List.replicate fs.length 0, fs.map (fun f => (0, bgS f.2.2)))
def st0 : StR := (hd0, hd0, hd0)
theorem frmE_ok {fs : List Fl} (h : (frmE fs).2 = 0) : (0 < fs.length ∧ fs.length ≤ 5) ∧ ∀ j, j < fs.length → flErr (fs[j]?.getD fl0) = 0 := by
  unfold frmE at h
  split at h
  · rename_i hh
    have h9 := eaF_all (err := fun i => flErr (fs[i]?.getD fl0)) (k := 0) (m := fs.length) (n := fs.length) (by omega) h
    refine ⟨?_, fun j hj => h9 j (by omega) (by omega)⟩
    unfold frmH firstE unlessE at hh
    by_cases h0 : 0 < fs.length <;> by_cases h4 : (fs.length : Int) ≤ 5 <;> simp [h0, h4, firstE] at hh <;> omega
  · rename_i hh
    exact absurd h hh
theorem flErr_ok {x : Fl} (h : flErr x = 0) : (1 ≤ x.1 ∧ x.1 ≤ 10000) ∧ (1 ≤ x.2.1 ∧ x.2.1 ≤ 1000) ∧ (sprE x.2.2).2 = 0 := by
  unfold flErr at h
  cases hw : wIn x.1 1 10000 && wIn x.2.1 1 1000
  · rw [hw] at h
    simp [firstE, unlessE] at h
  · rw [hw] at h
    rw [Bool.and_eq_true] at hw
    by_cases hs : (sprE x.2.2).2 = 0
    · exact ⟨wIn_iff.1 hw.1, wIn_iff.1 hw.2, hs⟩
    · simp [firstE, unlessE, hs] at h
/-- What lies between two rounds of BeginOf. -/
structure BgI (w : World) (b6 : Nat) (a a3 a7 : Option Addr) (n c : Nat) (fs : List Fl) (k : Nat) (wr : World) : Prop where
  bel : Below w.heap.size w wr
  t1 : wr.heap[w.heap.size]? = some (.cells #[.slice a n c] 71)
  t2 : wr.heap[w.heap.size + 1]? = some (.cells #[.slice none 0 0, .slice none 0 0, .slice none 0 0] 116)
  o3 : OwI wr w.heap.size a3 n n (List.replicate n 0)
  o7 : OwI wr w.heap.size a7 n n (List.replicate n 0)
  hol : ∃ av cv rw, wr.heap[b6]? = some (.cells #[.slice a3 n n, .slice a7 n n, .slice av k cv] 116) ∧ OwHoR wr w.heap.size av k cv rw ∧ rw.length = k ∧ ∀ i, i < k → (rw[i]?.getD hor0).1 = 0 ∧ SSp wr (rw[i]?.getD hor0).2.1 (rw[i]?.getD hor0).2.2.1 (rw[i]?.getD hor0).2.2.2 (bgS (fs[i]?.getD fl0).2.2) ∧ In wr 75 (rw[i]?.getD hor0).2.1
theorem owns_other {w w' : World} {B r n k : Nat} {v : Value} {e e' : TypeId} {xs : List Value} (h : w.ownsRow B e k v n xs) (ho : ∀ b, b ≠ r → w'.heap[b]? = w.heap[b]?) (hr : BlkT w r e') (he : e' ≠ e) : w'.ownsRow B e k v n xs := by
  obtain ⟨h1, h2⟩ := h
  refine ⟨h1, ?_⟩
  rcases h2 with h2 | ⟨g, cap, cur, hv, hg, hh, r'⟩
  · exact .inl h2
  · exact .inr ⟨g, cap, cur, hv, hg, (ho g (BlkT.ne ⟨_, hh⟩ hr he.symm)).trans hh, r'⟩
theorem BgI.start {w : World} {b6 : Nat} {a a3 a7 : Option Addr} {n c : Nat} {fs : List Fl} {X : World} (B : Below w.heap.size w X) (t1 : X.heap[w.heap.size]? = some (.cells #[.slice a n c] 71)) (t2 : X.heap[w.heap.size + 1]? = some (.cells #[.slice none 0 0, .slice none 0 0, .slice none 0 0] 116)) (o3 : OwI X w.heap.size a3 n n (List.replicate n 0)) (o7 : OwI X w.heap.size a7 n n (List.replicate n 0))
    (y6 : X.heap[b6]? = some (.cells #[.slice none 0 0, .slice none 0 0, .slice none 0 0] 116)) (hb : w.heap.size + 1 < b6) :
    BgI w b6 a a3 a7 n c fs 0 (((X.setCell ⟨b6, 0, none⟩ (.slice a3 n n)).setCell ⟨b6, 1, none⟩ (.slice a7 n n)).setCell ⟨b6, 2, none⟩ (.slice none 0 0)) := by
  have hne : ∀ b, b ≠ b6 → (((X.setCell ⟨b6, 0, none⟩ (.slice a3 n n)).setCell ⟨b6, 1, none⟩ (.slice a7 n n)).setCell ⟨b6, 2, none⟩ (.slice none 0 0)).heap[b]? = X.heap[b]? := fun b h => by
    rw [Below.heap_setCell _ _ _ _ h, Below.heap_setCell _ _ _ _ h, Below.heap_setCell _ _ _ _ h]
  have q6 := setBlk (setBlk (setBlk y6 0 (.slice a3 n n)) 1 (.slice a7 n n)) 2 (.slice none 0 0)
  have hw : w.heap.size ≤ b6 := by omega
  exact ⟨((B.setCell hw _).setCell hw _).setCell hw _, (hne _ (by omega)).trans t1, (hne _ (by omega)).trans t2, owns_other o3 hne ⟨_, y6⟩ (by decide), owns_other o7 hne ⟨_, y6⟩ (by decide), ⟨none, 0, [], by simpa using q6, OwHoR.nil _ _, rfl, fun i hi => absurd hi (by omega)⟩⟩
theorem owns_but {e e' : TypeId} {w w' : World} {B n k : Nat} {v : Value} {xs : List Value} (h : w.ownsRow B e k v n xs) (hb : But e' w w') (he : e ≠ e') : w'.ownsRow B e k v n xs := by
  obtain ⟨h1, h2⟩ := h
  refine ⟨h1, ?_⟩
  rcases h2 with h2 | ⟨g, cap, cur, hv, hg, hh, r'⟩
  · exact .inl h2
  · exact .inr ⟨g, cap, cur, hv, hg, (hb.2 g (Array.getElem?_eq_some_iff.1 hh).1 (BlkT.not ⟨_, hh⟩ he)).trans hh, r'⟩
theorem But.setCell {e : TypeId} {w : World} {b o : Nat} {v : Value} (h : BlkT w b e) : But e w (w.setCell ⟨b, o, none⟩ v) := ⟨by simp, fun b' _ hne => Below.heap_setCell _ _ _ _ (by rintro rfl; exact hne h)⟩
theorem But.trans {e : TypeId} {A B C : World} (h : But e A B) (k : But e B C) (hk : ∀ b, BlkT B b e → b < A.heap.size → BlkT A b e) : But e A C := ⟨Nat.le_trans h.1 k.1, fun b hb hn => (k.2 b (by have := h.1; omega) (fun hx => hn (hk b hx hb))).trans (h.2 b hb hn)⟩
theorem blk_but {e e' : TypeId} {w w' : World} {b : Nat} {cs : Array Value} (h : w.heap[b]? = some (.cells cs e)) (hb : But e' w w') (he : e ≠ e') : w'.heap[b]? = some (.cells cs e) := (hb.2 b (blk_lt h) (BlkT.not ⟨_, h⟩ he)).trans h
theorem BgI.step {w : World} {b6 : Nat} {a a3 a7 : Option Addr} {n c : Nat} {fs : List Fl} {k : Nat} {wr V8 w3 w9 : World} (h : BgI w b6 a a3 a7 n c fs k wr) (hb6 : w.heap.size + 1 < b6) (BV : Below wr.heap.size wr V8) (hs3 : Below V8.heap.size V8 w3) (hb9 : Below w.heap.size w3 w9) (hB : But 57 w3 w9)
    {a9 av2 : Option Addr} {c9 u2 : Nat} {rw' : List HoR} {av : Option Addr} {cv : Nat} (k6 : w9.heap[b6]? = some (.cells #[.slice a3 n n, .slice a7 n n, .slice av k cv] 116)) (hl : rw'.length = k)
    (i9 : ∀ i, i < k → (rw'[i]?.getD hor0).1 = 0 ∧ SSp wr (rw'[i]?.getD hor0).2.1 (rw'[i]?.getD hor0).2.2.1 (rw'[i]?.getD hor0).2.2.2 (bgS (fs[i]?.getD fl0).2.2) ∧ In wr 75 (rw'[i]?.getD hor0).2.1)
    (ho9 : w9.ownsRow w.heap.size 57 2 (.slice a9 (k + 1) c9) (k + 1) (rw'.flatMap encHoR ++ [.int .i64 0, .slice av2 u2 u2])) (hoS : OwS w3 V8.heap.size av2 u2 u2 (bgS (fs[k]?.getD fl0).2.2)) :
    BgI w b6 a a3 a7 n c fs (k + 1) (w9.setCell ⟨b6, 2, none⟩ (.slice a9 (k + 1) c9)) := by
  obtain ⟨i1, i2, i3, i4, i5, _⟩ := h
  have hB6 : But 116 w9 (w9.setCell ⟨b6, 2, none⟩ (.slice a9 (k + 1) c9)) := But.setCell ⟨_, k6⟩
  have hne : ∀ b, b ≠ b6 → (w9.setCell ⟨b6, 2, none⟩ (.slice a9 (k + 1) c9)).heap[b]? = w9.heap[b]? := fun b hb => Below.heap_setCell _ _ _ _ hb
  have ks : ∀ (aa : Option Addr) (nn cc : Nat) (l : List Sp), SSp w3 aa nn cc l → In w3 75 aa → SSp (w9.setCell ⟨b6, 2, none⟩ (.slice a9 (k + 1) c9)) aa nn cc l ∧ In (w9.setCell ⟨b6, 2, none⟩ (.slice a9 (k + 1) c9)) 75 aa := fun aa nn cc l h1 h2 =>
    ⟨(h1.but h2 hB (by decide)).but (h2.but hB (by decide)) hB6 (by decide), (h2.but hB (by decide)).but hB6 (by decide)⟩
  have q6 := setBlk k6 2 (.slice a9 (k + 1) c9)
  refine ⟨((((i1.trans (BV.mono i1.size)).trans (hs3.mono (by have := i1.size; have := BV.size; omega))).trans hb9)).setCell (by show w.heap.size ≤ b6; omega) _, ?_, ?_, ?_, ?_, a9, c9, rw' ++ [(0, (av2, u2, u2))], by simpa using q6, ?_, by rw [List.length_append, hl]; rfl, ?_⟩
  · exact (hne _ (by omega)).trans (blk_but (blk_keep (blk_keep i2 BV) hs3) hB (by decide))
  · exact (hne _ (by omega)).trans (blk_but (blk_keep (blk_keep i3 BV) hs3) hB (by decide))
  · exact owns_other (owns_but ((i4.keepM BV).keepM hs3) hB (by decide)) hne ⟨_, k6⟩ (by decide)
  · exact owns_other (owns_but ((i5.keepM BV).keepM hs3) hB (by decide)) hne ⟨_, k6⟩ (by decide)
  · unfold OwHoR
    rw [List.flatMap_append]
    exact owns_other ho9 hne ⟨_, k6⟩ (by decide)
  · intro i hi
    rcases Nat.lt_or_ge i k with hik | hik
    · rw [List.getElem?_append_left (by omega)]
      obtain ⟨r1, r2, r3⟩ := i9 i hik
      obtain ⟨r4, r5⟩ := ks _ _ _ _ ((r2.keep BV).keep hs3) ((r3.keep BV).keep hs3)
      exact ⟨r1, r4, r5⟩
    · obtain rfl : i = k := by omega
      rw [List.getElem?_append_right (by omega), hl, Nat.sub_self]
      obtain ⟨r4, r5⟩ := ks _ _ _ _ hoS.ss (In.of_owns hoS)
      exact ⟨rfl, r4, r5⟩
theorem BgI.stV {w : World} {b6 : Nat} {a a3 a7 : Option Addr} {n c : Nat} {fs : List Fl} {wr : World} (h : BgI w b6 a a3 a7 n c fs n wr) (hn : n = fs.length) {av : Option Addr} {cv : Nat} {rw' : List HoR} (i7 : OwHoR wr w.heap.size av n cv rw') (i8 : rw'.length = n)
    (i9 : ∀ i, i < n → (rw'[i]?.getD hor0).1 = 0 ∧ SSp wr (rw'[i]?.getD hor0).2.1 (rw'[i]?.getD hor0).2.2.1 (rw'[i]?.getD hor0).2.2.2 (bgS (fs[i]?.getD fl0).2.2) ∧ In wr 75 (rw'[i]?.getD hor0).2.1) {W : World} (hB : But 116 wr W) :
    StV W ((a3, n, n), (a7, n, n), (av, n, cv)) (bgSt fs) := by
  obtain ⟨i1, i2, i3, i4, i5, _⟩ := h
  have k4 := owns_but i4 hB (by decide)
  have k5 := owns_but i5 hB (by decide)
  have k7 := owns_but i7 hB (by decide)
  refine ⟨?_, In.of_owns k4, ?_, In.of_owns k5, ⟨rw', ?_, ?_, ?_⟩, In.of_owns k7⟩
  · have := OwI.si (show OwI W w.heap.size a3 n n (List.replicate n 0) from k4)
    rw [hn] at this ⊢
    exact this
  · have := OwI.si (show OwI W w.heap.size a7 n n (List.replicate n 0) from k5)
    rw [hn] at this ⊢
    exact this
  · exact OwHoR.sr (show OwHoR W w.heap.size av n cv rw' from k7)
  · rw [i8, hn]
    simp [bgSt]
  · intro i hi
    have hi2 : i < fs.length := by simpa [bgSt] using hi
    obtain ⟨r1, r2, r3⟩ := i9 i (by omega)
    have e : (bgSt fs).2.2[i]?.getD ho0 = (0, bgS (fs[i]?.getD fl0).2.2) := by simp [bgSt, hi2]
    rw [e]
    exact ⟨r1, r2.but r3 hB (by decide), r3.but hB (by decide)⟩
set_option maxRecDepth 100000 in
set_option maxHeartbeats 8000000 in
theorem BeginOf_any (a : Option Addr) (n c : Nat) (raw : List FlR) (fs : List Fl) (w : World) (h1 : FrV w a n c raw fs) :
    Calls Tryz.prog 78 #[.agg #[.slice a n c]] w fun e w' => ∃ x : StR, e = .returned (.tuple #[.agg #[hv x.1, hv x.2.1, hv x.2.2], .int .i64 (frmE fs).2]) ∧ ((frmE fs).2 = 0 → StV w' x (bgSt fs)) ∧ ((frmE fs).2 ≠ 0 → x = st0) ∧ Below w.heap.size w w' := by
  have hn := h1.n_
  have m1 := h1.row.max
  have c1 := h1.row.cap
  have HN := Lib.hid hn
  clear hn
  obtain ⟨I, E, hR⟩ : ∃ I E, frmE fs = (I, E) := ⟨_, _, rfl⟩
  rw [hR]
  dsimp only
  have HR := Lib.hid hR
  clear hR
  have y0 := blk_keep (alloc_new w (.cells #[.slice a n c] 71)) ((Below.refl _ _).alloc (Nat.le_refl _) (.cells #[.slice none 0 0, .slice none 0 0, .slice none 0 0] 116))
  have y1 := alloc_new (w.alloc (.cells #[.slice a n c] 71)) (.cells #[.slice none 0 0, .slice none 0 0, .slice none 0 0] 116)
  have BW : Below w.heap.size w ((w.alloc (.cells #[.slice a n c] 71)).alloc (.cells #[.slice none 0 0, .slice none 0 0, .slice none 0 0] 116)) := ((Below.refl _ _).alloc (Nat.le_refl _) _).alloc (by simp) _
  simp only [World.size_alloc] at y1
  have f9 := cell_block y0 0
  go_enter Tryz.func78, Tryz.ntmps78
  go_wp2_with fail
  generalize (w.alloc (.cells #[.slice a n c] 71)).alloc (.cells #[.slice none 0 0, .slice none 0 0, .slice none 0 0] 116) = W at *
  refine (CheckFrame_any a n c raw fs W (h1.keep BW)).mono ?_
  rintro e w1 ⟨rfl, hs⟩
  rw [HR.out]
  dsimp only
  replace y0 := blk_keep y0 hs
  replace y1 := blk_keep y1 hs
  have B1 := BW.trans (hs.mono BW.size)
  clear f9
  have f0 := cell_block y0 0
  by_cases hz : E = 0
  case neg =>
    have b1 : (E != 0) = true := by simpa using hz
    have g0 := cell_block y1 0
    have g1 := cell_block y1 1
    have g2 := cell_block y1 2
    have g3 := frozen_block y1 0
    have g4 := frozen_block y1 1
    have g5 := frozen_block y1 2
    have HZ := Lib.hid hz
    clear hz
    go_wp2_with fail
    have hw : w.heap.size ≤ w.heap.size + 1 := by omega
    have q0 := setBlk (setBlk (setBlk y1 0 (.slice none 0 0)) 1 (.slice none 0 0)) 2 (.slice none 0 0)
    simp at q0
    have e0 := cell_block q0 0
    have e1 := cell_block q0 1
    have e2 := cell_block q0 2
    have B4 := ((B1.setCell (p := ⟨w.heap.size + 1, 0, none⟩) hw (.slice none 0 0)).setCell (p := ⟨w.heap.size + 1, 1, none⟩) hw (.slice none 0 0)).setCell (p := ⟨w.heap.size + 1, 2, none⟩) hw (.slice none 0 0)
    refine bodyPost_ret (v := .tuple #[.agg #[.slice none 0 0, .slice none 0 0, .slice none 0 0], .int .i64 E]) (by simp [results, Tryz.results78, go_sem, e0, e1, e2]) rfl ⟨st0, rfl, fun h => absurd h HZ.out, fun _ => rfl, B4⟩
  case pos =>
    have b1 : (E != 0) = false := by rw [hz]; rfl
    have hok := frmE_ok (fs := fs) (by rw [HR.out]; exact hz)
    have HO := Lib.hid hok
    have HZ := Lib.hid hz
    have hn5 : n ≤ 5 := by have := HN.out; omega
    clear hz hok
    go_wp2_with fail
    refine Calmly.wp_region_mix 10 (.fl 0 <| .fl 1 <| .fl 2 <| .fl 4 <| .fl 5 <| .fl 6 <| .alt 3 (.alt 7 (.fl 8 <| .eff 9 <| .tail [10]) (.eff 9 (.eff 7 <| .fl 8 <| .tail [10]))) (.alt 7 (.alt 3 (.fl 8 <| .eff 9 <| .tail [10]) (.eff 9 (.eff 3 <| .fl 8 <| .tail [10]))) (.eff 9 (.alt 3 (.eff 7 <| .fl 8 <| .tail [10]) (.eff 7 (.eff 3 <| .fl 8 <| .tail [10])))))) (by kernel_rfl) (by kernel_rfl) ?_
    rename_i K hK
    have hK' := fun a w (h : Stop _) => hK a w h.out
    clear hK
    have HKK : Hid (∀ (b6 : Nat) (a3 a7 : Option Addr) (X : World), BgI w b6 a a3 a7 n c fs 0 X → w.heap.size + 1 < b6 → K { tmps := #[.agg #[.slice a n c], .pointer (some ⟨w.heap.size, 0, none⟩), .pointer (some ⟨w.heap.size + 1, 0, none⟩), .int .i64 0, .int .i64 I, .int .i64 E, .pointer (some ⟨b6, 0, none⟩), undef, undef, .tuple #[.int .i64 I, .int .i64 E], .agg #[.slice a n c], .tuple #[.int .i64 I, .int .i64 E], .int .i64 I, .int .i64 E, .int .i64 E, .bool false, undef, undef, .pointer (some ⟨w.heap.size, 0, none⟩), .slice a n c, .int .i64 (n : Int), .slice a3 n n, .pointer (some ⟨w.heap.size, 0, none⟩), .slice a n c, .int .i64 (n : Int), .slice a7 n n, .agg #[.slice a3 n n, .slice a7 n n, .slice none 0 0], undef, undef, undef, undef, undef, undef, undef, undef, undef, undef, undef, undef, undef, undef, undef, undef, undef], defers := [] } X) := Lib.hid (by
      intro b6 a3 a7 X hI hb6
      refine hK' _ _ ⟨?_⟩
      have g0 := cell_block hI.t1 0
      go_wp2_with fail
      go_loopw [30] (fun i wr => ∃ k : Nat, k ≤ n ∧ i = .int .i64 k ∧ BgI w b6 a a3 a7 n c fs k wr) (fun i _ => n - (intOf i).toNat)
      case atStart => exact ⟨0, by omega, rfl, hI⟩
      case round =>
        clear hI g0
        obtain ⟨k, hk, rfl, hI⟩ := hrel
        by_cases hlt : k < n
        · obtain ⟨cb, co, rfl, hcc⟩ := (h1.row.keep (hI.bel.mono (Nat.le_refl _))).at_ (by omega)
          obtain ⟨q0, q1, q2⟩ := hcc k hlt
          obtain ⟨-, -, hsel⟩ := (h1.keep (hI.bel.mono (Nat.le_refl _))).fl k (by rw [← HN.out]; exact hlt)
          obtain ⟨rr, hrr⟩ : ∃ rr, raw[k]?.getD flr0 = rr := ⟨_, rfl⟩
          obtain ⟨x0, x1, ⟨u1, u2, u3⟩⟩ := rr
          rw [hrr] at q0 q1 q2 hsel
          clear hrr hcc
          dsimp only [hv] at q0 q1 q2 hsel
          have hi1 : (k : Int) < (n : Int) := by omega
          have hi0 : (0 : Int) ≤ (k : Int) := by omega
          have BA : Below wr.heap.size wr (wr.alloc (.cells #[.int .i64 x0, .int .i64 x1, .slice u1 u2 u3] 120)) := (Below.refl _ _).alloc (Nat.le_refl _) _
          have y8 := alloc_new wr (.cells #[.int .i64 x0, .int .i64 x1, .slice u1 u2 u3] 120)
          go_wp2_with fail
          have BV := BA.drew
          replace y8 := blk_keep y8 (Below.refl _ _).drew
          refine Calmly.wp_region_mix 6 (.fl 0 <| .fl 1 <| .fl 2 <| .fl 3 <| .eff 4 <| .eff 5 <| .tail [6, 7, 8]) (by kernel_rfl) (by kernel_rfl) ?_
          generalize World.drew _ = V8 at *
          have HI := Lib.hid hI
          obtain ⟨i1, -, -, -, -, av, cv, rw', i6, i7, i8, i9⟩ := hI
          have H9 := Lib.hid i9
          have H8 := Lib.hid i8
          clear i8 i9
          have j6 := blk_keep i6 BV
          have j7 := i7.keep BV
          have hwV := i1.size
          have f1 := cell_block j6 2
          have f2 := cell_block y8 2
          have hsl := hsel.keep BV
          have hfl := flErr_ok (HO.out.2 k (by rw [← HN.out]; exact hlt))
          have hl4 := (sprE_ok hfl.2.2).1
          have hu2 : u2 ≤ 4 := by rw [hsel.len]; exact hl4.2
          have hu3 := hsel.len
          have HU := Lib.hid hu3
          clear hfl hl4 hu3 q0 q1 q2
          have hVs := BV.size
          have hk8 := Below.refl V8.heap.size V8
          have hk := hk8
          go_wp2_with (first | ((with_reducible refine Calmly.is_fl ?_); refine Calmly.mix_fl rfl ?_ (fun _ _ => ?_); (first | exact .move _ | exact .load _ _ | exact .fieldAddr _ _ _ (by kernel_rfl) | exact .assign _ | exact .binOp _ _ _ _ _ rfl | exact .indexAddr _ _ _ | exact .len _ _ (by kernel_rfl) | exact .field _ _ _ | exact .extract _ _ | exact .pick _ _ _ | exact .build _ _ | exact .slice _ _ _ _ _ | exact .unOp _ _ _ rfl | exact .index _ _ _ | exact .max _ _ _ rfl rfl | exact .min _ _ _ rfl rfl | exact .nilCheck _ _ rfl)) | ((with_reducible refine Calmly.is_gl ?_); refine Calmly.mix_gl rfl rfl rfl ?_; first | ((first | with_reducible refine Calmly.gl_tt ?_ (fun _ _ => ?_) | with_reducible refine Calmly.gl_ff ?_ (fun _ _ => ?_)); (first | exact .move _ | exact .load _ _ | exact .fieldAddr _ _ _ (by kernel_rfl) | exact .assign _ | exact .binOp _ _ _ _ _ rfl | exact .indexAddr _ _ _ | exact .len _ _ (by kernel_rfl) | exact .field _ _ _ | exact .extract _ _ | exact .pick _ _ _ | exact .build _ _ | exact .slice _ _ _ _ _ | exact .unOp _ _ _ rfl | exact .index _ _ _ | exact .max _ _ _ rfl rfl | exact .min _ _ _ rfl rfl | exact .nilCheck _ _ rfl)) | with_reducible refine Calmly.gl_tf (fun _ _ => ?_) | with_reducible refine Calmly.gl_ft (fun _ _ => ?_)) | ((with_reducible refine Calmly.is_eff ?_); refine Calmly.mix_eff rfl (fun _ _ => ?_)) | ((with_reducible refine Calmly.is_gf ?_); refine Calmly.mix_gf rfl rfl rfl ?_; first | with_reducible refine Calmly.gf_tt (fun _ _ => ?_) | with_reducible refine Calmly.gf_ff (fun _ _ => ?_) | with_reducible refine Calmly.gf_tf (kept_of hk) (fun _ _ => ?_) | with_reducible refine Calmly.gf_ft (kept_of hk) (fun _ _ => ?_)) | ((with_reducible refine Calmly.is_kept ?_); refine ⟨kept_of hk, ?_⟩) | (with_reducible refine Calmly.mix_alt ?_ ?_))
          refine (beginning_any u1 u2 u3 _ _ (hsl.keep hk) (by omega)).mono ?_
          rintro e w3 ⟨av2, rfl, hoS, hs3⟩
          replace hk := step_of hk hs3
          clear hk8
          have k6 := blk_keep j6 hk
          have k7 := j7.keep hk
          have hms := hoS.ss.max
          have hks := hk.size
          go_wp2_with (first | ((with_reducible refine Calmly.is_tail ?_); refine Calmly.mix_tail_app rfl (fun rest hrest => ?_); refine appRec w3 114 57 (new := [.int .i64 0, .slice av2 u2 u2]) rfl rfl _ _ rfl Tryz.underlying114 Tryz.info_hor rfl (by decide) (by decide) k7 rfl rfl rfl (oneCell_HoR (0, (av2, u2, u2))) (by omega) (by omega) (fun a9 c9 w9 ho9 hb9 hko9 hsm9 => ?_); refine hrest _ _ ?_; have k9 := (hsm9 b6 (blk_lt k6) (BlkT.not ⟨_, k6⟩ (by decide))).trans k6; have f5 := cell_block k9 2; have f6 := frozen_block k9 2) | ((with_reducible refine Calmly.is_fl ?_); refine Calmly.mix_fl rfl ?_ (fun _ _ => ?_); (first | exact .move _ | exact .load _ _ | exact .fieldAddr _ _ _ (by kernel_rfl) | exact .assign _ | exact .binOp _ _ _ _ _ rfl | exact .indexAddr _ _ _ | exact .len _ _ (by kernel_rfl) | exact .field _ _ _ | exact .extract _ _ | exact .pick _ _ _ | exact .build _ _ | exact .slice _ _ _ _ _ | exact .unOp _ _ _ rfl | exact .index _ _ _ | exact .max _ _ _ rfl rfl | exact .min _ _ _ rfl rfl | exact .nilCheck _ _ rfl)) | ((with_reducible refine Calmly.is_gl ?_); refine Calmly.mix_gl rfl rfl rfl ?_; first | ((first | with_reducible refine Calmly.gl_tt ?_ (fun _ _ => ?_) | with_reducible refine Calmly.gl_ff ?_ (fun _ _ => ?_)); (first | exact .move _ | exact .load _ _ | exact .fieldAddr _ _ _ (by kernel_rfl) | exact .assign _ | exact .binOp _ _ _ _ _ rfl | exact .indexAddr _ _ _ | exact .len _ _ (by kernel_rfl) | exact .field _ _ _ | exact .extract _ _ | exact .pick _ _ _ | exact .build _ _ | exact .slice _ _ _ _ _ | exact .unOp _ _ _ rfl | exact .index _ _ _ | exact .max _ _ _ rfl rfl | exact .min _ _ _ rfl rfl | exact .nilCheck _ _ rfl)) | with_reducible refine Calmly.gl_tf (fun _ _ => ?_) | with_reducible refine Calmly.gl_ft (fun _ _ => ?_)) | ((with_reducible refine Calmly.is_eff ?_); refine Calmly.mix_eff rfl (fun _ _ => ?_)) | ((with_reducible refine Calmly.is_gf ?_); refine Calmly.mix_gf rfl rfl rfl ?_; first | with_reducible refine Calmly.gf_tt (fun _ _ => ?_) | with_reducible refine Calmly.gf_ff (fun _ _ => ?_) | with_reducible refine Calmly.gf_tf (kept_of hk) (fun _ _ => ?_) | with_reducible refine Calmly.gf_ft (kept_of hk) (fun _ _ => ?_)) | ((with_reducible refine Calmly.is_tail ?_); first | refine Calmly.mix_tail_nil ?_ | refine Calmly.mix_tail rfl (fun _ _ => ?_)) | ((with_reducible refine Calmly.is_kept ?_); refine ⟨kept_of hk, ?_⟩) | (with_reducible refine Calmly.mix_alt ?_ ?_) | (refine kept_alloc hk (fun hk' hblk hge => ?_); replace hk := hk'; clear hk'))
          go_roundw
          case rel =>
            refine ⟨k + 1, by omega, by go_num, BgI.step HI.out hb6 BV hs3 hb9 ⟨hb9.size, hsm9⟩ k9 H8.out H9.out ho9 ?_⟩
            have e9 : List.replicate u2 sp0 = bgS (fs[k]?.getD fl0).2.2 := by rw [bgS, HU.out]
            rw [e9] at hoS
            exact hoS
          case measure => simp [intOf]; omega
        · obtain rfl : k = n := by omega
          have hle : (k : Int) ≤ (k : Int) := by omega
          have hnlt : ¬ (k : Int) < (k : Int) := by omega
          have HI := Lib.hid hI
          obtain ⟨i1, -, i3, -, -, av, cv, rw', i6, i7, i8, i9⟩ := hI
          have H9 := Lib.hid i9
          have H8 := Lib.hid i8
          clear i8 i9
          have hml := i7.sr.max
          have hmc := i7.sr.cap
          have f1 := cell_block i6 0
          have f2 := cell_block i6 1
          have f3 := cell_block i6 2
          have g1 := cell_block i3 0
          have g2 := cell_block i3 1
          have g3 := cell_block i3 2
          have g4 := frozen_block i3 0
          have g5 := frozen_block i3 1
          have g6 := frozen_block i3 2
          go_wp2_with fail
          have hw : w.heap.size ≤ w.heap.size + 1 := by omega
          have q0 := setBlk (setBlk (setBlk i3 0 (.slice a3 k k)) 1 (.slice a7 k k)) 2 (.slice av k cv)
          simp at q0
          have e0 := cell_block q0 0
          have e1 := cell_block q0 1
          have e2 := cell_block q0 2
          have B4 := ((i1.setCell (p := ⟨w.heap.size + 1, 0, none⟩) hw (.slice a3 k k)).setCell (p := ⟨w.heap.size + 1, 1, none⟩) hw (.slice a7 k k)).setCell (p := ⟨w.heap.size + 1, 2, none⟩) hw (.slice av k cv)
          have hBt : But 116 wr (((wr.setCell ⟨w.heap.size + 1, 0, none⟩ (.slice a3 k k)).setCell ⟨w.heap.size + 1, 1, none⟩ (.slice a7 k k)).setCell ⟨w.heap.size + 1, 2, none⟩ (.slice av k cv)) := ⟨by simp, fun b _ hne => by
            have hb : b ≠ w.heap.size + 1 := by rintro rfl; exact hne ⟨_, i3⟩
            rw [Below.heap_setCell _ _ _ _ hb, Below.heap_setCell _ _ _ _ hb, Below.heap_setCell _ _ _ _ hb]⟩
          refine bodyPost_ret (v := .tuple #[.agg #[.slice a3 k k, .slice a7 k k, .slice av k cv], .int .i64 0]) (by simp [results, Tryz.results78, go_sem, e0, e1, e2]) rfl ⟨a3, k, k, a7, k, k, av, k, cv, by rw [HZ.out]; rfl, fun _ => HI.out.stV HN.out i7 H8.out H9.out hBt, fun h => absurd HZ.out h, B4⟩)
    clear hK'
    replace y0 := blk_keep y0 (Below.refl _ _).drew
    replace y1 := blk_keep y1 (Below.refl _ _).drew
    replace B1 := B1.drew
    generalize w1.drew = V at *
    clear f0
    have f0 := cell_block y0 0
    have hk := Below.refl V.heap.size V
    have hn6 : n ≤ 1000000 := by omega
    go_wp2_with (first | (refine mix_makeIa 3 (n := n) rfl rfl rfl rfl hn6 (fun a3 w' ho3 hb => ?_); have hge3 := hk.size; (try replace ho7 := ho7.keepM hb); (try replace y6 := blk_keep y6 hb); replace hk := step_of hk hb; (try have z0 := cell_block y6 0); (try have z1 := cell_block y6 1); (try have z2 := cell_block y6 2); (try have z3 := frozen_block y6 0); (try have z4 := frozen_block y6 1); (try have z5 := frozen_block y6 2); refine ⟨kept_of hk, ?_⟩; clear hb) | (refine mix_makeIa 7 (n := n) rfl rfl rfl rfl hn6 (fun a7 w' ho7 hb => ?_); have hge7 := hk.size; (try replace ho3 := ho3.keepM hb); (try replace y6 := blk_keep y6 hb); replace hk := step_of hk hb; (try have z0 := cell_block y6 0); (try have z1 := cell_block y6 1); (try have z2 := cell_block y6 2); (try have z3 := frozen_block y6 0); (try have z4 := frozen_block y6 1); (try have z5 := frozen_block y6 2); refine ⟨kept_of hk, ?_⟩; clear hb) | (refine kept_allocR hk (fun hb hk2 y6 hge6 => ?_); (try replace ho3 := ho3.keepM hb); (try replace ho7 := ho7.keepM hb); replace hk := hk2; clear hb hk2; generalize World.alloc _ (.cells #[.slice none 0 0, .slice none 0 0, .slice none 0 0] 116) = W' at *; (try have z0 := cell_block y6 0); (try have z1 := cell_block y6 1); (try have z2 := cell_block y6 2); (try have z3 := frozen_block y6 0); (try have z4 := frozen_block y6 1); (try have z5 := frozen_block y6 2)) | ((with_reducible refine Calmly.is_fl ?_); refine Calmly.mix_fl rfl ?_ (fun _ _ => ?_); (first | exact .move _ | exact .load _ _ | exact .fieldAddr _ _ _ (by kernel_rfl) | exact .assign _ | exact .binOp _ _ _ _ _ rfl | exact .indexAddr _ _ _ | exact .len _ _ (by kernel_rfl) | exact .field _ _ _ | exact .extract _ _ | exact .pick _ _ _ | exact .build _ _ | exact .slice _ _ _ _ _ | exact .unOp _ _ _ rfl | exact .index _ _ _ | exact .max _ _ _ rfl rfl | exact .min _ _ _ rfl rfl | exact .nilCheck _ _ rfl)) | ((with_reducible refine Calmly.is_gl ?_); refine Calmly.mix_gl rfl rfl rfl ?_; first | ((first | with_reducible refine Calmly.gl_tt ?_ (fun _ _ => ?_) | with_reducible refine Calmly.gl_ff ?_ (fun _ _ => ?_)); (first | exact .move _ | exact .load _ _ | exact .fieldAddr _ _ _ (by kernel_rfl) | exact .assign _ | exact .binOp _ _ _ _ _ rfl | exact .indexAddr _ _ _ | exact .len _ _ (by kernel_rfl) | exact .field _ _ _ | exact .extract _ _ | exact .pick _ _ _ | exact .build _ _ | exact .slice _ _ _ _ _ | exact .unOp _ _ _ rfl | exact .index _ _ _ | exact .max _ _ _ rfl rfl | exact .min _ _ _ rfl rfl | exact .nilCheck _ _ rfl)) | with_reducible refine Calmly.gl_tf (fun _ _ => ?_) | with_reducible refine Calmly.gl_ft (fun _ _ => ?_)) | ((with_reducible refine Calmly.is_eff ?_); refine Calmly.mix_eff rfl (fun _ _ => ?_)) | ((with_reducible refine Calmly.is_gf ?_); refine Calmly.mix_gf rfl rfl rfl ?_; first | with_reducible refine Calmly.gf_tt (fun _ _ => ?_) | with_reducible refine Calmly.gf_ff (fun _ _ => ?_) | with_reducible refine Calmly.gf_tf (kept_of hk) (fun _ _ => ?_) | with_reducible refine Calmly.gf_ft (kept_of hk) (fun _ _ => ?_)) | ((with_reducible refine Calmly.is_tail ?_); first | refine Calmly.mix_tail_nil ?_ | refine Calmly.mix_tail rfl (fun _ _ => ?_)) | ((with_reducible refine Calmly.is_kept ?_); refine ⟨kept_of hk, ?_⟩) | (with_reducible refine Calmly.mix_alt ?_ ?_))
    all_goals
      have hVw := B1.size
      have hV1 := blk_lt y1
      apply HKK.out
      · exact BgI.start (B1.trans (hk.mono B1.size)) (blk_keep y0 hk) (blk_keep y1 hk) (owns_lower ho3 (by omega)) (owns_lower ho7 (by omega)) y6 (by omega)
      · omega
end Go.Proofs.YtaiikekgckjdeaaGreat

namespace Go
open Go.RowKit Go.Shelf

/-- Every round goes on, or the walk ends. -/
def OnOnX {α : Type} (P : Program) (gf : Nat) (lb : Array Value) (enc : α → Array Value) (Kp : World → World → Prop) (Px : List α → α → Prop) (S : List α → Prop) (N m : Nat) (w : World) : Prop :=
  ∀ (l : Nat) (J Jx : List α → World → Prop) (W : World), Below w.heap.size w W → AbidesFrom W.heap.size J → AbidesFrom W.heap.size Jx →
    (∀ pre x W1, J pre W1 → pre.length < N → Px pre x → YieldAt Fence.wide m P l (enc x) W1 fun e W' => (e = .returned (.bool true) ∧ J (pre ++ [x]) W' ∧ Kp W1 W') ∨ (e = .returned (.bool false) ∧ Jx (pre ++ [x]) W')) →
    J [] W → Calls P gf (#[.func (.yield l) #[] #[]] ++ lb) W fun e W' => (∃ v, e = .returned v) ∧ ((∃ xs, S xs ∧ J xs W') ∨ ∃ pre, Jx pre W')
theorem OnOnX.on {α : Type} {P : Program} {gf : Nat} {lb : Array Value} {enc : α → Array Value} {Kp : World → World → Prop} {Px : List α → α → Prop} {S : List α → Prop} {N m : Nat} {w : World} (h : OnOnX P gf lb enc Kp Px S N m w) : OnOn P gf lb enc Kp S N m w := by
  intro l J W hb hJ hY h0
  refine (h l J (fun _ _ => False) W hb hJ (fun _ _ _ _ hs _ _ => hs) (fun pre x W1 hj hl _ => ?_) h0).mono ?_
  · obtain ⟨fn, tmps, assign, body, hy, hR⟩ := hY pre x W1 hj hl
    exact ⟨fn, tmps, assign, body, hy, hR.mono fun e W' hh => .inl hh⟩
  · rintro e W' ⟨h1, h2 | ⟨_, h2⟩⟩
    · exact ⟨h1, h2⟩
    · exact h2.elim
theorem range_midX {P : Program} {n : Nat} {α : Type} {g : Operand} {ps : Array Tmp} {assign body : Code} {Q : Exit → Act → World → Prop} {a : Act} {w : World} {gf : Nat} {lb : Array Value}
    (hg : a.eval g = .func (.func gf) #[] lb) (eg : ∀ args w, (callFunc gf args).run P w = .ok (.enter gf args) w)
    {enc : α → Array Value} {Kp : World → World → Prop} {Px : List α → α → Prop} {S : List α → Prop} {N m : Nat} (hseq : OnOnX P gf lb enc Kp Px S N m w)
    (hKt : ∀ {A B C : World}, Kp A B → Kp B C → Kp A C) (hKb : ∀ (W : World) (l : Nat) (o o' : Obj), w.heap.size ≤ l → W.heap[l]? = some o → o.isCells = false → Kp W (W.putObj l o')) (hps : ∀ x, (enc x).size = ps.size)
    (I Ix : List α → World → Prop) (hI : OwnFrom w.heap.size I) (h0 : I [] w) (Mid : List α → α → Act → World → Prop) (hM : ∀ pre x a', OwnFrom w.heap.size (fun (_ : Unit) W => Mid pre x a' W))
    (hassign : ∀ (l : Nat) (pre : List α) (x : α) (W : World) (K : Act → World → Prop), I pre W → pre.length < N → Px pre x → (∀ a' W', KeepsOthers W W' → Kp W W' → Mid pre x a' W' → K a' W') →
      assign.wpIn (Fence.wide.inRound l) m P (Exit.then K (fun _ _ _ => False)) { tmps := (ps.zip (enc x)).foldl (fun t (p, v) => t.setIfInBounds p v) a.tmps, defers := [] } W)
    (hbody : ∀ (l : Nat) (pre : List α) (x : α) (a' : Act) (W : World), Mid pre x a' W → body.wpIn (Fence.wide.inRound l) m P (fun e _ W' => (e = .normal ∧ KeepsOthers W W' ∧ Kp W W' ∧ I (pre ++ [x]) W') ∨ (e = .ret ∧ KeepsOthers W W' ∧ Ix (pre ++ [x]) W')) a' W)
    (Ix_own : OwnFrom w.heap.size Ix)
    (hdone : ∀ (D : Nat) (xs : List α) (W : World), w.heap.size ≤ D → S xs → I xs W → W.heap[D]? = some (.deferred (some [])) → Q .normal { a with defers := { target := .collected D, args := #[] } :: a.defers } W)
    (hstop : ∀ (D : Nat) (xs : List α) (W : World), w.heap.size ≤ D → Ix xs W → W.heap[D]? = some (.deferred (some [])) → Code.ret.wpIn Fence.wide n P Q { a with defers := { target := .collected D, args := #[] } :: a.defers } W) :
    (Code.rangeFunc g ps assign body).wpIn Fence.wide n P Q a w := by
  refine wpIn_rangeFunc fun fn hfn => ?_
  obtain ⟨rec, hrec⟩ : ∃ rec : LoopState → Option Code → Loop, rec = fun st pe => { state := st, pending := pe, fn, tmps := a.tmps, params := ps, assign, body, defers := w.heap.size } := ⟨_, rfl⟩
  obtain ⟨W1, hW1⟩ : ∃ W1, (w.alloc (.deferred (some []))).alloc (.loop (rec .ready none)) = W1 := ⟨_, rfl⟩
  have hL : W1.heap[w.heap.size + 1]? = some (.loop (rec .ready none)) := by
    have := Go.Proofs.YtaiikekgckjdeaaGreat.alloc_new (w.alloc (.deferred (some []))) (.loop (rec .ready none))
    rw [← hW1]
    simpa using this
  have hD : W1.heap[w.heap.size]? = some (.deferred (some [])) := by
    rw [← hW1, Below.heap_alloc _ _ _ (by simp)]
    exact Go.Proofs.YtaiikekgckjdeaaGreat.alloc_new w _
  have hb1 : Below w.heap.size w W1 := by
    rw [← hW1]
    exact ((Below.refl _ w).alloc (Nat.le_refl _) _).alloc (by simp) _
  have hI1 : I [] W1 := by
    rw [← hW1]
    exact hI.alloc _ (hI.alloc _ h0)
  have hs1 : W1.heap.size = w.heap.size + 2 := by rw [← hW1]; simp
  refine ⟨w.heap.size + 1, [{ target := .collected w.heap.size, args := #[] }], W1, { target := .fn (.func gf) lb, args := #[.func (.yield (w.heap.size + 1)) #[] #[]] }, W1, gf, #[.func (.yield (w.heap.size + 1)) #[] #[]] ++ lb, W1, ?_, ?_, fun _ _ => trivial, ?_, fun h => absurd h (by simp [Fence.wide]), ?_⟩
  · rw [← hW1, hrec]
    exact run_enterLoop_outer _ _ _ _ _
  · simp only [resolve, hg]
    simp [go_sem]
  · simp [invoke, go_sem, eg]
  · refine callsIn_wide.2 ?_
    refine (hseq (w.heap.size + 1) (fun pre W => (I pre W ∧ W.heap[w.heap.size + 1]? = some (.loop (rec .ready none))) ∧ W.heap[w.heap.size]? = some (.deferred (some []))) (fun pre W => (Ix pre W ∧ W.heap[w.heap.size + 1]? = some (.loop (rec .done (some .ret)))) ∧ W.heap[w.heap.size]? = some (.deferred (some []))) W1 hb1 ?_ ?_ ?_ ⟨⟨hI1, hL⟩, hD⟩).mono ?_
    · -- what the iterator does of its own
      rintro s A B row ⟨⟨hs, hl⟩, hk⟩ hg' hr
      have hne : ∀ j, j < w.heap.size + 2 → some j ≠ row := fun j hj e => by
        have := (hr j e.symm).1
        omega
      refine ⟨⟨hI s A B row hs hg' fun r e => ?_, ?_⟩, ?_⟩
      · obtain ⟨h1, o, h2, h3⟩ := hr r e
        exact ⟨by omega, o, h2, Obj.not_cells_of_walk h3⟩
      · exact (hg'.block _ (Array.getElem?_eq_some_iff.1 hl).1 (hne _ (by omega))).trans hl
      · exact (hg'.block _ (Array.getElem?_eq_some_iff.1 hk).1 (hne _ (by omega))).trans hk
    · -- what the iterator does of its own
      rintro s A B row ⟨⟨hs, hl⟩, hk⟩ hg' hr
      have hne : ∀ j, j < w.heap.size + 2 → some j ≠ row := fun j hj e => by
        have := (hr j e.symm).1
        omega
      refine ⟨⟨Ix_own s A B row hs hg' fun r e => ?_, ?_⟩, ?_⟩
      · obtain ⟨h1, o, h2, h3⟩ := hr r e
        exact ⟨by omega, o, h2, Obj.not_cells_of_walk h3⟩
      · exact (hg'.block _ (Array.getElem?_eq_some_iff.1 hl).1 (hne _ (by omega))).trans hl
      · exact (hg'.block _ (Array.getElem?_eq_some_iff.1 hk).1 (hne _ (by omega))).trans hk
    · -- one round
      rintro pre x W ⟨⟨hi, hl⟩, hk⟩ hlen hpx
      have hy := run_yield (P := P) (args := enc x) hl (by rw [hrec]; exact hps x)
      rw [hrec] at hy
      refine ⟨fn, _, assign, body, hy, roundIn_of_wpIn hfn (hassign _ pre x W _ hi hlen hpx ?_)⟩
      intro a' Wa ha1 ha2 ha3
      have hl1 := ha1.same _ _ hl rfl
      have hk1 := ha1.same _ _ hk rfl
      have hlt : w.heap.size + 1 < Wa.heap.size := (Array.getElem?_eq_some_iff.1 hl1).1
      refine ⟨_, run_beginRound hl1 (by rw [hrec]), ?_⟩
      have hl2 : (Wa.putObj (w.heap.size + 1) (.loop { rec .ready none with state := .busy })).heap[w.heap.size + 1]? = some (.loop { rec .ready none with state := .busy }) := World.putObj_heap_same hlt
      have hk2 : (Wa.putObj (w.heap.size + 1) (.loop { rec .ready none with state := .busy })).heap[w.heap.size]? = some (.deferred (some [])) := (World.putObj_heap_other (by omega)).trans hk1
      refine wpIn_mono (hbody _ pre x a' _ ((hM pre x a').putObj (s := ()) _ ha3 (by omega) hl1 rfl)) ?_
      rintro e a3 W3 (⟨rfl, hb3, hk3, hi3⟩ | ⟨rfl, hb3, hi3⟩)
      · have hl3 := hb3.same _ _ hl2 rfl
        have hr := run_endRound (P := P) none hl3
        rw [hrec] at hr hl3
        refine ⟨_, _, hr, .inl ⟨rfl, ⟨⟨hI.putObj _ hi3 (by omega) hl3 rfl, ?_⟩, ?_⟩, ?_⟩⟩
        · rw [hrec]
          exact World.putObj_heap_same (Array.getElem?_eq_some_iff.1 hl3).1
        · exact (World.putObj_heap_other (by omega)).trans (hb3.same _ _ hk2 rfl)
        · exact hKt ha2 (hKt (hKt (hKb _ _ _ _ (by omega) hl1 rfl) hk3) (hKb _ _ _ _ (by omega) hl3 rfl))
      · have hl3 := hb3.same _ _ hl2 rfl
        have hr := run_endRound (P := P) (some .ret) hl3
        rw [hrec] at hr hl3
        refine ⟨_, _, hr, .inr ⟨rfl, ⟨Ix_own.putObj _ hi3 (by omega) hl3 rfl, ?_⟩, ?_⟩⟩
        · rw [hrec]
          exact World.putObj_heap_same (Array.getElem?_eq_some_iff.1 hl3).1
        · exact (World.putObj_heap_other (by omega)).trans (hb3.same _ _ hk2 rfl)
    · -- at the end
      rintro e W2 ⟨⟨v, rfl⟩, ⟨xs, hS, ⟨hi, hl⟩, hk⟩ | ⟨xs, ⟨hi, hl⟩, hk⟩⟩
      · have hr := run_endLoop (P := P) hl (by rw [hrec]; simp)
        rw [hrec] at hr
        exact ⟨none, _, hr, hdone _ xs _ (Nat.le_refl _) hS (hI.putObj _ hi (by omega) hl rfl) ((World.putObj_heap_other (by omega)).trans hk)⟩
      · have hr := run_endLoop (P := P) hl (by rw [hrec]; simp)
        rw [hrec] at hr
        exact ⟨some .ret, _, hr, hstop _ xs _ (Nat.le_refl _) (Ix_own.putObj _ hi (by omega) hl rfl) ((World.putObj_heap_other (by omega)).trans hk)⟩
end Go

namespace Go.Proofs.YtaiikekgckjdeaaGreat
open Go.RowKit Go.Shelf
attribute [local go_sem] Oper.semAt_some
open Calmly (Kept)

/-- What lies below, and the drift. -/
def bel (xs : List Int) (k : Nat) : Int := if k = 0 then 0 else xs[k - 1]?.getD 0
def dr (xs : List Int) (i : Nat) : Int := xs[i]?.getD 0 - bel xs i
theorem bel_succ (xs : List Int) (k : Nat) : bel xs (k + 1) = xs[k]?.getD 0 := by simp [bel]
theorem drifts_any (a : Option Addr) (n c : Nat) (w : World) : Calls Tryz.prog 63 #[.slice a n c] w fun e w' =>
    e = .returned (.func (.func 85) #[] #[.pointer (some ⟨w.heap.size, 0, none⟩)]) ∧ w' = w.alloc (.cells #[.slice a n c] 29) := by
  go_enter Tryz.func63, Tryz.ntmps63
  go_wp2_with fail
  go_ret
  exact ⟨rfl, rfl⟩
theorem Keeps.si {L : Nat → Prop} {A B : World} (h : Keeps L A B) {a : Option Addr} {n c : Nat} {xs : List Int} (hs : SI A a n c xs) (hL : ∀ b o, 0 < n → a = some ⟨b, o, none⟩ → ¬ L b) : SI B a n c xs := h.sl hs hL
set_option maxRecDepth 100000 in
set_option maxHeartbeats 2000000 in
theorem drifts_onX (w : World) (pb : Nat) (a : Option Addr) (n c : Nat) (xs : List Int) (L : Nat → Prop) (hpb : w.heap[pb]? = some (.cells #[.slice a n c] 29)) (h1 : SI w a n c xs) (_ : ¬ L pb) (k3 : ∀ b o, 0 < n → a = some ⟨b, o, none⟩ → ¬ L b) (hb : ∀ i : Nat, -1000000000000 ≤ xs[i]?.getD 0 ∧ xs[i]?.getD 0 ≤ 1000000000000) (ky : Nat) :
    OnOnX Tryz.prog 85 #[.pointer (some ⟨pb, 0, none⟩)] (fun i : Fin n => #[.int .i64 (i.val : Int), .int .i64 (dr xs i.val)]) (Keeps L) (fun pre x => pre.map (·.val) = List.range x.val) (fun l => l.map (·.val) = List.range n) n ky w := by
  intro li J Jx W hW hJ hJx hY hJ0
  have hs := hW.size
  have HY := Lib.hid hY
  have HJ := Lib.hid hJ
  have HB := Lib.hid hb
  have hln : n = xs.length := h1.len
  have HLN := Lib.hid hln
  have m1 := h1.max
  have cc1 := h1.cap
  clear hY hJ hb hln
  have p1 := blk_keep hpb hW
  have q1 : SI W a n c xs := h1.keep hW
  have f0 := cell_block p1 0
  go_enter Tryz.func85, Tryz.ntmps85
  go_wp2_with fail
  go_loopw [3, 8] (fun z i wr => ∃ k : Nat, k ≤ n ∧ i = .int .i64 k ∧ z = .int .i64 (bel xs k) ∧ (∃ pre : List (Fin n), pre.map (·.val) = List.range k ∧ J pre wr) ∧ Keeps L W wr) (fun _ i _ => n - (intOf i).toNat)
  case atStart => exact ⟨0, by omega, rfl, rfl, ⟨[], rfl, hJ0⟩, Keeps.refl _ _⟩
  case round =>
    clear hJ0 f0
    obtain ⟨k, hk, rfl, rfl, ⟨pre, hpre, hJp⟩, hkp⟩ := hrel
    have HP := Lib.hid hpre
    have hlen : pre.length = k := by have := congrArg List.length hpre; simpa using this
    clear hpre
    replace q1 : SI wr a n c xs := hkp.si q1 k3
    by_cases hlt : k < n
    · obtain ⟨b1, o1, rfl, hc1⟩ := q1.at_ (by omega)
      have y0 := hc1 k hlt
      clear hc1
      have hi1 : (k : Int) < (n : Int) := by omega
      have hi0 : (0 : Int) ≤ (k : Int) := by omega
      have hbx := HB.out k
      have hbb : -1000000000000 ≤ bel xs k ∧ bel xs k ≤ 1000000000000 := by
        unfold bel
        split
        · omega
        · exact HB.out _
      have hD : dr xs k = xs[k]?.getD 0 - bel xs k := rfl
      have hS := bel_succ xs k
      obtain ⟨v, hv⟩ : ∃ v, xs[k]?.getD 0 = v := ⟨_, rfl⟩
      obtain ⟨u, hu⟩ : ∃ u, bel xs k = u := ⟨_, rfl⟩
      rw [hv] at y0 hbx hD hS
      rw [hu] at hbb hD ⊢
      have HS := Lib.hid hS
      obtain ⟨fn, tmps, assign, body, hy, hR⟩ := HY.out pre ⟨k, hlt⟩ wr hJp (by omega) HP.out
      dsimp only at hy
      rw [hD] at hy
      clear hv hu hD hS
      refine (wpIn_wide (n := 5)).1 ?_
      gi_wp2
      refine (round_wide' hR).mono ?_
      rintro e W5 (⟨rfl, hJ5, hk5⟩ | ⟨rfl, hJ5⟩)
      · gi_wp2
        go_roundw
        case rel => exact ⟨k + 1, by omega, by go_num, by rw [HS.out], ⟨pre ++ [(⟨k, hlt⟩ : Fin n)], map_range_succ HP.out hlt, hJ5⟩, hkp.trans hk5⟩
        case measure => simp [intOf]; omega
      · gi_wp2
        refine bodyPost_ret (results_none rfl _ _ _) rfl ?_
        exact ⟨⟨_, rfl⟩, .inr ⟨_, hJ5⟩⟩
    · have hle : (n : Int) ≤ (k : Int) := by omega
      go_wp2_with fail
      go_end0
      exact ⟨⟨_, rfl⟩, .inl ⟨pre, by rw [HP.out]; congr 1; omega, hJp⟩⟩
end Go.Proofs.YtaiikekgckjdeaaGreat

namespace Go.Proofs.YtaiikekgckjdeaaGreat
open Go.RowKit
open Calmly (Kept)

/-- The pushes after so many floors. -/
def psA (F : Nat → Int) (k i : Nat) : Int := if i + 1 < k then F (i + 1) - F i else if i + 1 = k then -F i else 0
def psF (F : Nat → Int) (n k : Nat) : List Int := (List.range n).map (psA F k)
theorem psF_len (F : Nat → Int) (n k : Nat) : (psF F n k).length = n := by simp [psF]
theorem psF_get (F : Nat → Int) {n k i : Nat} (h : i < n) : (psF F n k)[i]?.getD 0 = psA F k i := by simp [psF, h]
theorem psF_zero (F : Nat → Int) (n : Nat) : psF F n 0 = List.replicate n 0 := by
  refine List.ext_getElem? fun i => ?_
  rcases Nat.lt_or_ge i n with h | h
  · simp [psF, h, psA]
  · rw [List.getElem?_eq_none (by rw [psF_len]; exact h), List.getElem?_eq_none (by simpa using h)]
theorem psF_one (F : Nat → Int) {n : Nat} : (psF F n 0).set 0 (-F 0) = psF F n 1 := by
  refine List.ext_getElem? fun i => ?_
  rw [List.getElem?_set]
  rcases Nat.lt_or_ge i n with h | h
  · by_cases hi : 0 = i
    · subst hi
      simp [psF, h, psA]
    · rw [if_neg hi]
      have h2 : ¬ (i + 1 < 1) ∧ ¬ (i + 1 = 1) ∧ ¬ i = 0 := by omega
      simp [psF, h, psA, h2]
  · rw [List.getElem?_eq_none (l := psF F n 1) (by rw [psF_len]; exact h)]
    split
    · rename_i hi
      rw [if_neg (by rw [psF_len]; omega)]
    · exact List.getElem?_eq_none (by rw [psF_len]; exact h)
theorem psF_step (F : Nat → Int) {n k : Nat} (hk : 0 < k) (hn : k < n) : ((psF F n k).set k (-F k)).set (k - 1) (-F (k - 1) + F k) = psF F n (k + 1) := by
  refine List.ext_getElem? fun i => ?_
  rw [List.getElem?_set, List.getElem?_set]
  simp only [List.length_set, psF_len]
  rcases Nat.lt_or_ge i n with h | h
  · rw [show (psF F n (k + 1))[i]? = some (psA F (k + 1) i) by simp [psF, h], show (psF F n k)[i]? = some (psA F k i) by simp [psF, h]]
    by_cases h1 : k - 1 = i
    · subst h1
      rw [if_pos rfl, if_pos (by omega), psA, if_pos (by omega), show k - 1 + 1 = k by omega]
      congr 1
      omega
    · rw [if_neg h1]
      by_cases h2 : k = i
      · subst h2
        rw [if_pos rfl, if_pos hn, psA, if_neg (by omega), if_pos rfl]
      · rw [if_neg h2, psA, psA]
        by_cases h3 : i + 1 < k
        · rw [if_pos h3, if_pos (by omega)]
        · rw [if_neg h3, if_neg (by omega), if_neg (by omega), if_neg (by omega)]
  · rw [List.getElem?_eq_none (l := psF F n (k + 1)) (by rw [psF_len]; exact h), if_neg (by omega), if_neg (by omega)]
    exact List.getElem?_eq_none (by rw [psF_len]; exact h)
/-- The force of a storey, the push on a floor, the new displacement. -/
def frS (fs : List Fl) (s : St) (i : Nat) : Int := frcS (fs[i]?.getD fl0).2.2 (s.2.2[i]?.getD ho0).1 (s.2.2[i]?.getD ho0).2
def nxS (fs : List Fl) (s : St) (g : Int) (i : Nat) : Int := 2 * s.1[i]?.getD 0 - s.2.1[i]?.getD 0 + psA (frS fs s) fs.length i / (fs[i]?.getD fl0).1 - g
theorem psA_bd {F : Nat → Int} {M : Int} {k i : Nat} (h : ∀ j, -M ≤ F j ∧ F j ≤ M) : -(2 * M) ≤ psA F k i ∧ psA F k i ≤ 2 * M := by
  have h1 := h i
  have h2 := h (i + 1)
  unfold psA
  split
  · omega
  · split <;> omega
theorem sumR_bd {f : Nat → Int} {B : Int} (_ : 0 ≤ B) {n : Nat} (hf : ∀ i, i < n → -B ≤ f i ∧ f i ≤ B) : -(B * (n : Int)) ≤ sumR f n ∧ sumR f n ≤ B * (n : Int) := by
  induction n with
  | zero => simp [sumR]
  | succ n ih =>
    have h1 := ih (fun i hi => hf i (by omega))
    have h2 := hf n (by omega)
    have e : B * ((n + 1 : Nat) : Int) = B * (n : Int) + B := by rw [Int.natCast_add, Int.mul_add]; simp
    rw [sumR, e]
    omega
theorem frcS_bd {l : List El} {at' : Int} {sl : List Sp} (h : HoldOk l at' sl) : -200000000 ≤ frcS l at' sl ∧ frcS l at' sl ≤ 200000000 := by
  have h1 := sumR_bd (f := fun i => frcE (l[i]?.getD el0).1 (sl[i]?.getD sp0).1 (sl[i]?.getD sp0).2 at') (B := 50000000) (by omega) (n := l.length) (fun i hi => frc_bd (h.elB h.at_ hi))
  have h2 := h.len
  unfold frcS
  omega
/-- An append to a row of numbers of the call's own, within a plan with a fact. -/
theorem mixS_appI (i : Nat) {w0 Wx : World} {B : Nat} {k : Calmly.PlanS} {dst : Option Tmp} {s x : Operand} {ty : TypeId} {pos : String} {after : Array Edge} {a : Act} {W0 : World} {S : World → Prop} {ops : Array Oper} {Q : Exit → Act → World → Prop} {av : Option Addr} {n c : Nat} {xs : List Int} {v : Int}
    (hW : Wx = w0.alloc (.cells #[.int .i64 v] 3)) (hi : ops[i]? = some ⟨dst, .call { callee := .builtin .append, args := #[s, x], argTypes := #[29, 29] }, ty, pos, after, none⟩)
    (hown : OwI w0 B av n c xs) (hs : a.eval s = .slice av n c) (hx : a.eval x = .slice (some ⟨w0.heap.size, 0, none⟩) 1 1) (hb1 : n + 1 ≤ 17592186044416) (hB : B ≤ w0.heap.size)
    (h : ∀ a' c' w', OwI w' B a' (n + 1) c' (xs ++ [v]) → Below B w0 w' → But 3 w0 w' → S w' ∧ Calmly.WpMixS Tryz.prog ops Q W0 S k (a.put dst (.slice a' (n + 1) c')) w') :
    Calmly.WpMixS Tryz.prog ops Q W0 S (.eff i k) a Wx := by
  subst hW
  refine Calmly.mixS_eff hi (fun K hK => ?_)
  obtain ⟨i0, hi0, hz0, hz1, hz2⟩ := info_parts Tryz.info_int
  have hb : Below B w0 (w0.alloc (.cells #[.int .i64 v] 3)) := (Below.refl _ _).alloc hB _
  obtain ⟨v', w', hrun, r1, r2, _⟩ := run_append_own (P := Tryz.prog) (w0.alloc (.cells #[.int .i64 v] 3)) B 29 ty _ i0 (.int .i64 0) 1 8 Tryz.underlying29 hi0 hz0 hz1 hz2 rfl (by decide) (.slice av n c) n _ (World.ownsRow.alloc hown _) ⟨w0.heap.size, 0, none⟩ 1 1 [Value.int .i64 v] rfl (cells_new w0 _ _) (by simp [Value.oneCell']) (by unfold maxLen; omega) (by omega) (by simp; omega)
  obtain ⟨a', c', rfl⟩ := owns_slice r1
  have hrow : ∀ j, (Value.slice av n c).ownBlock = some j → B ≤ j := fun j hj => (World.ownsRow.lt hown j hj).1
  have hb2 : Below B w0 w' := hb.trans (grown_below r2 (by simp; omega) hrow)
  have ho : OwI w' B a' (n + 1) c' (xs ++ [v]) := by unfold OwI; simpa using r1
  unfold Oper.wp
  simp [execOp, resolve, invoke, builtin, hs, hx, hrun, Result.andThen]
  refine hK _ _ (h a' c' w' ho hb2 ⟨hb2.size, fun b hb hne => ?_⟩)
  rw [r2.block b (by simp; omega) ?_]
  · exact Below.heap_alloc w0 _ b hb
  · intro he
    rcases hown.2 with ⟨h1, _⟩ | ⟨g', cap, cur, h1, _, h3, _⟩
    · cases h1; cases he
    · cases h1
      cases he
      exact hne ⟨_, h3⟩
end Go.Proofs.YtaiikekgckjdeaaGreat
