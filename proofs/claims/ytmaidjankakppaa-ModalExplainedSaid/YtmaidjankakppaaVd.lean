/- The law ModalExplained: rows of ranges that grow beside each other. -/
import Derived.Test.YtmaidjankakppaaVc
import Derived.Test.YtmaidjankakppaaAw
import Derived.Maps.AppendAt
namespace Go.Proofs.Ytmaidjankakppaa
open Go.RowKit
open Calmly (Kept)

/-- An append to a row of ranges: all other blocks are as they were, and the row lies where it lay, or in a new block. -/
theorem appRx {ops : Array Oper} {rest : List Oper} {o : Oper} {a : Act} {Q : Exit → Act → World → Prop} {Wx : World} (w0 : World) {B : Nat} {av : Option Addr} {n c : Nat} {l : List (Int × Int)} {x y : Int}
    (hW : Wx = w0.alloc (.cells #[.int .i64 x, .int .i64 y] 63)) (hgd : o.guard = none) (s x' : Operand)
    (ho : o.op = .call { callee := .builtin .append, args := #[s, x'], argTypes := #[42, 42] })
    (hown : OwR w0 B av n c l) (hs : a.eval s = .slice av n c) (hx : a.eval x' = .slice (some ⟨w0.heap.size, 0, none⟩) 1 1)
    (hb1 : n + 1 ≤ 1099511627776) (hB : B ≤ w0.heap.size)
    (h : ∀ a' c' w', OwR w' B a' (n + 1) c' (l ++ [(x, y)]) → Below B w0 w' → w0.heap.size < w'.heap.size → (∀ j, j < w0.heap.size → (∀ g, av = some ⟨g, 0, none⟩ → j ≠ g) → w'.heap[j]? = w0.heap[j]?) →
      (∀ g, a' = some ⟨g, 0, none⟩ → av = some ⟨g, 0, none⟩ ∨ w0.heap.size ≤ g) → wpList Try.prog ops Q rest (a.put o.dst (.slice a' (n + 1) c')) w') :
    wpList Try.prog ops Q (o :: rest) a Wx := by
  subst hW
  obtain ⟨i0, hi, hz0, hz1, hz2⟩ := info_parts Try.info_range
  refine wpList_append_own_at _ hgd s x' _ ho B _ i0 (.agg #[.int .i64 0, .int .i64 0]) 2 16 Try.underlying42 hi hz0 hz1 hz2 rfl (by decide) _ n _ hs (World.ownsRow.alloc hown _) ⟨w0.heap.size, 0, none⟩ 1 1 (#[Value.int .i64 x, .int .i64 y]).toList hx (by simp) (cells_new w0 _ _) (by simp [Value.oneCell']) (by unfold maxLen; omega) (by omega) (by simp; omega) ?_
  intro v' w1 ho1 hg hn hat
  have hrow : ∀ j, (Value.slice av n c).ownBlock = some j → B ≤ j := fun j hj => (World.ownsRow.lt hown j hj).1
  have hb0 : Below B w0 (w0.alloc (.cells #[.int .i64 x, .int .i64 y] 63)) := (Below.refl _ _).alloc hB _
  have hb2 : Below B w0 w1 := hb0.trans (grown_below hg (by simp; omega) hrow)
  have hsz2 := hg.size
  obtain ⟨hlen, ho2⟩ := ho1
  rcases ho2 with ⟨_, h0⟩ | ⟨g, cap, cur, rfl, r⟩
  · omega
  · refine h _ _ w1 (by unfold OwR; rw [rv_append]; exact ⟨hlen, .inr ⟨g, cap, cur, rfl, r⟩⟩) hb2 (by simp at hsz2; omega) ?_ ?_
    · intro j hj hne
      rw [hg.block j (by simp; omega) ?_]
      · exact ((Below.refl w0.heap.size w0).alloc (Nat.le_refl _) _).block j hj
      · intro he
        cases av with
        | none => simp [Value.ownBlock] at he
        | some ad =>
          obtain ⟨h1, h2⟩ := hown
          rcases h2 with ⟨h2, _⟩ | ⟨g', cap', cur', hv, _⟩
          · cases h2
          · cases hv
            simp [Value.ownBlock] at he
            exact hne g' rfl he
    · intro g2 hg2
      cases hg2
      rcases hat with hat | hat
      · cases av with
        | none => simp [Value.ownBlock] at hat
        | some ad =>
          obtain ⟨h1, h2⟩ := hown
          rcases h2 with ⟨h2, _⟩ | ⟨g', cap', cur', hv, _⟩
          · cases h2
          · cases hv
            simp [Value.ownBlock] at hat
            exact .inl (by rw [hat])
      · simp [Value.ownBlock] at hat
        exact .inr (by omega)
theorem OwR.same {w w' : World} {B : Nat} {a : Option Addr} {n c : Nat} {l : List (Int × Int)} (h : OwR w B a n c l) (hs : ∀ g, a = some ⟨g, 0, none⟩ → w'.heap[g]? = w.heap[g]?) : OwR w' B a n c l := by
  obtain ⟨h1, h2⟩ := h
  refine ⟨h1, ?_⟩
  rcases h2 with h2 | ⟨g, cap, cur, hv, hg, hh, r⟩
  · exact .inl h2
  · cases hv
    exact .inr ⟨_, _, _, rfl, hg, (hs _ rfl).trans hh, r⟩
theorem OwR.lt {w : World} {B g n c : Nat} {l : List (Int × Int)} (h : OwR w B (some ⟨g, 0, none⟩) n c l) : B ≤ g ∧ g < w.heap.size := World.ownsRow.lt h g rfl
def Sep (a b : Option Addr) : Prop := ∀ g, a = some ⟨g, 0, none⟩ → b ≠ some ⟨g, 0, none⟩
/-- Three rows that grow, two of them in a variable. -/
structure Rows3 (W : World) (b10 b11 : Nat) (aE a10 a11 : Option Addr) (nE n10 n11 cE c10 c11 : Nat) (den : Int) (lE l10 l11 : List (Int × Int)) (v : World) : Prop where
  bel : Below b10 W v
  lt : b10 < b11 ∧ b11 < v.heap.size
  p10 : v.heap[b10]? = some (.cells #[.int .i64 den, .slice a10 n10 c10] 44)
  p11 : v.heap[b11]? = some (.cells #[.int .i64 den, .slice a11 n11 c11] 44)
  oE : OwR v (b11 + 1) aE nE cE lE
  o10 : OwR v (b11 + 1) a10 n10 c10 l10
  o11 : OwR v (b11 + 1) a11 n11 c11 l11
  s1 : Sep aE a10
  s2 : Sep aE a11
  s3 : Sep a10 a11
theorem Rows3.keep {W v v' : World} {b10 b11 : Nat} {aE a10 a11 : Option Addr} {nE n10 n11 cE c10 c11 : Nat} {den : Int} {lE l10 l11 : List (Int × Int)} (h : Rows3 W b10 b11 aE a10 a11 nE n10 n11 cE c10 c11 den lE l10 l11 v) (hb : Below v.heap.size v v') : Rows3 W b10 b11 aE a10 a11 nE n10 n11 cE c10 c11 den lE l10 l11 v' :=
  ⟨h.bel.trans (hb.mono (by have := h.lt; omega)), ⟨h.lt.1, Nat.lt_of_lt_of_le h.lt.2 hb.size⟩, blk_keep h.p10 hb, blk_keep h.p11 hb, h.oE.keep hb, h.o10.keep hb, h.o11.keep hb, h.s1, h.s2, h.s3⟩
theorem own_lt {w : World} {B : Nat} {a : Option Addr} {n c : Nat} {l : List (Int × Int)} (h : OwR w B a n c l) : ∀ g, a = some ⟨g, 0, none⟩ → B ≤ g ∧ g < w.heap.size := fun g hg => by
  subst hg
  exact h.lt
/-- The first row has grown. -/
theorem Rows3.grewE {W v v' : World} {b10 b11 : Nat} {aE a10 a11 aE' : Option Addr} {nE n10 n11 cE c10 c11 cE' : Nat} {den : Int} {lE l10 l11 lE' : List (Int × Int)} (h : Rows3 W b10 b11 aE a10 a11 nE n10 n11 cE c10 c11 den lE l10 l11 v)
    (h1 : OwR v' (b11 + 1) aE' (nE + 1) cE' lE') (h2 : Below (b11 + 1) v v') (h4 : ∀ j, j < v.heap.size → (∀ g, aE = some ⟨g, 0, none⟩ → j ≠ g) → v'.heap[j]? = v.heap[j]?) (h5 : ∀ g, aE' = some ⟨g, 0, none⟩ → aE = some ⟨g, 0, none⟩ ∨ v.heap.size ≤ g) :
    Rows3 W b10 b11 aE' a10 a11 (nE + 1) n10 n11 cE' c10 c11 den lE' l10 l11 v' := by
  have hlt := h.lt
  refine ⟨h.bel.trans (h2.mono (by omega)), ⟨hlt.1, Nat.lt_of_lt_of_le hlt.2 h2.size⟩, (h2.block _ (by omega)).trans h.p10, (h2.block _ (by omega)).trans h.p11, h1, h.o10.same (fun g hg => h4 g (own_lt h.o10 g hg).2 fun g' hg' he => h.s1 g' hg' (by rw [hg, he])), h.o11.same (fun g hg => h4 g (own_lt h.o11 g hg).2 fun g' hg' he => h.s2 g' hg' (by rw [hg, he])), ?_, ?_, h.s3⟩
  · intro g hg he
    rcases h5 g hg with h6 | h6
    · exact h.s1 g h6 he
    · have := (own_lt h.o10 g he).2
      omega
  · intro g hg he
    rcases h5 g hg with h6 | h6
    · exact h.s2 g h6 he
    · have := (own_lt h.o11 g he).2
      omega
/-- The second row has grown, and was stored. -/
theorem Rows3.grew10 {W v v' : World} {b10 b11 : Nat} {aE a10 a11 a' : Option Addr} {nE n10 n11 cE c10 c11 c' : Nat} {den : Int} {lE l10 l11 l' : List (Int × Int)} (h : Rows3 W b10 b11 aE a10 a11 nE n10 n11 cE c10 c11 den lE l10 l11 v)
    (h1 : OwR v' (b11 + 1) a' (n10 + 1) c' l') (h2 : Below (b11 + 1) v v') (h4 : ∀ j, j < v.heap.size → (∀ g, a10 = some ⟨g, 0, none⟩ → j ≠ g) → v'.heap[j]? = v.heap[j]?) (h5 : ∀ g, a' = some ⟨g, 0, none⟩ → a10 = some ⟨g, 0, none⟩ ∨ v.heap.size ≤ g) :
    Rows3 W b10 b11 aE a' a11 nE (n10 + 1) n11 cE c' c11 den lE l' l11 (v'.setCell ⟨b10, 1, none⟩ (.slice a' (n10 + 1) c')) := by
  have hlt := h.lt
  have q10 := (h2.block _ (by omega)).trans h.p10
  have q11 := (h2.block _ (by omega)).trans h.p11
  refine ⟨(h.bel.trans (h2.mono (by omega))).setCell (Nat.le_refl _) _, ⟨hlt.1, by simpa using Nat.lt_of_lt_of_le hlt.2 h2.size⟩, blk_setAt q10 1 _, blk_other' q11 (by omega) _ _, (h.oE.same (fun g hg => h4 g (own_lt h.oE g hg).2 fun g' hg' he => h.s1 g hg (by rw [hg', he]))).under (by omega) _, h1.under (by omega) _, (h.o11.same (fun g hg => h4 g (own_lt h.o11 g hg).2 fun g' hg' he => h.s3 g' hg' (by rw [hg, he]))).under (by omega) _, ?_, h.s2, ?_⟩
  · intro g hg he
    rcases h5 g he with h6 | h6
    · exact h.s1 g hg h6
    · have := (own_lt h.oE g hg).2
      omega
  · intro g hg he
    rcases h5 g hg with h6 | h6
    · exact h.s3 g h6 he
    · have := (own_lt h.o11 g he).2
      omega
theorem Rows3.grew11 {W v v' : World} {b10 b11 : Nat} {aE a10 a11 a' : Option Addr} {nE n10 n11 cE c10 c11 c' : Nat} {den : Int} {lE l10 l11 l' : List (Int × Int)} (h : Rows3 W b10 b11 aE a10 a11 nE n10 n11 cE c10 c11 den lE l10 l11 v)
    (h1 : OwR v' (b11 + 1) a' (n11 + 1) c' l') (h2 : Below (b11 + 1) v v') (h4 : ∀ j, j < v.heap.size → (∀ g, a11 = some ⟨g, 0, none⟩ → j ≠ g) → v'.heap[j]? = v.heap[j]?) (h5 : ∀ g, a' = some ⟨g, 0, none⟩ → a11 = some ⟨g, 0, none⟩ ∨ v.heap.size ≤ g) :
    Rows3 W b10 b11 aE a10 a' nE n10 (n11 + 1) cE c10 c' den lE l10 l' (v'.setCell ⟨b11, 1, none⟩ (.slice a' (n11 + 1) c')) := by
  have hlt := h.lt
  have q10 := (h2.block _ (by omega)).trans h.p10
  have q11 := (h2.block _ (by omega)).trans h.p11
  refine ⟨(h.bel.trans (h2.mono (by omega))).setCell (by show b10 ≤ b11; omega) _, ⟨hlt.1, by simpa using Nat.lt_of_lt_of_le hlt.2 h2.size⟩, blk_other' q10 (by omega) _ _, blk_setAt q11 1 _, (h.oE.same (fun g hg => h4 g (own_lt h.oE g hg).2 fun g' hg' he => h.s2 g hg (by rw [hg', he]))).under (by omega) _, (h.o10.same (fun g hg => h4 g (own_lt h.o10 g hg).2 fun g' hg' he => h.s3 g hg (by rw [hg', he]))).under (by omega) _, h1.under (by omega) _, h.s1, ?_, ?_⟩
  · intro g hg he
    rcases h5 g he with h6 | h6
    · exact h.s2 g hg h6
    · have := (own_lt h.oE g hg).2
      omega
  · intro g hg he
    rcases h5 g he with h6 | h6
    · exact h.s3 g hg h6
    · have := (own_lt h.o10 g hg).2
      omega
end Go.Proofs.Ytmaidjankakppaa
