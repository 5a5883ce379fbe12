/- Rows of fractions of the call's own. Small functions of the helpers' package: modulo, floors, comparisons of fractions of any size. Contracts: numbers of any size as ints, ratios as fractions. -/
import Derived.Test.YtmaidjankakppaaK13
import Derived.Maps.AppendAt
namespace Go.Proofs.Ytmaidjankakppaa
open Go.RowKit Go.Wides
open Calmly (Kept)

/-- The cells of a fraction. -/
abbrev RC := (Int × Option Addr × Nat × Nat) × (Int × Option Addr × Nat × Nat)
def rc0 : RC := ((0, none, 0, 0), (0, none, 0, 0))
def rq1 (p : RC) : List Value := [.int .i64 p.1.1, .slice p.1.2.1 p.1.2.2.1 p.1.2.2.2, .int .i64 p.2.1, .slice p.2.2.1 p.2.2.2.1 p.2.2.2.2]
def rq (l : List RC) : List Value := l.flatMap rq1
theorem rq_len (l : List RC) : (rq l).length = l.length * 4 := by
  induction l with
  | nil => rfl
  | cons p l ih =>
    show (_ :: _ :: _ :: _ :: rq l).length = _
    simp [ih]
    omega
theorem rq_append (l m : List RC) : rq (l ++ m) = rq l ++ rq m := by simp [rq]
theorem rq_get (l : List RC) (i : Nat) (h : i < l.length) (j : Nat) (hj : j < 4) : (rq l)[4 * i + j]? = (rq1 (l[i]?.getD rc0))[j]? := by
  induction l generalizing i with
  | nil => simp at h
  | cons p l ih =>
    have e : rq (p :: l) = rq1 p ++ rq l := rfl
    rw [e]
    cases i with
    | zero =>
      rw [List.getElem?_append_left (by show _ < 4; omega)]
      simp
    | succ i =>
      have := ih i (by simpa using h)
      rw [List.getElem?_append_right (by show 4 ≤ _; omega)]
      simp only [List.getElem?_cons_succ]
      rw [← this]
      congr 1
      show 4 * (i + 1) + j - 4 = _
      omega
def SQ (w : World) (a : Option Addr) (n c : Nat) (l : List RC) : Prop := Sl w 4 a n c (rq l)
theorem SQ.len {w : World} {a : Option Addr} {n c : Nat} {l : List RC} (h : SQ w a n c l) : n = l.length := by have := h.1; rw [rq_len] at this; omega
theorem SQ.at_ {w : World} {a : Option Addr} {n c : Nat} {l : List RC} (h : SQ w a n c l) (hn : 0 < n) :
    ∃ b off, a = some ⟨b, off, none⟩ ∧ ∀ i, i < n → ∀ j, j < 4 → w.cell? ⟨b, off + i * 4 + j, none⟩ = (rq1 (l[i]?.getD rc0))[j]? := by
  have hl := h.len
  obtain ⟨h1, h2, h3, h4⟩ := h
  rcases h4 with ⟨rfl, rfl⟩ | ⟨b, off, rfl, hc⟩
  · omega
  · refine ⟨b, off, rfl, fun i hi j hj => ?_⟩
    rw [← rq_get l i (by omega) j hj, show off + i * 4 + j = off + (4 * i + j) by omega, hc (4 * i + j) (by omega)]
theorem Try.info_ratio : (Try.prog.info? 72).map (fun i => (i.zero, i.size, i.bytes)) = some (some (.agg #[.int .i64 0, .slice none 0 0, .int .i64 0, .slice none 0 0]), 4, 64) := by kernel_rfl
def OwQ (w : World) (B : Nat) (a : Option Addr) (n c : Nat) (l : List RC) : Prop := w.ownsRow B 72 4 (.slice a n c) n (rq l)
theorem OwQ.sq {w : World} {B : Nat} {a : Option Addr} {n c : Nat} {l : List RC} (h : OwQ w B a n c l) : SQ w a n c l := by
  obtain ⟨a', c', he, hs⟩ := Sl.of_owns h
  cases he
  exact hs
theorem OwQ.nil (w : World) (B : Nat) : OwQ w B none 0 0 [] := World.ownsRow_nil w B _ 4
theorem OwQ.keep {w w' : World} {B : Nat} {a : Option Addr} {n c : Nat} {l : List RC} (h : OwQ w B a n c l) (hb : Below w.heap.size w w') : OwQ w' B a n c l := by
  obtain ⟨h1, h2⟩ := h
  refine ⟨h1, ?_⟩
  rcases h2 with h2 | ⟨g, cap, cur, hv, hg, hh, r⟩
  · exact .inl h2
  · refine .inr ⟨g, cap, cur, hv, hg, ?_, r⟩
    rw [hb.block g (by have := (Array.getElem?_eq_some_iff.1 hh).1; omega)]
    exact hh

theorem WideV.frame {w w' : World} {s : Int} {a : Option Addr} {n c : Nat} {z : Int} (h : WideV w s a n c z) (hs : ∀ b, BlkT w b 3 → w'.heap[b]? = w.heap[b]?) : WideV w' s a n c z := by
  obtain ⟨ds, h1, h2, h3⟩ := h
  refine ⟨ds, ?_, ?_, h3⟩
  · obtain ⟨k1, k2, k3, k4⟩ := h1
    refine ⟨k1, k2, k3, ?_⟩
    rcases k4 with k4 | ⟨b, off, rfl, hc⟩
    · exact .inl k4
    · refine .inr ⟨b, off, rfl, fun i hi => ?_⟩
      rw [← hc i hi]
      have hb : w'.heap[b]? = w.heap[b]? := by
        rcases h2 with h2 | h2
        · cases h2
        · obtain ⟨b', off', h5, h6⟩ := h2
          cases h5
          exact hs _ h6
      simp [World.cell?, hb]
  · rcases h2 with h2 | ⟨b, off, h5, cs, h6⟩
    · exact .inl h2
    · exact .inr ⟨b, off, h5, cs, (hs b ⟨cs, h6⟩).trans h6⟩
/-- A fraction in a row: so many digits at most. -/
def RatC (w : World) (L : Nat) (p : RC) (q : Rat) : Prop := p.1.2.2.1 ≤ L ∧ p.2.2.2.1 ≤ L ∧ RatV w p.1.1 p.1.2.1 p.1.2.2.1 p.1.2.2.2 p.2.1 p.2.2.1 p.2.2.2.1 p.2.2.2.2 q
theorem RatC.keep {w w' : World} {L : Nat} {p : RC} {q : Rat} (h : RatC w L p q) (hb : Below w.heap.size w w') : RatC w' L p q := ⟨h.1, h.2.1, h.2.2.keep hb⟩
theorem RatC.frame {w w' : World} {L : Nat} {p : RC} {q : Rat} (h : RatC w L p q) (hs : ∀ b, BlkT w b 3 → w'.heap[b]? = w.heap[b]?) : RatC w' L p q := ⟨h.1, h.2.1, h.2.2.1.frame hs, h.2.2.2.frame hs⟩
theorem RatC.mono {w : World} {L L' : Nat} {p : RC} {q : Rat} (h : RatC w L p q) (hL : L ≤ L') : RatC w L' p q := ⟨Nat.le_trans h.1 hL, Nat.le_trans h.2.1 hL, h.2.2⟩
/-- A row of rational numbers of the call's own. -/
def RowQ (w : World) (B : Nat) (a : Option Addr) (n c L : Nat) (qs : List Rat) : Prop := ∃ l : List RC, OwQ w B a n c l ∧ l.length = qs.length ∧ ∀ i, i < qs.length → RatC w L (l[i]?.getD rc0) (qs[i]?.getD 0)
theorem RowQ.nil (w : World) (B L : Nat) : RowQ w B none 0 0 L [] := ⟨[], OwQ.nil _ _, rfl, fun i hi => absurd hi (by simp)⟩
theorem RowQ.keep {w w' : World} {B : Nat} {a : Option Addr} {n c L : Nat} {qs : List Rat} (h : RowQ w B a n c L qs) (hb : Below w.heap.size w w') : RowQ w' B a n c L qs := by
  obtain ⟨l, h1, h2, h3⟩ := h
  exact ⟨l, h1.keep hb, h2, fun i hi => (h3 i hi).keep hb⟩
theorem RowQ.drew {w : World} {B : Nat} {a : Option Addr} {n c L : Nat} {qs : List Rat} (h : RowQ w B a n c L qs) : RowQ w.drew B a n c L qs := h.keep (Below.refl _ _).drew
theorem RowQ.len {w : World} {B : Nat} {a : Option Addr} {n c L : Nat} {qs : List Rat} (h : RowQ w B a n c L qs) : n = qs.length := by
  obtain ⟨l, h1, h2, _⟩ := h
  rw [← h2]
  exact h1.sq.len
/-- An element read. -/
theorem RowQ.at_ {w : World} {B : Nat} {a : Option Addr} {n c L : Nat} {qs : List Rat} (h : RowQ w B a n c L qs) (i : Nat) (hi : i < n) :
    ∃ b off s a1 n1 c1 s' a2 n2 c2, a = some ⟨b, off, none⟩ ∧ w.cell? ⟨b, off + i * 4, none⟩ = some (.int .i64 s) ∧ w.cell? ⟨b, off + i * 4 + 1, none⟩ = some (.slice a1 n1 c1) ∧ w.cell? ⟨b, off + i * 4 + 2, none⟩ = some (.int .i64 s') ∧ w.cell? ⟨b, off + i * 4 + 3, none⟩ = some (.slice a2 n2 c2) ∧
      n1 ≤ L ∧ n2 ≤ L ∧ RatV w s a1 n1 c1 s' a2 n2 c2 (qs[i]?.getD 0) := by
  have hn := h.len
  obtain ⟨l, h1, h2, h3⟩ := h
  obtain ⟨b, off, rfl, hc⟩ := h1.sq.at_ (by omega)
  obtain ⟨k1, k2, k3⟩ := h3 i (by omega)
  exact ⟨b, off, _, _, _, _, _, _, _, _, rfl, hc i hi 0 (by omega), hc i hi 1 (by omega), hc i hi 2 (by omega), hc i hi 3 (by omega), k1, k2, k3⟩
theorem RowQ.one {w : World} {B : Nat} (hB : B ≤ w.heap.size) {s : Int} {a : Option Addr} {n c : Nat} {s' : Int} {a' : Option Addr} {n' c' L : Nat} {q : Rat} (h : RatV w s a n c s' a' n' c' q) (h1 : n ≤ L) (h2 : n' ≤ L) :
    RowQ (w.alloc (.cells #[.int .i64 s, .slice a n c, .int .i64 s', .slice a' n' c'] 72)) B (some ⟨w.heap.size, 0, none⟩) 1 1 L [q] := by
  refine ⟨[((s, a, n, c), (s', a', n', c'))], ⟨by simp [rq, rq1], .inr ⟨w.heap.size, 1, #[.int .i64 s, .slice a n c, .int .i64 s', .slice a' n' c'], rfl, hB, alloc_new _ _, by simp, by unfold maxLen; omega, by simp, by simp [rq, rq1]⟩⟩, rfl, fun i hi => ?_⟩
  obtain rfl : i = 0 := by simpa using hi
  exact ⟨h1, h2, h.keep ((Below.refl _ _).alloc (Nat.le_refl _) _)⟩

/-- An append to a row of fractions. -/
theorem appQ {ops : Array Oper} {rest : List Oper} {o : Oper} {act : Act} {Q : Exit → Act → World → Prop} {Wx : World} (w0 : World) {B : Nat} {av : Option Addr} {n c L : Nat} {qs : List Rat} {q : Rat} {s1 : Int} {a1 : Option Addr} {n1 c1 : Nat} {s2 : Int} {a2 : Option Addr} {n2 c2 : Nat}
    (hW : Wx = w0.alloc (.cells #[.int .i64 s1, .slice a1 n1 c1, .int .i64 s2, .slice a2 n2 c2] 72)) (hgd : o.guard = none) (s x' : Operand)
    (ho : o.op = .call { callee := .builtin .append, args := #[s, x'], argTypes := #[156, 156] })
    (hown : RowQ w0 B av n c L qs) (hq : RatV w0 s1 a1 n1 c1 s2 a2 n2 c2 q) (hl1 : n1 ≤ L) (hl2 : n2 ≤ L) (hs : act.eval s = .slice av n c) (hx : act.eval x' = .slice (some ⟨w0.heap.size, 0, none⟩) 1 1)
    (hb1 : n + 1 ≤ 1099511627776) (hB : B ≤ w0.heap.size)
    (h : ∀ a' c' w', RowQ w' B a' (n + 1) c' L (qs ++ [q]) → Below B w0 w' → w0.heap.size < w'.heap.size → wpList Try.prog ops Q rest (act.put o.dst (.slice a' (n + 1) c')) w') :
    wpList Try.prog ops Q (o :: rest) act Wx := by
  subst hW
  obtain ⟨i0, hi, hz0, hz1, hz2⟩ := info_parts Try.info_ratio
  have hnl := hown.len
  obtain ⟨l, hl, hle, hc⟩ := hown
  refine wpList_append_own_at _ hgd s x' _ ho B _ i0 (.agg #[.int .i64 0, .slice none 0 0, .int .i64 0, .slice none 0 0]) 4 64 Try.underlying156 hi hz0 hz1 hz2 rfl (by decide) _ n _ hs (World.ownsRow.alloc hl _) ⟨w0.heap.size, 0, none⟩ 1 1 (#[Value.int .i64 s1, .slice a1 n1 c1, .int .i64 s2, .slice a2 n2 c2]).toList hx (by simp) (cells_new w0 _ _) (by simp [Value.oneCell']) (by unfold maxLen; omega) (by omega) (by simp; omega) ?_
  intro v' w1 ho1 hg hn hat
  have hrow : ∀ j, (Value.slice av n c).ownBlock = some j → B ≤ j := fun j hj => (World.ownsRow.lt hl j hj).1
  have hb0 : Below B w0 (w0.alloc (.cells #[.int .i64 s1, .slice a1 n1 c1, .int .i64 s2, .slice a2 n2 c2] 72)) := (Below.refl _ _).alloc hB _
  have hb2 : Below B w0 w1 := hb0.trans (grown_below hg (by simp; omega) hrow)
  have hsz2 := hg.size
  have hfr : ∀ b, BlkT w0 b 3 → w1.heap[b]? = w0.heap[b]? := by
    intro b hbt
    have hlt := hbt.lt
    rw [hg.block b (by simp; omega) ?_]
    · exact ((Below.refl w0.heap.size w0).alloc (Nat.le_refl _) _).block b hlt
    · intro he
      cases av with
      | none => simp [Value.ownBlock] at he
      | some ad =>
        obtain ⟨h1, h2⟩ := hl
        rcases h2 with ⟨h2, _⟩ | ⟨g', cap', cur', hv, _, hh, _⟩
        · cases h2
        · cases hv
          simp [Value.ownBlock] at he
          subst he
          obtain ⟨cs, hcs⟩ := hbt
          rw [hh] at hcs
          cases hcs
  obtain ⟨hlen, ho2⟩ := ho1
  rcases ho2 with ⟨_, h0⟩ | ⟨g, cap, cur, rfl, r⟩
  · omega
  · refine h _ _ w1 ⟨l ++ [((s1, a1, n1, c1), (s2, a2, n2, c2))], ?_, by simp [hle], fun i hi => ?_⟩ hb2 (by simp at hsz2; omega)
    · unfold OwQ
      rw [rq_append]
      exact ⟨hlen, .inr ⟨g, cap, cur, rfl, r⟩⟩
    · rcases Nat.lt_or_ge i qs.length with h6 | h6
      · rw [List.getElem?_append_left (by omega), List.getElem?_append_left h6]
        exact (hc i h6).frame hfr
      · obtain rfl : i = qs.length := by simp at hi; omega
        rw [List.getElem?_append_right (by omega), List.getElem?_append_right (by omega), hle]
        simp only [Nat.sub_self, List.getElem?_cons_zero, Option.getD_some]
        exact ⟨hl1, hl2, hq.1.frame hfr, hq.2.frame hfr⟩
end Go.Proofs.Ytmaidjankakppaa

namespace Go.Proofs.Ytmaidjankakppaa
open Go.RowKit
open Calmly (Kept)

theorem tdiv_floor (n d : Int) (h : 0 < d) : n / d = if n.tmod d < 0 then n.tdiv d - 1 else n.tdiv d := by
  have h1 := Int.tmod_add_mul_tdiv n d
  have h2 := Int.emod_add_mul_ediv n d
  have h3 := Int.emod_nonneg n (by omega : d ≠ 0)
  have h4 := Int.emod_lt_of_pos n h
  have h5 : n.tmod d < d := Int.tmod_lt_of_pos n h
  have h6 : -d < n.tmod d := by
    have := Int.lt_tmod_of_pos n h
    omega
  by_cases hn : n.tmod d < 0
  · rw [if_pos hn]
    have h7 : d * (n / d) = d * (n.tdiv d - 1) + (d + n.tmod d - n % d) := by rw [Int.mul_sub]; omega
    have h8 : d * (n / d - (n.tdiv d - 1)) = d + n.tmod d - n % d := by rw [Int.mul_sub]; omega
    have h9 : n / d - (n.tdiv d - 1) < 1 := by
      rcases Int.lt_or_le (n / d - (n.tdiv d - 1)) 1 with h | h'
      · exact h
      · have := Int.mul_le_mul_of_nonneg_left h' (by omega : 0 ≤ d)
        omega
    have h10 : -1 < n / d - (n.tdiv d - 1) := by
      rcases Int.lt_or_le (-1) (n / d - (n.tdiv d - 1)) with h | h'
      · exact h
      · have := Int.mul_le_mul_of_nonneg_left h' (by omega : 0 ≤ d)
        omega
    omega
  · rw [if_neg hn]
    have h8 : d * (n / d - n.tdiv d) = n.tmod d - n % d := by rw [Int.mul_sub]; omega
    have h9 : n / d - n.tdiv d < 1 := by
      rcases Int.lt_or_le (n / d - n.tdiv d) 1 with h | h'
      · exact h
      · have := Int.mul_le_mul_of_nonneg_left h' (by omega : 0 ≤ d)
        omega
    have h10 : -1 < n / d - n.tdiv d := by
      rcases Int.lt_or_le (-1) (n / d - n.tdiv d) with h | h'
      · exact h
      · have := Int.mul_le_mul_of_nonneg_left h' (by omega : 0 ≤ d)
        omega
    omega
theorem tmod_emod (n d : Int) (h : 0 < d) : n % d = if n.tmod d < 0 then n.tmod d + d else n.tmod d := by
  have h1 := Int.tmod_add_mul_tdiv n d
  have h2 := Int.emod_add_mul_ediv n d
  have h3 := tdiv_floor n d h
  split at h3
  · rename_i h4
    rw [if_pos h4]
    rw [h3, Int.mul_sub] at h2
    omega
  · rename_i h4
    rw [if_neg h4]
    rw [h3] at h2
    omega
theorem tdiv_bd (n d : Int) (h : 0 < d) (h1 : -9223372036854775808 ≤ n) (h2 : n ≤ 9223372036854775807) : -9223372036854775808 ≤ n.tdiv d ∧ n.tdiv d ≤ 9223372036854775807 := by
  rcases Int.le_total 0 n with h0 | h0
  · have h3 : 0 ≤ n.tdiv d := Int.tdiv_nonneg h0 (by omega)
    have h4 : n.tdiv d ≤ n := by
      rw [Int.tdiv_eq_ediv_of_nonneg h0]
      exact Int.ediv_le_self d h0
    omega
  · have h3 : 0 ≤ (-n).tdiv d := Int.tdiv_nonneg (by omega) (by omega)
    have h4 : (-n).tdiv d ≤ -n := by
      rw [Int.tdiv_eq_ediv_of_nonneg (by omega)]
      exact Int.ediv_le_self d (by omega)
    rw [Int.neg_tdiv] at h3 h4
    omega

set_option maxRecDepth 100000 in
set_option maxHeartbeats 400000 in
theorem mod_any (n d : Int) (w : World) (h : 0 < d) (h2 : d ≤ 9223372036854775807) (_ : -9223372036854775808 ≤ n) (_ : n ≤ 9223372036854775807) :
    Calls Try.prog 35 #[.int .i64 n, .int .i64 d] w fun e w' => e = .returned (.int .i64 (n % d)) ∧ w = w' := by
  have h3 := tmod_emod n d h
  have h4 : n.tmod d < d := Int.tmod_lt_of_pos n h
  have h5 : -d < n.tmod d := by
    have := Int.lt_tmod_of_pos n h
    omega
  have hd : (d == 0) = false := by simp; omega
  by_cases hm : n.tmod d < 0
  · rw [if_pos hm] at h3
    rw [h3]
    clear h3
    go_enter Try.func35, Try.ntmps35
    go_wp2_with fail
    go_ret
    exact ⟨rfl, rfl⟩
  · rw [if_neg hm] at h3
    rw [h3]
    have hm' : 0 ≤ n.tmod d := by omega
    clear h3 hm
    go_enter Try.func35, Try.ntmps35
    go_wp2_with fail
    go_ret
    exact ⟨rfl, rfl⟩

set_option maxRecDepth 100000 in
set_option maxHeartbeats 400000 in
theorem floor_any (n d : Int) (w : World) (h : 0 < d) (h2 : d ≤ 9223372036854775807) (hn1 : -9223372036854775807 ≤ n) (hn2 : n ≤ 9223372036854775807) :
    Calls Try.prog 112 #[.int .i64 n, .int .i64 d] w fun e w' => e = .returned (.int .i64 (n / d)) ∧ w = w' := by
  have h3 := tdiv_floor n d h
  have h4 : n.tmod d < d := Int.tmod_lt_of_pos n h
  have h5 : -d < n.tmod d := by
    have := Int.lt_tmod_of_pos n h
    omega
  have h6 := Int.natAbs_tdiv_le_natAbs n d
  have hd : (d == 0) = false := by simp; omega
  have h7 : -9223372036854775807 ≤ n.tdiv d := by omega
  have h8 : n.tdiv d ≤ 9223372036854775807 := by omega
  by_cases hm : n.tmod d < 0
  · rw [if_pos hm] at h3
    rw [h3]
    clear h3 h6
    go_enter Try.func112, Try.ntmps112
    go_wp2_with fail
    go_ret
    exact ⟨rfl, rfl⟩
  · rw [if_neg hm] at h3
    rw [h3]
    have hm' : 0 ≤ n.tmod d := by omega
    clear h3 hm h6
    go_enter Try.func112, Try.ntmps112
    go_wp2_with fail
    go_ret
    exact ⟨rfl, rfl⟩

/-- How two numbers compare: -1, 0 or 1. -/
def cmpQ (x y : Int) : Int := if x < y then -1 else if y < x then 1 else 0
theorem cmpQ_shift (x y z : Int) : cmpQ (x + z) (y + z) = cmpQ x y := by
  unfold cmpQ
  have e1 : (x + z < y + z) = (x < y) := by simp
  have e2 : (y + z < x + z) = (y < x) := by simp
  simp only [e1, e2]
/-- A step of the comparison of fractions. -/
theorem cmp_lt {n d m k : Int} (hd : 0 < d) (hk : 0 < k) (h : n / d < m / k) : cmpQ (n * k) (m * d) = -1 := by
  have h1 : n < d * (n / d) + d := by
    have := Int.emod_add_mul_ediv n d
    have := Int.emod_lt_of_pos n hd
    omega
  have h2 : k * (m / k) ≤ m := by
    have := Int.emod_add_mul_ediv m k
    have := Int.emod_nonneg m (by omega : k ≠ 0)
    omega
  have h3 : n * k < (d * (n / d) + d) * k := Int.mul_lt_mul_of_pos_right h1 hk
  have h4 : k * (m / k) * d ≤ m * d := Int.mul_le_mul_of_nonneg_right h2 (by omega)
  have h5 : (d * (n / d) + d) * k = (n / d + 1) * (d * k) := by
    rw [show d * (n / d) + d = d * (n / d + 1) by rw [Int.mul_add, Int.mul_one]]
    rw [Int.mul_comm d (n / d + 1), Int.mul_assoc]
  have h6 : k * (m / k) * d = (m / k) * (d * k) := by
    rw [Int.mul_comm k (m / k), Int.mul_assoc, Int.mul_comm k d]
  have h7 : (n / d + 1) * (d * k) ≤ (m / k) * (d * k) := Int.mul_le_mul_of_nonneg_right (by omega) (Int.mul_nonneg (by omega) (by omega))
  unfold cmpQ
  rw [if_pos (by omega)]
theorem cmp_swap (x y : Int) : cmpQ y x = - cmpQ x y := by
  unfold cmpQ
  split <;> split <;> first | omega | (split <;> omega) | rfl
theorem cmp_gt {n d m k : Int} (hd : 0 < d) (hk : 0 < k) (h : m / k < n / d) : cmpQ (n * k) (m * d) = 1 := by
  rw [cmp_swap, cmp_lt hk hd h]
  rfl
theorem cmp_eq {n d m k : Int} (h : n / d = m / k) : cmpQ (n * k) (m * d) = cmpQ ((n % d) * k) ((m % k) * d) := by
  have h1 := Int.emod_add_mul_ediv n d
  have h2 := Int.emod_add_mul_ediv m k
  have e1 : n * k = (n % d) * k + d * (n / d) * k := by rw [← Int.add_mul, h1]
  have e2 : m * d = (m % k) * d + d * (n / d) * k := by
    rw [h, show d * (m / k) * k = k * (m / k) * d by rw [Int.mul_comm d, Int.mul_assoc, Int.mul_comm d k, ← Int.mul_assoc, Int.mul_comm (m / k) k], ← Int.add_mul, h2]
  rw [e1, e2, cmpQ_shift]

set_option maxRecDepth 100000 in
set_option maxHeartbeats 1000000 in
theorem compare_any (n d m k : Int) (w : World) (hd : 0 < d) (hd2 : d ≤ 4611686018427387904) (hk : 0 < k) (hk2 : k ≤ 4611686018427387904) (hn1 : -4611686018427387904 ≤ n) (hn2 : n ≤ 4611686018427387904) (hm1 : -4611686018427387904 ≤ m) (hm2 : m ≤ 4611686018427387904) :
    Calls Try.prog 52 #[.int .i64 n, .int .i64 d, .int .i64 m, .int .i64 k] w fun e w' => e = .returned (.int .i64 (cmpQ (n * k) (m * d))) ∧ w = w' := by
  obtain ⟨R, hR⟩ : ∃ R, cmpQ (n * k) (m * d) = R := ⟨_, rfl⟩
  rw [hR]
  have HR := Lib.hid hR
  clear hR
  go_enter Try.func52, Try.ntmps52
  go_wp2_with fail
  go_loop [0, 1, 2, 3] (fun x0 x1 x2 x3 => ∃ n d m k : Int, x0 = .int .i64 n ∧ x1 = .int .i64 d ∧ x2 = .int .i64 m ∧ x3 = .int .i64 k ∧ 0 < d ∧ d ≤ 4611686018427387904 ∧ 0 < k ∧ k ≤ 4611686018427387904 ∧ -4611686018427387904 ≤ n ∧ n ≤ 4611686018427387904 ∧ -4611686018427387904 ≤ m ∧ m ≤ 4611686018427387904 ∧ cmpQ (n * k) (m * d) = R) (fun _ x1 _ x3 => (intOf x1 + intOf x3).toNat)
  case atStart => exact ⟨n, d, m, k, rfl, rfl, rfl, rfl, hd, hd2, hk, hk2, hn1, hn2, hm1, hm2, HR.out⟩
  case round =>
    clear HR hd hd2 hk hk2 hn1 hn2 hm1 hm2
    obtain ⟨n, d, m, k, rfl, rfl, rfl, rfl, hd, hd2, hk, hk2, hn1, hn2, hm1, hm2, hR⟩ := hrel
    have HR := Lib.hid hR
    clear hR
    have a1 := Int.emod_add_mul_ediv n d
    have a2 := Int.emod_lt_of_pos n hd
    have a3 := Int.emod_nonneg n (by omega : d ≠ 0)
    have b1 := Int.emod_add_mul_ediv m k
    have b2 := Int.emod_lt_of_pos m hk
    have b3 := Int.emod_nonneg m (by omega : k ≠ 0)
    rw [Int.mul_comm] at a1 b1
    go_wp2_with fail
    refine (floor_any n d _ hd (by omega) (by omega) (by omega)).mono ?_
    rintro e w1 ⟨rfl, rfl⟩
    go_wp2_with fail
    refine (floor_any m k _ hk (by omega) (by omega) (by omega)).mono ?_
    rintro e w1 ⟨rfl, rfl⟩
    rcases Int.lt_trichotomy (n / d) (m / k) with h | h | h
    · have hc := cmp_lt hd hk h
      obtain ⟨p, hp⟩ : ∃ p, n / d = p := ⟨_, rfl⟩
      obtain ⟨q, hq⟩ : ∃ q, m / k = q := ⟨_, rfl⟩
      rw [hp, hq] at h
      rw [hp, hq]
      have HC := Lib.hid hc
      clear hp hq hc a1 a2 a3 b1 b2 b3
      go_wp2_with fail
      go_ret
      exact ⟨ret_int (by rw [← HR.out, HC.out]), rfl⟩
    · have hc := cmp_eq h
      rw [← h] at b1 ⊢
      obtain ⟨p, hp⟩ : ∃ p, n / d = p := ⟨_, rfl⟩
      rw [hp] at a1 b1 ⊢
      obtain ⟨u, hu⟩ : ∃ u, n % d = u := ⟨_, rfl⟩
      obtain ⟨v, hv⟩ : ∃ v, m % k = v := ⟨_, rfl⟩
      rw [hu] at a1 a2 a3 hc
      rw [hv] at b1 b2 b3 hc
      have HC := Lib.hid (hc.symm.trans HR.out)
      clear h hp hu hv hc HR
      have f1 : -9223372036854775808 ≤ p * d := by omega
      have f2 : p * d ≤ 9223372036854775807 := by omega
      have f3 : -9223372036854775808 ≤ p * k := by omega
      have f4 : p * k ≤ 9223372036854775807 := by omega
      have e1 : n - p * d = u := by omega
      have e2 : m - p * k = v := by omega
      have f5 : -9223372036854775808 ≤ n - p * d := by omega
      have f6 : n - p * d ≤ 9223372036854775807 := by omega
      have f7 : -9223372036854775808 ≤ m - p * k := by omega
      have f8 : m - p * k ≤ 9223372036854775807 := by omega
      have G1 := Lib.hid e1
      have G2 := Lib.hid e2
      by_cases hu : u = 0
      · have t1 : (n - p * d == 0) = true := by simp; omega
        have T1 := Lib.hid t1
        by_cases hv : v = 0
        · have t2 : (m - p * k == 0) = true := by simp; omega
          subst hu
          subst hv
          clear e1 e2 a1 b1 a2 a3 b2 b3 T1
          go_wp2_with fail
          go_ret
          exact ⟨ret_int (by rw [← HC.out]; simp [cmpQ]), rfl⟩
        · have t2 : (m - p * k == 0) = false := by simp; omega
          have hvv : 0 < v * d := Int.mul_pos (by omega) hd
          subst hu
          have HV := Lib.hid hvv
          clear e1 e2 a1 b1 a2 a3 b2 b3 hv hvv
          go_wp2_with fail
          go_ret
          exact ⟨ret_int (by rw [← HC.out]; unfold cmpQ; rw [Int.zero_mul, if_pos HV.out]), rfl⟩
      · have t1 : (n - p * d == 0) = false := by simp; omega
        by_cases hv : v = 0
        · have t2 : (m - p * k == 0) = true := by simp; omega
          have hvv : 0 < u * k := Int.mul_pos (by omega) hk
          subst hv
          have HV := Lib.hid hvv
          clear e1 e2 a1 b1 a2 a3 b2 b3 hu hvv
          go_wp2_with fail
          go_ret
          exact ⟨ret_int (by rw [← HC.out]; unfold cmpQ; rw [Int.zero_mul, if_neg (by have := HV.out; omega), if_pos HV.out]), rfl⟩
        · have t2 : (m - p * k == 0) = false := by simp; omega
          have A := Lib.hid (And.intro a2 (And.intro a3 (And.intro b2 b3)))
          have U := Lib.hid (And.intro hu hv)
          clear e1 e2 a1 b1 a2 a3 b2 b3 hu hv
          go_wp2_with fail
          go_round
          case rel =>
            obtain ⟨a2, a3, b2, b3⟩ := A.out
            obtain ⟨hu, hv⟩ := U.out
            have e1 := G1.out
            have e2 := G2.out
            refine ⟨k, m - p * k, d, n - p * d, rfl, rfl, rfl, rfl, by omega, by omega, by omega, by omega, by omega, by omega, by omega, by omega, ?_⟩
            rw [e1, e2, Int.mul_comm k u, Int.mul_comm d v]
            exact HC.out
          case measure =>
            obtain ⟨a2, a3, b2, b3⟩ := A.out
            have e1 := G1.out
            have e2 := G2.out
            simp only [intOf]
            simp
            omega
    · have hc := cmp_gt hd hk h
      obtain ⟨p, hp⟩ : ∃ p, n / d = p := ⟨_, rfl⟩
      obtain ⟨q, hq⟩ : ∃ q, m / k = q := ⟨_, rfl⟩
      rw [hp, hq] at h
      rw [hp, hq]
      have h' : q ≤ p := by omega
      have HC := Lib.hid hc
      clear hp hq hc a1 a2 a3 b1 b2 b3
      go_wp2_with fail
      go_ret
      exact ⟨ret_int (by rw [← HR.out, HC.out]), rfl⟩

/-- A fraction in lowest terms, with a denominator above 0; its parts are small. -/
def isLow (x y : Int) : Bool := decide (0 < y) && (Int.gcd x y : Int) == 1
def isSmallF (x y : Int) : Bool := wIn x (-1000000000) 1000000000 && wIn y 1 1000000000

set_option maxRecDepth 100000 in
set_option maxHeartbeats 1000000 in
theorem isLowest_any (x y : Int) (w : World) (hx1 : -9223372036854775807 ≤ x) (hx2 : x ≤ 9223372036854775807) (hy2 : y ≤ 9223372036854775807) :
    Calls Try.prog 58 #[.agg #[.int .i64 x, .int .i64 y]] w fun e w' => e = .returned (.bool (isLow x y)) ∧ Below w.heap.size w w' := by
  have hb : ∀ o, Below w.heap.size w (w.alloc o) := fun o => (Below.refl _ _).alloc (Nat.le_refl _) _
  by_cases h : 0 < y
  · go_enter Try.func58, Try.ntmps58
    go_wp2_with fail
    refine (gcd_any x y _ (by omega) (by omega) (by omega) (by omega)).mono ?_
    rintro e w1 ⟨rfl, k, rfl⟩
    go_wp2_with fail
    go_ret
    refine ⟨ret_bool ?_, below_drewN (hb _) k⟩
    unfold isLow
    rw [decide_eq_true h]
    rfl
  · have h' : y ≤ 0 := by omega
    go_enter Try.func58, Try.ntmps58
    go_wp2_with fail
    go_ret
    refine ⟨ret_bool ?_, hb _⟩
    unfold isLow
    rw [decide_eq_false (by omega)]
    rfl

set_option maxRecDepth 100000 in
set_option maxHeartbeats 1000000 in
theorem isSmall_any (x y : Int) (w : World) :
    Calls Try.prog 59 #[.agg #[.int .i64 x, .int .i64 y]] w fun e w' => e = .returned (.bool (isSmallF x y)) ∧ Below w.heap.size w w' := by
  have hb : ∀ o, Below w.heap.size w (w.alloc o) := fun o => (Below.refl _ _).alloc (Nat.le_refl _) _
  unfold isSmallF
  cases h : wIn x (-1000000000) 1000000000
  · go_enter Try.func59, Try.ntmps59
    go_wp2_with (first | (go_at_call 44; refine (within_any _ _ _ _).mono ?_; rintro e w' ⟨rfl, rfl⟩))
    go_ret
    exact ⟨rfl, hb _⟩
  · cases h2 : wIn y 1 1000000000
    · go_enter Try.func59, Try.ntmps59
      go_wp2_with (first | (go_at_call 44; refine (within_any _ _ _ _).mono ?_; rintro e w' ⟨rfl, rfl⟩))
      go_ret
      exact ⟨rfl, hb _⟩
    · go_enter Try.func59, Try.ntmps59
      go_wp2_with (first | (go_at_call 44; refine (within_any _ _ _ _).mono ?_; rintro e w' ⟨rfl, rfl⟩))
      go_ret
      exact ⟨rfl, hb _⟩
end Go.Proofs.Ytmaidjankakppaa

namespace Go.Proofs.Ytmaidjankakppaa
open Go.RowKit Go.Wides
open Calmly (Kept)
attribute [local go_sem] field_wide0 field_wide1

theorem dv_drop_step (xs : List Int) (k : Nat) (hk : k < xs.length) : dv (xs.drop k) = dv (xs.drop (k + 1)) * 1000000000 + xs[k]?.getD 0 := by
  rw [List.drop_eq_getElem_cons hk, List.getElem?_eq_getElem hk]
  simp only [dv, Option.getD_some]
  omega
theorem sign_mul_dv {xs : List Int} {z : Int} (h : dv xs = z.natAbs) : z.sign * dv xs = z := by rw [h]; exact Int.sign_mul_natAbs z

theorem ret_two2 {a b : Int} {t : Bool} (h : a = b) : Ending.returned (Value.tuple #[.int .i64 a, .bool t]) = .returned (.tuple #[.int .i64 b, .bool t]) := by cases h; rfl

set_option maxRecDepth 100000 in
set_option maxHeartbeats 1000000 in
theorem WideInt_any (s : Int) (a : Option Addr) (n c : Nat) (z : Int) (w : World) (h : WideV w s a n c z) (hz : z.natAbs < 1000000000000000000) :
    Calls Try.prog 130 #[.agg #[.int .i64 s, .slice a n c]] w fun e w' => e = .returned (.tuple #[.int .i64 z, .bool true]) ∧ Below w.heap.size w w' := by
  have hb : ∀ o, Below w.heap.size w (w.alloc o) := fun o => (Below.refl _ _).alloc (Nat.le_refl _) _
  have hsb := h.s_bd
  obtain ⟨ds, h1, _, h3, h4, h5, h6⟩ := h
  obtain ⟨l1, l2⟩ : n ≤ ds.length ∧ ds.length ≤ n := by have := h1.len; omega
  have m1 := h1.max
  have c1 := h1.cap
  have hn : n ≤ 2 := by
    rcases Nat.lt_or_ge 2 n with h2 | h2
    · have h7 := dv_ge h3 h4 (by intro h0; rw [h0] at l1; simp at l1; omega)
      have h8 : (1000000000 : Int) ^ 2 ≤ 1000000000 ^ (ds.length - 1) := pow_mono (by omega)
      have h9 : (1000000000 : Int) ^ 2 = 1000000000000000000 := by decide
      omega
    · exact h2
  have HF : s * dv ds = z := by rw [h6]; exact sign_mul_dv h5
  have HFs := Lib.hid HF
  have hd1 : ∀ k, k ≤ n → 1 ≤ k → 0 ≤ dv (ds.drop k) ∧ dv (ds.drop k) < 1000000000 := fun k hk hk1 => by
    have e1 := dv_nonneg (h3.drop k)
    have e2 := dv_lt (h3.drop k)
    have e3 : (1000000000 : Int) ^ (ds.drop k).length ≤ 1000000000 ^ 1 := pow_mono (by simp; omega)
    omega
  have hd0 : 0 ≤ dv ds ∧ dv ds < 1000000000000000000 := by
    have e1 := dv_nonneg h3
    have e2 := dv_lt h3
    have e3 : (1000000000 : Int) ^ ds.length ≤ 1000000000 ^ 2 := pow_mono (by omega)
    have h9 : (1000000000 : Int) ^ 2 = 1000000000000000000 := by decide
    omega
  have hsd : -1000000000000000000 < s * dv ds ∧ s * dv ds < 1000000000000000000 := by
    rcases (by omega : s = -1 ∨ s = 0 ∨ s = 1) with rfl | rfl | rfl <;> omega
  clear h5 h6 h4 HF hz
  go_enter Try.func130, Try.ntmps130
  go_wp2
  go_loop [4, 5] (fun x i => ∃ k : Nat, k ≤ n ∧ i = .int .i64 ((k : Int) - 1) ∧ ∃ y : Int, x = .int .i64 y ∧ Hid (y = dv (ds.drop k))) (fun _ i => (intOf i + 1).toNat)
  case atStart => exact ⟨n, by omega, rfl, 0, rfl, by rw [List.drop_of_length_le (by omega)]; rfl⟩
  case round =>
    obtain ⟨k, hk, rfl, y, rfl, hy⟩ := hrel
    by_cases hlt : 0 < k
    · obtain ⟨b1, o1, rfl, hc1⟩ := h1.at_ (by omega)
      have e1 := hc1 (k - 1) (by omega)
      clear hc1
      have hyd : 0 ≤ y ∧ y < 1000000000 := by rw [hy.out]; exact hd1 k hk (by omega)
      have hdg := h3.get (k - 1)
      have hst := Lib.hid (dv_drop_step ds (k - 1) (by omega))
      have hi : (k : Int) - 1 < (n : Int) := by omega
      have hi0 : (0 : Int) ≤ (k : Int) - 1 := by omega
      have hi1 : (1 : Int) ≤ (k : Int) := by omega
      have hj : ((k : Int) - 1).toNat = k - 1 := by omega
      have hlt1 := cell_lt e1
      clear hd1 hd0 hsd
      go_wp2_with fail
      go_round
      case rel => exact ⟨k - 1, by omega, by congr 1; omega, _, rfl, by refine Lib.hid ?_; rw [hst.out, show k - 1 + 1 = k from by omega, ← hy.out]⟩
      case measure => simp [intOf]; omega
    · obtain rfl : k = 0 := by omega
      have hy' : y = dv ds := by simpa using hy.out
      clear hd1 hy
      subst hy'
      go_wp2_with fail
      go_ret2
      exact ⟨ret_two2 HFs.out, hb _⟩

/-- A number is stored. -/
theorem wideFin {V : World} {r : Nat} {u0 u1 : Value} {s : Int} {a : Option Addr} {m c : Nat} {z : Int} (X : V.heap[r]? = some (.cells #[u0, u1] 70)) (h1 : WideV V s a m c z) :
    ((V.setCell ⟨r, 0, none⟩ (.int .i64 s)).setCell ⟨r, 1, none⟩ (.slice a m c)).heap[r]? = some (.cells #[.int .i64 s, .slice a m c] 70) ∧
    WideV ((V.setCell ⟨r, 0, none⟩ (.int .i64 s)).setCell ⟨r, 1, none⟩ (.slice a m c)) s a m c z := by
  have hT : BlkT V r 70 := ⟨_, X⟩
  exact ⟨blkSet (blkSet X 0 _) 1 _, (h1.set hT (by decide)).set (hT.set _ _) (by decide)⟩
theorem below2 {B : Nat} {w V : World} {r : Nat} {x y : Value} (h : Below B w V) (hr : B ≤ r) : Below B w ((V.setCell ⟨r, 0, none⟩ x).setCell ⟨r, 1, none⟩ y) :=
  (h.setCell (p := ⟨r, 0, none⟩) hr _).setCell (p := ⟨r, 1, none⟩) hr _

set_option maxRecDepth 100000 in
set_option maxHeartbeats 1000000 in
theorem RatioFloor_any (s1 : Int) (a1 : Option Addr) (n1 c1 : Nat) (s2 : Int) (a2 : Option Addr) (n2 c2 : Nat) (p : Rat) (w : World) (h : RatV w s1 a1 n1 c1 s2 a2 n2 c2 p) (hl1 : n1 ≤ 1000000000) (hl2 : n2 ≤ 1000000000) :
    Calls Try.prog 144 #[.agg #[.int .i64 s1, .slice a1 n1 c1, .int .i64 s2, .slice a2 n2 c2]] w fun e w' => ∃ s a m c, e = .returned (.agg #[.int .i64 s, .slice a m c]) ∧ WideV w' s a m c (p.num / (p.den : Int)) ∧ Below w.heap.size w w' := by
  have hb2 : Below w.heap.size w ((w.alloc (.cells #[.int .i64 s1, .slice a1 n1 c1, .int .i64 s2, .slice a2 n2 c2] 72)).alloc (.cells #[.int .i64 0, .slice none 0 0] 70)) := ((Below.refl _ _).alloc (Nat.le_refl _) _).alloc (by simp) _
  have X2 : ((w.alloc (.cells #[.int .i64 s1, .slice a1 n1 c1, .int .i64 s2, .slice a2 n2 c2] 72)).alloc (.cells #[.int .i64 0, .slice none 0 0] 70)).heap[w.heap.size + 1]? = some (.cells #[.int .i64 0, .slice none 0 0] 70) := by
    have := alloc_new (w.alloc (.cells #[.int .i64 s1, .slice a1 n1 c1, .int .i64 s2, .slice a2 n2 c2] 72)) (.cells #[.int .i64 0, .slice none 0 0] 70)
    simp only [World.size_alloc] at this
    exact this
  have hpos : (0 : Int) < (p.den : Int) := by have := p.den_nz; omega
  have H1 := h.1.keep hb2
  have H2 := h.2.keep hb2
  have BW := hb2
  clear hb2 h
  go_enter Try.func144, Try.ntmps144
  go_wp2_with fail
  refine (WideFloor_any s1 s2 a1 a2 n1 n2 c1 c2 p.num (p.den : Int) _ H1 H2 hpos (by omega) (by omega)).mono ?_
  rintro e w1 ⟨s, a, m, c, rfl, ⟨_, V1⟩, hs⟩
  replace X2 := blk_keep X2 hs
  replace BW := BW.trans (hs.mono BW.size)
  have sX := blk_lt X2
  have x0 := cell_block X2 0
  have x1 := cell_block X2 1
  have f0 := frozen_block X2 0
  have f1 := frozen_block X2 1
  obtain ⟨X4, W1⟩ := wideFin X2 V1
  have r0 := cell_block X4 0
  have r1 := cell_block X4 1
  go_wp2_with fail
  refine bodyPost_ret (v := .agg #[.int .i64 s, .slice a m c]) (by simp [results, Try.results144, go_sem, r0, r1]) rfl ⟨_, _, _, _, rfl, W1, below2 BW (by omega)⟩
end Go.Proofs.Ytmaidjankakppaa
