/- Plain law of shapes at a square: the program's parts over their denominator are the numbers of the reference, and what is missing has the same sign. Contracts of chapter 6: displacements in lowest terms. Contracts of chapter 6: what a storey needs from above. -/
import Derived.Test.YtmaidjankakppaaK19
namespace Go.Proofs.Ytmaidjankakppaa

/-- The numbers of a shape at a square, the last two; and what the storey needs from above. -/
def shQ (ms ks : List Int) (q : Rat) : Nat → Rat × Rat
  | 0 => (0, 1)
  | i + 1 => ((shQ ms ks q i).2, (shQ ms ks q i).2 + (((ks[i]?.getD 0 : Int) : Rat) * ((shQ ms ks q i).2 - (shQ ms ks q i).1) - q * ((ms[i]?.getD 0 : Int) : Rat) * (shQ ms ks q i).2) / ((ks[i + 1]?.getD 0 : Int) : Rat))
def pullQ (ms ks : List Int) (q : Rat) (i : Nat) : Rat := ((ks[i]?.getD 0 : Int) : Rat) * ((shQ ms ks q i).2 - (shQ ms ks q i).1) - q * ((ms[i]?.getD 0 : Int) : Rat) * (shQ ms ks q i).2
theorem shQ_succ (ms ks : List Int) (q : Rat) (i : Nat) : (shQ ms ks q (i + 1)).2 = (shQ ms ks q i).2 + pullQ ms ks q i / ((ks[i + 1]?.getD 0 : Int) : Rat) := rfl
def shQs (ms ks : List Int) (q : Rat) (n : Nat) : List Rat := (List.range n).map (fun i => (shQ ms ks q i).2)
/-- The program's. -/
def shDen (ks : List Int) (den : Int) : Nat → Int
  | 0 => 1
  | i + 1 => shDen ks den i * (den * ks[i + 1]?.getD 0)
def pullI (ms ks : List Int) (num den : Int) (ps : List Int) (i : Nat) : Int := den * ks[i]?.getD 0 * (ps[i]?.getD 0 - (if i = 0 then 0 else ps[i - 1]?.getD 0)) - num * ms[i]?.getD 0 * ps[i]?.getD 0
def shP (ms ks : List Int) (num den : Int) : Nat → List Int
  | 0 => [1]
  | i + 1 => (shP ms ks num den i).map (fun p => p * (den * ks[i + 1]?.getD 0)) ++ [(shP ms ks num den i)[i]?.getD 0 * (den * ks[i + 1]?.getD 0) + pullI ms ks num den (shP ms ks num den i) i]
theorem shP_len (ms ks : List Int) (num den : Int) (i : Nat) : (shP ms ks num den i).length = i + 1 := by
  induction i with
  | zero => rfl
  | succ i ih => rw [shP, List.length_append, List.length_map, ih]; rfl
theorem shP_get (ms ks : List Int) (num den : Int) (i j : Nat) (hj : j ≤ i) : (shP ms ks num den (i + 1))[j]?.getD 0 = (shP ms ks num den i)[j]?.getD 0 * (den * ks[i + 1]?.getD 0) := by
  rw [shP, List.getElem?_append_left (by rw [List.length_map, shP_len]; omega), List.getElem?_map]
  have : j < (shP ms ks num den i).length := by rw [shP_len]; omega
  rw [List.getElem?_eq_getElem this]
  rfl
theorem shP_last (ms ks : List Int) (num den : Int) (i : Nat) : (shP ms ks num den (i + 1))[i + 1]?.getD 0 = (shP ms ks num den i)[i]?.getD 0 * (den * ks[i + 1]?.getD 0) + pullI ms ks num den (shP ms ks num den i) i := by
  rw [shP, List.getElem?_append_right (by rw [List.length_map, shP_len]; omega), List.length_map, shP_len]
  simp

theorem pullI_bd {ms ks : List Int} {num den : Int} {ps : List Int} {i : Nat} {M : Int} (hq : Sq num den) (hk : 1 ≤ ks[i]?.getD 0 ∧ ks[i]?.getD 0 ≤ 20) (hm : 1 ≤ ms[i]?.getD 0 ∧ ms[i]?.getD 0 ≤ 10) (hM : 0 ≤ M)
    (h1 : -M ≤ ps[i]?.getD 0 ∧ ps[i]?.getD 0 ≤ M) (h2 : -M ≤ ps[i - 1]?.getD 0 ∧ ps[i - 1]?.getD 0 ≤ M) :
    (0 ≤ den * ks[i]?.getD 0 ∧ den * ks[i]?.getD 0 ≤ 2000) ∧ (-40000 ≤ num * ms[i]?.getD 0 ∧ num * ms[i]?.getD 0 ≤ 40000) ∧ (-(4000 * M) ≤ den * ks[i]?.getD 0 * (ps[i]?.getD 0 - (if i = 0 then 0 else ps[i - 1]?.getD 0)) ∧ den * ks[i]?.getD 0 * (ps[i]?.getD 0 - (if i = 0 then 0 else ps[i - 1]?.getD 0)) ≤ 4000 * M) ∧
    (-(40000 * M) ≤ num * ms[i]?.getD 0 * ps[i]?.getD 0 ∧ num * ms[i]?.getD 0 * ps[i]?.getD 0 ≤ 40000 * M) ∧ (-(44000 * M) ≤ pullI ms ks num den ps i ∧ pullI ms ks num den ps i ≤ 44000 * M) := by
  obtain ⟨q1, q2, q3, q4⟩ := hq
  have e1 := mul_bd2 (a := den) (x := ks[i]?.getD 0) (A := 100) (C := 20) (by omega) (by omega) (by omega) (by omega)
  have e1' : 0 ≤ den * ks[i]?.getD 0 := Int.mul_nonneg (by omega) (by omega)
  have e2 := mul_bd2 (a := num) (x := ms[i]?.getD 0) (A := 4000) (C := 10) (by omega) (by omega) (by omega) (by omega)
  unfold pullI
  generalize hx : ps[i]?.getD 0 - (if i = 0 then 0 else ps[i - 1]?.getD 0) = x
  have hxb : -(2 * M) ≤ x ∧ x ≤ 2 * M := by
    rw [← hx]
    split <;> omega
  generalize den * ks[i]?.getD 0 = a at *
  generalize num * ms[i]?.getD 0 = b at *
  generalize ps[i]?.getD 0 = p at *
  have e3 := mul_bd2 (a := a) (x := x) (A := 2000) (C := 2 * M) (by omega) (by omega) hxb.1 hxb.2
  have e4 := mul_bd2 (a := b) (x := p) (A := 40000) (C := M) (by omega) (by omega) h1.1 h1.2
  have e5 : 2000 * (2 * M) = 4000 * M := by omega
  rw [e5] at e3
  generalize a * x = y at *
  generalize b * p = z at *
  omega

theorem shDen_bd {ks : List Int} {den : Int} {n : Nat} (h1 : 1 ≤ den) (h2 : den ≤ 100) (hk : ∀ j, j < n → 1 ≤ ks[j]?.getD 0 ∧ ks[j]?.getD 0 ≤ 20) (i : Nat) (hi : i < n) : 1 ≤ shDen ks den i ∧ shDen ks den i ≤ 2000 ^ i := by
  induction i with
  | zero => simp [shDen]
  | succ i ih =>
    obtain ⟨a1, a2⟩ := ih (by omega)
    obtain ⟨k1, k2⟩ := hk (i + 1) hi
    have e1 := mul_bd2 (a := den) (x := ks[i + 1]?.getD 0) (A := 100) (C := 20) (by omega) (by omega) (by omega) (by omega)
    have e2 : 1 ≤ den * ks[i + 1]?.getD 0 := by have := Int.mul_le_mul h1 k1 (by omega) (by omega); omega
    show 1 ≤ shDen ks den i * _ ∧ shDen ks den i * _ ≤ _
    refine ⟨?_, ?_⟩
    · have := Int.mul_le_mul a1 e2 (by omega) (by omega)
      omega
    · rw [Int.pow_succ]
      exact Int.mul_le_mul a2 (by omega) (by omega) (by have : (0 : Int) ≤ 2000 ^ i := Int.pow_nonneg (by omega); omega)
theorem shP_bd {ms ks : List Int} {num den : Int} {n : Nat} (hq : Sq num den) (hk : ∀ j, j < n → 1 ≤ ks[j]?.getD 0 ∧ ks[j]?.getD 0 ≤ 20) (hm : ∀ j, j < n → 1 ≤ ms[j]?.getD 0 ∧ ms[j]?.getD 0 ≤ 10) (i : Nat) (hi : i < n) (j : Nat) :
    -(46000 ^ i) ≤ (shP ms ks num den i)[j]?.getD 0 ∧ (shP ms ks num den i)[j]?.getD 0 ≤ 46000 ^ i := by
  induction i generalizing j with
  | zero =>
    rcases j with _ | j
    · simp [shP]
    · simp [shP]
  | succ i ih =>
    obtain ⟨q1, q2, q3, q4⟩ := hq
    obtain ⟨k1, k2⟩ := hk (i + 1) hi
    have e1 := mul_bd2 (a := den) (x := ks[i + 1]?.getD 0) (A := 100) (C := 20) (by omega) (by omega) (by omega) (by omega)
    have hM : (0 : Int) ≤ 46000 ^ i := Int.pow_nonneg (by omega)
    have hP : (46000 : Int) ^ (i + 1) = 46000 ^ i * 46000 := Int.pow_succ ..
    have ei := fun j => ih (by omega) j
    generalize (46000 : Int) ^ i = M at *
    rw [hP]
    rcases Nat.lt_trichotomy j (i + 1) with h | h | h
    · rw [shP_get _ _ _ _ _ _ (by omega)]
      have := mul_bd2 (a := (shP ms ks num den i)[j]?.getD 0) (x := den * ks[i + 1]?.getD 0) (A := M) (C := 2000) (ei j).1 (ei j).2 (by omega) (by omega)
      omega
    · subst h
      rw [shP_last]
      have h1 := mul_bd2 (a := (shP ms ks num den i)[i]?.getD 0) (x := den * ks[i + 1]?.getD 0) (A := M) (C := 2000) (ei i).1 (ei i).2 (by omega) (by omega)
      have h2 := (pullI_bd (ms := ms) (ks := ks) (num := num) (den := den) (ps := shP ms ks num den i) (i := i) (M := M) ⟨q1, q2, q3, q4⟩ (hk i (by omega)) (hm i (by omega)) hM (ei i) (ei (i - 1))).2.2.2.2
      omega
    · rw [List.getElem?_eq_none (by rw [shP_len]; omega)]
      simp
      omega

theorem shQ_fst (ms ks : List Int) (q : Rat) (i : Nat) : (shQ ms ks q (i + 1)).1 = (shQ ms ks q i).2 := rfl
theorem rat_ne {k : Int} (h : k ≠ 0) : (k : Rat) ≠ 0 := by
  intro h2
  exact h (by simpa using h2)
theorem pull_rel {ms ks : List Int} {num den : Int} (hd : 0 < den) (i : Nat) (D : Int) (ps : List Int) (h : ∀ j, j ≤ i → (ps[j]?.getD 0 : Rat) = (shQ ms ks (Rat.divInt num den) j).2 * (D : Rat)) :
    (pullI ms ks num den ps i : Rat) = (den : Rat) * (D : Rat) * pullQ ms ks (Rat.divInt num den) i := by
  have hq : Rat.divInt num den * (den : Rat) = (num : Rat) := by
    rw [Rat.divInt_eq_div]
    have := rat_ne (k := den) (by omega)
    grind
  unfold pullI pullQ
  have h1 := h i (by omega)
  have h2 : ((if i = 0 then 0 else ps[i - 1]?.getD 0 : Int) : Rat) = (shQ ms ks (Rat.divInt num den) i).1 * (D : Rat) := by
    rcases i with _ | i
    · simp [shQ]
    · rw [if_neg (by omega), Nat.add_sub_cancel, shQ_fst]
      exact h i (by omega)
  generalize (shQ ms ks (Rat.divInt num den) i).1 = b at *
  generalize (shQ ms ks (Rat.divInt num den) i).2 = u at *
  generalize (if i = 0 then 0 else ps[i - 1]?.getD 0 : Int) = x at *
  generalize ps[i]?.getD 0 = p at *
  generalize ks[i]?.getD 0 = k at *
  generalize ms[i]?.getD 0 = m at *
  generalize Rat.divInt num den = q at *
  push_cast
  rw [h1, h2, ← hq]
  grind
theorem shP_rel {ms ks : List Int} {num den : Int} {n : Nat} (hd : 0 < den) (hk : ∀ j, j < n → 1 ≤ ks[j]?.getD 0 ∧ ks[j]?.getD 0 ≤ 20) (i : Nat) (hi : i < n) (j : Nat) (hj : j ≤ i) :
    ((shP ms ks num den i)[j]?.getD 0 : Rat) = (shQ ms ks (Rat.divInt num den) j).2 * (shDen ks den i : Rat) := by
  induction i generalizing j with
  | zero =>
    obtain rfl : j = 0 := by omega
    simp [shP, shQ, shDen]
  | succ i ih =>
    have ih' := fun j hj => ih (by omega) j hj
    rcases (by omega : j ≤ i ∨ j = i + 1) with h | rfl
    · rw [shP_get _ _ _ _ _ _ h, shDen, Rat.intCast_mul, Rat.intCast_mul _ (den * _), ih' j h]
      grind
    · rw [shP_last, shDen, Rat.intCast_add, Rat.intCast_mul, Rat.intCast_mul _ (den * _), ih' i (by omega), pull_rel hd i (shDen ks den i) _ ih', shQ_succ, Rat.intCast_mul]
      have hk' := hk (i + 1) hi
      have := rat_ne (k := ks[i + 1]?.getD 0) (by omega)
      generalize ((ks[i + 1]?.getD 0 : Int) : Rat) = k at *
      generalize pullQ ms ks (Rat.divInt num den) i = P at *
      grind
theorem pull_sign {ms ks : List Int} {num den : Int} {n : Nat} (hd1 : 1 ≤ den) (hd2 : den ≤ 100) (hk : ∀ j, j < n → 1 ≤ ks[j]?.getD 0 ∧ ks[j]?.getD 0 ≤ 20) (i : Nat) (hi : i < n) :
    (pullQ ms ks (Rat.divInt num den) i).num.sign = (pullI ms ks num den (shP ms ks num den i) i).sign := by
  have h := pull_rel (ms := ms) (ks := ks) (num := num) (den := den) (by omega) i (shDen ks den i) (shP ms ks num den i) (fun j hj => shP_rel (by omega) hk i hi j hj)
  have hD := (shDen_bd hd1 hd2 hk i hi).1
  refine sign_of_mul (P := (den : Rat) * (shDen ks den i : Rat)) ?_ h
  rw [← Rat.intCast_mul]
  have : 0 < den * shDen ks den i := Int.mul_pos (by omega) (by omega)
  exact_mod_cast this

/-- Numbers over their smallest common denominator; parts over a denominator, in lowest terms. -/
def comQ (qs : List Rat) : List Int := qs.map (fun q => (q * (lcmQ qs : Rat)).num / ((q * (lcmQ qs : Rat)).den : Int))
def lowG (ps : List Int) (d : Int) : Nat := gcds (ps ++ [d])
theorem common_low (ps : List Int) (d : Int) (hd : 1 ≤ d) (qs : List Rat) (hq : qs = ps.map (fun p => Rat.divInt p d)) :
    (lcmQ qs : Int) = d.tdiv (lowG ps d) ∧ comQ qs = ps.map (fun p => p.tdiv (lowG ps d)) ∧ 0 < lowG ps d ∧ lcmQ qs ≤ d.toNat := by
  obtain ⟨n, rfl⟩ := Int.eq_ofNat_of_zero_le (show 0 ≤ d by omega)
  have hn : 0 < n := by omega
  have hl := common_den ps n hn
  rw [← hq] at hl
  have hg := gcds_pos (l := ps ++ [(n : Int)]) (p := (n : Int)) (by simp) (by omega)
  have hgd : gcds (ps ++ [(n : Int)]) ∣ n := by
    have := gcds_dvd_mem (l := ps ++ [(n : Int)]) (p := (n : Int)) (by simp)
    exact Int.natCast_dvd_natCast.1 this
  refine ⟨?_, ?_, hg, ?_⟩
  · rw [hl, Int.tdiv_eq_ediv_of_nonneg (by omega)]
    rfl
  · unfold comQ
    rw [hl]
    unfold lowG
    rw [hq, List.map_map]
    refine List.map_congr_left fun p hp => ?_
    have hpd := gcds_dvd_mem (l := ps ++ [(n : Int)]) (p := p) (by simp [hp])
    exact rat_floor (common_part p n _ hn hgd hpd)
  · rw [hl]
    exact Nat.le_trans (Nat.div_le_self _ _) (by simp)
theorem parts_eq {ps : List Int} {d : Int} {qs : List Rat} (hd : 1 ≤ d) (hl : ps.length = qs.length) (h : ∀ j : Nat, j < qs.length → (ps[j]?.getD 0 : Rat) = (qs[j]?.getD 0) * (d : Rat)) : qs = ps.map (fun p => Rat.divInt p d) := by
  refine List.ext_getElem (by simpa using hl.symm) fun j h1 h2 => ?_
  rw [List.getElem_map]
  have := h j h1
  rw [List.getElem?_eq_getElem h1, List.getElem?_eq_getElem (by omega)] at this
  simp only [Option.getD_some] at this
  rw [Rat.divInt_eq_div, this]
  have := rat_ne (k := d) (by omega)
  grind
theorem shQs_low {ms ks : List Int} {num den : Int} {n : Nat} (hd1 : 1 ≤ den) (hd2 : den ≤ 100) (hk : ∀ j, j < n + 1 → 1 ≤ ks[j]?.getD 0 ∧ ks[j]?.getD 0 ≤ 20) :
    shQs ms ks (Rat.divInt num den) (n + 1) = (shP ms ks num den n).map (fun p => Rat.divInt p (shDen ks den n)) := by
  refine parts_eq (shDen_bd hd1 hd2 hk n (by omega)).1 (by rw [shP_len]; simp [shQs]) fun j hj => ?_
  have hj' : j < n + 1 := by simpa [shQs] using hj
  rw [shP_rel (by omega) hk n (by omega) j (by omega)]
  unfold shQs
  rw [List.getElem?_map, List.getElem?_range hj']
  rfl
def swQs (ks ls : List Int) (n : Nat) : List Rat := (List.range n).map (fun i => swQ ks ls n (i + 1))
def swPs (ks ls : List Int) (n : Nat) : List Int := (List.range n).map (fun i => swP ks ls n (prodK ks n) (i + 1))
theorem swQs_low {ks ls : List Int} {n : Nat} (hk : ∀ j, j < n → 1 ≤ ks[j]?.getD 0 ∧ ks[j]?.getD 0 ≤ 20) : swQs ks ls n = (swPs ks ls n).map (fun p => Rat.divInt p (prodK ks n)) := by
  refine parts_eq (prodK_bd hk n (Nat.le_refl _)).1 (by simp [swQs, swPs]) fun j hj => ?_
  have hj' : j < n := by simpa [swQs] using hj
  unfold swQs swPs
  rw [List.getElem?_map, List.getElem?_map, List.getElem?_range hj']
  exact swP_swQ ks ls n hk (j + 1) (by omega)
end Go.Proofs.Ytmaidjankakppaa

namespace Go.Calmly
theorem wpOps_list {P : Program} {ops : Array Oper} {Q : Exit → Act → World → Prop} (l : List Nat) : wpOps P ops Q l = wpList P ops Q (l.filterMap (fun i => ops[i]?)) := by
  induction l with
  | nil => funext a w; simp [wpOps, wpList]
  | cons i l ih =>
    funext a w
    cases h : ops[i]? with
    | none => simp only [wpOps, h, List.filterMap_cons, ih]
    | some o => simp only [wpOps, h, List.filterMap_cons, ih, wpList]
/-- The next operation of the tail is one that may have no room: an append. -/
theorem mix_tail_app {P : Program} {ops : Array Oper} {Q : Exit → Act → World → Prop} {w0 : World} {i : Nat} {l : List Nat} {dst : Option Tmp} {op : Op} {ty : TypeId} {pos : String} {after : Array Edge} {a : Act} {w : World} (hi : ops[i]? = some ⟨dst, op, ty, pos, after, none⟩)
    (h : ∀ rest, (∀ a' w', WpMix P ops Q w0 (.tail l) a' w' → wpList P ops Q rest a' w') → wpList P ops Q (⟨dst, op, ty, pos, after, none⟩ :: rest) a w) : WpMix P ops Q w0 (.tail (i :: l)) a w := by
  refine ⟨?_⟩
  show wpOps P ops Q (i :: l) a w
  rw [wpOps_list, List.filterMap_cons, hi]
  refine h _ fun a' w' hh => ?_
  have := hh.out
  rw [← wpOps_list]
  exact this
end Go.Calmly
namespace Go.Proofs.Ytmaidjankakppaa
open Go.RowKit
open Calmly (Kept)

/-- An append to a row of numbers, the world being that of the new number up to what is drawn. -/
theorem appIw {ops : Array Oper} {rest : List Oper} {o : Oper} {a : Act} {Q : Exit → Act → World → Prop} {Wx : World} (w0 : World) {B : Nat} {av : Option Addr} {n c : Nat} {xs : List Int} {v : Int}
    (hW : Wx = w0.alloc (.cells #[.int .i64 v] 3)) (hgd : o.guard = none) (s x : Operand)
    (ho : o.op = .call { callee := .builtin .append, args := #[s, x], argTypes := #[22, 22] })
    (hown : OwI w0 B av n c xs) (hs : a.eval s = .slice av n c) (hx : a.eval x = .slice (some ⟨w0.heap.size, 0, none⟩) 1 1)
    (hb1 : n + 1 ≤ 17592186044416) (hB : B ≤ w0.heap.size)
    (h : ∀ a' c' w', OwI w' B a' (n + 1) c' (xs ++ [v]) → Below B w0 w' → w0.heap.size < w'.heap.size → wpList Try.prog ops Q rest (a.put o.dst (.slice a' (n + 1) c')) w') :
    wpList Try.prog ops Q (o :: rest) a Wx := by
  subst hW
  exact appI hgd s x ho hown hs hx hb1 hB h

set_option maxRecDepth 100000 in
set_option maxHeartbeats 2000000 in
theorem shape_any (a : Option Addr) (n c : Nat) (ps : List Int) (D : Int) (w : World) (h1 : SI w a n c ps) (hn : 0 < n) (hn4 : n ≤ 4) (hD : 1 ≤ D) (hD2 : D ≤ 9223372036854775807) (hb : ∀ x ∈ ps, -9223372036854775807 ≤ x ∧ x ≤ 9223372036854775807) (x : Int) (xs : List Int) (hx : D.tdiv (lowG ps D) = x) (hxs : ps.map (fun p => p.tdiv (lowG ps D)) = xs) :
    Calls Try.prog 121 #[.slice a n c, .int .i64 D] w fun e w' => ∃ a' c' B, e = .returned (.agg #[.int .i64 x, .slice a' n c']) ∧ OwI w' B a' n c' xs ∧ w.heap.size ≤ B ∧ Below w.heap.size w w' := by
  have hA : Below w.heap.size w (w.alloc (.cells #[.int .i64 0, .slice none 0 0] 117)) := (Below.refl _ _).alloc (Nat.le_refl _) _
  obtain ⟨l1, l2⟩ : n ≤ ps.length ∧ ps.length ≤ n := by have := h1.len; omega
  have m1 := h1.max
  have c1 := h1.cap
  have HXS := Lib.hid hxs
  have HX := Lib.hid hx
  clear hxs hx
  go_enter Try.func121, Try.ntmps121
  go_wp2_with fail
  refine (clone_any a n c ps _ (h1.keep hA) (by omega) hn).mono ?_
  rintro e w1 ⟨a1, c1', rfl, ho1, hb1⟩
  have B1 := hA.trans (hb1.mono (by simp))
  have x1 := box1 (w := w) (o := .cells #[.int .i64 0, .slice none 0 0] 117) hb1
  clear hb1
  have hs1 : w.heap.size + 1 ≤ w1.heap.size := by have := blk_lt x1; omega
  replace ho1 := ho1.weak (B' := w.heap.size + 1) (by simp)
  go_wp2_with (first | (at_builtin; refine appI rfl _ _ rfl ho1 rfl rfl (by omega) (by omega) ?_; intro a2 c2 w2 ho2 hb2 hs2))
  refine (divisor_any a2 (n + 1) c2 (ps ++ [D]) _ ho2.si ?_).mono ?_
  · intro y hy
    rcases List.mem_append.1 hy with hy | hy
    · exact hb y hy
    · simp at hy
      omega
  rintro e w3 ⟨rfl, k3, hw3⟩
  have B3 : Below w.heap.size w w3 := by
    subst hw3
    exact below_drewN (B1.trans (hb2.mono (by omega))) k3
  have hs3 : w.heap.size + 1 ≤ w3.heap.size := by
    subst hw3
    show _ ≤ w2.heap.size
    omega
  have x3 : w3.heap[w.heap.size]? = some (.cells #[.int .i64 0, .slice none 0 0] 117) := by
    subst hw3
    exact (hb2.block _ (by omega)).trans x1
  clear hw3 x1 B1 hb2 ho2 ho1
  obtain ⟨g, hg⟩ : ∃ g : Nat, gcds (ps ++ [D]) = g := ⟨_, rfl⟩
  have hgp : 0 < g := by rw [← hg]; exact gcds_pos (p := D) (by simp) (by omega)
  have hgd : (g : Int) ∣ D := by rw [← hg]; exact gcds_dvd_mem (by simp)
  rw [hg]
  have HG : Hid (lowG ps D = g) := Lib.hid hg
  clear hg
  have hg0 : ((g : Int) == 0) = false := by rw [beq_eq_false_iff_ne]; omega
  have hg1 : (g : Int) ≠ 0 := by omega
  have hg2 : (g : Int) ≤ D := Int.le_of_dvd (by omega) hgd
  have hs3' : w.heap.size ≤ w3.heap.size := by omega
  go_wp2_with fail
  have B4 := B3.alloc hs3' (.cells #[.int .i64 (D / (g : Int)), .slice none 0 0] 117)
  have x4 : (w3.alloc (.cells #[.int .i64 (D / (g : Int)), .slice none 0 0] 117)).heap[w.heap.size]? = some (.cells #[.int .i64 0, .slice none 0 0] 117) := blk_keep x3 ((Below.refl _ _).alloc (Nat.le_refl _) _)
  have y4 := alloc_new w3 (.cells #[.int .i64 (D / (g : Int)), .slice none 0 0] 117)
  have hxd : D / (g : Int) = x := by
    rw [← HX.out, HG.out, Int.tdiv_eq_ediv_of_nonneg (by omega)]
  rw [hxd] at B4 x4 y4 ⊢
  obtain ⟨b6, hb6⟩ : ∃ v, w3.heap.size = v := ⟨_, rfl⟩
  rw [hb6] at y4 hs3 ⊢
  refine wp_gen (fun v => Below w.heap.size w v ∧ v.heap[w.heap.size]? = some (.cells #[.int .i64 0, .slice none 0 0] 117) ∧ v.heap[b6]? = some (.cells #[.int .i64 x, .slice none 0 0] 117)) ⟨B4, x4, y4⟩ ?_
  clear B4 x4 y4 hxd B3 x3 hb6 hs3' HX
  rintro v ⟨B4, x4, y4⟩
  have hv6 := blk_lt y4
  go_loopw [21] (fun z wr => ∃ (k c' : Nat) (a' : Option Addr), z = .int .i64 (k : Int) ∧ k ≤ n ∧ Below b6 v wr ∧ wr.heap[b6]? = some (.cells #[.int .i64 x, .slice a' k c'] 117) ∧ OwI wr (b6 + 1) a' k c' ((ps.take k).map (fun p => p.tdiv g))) (fun z _ => n - (intOf z).toNat)
  case atStart => exact ⟨0, 0, none, rfl, by omega, Below.refl _ _, y4, by simpa using OwI.nil _ _⟩
  case round =>
    obtain ⟨k, c', a', rfl, hk0, hbr, yr, hown⟩ := hrel
    have Bw := B4.trans (hbr.mono (by omega))
    have f0 := cell_block yr 0
    have f1 := cell_block yr 1
    have f2 := frozen_block yr 1
    have hbl := blk_lt yr
    by_cases hlt : k < n
    · obtain ⟨ba, oa, rfl, hca⟩ := (h1.keep Bw).at_ (by omega)
      have ea := hca k hlt
      have hpk : ps[k]?.getD 0 ∈ ps := by
        have : k < ps.length := by omega
        rw [List.getElem?_eq_getElem this]
        exact List.getElem_mem this
      have hpb := hb _ hpk
      have hnext : (ps.take (k + 1)).map (fun p => p.tdiv g) = (ps.take k).map (fun p => p.tdiv g) ++ [(ps[k]?.getD 0).tdiv g] := by
        have : k < ps.length := by omega
        rw [List.take_succ_eq_append_getElem this, List.map_append, List.getElem?_eq_getElem this]
        rfl
      obtain ⟨pv, hpv⟩ : ∃ z, ps[k]?.getD 0 = z := ⟨_, rfl⟩
      rw [hpv] at ea hpb hnext
      have HN := Lib.hid hnext
      clear hca hpk hpv hnext
      have hi : (k : Int) < (n : Int) := by omega
      have hi0 : (0 : Int) ≤ (k : Int) := by omega
      go_wp2_with fail
      refine Calmly.wp_region_mix 6 (.fl 0 <| .fl 1 <| .fl 2 <| .fl 3 <| .fl 4 <| .eff 5 <| .tail [6, 7, 8]) (by kernel_rfl) (by kernel_rfl) ?_
      replace yr : wr.drew.heap[b6]? = some (.cells #[.int .i64 x, .slice a' k c'] 117) := yr
      replace ea : wr.drew.cell? ⟨ba, oa + k, none⟩ = some (.int .i64 pv) := ea
      replace hown : OwI wr.drew (b6 + 1) a' k c' ((ps.take k).map (fun p => p.tdiv g)) := hown.drew
      replace hbr := hbr.drew
      replace hbl : b6 < wr.drew.heap.size := hbl
      clear f0 f1 f2 Bw
      generalize wr.drew = V at *
      have f0 := cell_block yr 0
      have f1 := cell_block yr 1
      have hk := Below.refl V.heap.size V
      go_wp2_with (first | ((with_reducible refine Calmly.is_tail ?_); refine Calmly.mix_tail_app rfl (fun rest hrest => ?_); refine appIw V rfl rfl _ _ rfl hown rfl rfl (by omega) (by omega) ?_; intro a2' c2' w5 ho5 hb5 hs5; refine hrest _ _ ?_; have y5 := (hb5.block b6 (by omega)).trans yr; have f3 := cell_block y5 1; have f4 := frozen_block y5 1) | ((with_reducible refine Calmly.is_fl ?_); refine Calmly.mix_fl rfl ?_ (fun _ _ => ?_); (first | exact .move _ | exact .load _ _ | exact .fieldAddr _ _ _ (by kernel_rfl) | exact .assign _ | exact .binOp _ _ _ _ _ rfl | exact .indexAddr _ _ _ | exact .len _ _ (by kernel_rfl) | exact .field _ _ _ | exact .extract _ _ | exact .pick _ _ _ | exact .build _ _ | exact .slice _ _ _ _ _ | exact .unOp _ _ _ rfl | exact .index _ _ _ | exact .max _ _ _ rfl rfl | exact .min _ _ _ rfl rfl)) | ((with_reducible refine Calmly.is_gl ?_); refine Calmly.mix_gl rfl rfl rfl ?_; first | ((first | with_reducible refine Calmly.gl_tt ?_ (fun _ _ => ?_) | with_reducible refine Calmly.gl_ff ?_ (fun _ _ => ?_)); (first | exact .move _ | exact .load _ _ | exact .fieldAddr _ _ _ (by kernel_rfl) | exact .assign _ | exact .binOp _ _ _ _ _ rfl | exact .indexAddr _ _ _ | exact .len _ _ (by kernel_rfl) | exact .field _ _ _ | exact .extract _ _ | exact .pick _ _ _ | exact .build _ _ | exact .slice _ _ _ _ _ | exact .unOp _ _ _ rfl | exact .index _ _ _ | exact .max _ _ _ rfl rfl | exact .min _ _ _ rfl rfl)) | with_reducible refine Calmly.gl_tf (fun _ _ => ?_) | with_reducible refine Calmly.gl_ft (fun _ _ => ?_)) | ((with_reducible refine Calmly.is_eff ?_); refine Calmly.mix_eff rfl (fun _ _ => ?_)) | ((with_reducible refine Calmly.is_gf ?_); refine Calmly.mix_gf rfl rfl rfl ?_; first | with_reducible refine Calmly.gf_tt (fun _ _ => ?_) | with_reducible refine Calmly.gf_ff (fun _ _ => ?_) | with_reducible refine Calmly.gf_tf (kept_of hk) (fun _ _ => ?_) | with_reducible refine Calmly.gf_ft (kept_of hk) (fun _ _ => ?_)) | ((with_reducible refine Calmly.is_tail ?_); first | refine Calmly.mix_tail_nil ?_ | refine Calmly.mix_tail rfl (fun _ _ => ?_)) | ((with_reducible refine Calmly.is_kept ?_); refine ⟨kept_of hk, ?_⟩) | (with_reducible refine Calmly.mix_alt ?_ ?_) | (refine kept_alloc hk (fun hk' hblk hge => ?_); replace hk := hk'; clear hk'))
      go_roundw
      case rel =>
        refine ⟨k + 1, c2', a2', by go_num, by omega, (hbr.trans (hb5.mono (by omega))).setCell (by simp) _, blk_setAt y5 1 _, ?_⟩
        rw [HN.out]
        exact ho5.under (by omega) _
      case measure => simp [intOf]; omega
    · have hle : (n : Int) ≤ (k : Int) := by omega
      obtain rfl : k = n := by omega
      have xr : wr.heap[w.heap.size]? = some (.cells #[.int .i64 0, .slice none 0 0] 117) := (hbr.block _ (by omega)).trans x4
      have t0 := cell_block xr 0
      have t1 := cell_block xr 1
      have t2 := frozen_block xr 0
      have t3 := frozen_block xr 1
      go_wp2_with fail
      obtain ⟨s1, s2, s3, s4⟩ := set2 (x := .int .i64 x) (y := .slice a' k c') t0 t1
      refine bodyPost_ret (v := .agg #[.int .i64 x, .slice a' k c']) (by simp [results, Try.results121, go_sem, s1, s2]) rfl ⟨a', c', b6 + 1, rfl, ?_, by omega, (Bw.setCell (by simp) _).setCell (by simp) _⟩
      rw [← HXS.out, HG.out]
      rw [List.take_of_length_le (by omega)] at hown
      exact hown.under2 (by omega) _ _
end Go.Proofs.Ytmaidjankakppaa

namespace Go.Proofs.Ytmaidjankakppaa
open Go.RowKit
open Calmly (Kept)

set_option maxRecDepth 100000 in
set_option maxHeartbeats 2000000 in
theorem pull_any (bp bs bf : Nat) (a b p : Option Addr) (n c m d k e : Nat) (ms ks ps : List Int) (num den : Int) (i : Nat) (w : World) (M : Int)
    (hp : w.heap[bp]? = some (.cells #[.slice p k e] 22)) (hs : w.heap[bs]? = some (.cells #[.int .i64 num, .int .i64 den] 34)) (hf : w.heap[bf]? = some (.cells #[.slice a n c, .slice b m d] 141))
    (h1 : SI w a n c ms) (h2 : SI w b m d ks) (h3 : SI w p k e ps) (hik : i < k) (hin : i < n) (him : i < m) (hq : Sq num den) (hk : 1 ≤ ks[i]?.getD 0 ∧ ks[i]?.getD 0 ≤ 20) (hm : 1 ≤ ms[i]?.getD 0 ∧ ms[i]?.getD 0 ≤ 10)
    (hM : 0 ≤ M) (hM2 : M ≤ 97336000000000) (hps : ∀ j : Nat, -M ≤ ps[j]?.getD 0 ∧ ps[j]?.getD 0 ≤ M) :
    Calls Try.prog 122 #[.int .i64 (i : Int), .pointer (some ⟨bp, 0, none⟩), .pointer (some ⟨bs, 0, none⟩), .pointer (some ⟨bf, 0, none⟩)] w fun e w' => e = .returned (.int .i64 (pullI ms ks num den ps i)) ∧ Below w.heap.size w w' := by
  obtain ⟨⟨b1, b2⟩, ⟨b3, b4⟩, ⟨b5, b6⟩, ⟨b7, b8⟩, b9, b10⟩ := pullI_bd (ms := ms) (ks := ks) (num := num) (den := den) (ps := ps) (i := i) (M := M) hq hk hm hM (hps i) (hps (i - 1))
  have c1 := h1.cap
  have c2 := h2.cap
  have c3 := h3.cap
  have m1 := h1.max
  have m2 := h2.max
  have m3 := h3.max
  obtain ⟨ba, oa, rfl, hca⟩ := h1.at_ (by omega)
  obtain ⟨bb, ob, rfl, hcb⟩ := h2.at_ (by omega)
  obtain ⟨bq, oq, rfl, hcq⟩ := h3.at_ (by omega)
  have e1 := hca i hin
  have e2 := hcb i him
  have e3 := hcq i hik
  have f1 := cell_block hp 0
  have f2 := cell_block hs 0
  have f3 := cell_block hs 1
  have f4 := cell_block hf 0
  have f5 := cell_block hf 1
  have q1 := hps i
  have q2 := hps (i - 1)
  obtain ⟨R, hR⟩ : ∃ R, pullI ms ks num den ps i = R := ⟨_, rfl⟩
  rw [hR] at b9 b10 ⊢
  have hI0 : (0 : Int) ≤ (i : Int) := by omega
  have hI1 : (i : Int) < (k : Int) := by omega
  have hI2 : (i : Int) < (n : Int) := by omega
  have hI3 : (i : Int) < (m : Int) := by omega
  obtain ⟨D, hD⟩ : ∃ D : Int, (if i = 0 then 0 else ps[i - 1]?.getD 0) = D := ⟨_, rfl⟩
  rw [hD] at b5 b6
  have hpull : den * ks[i]?.getD 0 * (ps[i]?.getD 0 - D) - num * ms[i]?.getD 0 * ps[i]?.getD 0 = R := by rw [← hD, ← hR]; rfl
  clear hR hps hca hcb hk hm
  generalize ks[i]?.getD 0 = kv at *
  generalize ms[i]?.getD 0 = mv at *
  generalize hpv : ps[i]?.getD 0 = pv at *
  have hdv : -M ≤ D ∧ D ≤ M := by
    rw [← hD]
    split <;> omega
  have HP := Lib.hid hpull
  clear hpull hpv
  have hfin : w = w → True := fun _ => trivial
  go_enter Try.func122, Try.ntmps122
  rcases Nat.eq_zero_or_pos i with hz | hz
  · have hz1 : ¬ 0 < (i : Int) := by omega
    rw [if_pos hz] at hD
    subst hD
    have hp0 := HP.out
    rw [Int.sub_zero] at b5 b6 hp0
    have HP2 := Lib.hid hp0
    clear hp0
    have HZ := Lib.hid hz
    clear hz hcq q2
    have hz2 : (i : Int) ≤ 0 := by omega
    go_wp2_with fail
    refine Calmly.wp_region_mix 28 (.fl 0 <| .fl 1 <| .fl 2 <| .fl 3 <| .fl 4 <| .fl 5 <| .fl 6 <| .fl 7 <| .fl 8 <| .fl 9 <| .fl 10 <| .fl 11 <| .fl 12 <| .fl 13 <| .fl 14 <| .fl 15 <| .fl 16 <| .fl 17 <| .fl 18 <| .fl 19 <| .fl 20 <| .fl 21 <| .fl 22 <| .fl 23 <| .fl 24 <| .fl 25 <| .fl 26 <| .fl 27 <| .tail [28, 29]) (by kernel_rfl) (by kernel_rfl) ?_
    have hk := Below.refl w.drew.heap.size w.drew
    go_wp2_with (first | ((with_reducible refine Calmly.is_fl ?_); refine Calmly.mix_fl rfl ?_ (fun _ _ => ?_); (first | exact .move _ | exact .load _ _ | exact .fieldAddr _ _ _ (by kernel_rfl) | exact .assign _ | exact .binOp _ _ _ _ _ rfl | exact .indexAddr _ _ _ | exact .len _ _ (by kernel_rfl) | exact .field _ _ _ | exact .extract _ _ | exact .pick _ _ _ | exact .build _ _ | exact .slice _ _ _ _ _ | exact .unOp _ _ _ rfl | exact .index _ _ _ | exact .max _ _ _ rfl rfl | exact .min _ _ _ rfl rfl)) | ((with_reducible refine Calmly.is_gl ?_); refine Calmly.mix_gl rfl rfl rfl ?_; first | ((first | with_reducible refine Calmly.gl_tt ?_ (fun _ _ => ?_) | with_reducible refine Calmly.gl_ff ?_ (fun _ _ => ?_)); (first | exact .move _ | exact .load _ _ | exact .fieldAddr _ _ _ (by kernel_rfl) | exact .assign _ | exact .binOp _ _ _ _ _ rfl | exact .indexAddr _ _ _ | exact .len _ _ (by kernel_rfl) | exact .field _ _ _ | exact .extract _ _ | exact .pick _ _ _ | exact .build _ _ | exact .slice _ _ _ _ _ | exact .unOp _ _ _ rfl | exact .index _ _ _ | exact .max _ _ _ rfl rfl | exact .min _ _ _ rfl rfl)) | with_reducible refine Calmly.gl_tf (fun _ _ => ?_) | with_reducible refine Calmly.gl_ft (fun _ _ => ?_)) | ((with_reducible refine Calmly.is_eff ?_); refine Calmly.mix_eff rfl (fun _ _ => ?_)) | ((with_reducible refine Calmly.is_gf ?_); refine Calmly.mix_gf rfl rfl rfl ?_; first | with_reducible refine Calmly.gf_tt (fun _ _ => ?_) | with_reducible refine Calmly.gf_ff (fun _ _ => ?_) | with_reducible refine Calmly.gf_tf (kept_of hk) (fun _ _ => ?_) | with_reducible refine Calmly.gf_ft (kept_of hk) (fun _ _ => ?_)) | ((with_reducible refine Calmly.is_tail ?_); first | refine Calmly.mix_tail_nil ?_ | refine Calmly.mix_tail rfl (fun _ _ => ?_)) | ((with_reducible refine Calmly.is_kept ?_); refine ⟨kept_of hk, ?_⟩) | (with_reducible refine Calmly.mix_alt ?_ ?_))
    go_ret
    exact ⟨ret_int HP2.out, Below.drew (Below.refl _ _)⟩
  · rw [if_neg (by omega)] at hD
    have e4 := hcq (i - 1) (by omega)
    rw [hD] at e4
    have hz1 : 0 < (i : Int) := by omega
    have e5 : ((i : Int) - 1).toNat = i - 1 := by omega
    clear hcq
    have HD := Lib.hid hD
    clear hD
    go_wp2_with fail
    refine Calmly.wp_region_mix 28 (.fl 0 <| .fl 1 <| .fl 2 <| .fl 3 <| .fl 4 <| .fl 5 <| .fl 6 <| .fl 7 <| .fl 8 <| .fl 9 <| .fl 10 <| .fl 11 <| .fl 12 <| .fl 13 <| .fl 14 <| .fl 15 <| .fl 16 <| .fl 17 <| .fl 18 <| .fl 19 <| .fl 20 <| .fl 21 <| .fl 22 <| .fl 23 <| .fl 24 <| .fl 25 <| .fl 26 <| .fl 27 <| .tail [28, 29]) (by kernel_rfl) (by kernel_rfl) ?_
    have hk := Below.refl w.drew.heap.size w.drew
    go_wp2_with (first | ((with_reducible refine Calmly.is_fl ?_); refine Calmly.mix_fl rfl ?_ (fun _ _ => ?_); (first | exact .move _ | exact .load _ _ | exact .fieldAddr _ _ _ (by kernel_rfl) | exact .assign _ | exact .binOp _ _ _ _ _ rfl | exact .indexAddr _ _ _ | exact .len _ _ (by kernel_rfl) | exact .field _ _ _ | exact .extract _ _ | exact .pick _ _ _ | exact .build _ _ | exact .slice _ _ _ _ _ | exact .unOp _ _ _ rfl | exact .index _ _ _ | exact .max _ _ _ rfl rfl | exact .min _ _ _ rfl rfl)) | ((with_reducible refine Calmly.is_gl ?_); refine Calmly.mix_gl rfl rfl rfl ?_; first | ((first | with_reducible refine Calmly.gl_tt ?_ (fun _ _ => ?_) | with_reducible refine Calmly.gl_ff ?_ (fun _ _ => ?_)); (first | exact .move _ | exact .load _ _ | exact .fieldAddr _ _ _ (by kernel_rfl) | exact .assign _ | exact .binOp _ _ _ _ _ rfl | exact .indexAddr _ _ _ | exact .len _ _ (by kernel_rfl) | exact .field _ _ _ | exact .extract _ _ | exact .pick _ _ _ | exact .build _ _ | exact .slice _ _ _ _ _ | exact .unOp _ _ _ rfl | exact .index _ _ _ | exact .max _ _ _ rfl rfl | exact .min _ _ _ rfl rfl)) | with_reducible refine Calmly.gl_tf (fun _ _ => ?_) | with_reducible refine Calmly.gl_ft (fun _ _ => ?_)) | ((with_reducible refine Calmly.is_eff ?_); refine Calmly.mix_eff rfl (fun _ _ => ?_)) | ((with_reducible refine Calmly.is_gf ?_); refine Calmly.mix_gf rfl rfl rfl ?_; first | with_reducible refine Calmly.gf_tt (fun _ _ => ?_) | with_reducible refine Calmly.gf_ff (fun _ _ => ?_) | with_reducible refine Calmly.gf_tf (kept_of hk) (fun _ _ => ?_) | with_reducible refine Calmly.gf_ft (kept_of hk) (fun _ _ => ?_)) | ((with_reducible refine Calmly.is_tail ?_); first | refine Calmly.mix_tail_nil ?_ | refine Calmly.mix_tail rfl (fun _ _ => ?_)) | ((with_reducible refine Calmly.is_kept ?_); refine ⟨kept_of hk, ?_⟩) | (with_reducible refine Calmly.mix_alt ?_ ?_))
    go_ret
    exact ⟨ret_int HP.out, Below.drew (Below.refl _ _)⟩
end Go.Proofs.Ytmaidjankakppaa
