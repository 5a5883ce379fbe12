/- The arguments of a law of chapter 5, opened: springs, holds. Plain laws of factors: there and back, products, opposites. -/
import Derived.Test.YtaiikekgckjdeaaK21
namespace Go.Proofs.Ytaiikekgckjdeaa
set_option maxRecDepth 100000
open Go.ChangeShapes Go.WideShapes Go.ChangeAt Go.RowKit

/-- A slice of records that came in. -/
theorem open_enc {H : Type} {enc : TypeId × Value → H} {P : Program} {w : World} {base : Nat} {t e k : Nat} {v : Value} {d : DataW H} {p : List MemPlace} {α : Type} (en : α → List Value) (hen : ∀ x, (en x).length = k) (x0 : α) (Q : α → Prop)
    (ht : P.underlying t = some (.slice e)) (hk : P.cellsOf e = k) (k0 : 0 < k)
    (hrec : ∀ m cs x, DataW.trod enc P w 0 (fun _ => true) true m e cs = some x → ∃ y : α, cs = en y ∧ Q y)
    (hok : Value.okWide P w .any base t v) (h : DataW.Trod enc P w 0 (fun _ => true) true t v d p) :
    ∃ (a : Option Addr) (n c : Nat) (l : List α), v = .slice a n c ∧ Sl w k a n c (l.flatMap en) ∧ ∀ y ∈ l, Q y := by
  obtain ⟨a, n, c, rfl⟩ := okWide_slice ht hok
  obtain ⟨fuel, hf⟩ := h
  rcases DataW.trod_slice ht hf with ⟨hcs, _⟩ | ⟨a', len, cap, elems, rest, m, _, hcs, _, hb, hl, hm, hlen, hel, _, _⟩
  · simp [Value.cells] at hcs
    obtain ⟨rfl, rfl, rfl⟩ := hcs
    exact ⟨none, 0, 0, [], rfl, Sl.nil w k, by simp⟩
  · simp [Value.cells] at hcs
    obtain ⟨rfl, rfl, rfl⟩ := hcs
    have hs : a'.spot = none := okWide_spot ht hok
    obtain ⟨b, off, spot⟩ := a'
    cases hs
    simp only [add_none] at hel
    have each : ∀ i, ∃ y : α, i < n → (∀ j, j < k → w.cell? ⟨b, off + i * k + j, none⟩ = (en y)[j]?) ∧ Q y := by
      intro i
      by_cases hi : i < n
      · have h1 := hel i hi
        obtain ⟨y, hy⟩ : ∃ y, elems[i]? = some y := ⟨elems[i], List.getElem?_eq_getElem (by omega)⟩
        rw [hy, hk, Option.bind_eq_some_iff] at h1
        obtain ⟨cs', hc', ht'⟩ := h1
        obtain ⟨z, hz, hq⟩ := hrec _ _ _ ht'
        refine ⟨z, fun _ => ⟨fun j hj => ?_, hq⟩⟩
        have h4 := (World.cells?_some hc').2.2 j hj
        rw [add_none] at h4
        rw [← hz]
        first | exact h4 | exact h4.symm
      · exact ⟨x0, fun h => absurd h hi⟩
    obtain ⟨g, hg⟩ := Classical.axiomOfChoice each
    have hget : ∀ i, i < n → ((List.range n).map g)[i]?.getD x0 = g i := fun i hi => by simp [hi]
    refine ⟨some ⟨b, off, none⟩, n, c, (List.range n).map g, rfl, ⟨?_, hl, hm, .inr ⟨b, off, rfl, fun i hi => ?_⟩⟩, ?_⟩
    · rw [fm_len hen]
      simp
    · have hq : i / k < n := (Nat.div_lt_iff_lt_mul k0).2 hi
      have hr : i % k < k := Nat.mod_lt _ k0
      have h7 : i / k * k + i % k = i := by rw [Nat.mul_comm]; exact Nat.div_add_mod i k
      have h8 := (hg (i / k) hq).1 (i % k) hr
      rw [Nat.add_assoc, h7] at h8
      rw [h8]
      have h9 := fm_get hen ((List.range n).map g) x0 (i / k) (by simpa using hq) (i % k) hr
      rw [h7, hget _ hq] at h9
      exact h9.symm
    · intro y hy
      obtain ⟨i, hi, rfl⟩ := List.mem_map.1 hy
      exact (hg i (by simpa using hi)).2
theorem trod_el {H : Type} {enc : TypeId × Value → H} {w : World} {m : Nat} {cs : List Value} {x : DataW H × List MemPlace} (h : DataW.trod enc Try.prog w 0 (fun _ => true) true m 152 cs = some x) :
    ∃ y : El, cs = encE y ∧ ((Lit.int .i64 y.1).wf = true ∧ (Lit.int .i64 y.2.1).wf = true) := by
  obtain ⟨xs, n, _, _, hl, hxl, hx⟩ := DataW.trod_struct Try.underlying152 h
  have c2 : Try.prog.cellsOf 152 = 3 := by kernel_rfl
  rw [c2] at hl
  match cs, hl with
  | [p, q, r], _ =>
    have h0 := hx 0 _ rfl
    have h1 := hx 1 _ rfl
    have h2 := hx 2 _ rfl
    rw [List.getElem?_eq_getElem (by simp at hxl; omega)] at h0 h1 h2
    obtain ⟨n, rfl, hw⟩ := cell_of_int Try.underlying3 h0
    obtain ⟨m, rfl, hw'⟩ := cell_of_int Try.underlying3 h1
    obtain ⟨b, hb, _⟩ := DataW.trod_bool Try.underlying4 h2
    have hb' : [r] = [Value.bool b] := hb
    injection hb' with hb'
    subst hb'
    exact ⟨(n, m, b), rfl, hw, hw'⟩
theorem trod_sp {H : Type} {enc : TypeId × Value → H} {w : World} {m : Nat} {cs : List Value} {x : DataW H × List MemPlace} (h : DataW.trod enc Try.prog w 0 (fun _ => true) true m 64 cs = some x) :
    ∃ y : Sp, cs = encS y ∧ (Lit.int .i64 y.1).wf = true := by
  obtain ⟨xs, n, _, _, hl, hxl, hx⟩ := DataW.trod_struct Try.underlying64 h
  have c2 : Try.prog.cellsOf 64 = 2 := by kernel_rfl
  rw [c2] at hl
  match cs, hl with
  | [p, q], _ =>
    have h0 := hx 0 _ rfl
    have h1 := hx 1 _ rfl
    rw [List.getElem?_eq_getElem (by simp at hxl; omega)] at h0 h1
    obtain ⟨n, rfl, hw⟩ := cell_of_int Try.underlying3 h0
    obtain ⟨b, hb, _⟩ := DataW.trod_bool Try.underlying4 h1
    have hb' : [q] = [Value.bool b] := hb
    injection hb' with hb'
    subst hb'
    exact ⟨(n, b), rfl, hw⟩
/-- A spring that came in. -/
theorem open_spring {H : Type} {enc : TypeId × Value → H} {w : World} {base : Nat} {v : Value} {d : DataW H} {p : List MemPlace}
    (hok : Value.okWide Try.prog w .any base 44 v) (h : DataW.Trod enc Try.prog w 0 (fun _ => true) true 44 v d p) :
    ∃ a n c l, v = .slice a n c ∧ SEl w a n c l ∧ ∀ y ∈ l, ((Lit.int .i64 y.1).wf = true ∧ (Lit.int .i64 y.2.1).wf = true) :=
  open_enc encE encE_len el0 (fun y => (Lit.int .i64 y.1).wf = true ∧ (Lit.int .i64 y.2.1).wf = true) Try.underlying44 (by kernel_rfl) (by decide) (fun _ _ _ => trod_el) hok h
/-- Slips that came in. -/
theorem open_slips {H : Type} {enc : TypeId × Value → H} {w : World} {base : Nat} {v : Value} {d : DataW H} {p : List MemPlace}
    (hok : Value.okWide Try.prog w .any base 47 v) (h : DataW.Trod enc Try.prog w 0 (fun _ => true) true 47 v d p) :
    ∃ a n c l, v = .slice a n c ∧ SSp w a n c l ∧ ∀ y ∈ l, (Lit.int .i64 y.1).wf = true :=
  open_enc encS encS_len sp0 (fun y => (Lit.int .i64 y.1).wf = true) Try.underlying47 (by kernel_rfl) (by decide) (fun _ _ _ => trod_sp) hok h
/-- A hold that came in. -/
theorem open_hold {H : Type} {enc : TypeId × Value → H} {w : World} {base : Nat} {v : Value} {d : DataW H} {p : List MemPlace}
    (hok : Value.okWide Try.prog w .any base 49 v) (h : DataW.Trod enc Try.prog w 0 (fun _ => true) true 49 v d p) :
    ∃ s a n c l, v = .agg #[.int .i64 s, .slice a n c] ∧ (Lit.int .i64 s).wf = true ∧ SSp w a n c l ∧ ∀ y ∈ l, (Lit.int .i64 y.1).wf = true := by
  obtain ⟨cs, rfl, hsz, hall, hf⟩ := open_struct (ts := [3, 47]) Try.underlying49 (by kernel_rfl) hok h
  obtain ⟨x, y, rfl⟩ := two_cells (hsz.trans (by kernel_rfl))
  obtain ⟨m0, x0, h0⟩ := hf 0 _ rfl
  obtain ⟨m1, x1, h1⟩ := hf 1 _ rfl

  simp only at h0 h1
  obtain ⟨s, rfl, hw⟩ := cell_of_int Try.underlying3 h0
  obtain ⟨ty, hty, ho⟩ := hall 1 y rfl
  cases hty
  obtain ⟨k1, d', p', k2⟩ := cell_of_slice Try.underlying47 ho h1
  obtain ⟨a, n, c, l, rfl, hs, hwl⟩ := open_slips k1 k2
  exact ⟨s, a, n, c, l, rfl, hw, hs, hwl⟩
end Go.Proofs.Ytaiikekgckjdeaa

namespace Go.Proofs.Ytaiikekgckjdeaa
open Go.RowKit Go.Maps
theorem unlessE_zero {b : Bool} {e : Int} (he : e ≠ 0) (h : unlessE b e = 0) : b = true := by
  cases b
  · exact absurd h he
  · rfl
theorem facV_zero (n1 d1 n2 d2 n3 d3 : Int) : facV n1 d1 n2 d2 n3 d3 0 0 0 = 1 := by
  show (1 : Rat) * (n1 : Rat) ^ (0 : Int) * (d1 : Rat) ^ (-0 : Int) * (n2 : Rat) ^ (0 : Int) * (d2 : Rat) ^ (-0 : Int) * (n3 : Rat) ^ (0 : Int) * (d3 : Rat) ^ (-0 : Int) = 1
  simp only [Int.neg_zero, Rat.zpow_zero]
  grind
theorem rat_pos_ne {v : Rat} (h : 0 < v) : v ≠ 0 := by intro e; rw [e] at h; exact absurd h (by decide)
theorem zpow_pos_int {n c : Int} (h : 1 ≤ n) : (0 : Rat) < (n : Rat) ^ c := Rat.zpow_pos (ratInt_pos h)
theorem rat_inv_mul {a b : Rat} (ha : a ≠ 0) (hb : b ≠ 0) : (a * b)⁻¹ = a⁻¹ * b⁻¹ := by
  have h1 : a * b ≠ 0 := by grind
  have h2 : (a * b) * (a * b)⁻¹ = 1 := Rat.mul_inv_cancel _ h1
  have h3 := Rat.mul_inv_cancel a ha
  have h4 := Rat.mul_inv_cancel b hb
  grind
theorem rat_mul_ne {a b : Rat} (ha : a ≠ 0) (hb : b ≠ 0) : a * b ≠ 0 := by grind
theorem rat_inv_ne {a : Rat} (ha : a ≠ 0) : a⁻¹ ≠ 0 := by
  have h3 := Rat.mul_inv_cancel a ha
  intro e
  rw [e] at h3
  grind
theorem facV_neg {n1 d1 n2 d2 n3 d3 a b c : Int} (h : FacOk n1 d1 n2 d2 n3 d3 a b c) : facV n1 d1 n2 d2 n3 d3 (-a) (-b) (-c) = (facV n1 d1 n2 d2 n3 d3 a b c)⁻¹ := by
  show (1 : Rat) * (n1 : Rat) ^ (-a) * (d1 : Rat) ^ (-(-a)) * (n2 : Rat) ^ (-b) * (d2 : Rat) ^ (-(-b)) * (n3 : Rat) ^ (-c) * (d3 : Rat) ^ (-(-c)) = ((1 : Rat) * (n1 : Rat) ^ a * (d1 : Rat) ^ (-a) * (n2 : Rat) ^ b * (d2 : Rat) ^ (-b) * (n3 : Rat) ^ c * (d3 : Rat) ^ (-c))⁻¹
  simp only [Rat.zpow_neg, Rat.inv_inv]
  have p1 := rat_pos_ne (zpow_pos_int (c := a) h.s1.1.1)
  have p2 := rat_pos_ne (zpow_pos_int (c := a) h.s1.2.1.1)
  have p3 := rat_pos_ne (zpow_pos_int (c := b) h.s2.1.1)
  have p4 := rat_pos_ne (zpow_pos_int (c := b) h.s2.2.1.1)
  have p5 := rat_pos_ne (zpow_pos_int (c := c) h.s3.1.1)
  have p6 := rat_pos_ne (zpow_pos_int (c := c) h.s3.2.1.1)
  generalize (n1 : Rat) ^ a = q1 at *
  generalize (d1 : Rat) ^ a = q2 at *
  generalize (n2 : Rat) ^ b = q3 at *
  generalize (d2 : Rat) ^ b = q4 at *
  generalize (n3 : Rat) ^ c = q5 at *
  generalize (d3 : Rat) ^ c = q6 at *
  have k2 := rat_inv_ne p2
  have k4 := rat_inv_ne p4
  have k6 := rat_inv_ne p6
  rw [Rat.one_mul, Rat.one_mul, rat_inv_mul (rat_mul_ne (rat_mul_ne (rat_mul_ne (rat_mul_ne p1 k2) p3) k4) p5) k6, rat_inv_mul (rat_mul_ne (rat_mul_ne (rat_mul_ne p1 k2) p3) k4) p5, rat_inv_mul (rat_mul_ne (rat_mul_ne p1 k2) p3) k4,
    rat_inv_mul (rat_mul_ne p1 k2) p3, rat_inv_mul p1 k2, Rat.inv_inv, Rat.inv_inv, Rat.inv_inv]
theorem facV_add {n1 d1 n2 d2 n3 d3 a b c a' b' c' : Int} (h : FacOk n1 d1 n2 d2 n3 d3 a b c) : facV n1 d1 n2 d2 n3 d3 (a + a') (b + b') (c + c') = facV n1 d1 n2 d2 n3 d3 a b c * facV n1 d1 n2 d2 n3 d3 a' b' c' := by
  show (1 : Rat) * (n1 : Rat) ^ (a + a') * (d1 : Rat) ^ (-(a + a')) * (n2 : Rat) ^ (b + b') * (d2 : Rat) ^ (-(b + b')) * (n3 : Rat) ^ (c + c') * (d3 : Rat) ^ (-(c + c')) = ((1 : Rat) * (n1 : Rat) ^ a * (d1 : Rat) ^ (-a) * (n2 : Rat) ^ b * (d2 : Rat) ^ (-b) * (n3 : Rat) ^ c * (d3 : Rat) ^ (-c)) * ((1 : Rat) * (n1 : Rat) ^ a' * (d1 : Rat) ^ (-a') * (n2 : Rat) ^ b' * (d2 : Rat) ^ (-b') * (n3 : Rat) ^ c' * (d3 : Rat) ^ (-c'))
  rw [Int.neg_add, Int.neg_add, Int.neg_add]
  rw [Rat.zpow_add (rat_pos_ne (ratInt_pos h.s1.1.1)), Rat.zpow_add (rat_pos_ne (ratInt_pos h.s1.2.1.1)), Rat.zpow_add (rat_pos_ne (ratInt_pos h.s2.1.1)), Rat.zpow_add (rat_pos_ne (ratInt_pos h.s2.2.1.1)), Rat.zpow_add (rat_pos_ne (ratInt_pos h.s3.1.1)), Rat.zpow_add (rat_pos_ne (ratInt_pos h.s3.2.1.1))]
  grind
/-- The reciprocal's parts. -/
theorem inv_parts {V : Rat} (h : 0 < V) : (V⁻¹).num = (V.den : Int) ∧ ((V⁻¹).den : Int) = V.num := by
  have h1 := rat_num_pos h
  have h2 : Int.gcd (V.den : Int) V.num = 1 := by
    rw [Int.gcd_comm]
    have hr := V.reduced
    simpa [Int.gcd] using hr
  refine rat_parts h1 h2 ?_
  have h3 := rat_frac V
  have h4 := rat_pos_ne (ratInt_pos (n := V.num) (by omega))
  have h5 := rat_pos_ne (ratInt_pos (n := (V.den : Int)) (by have := V.den_pos; omega))
  generalize (V.num : Rat) = p at *
  generalize ((V.den : Int) : Rat) = q at *
  rw [← h3]
  rw [Rat.div_def, Rat.div_def, rat_inv_mul h4 (rat_inv_ne h5), Rat.inv_inv, Rat.mul_comm]
theorem fcOk_inv {V : Rat} (h : 0 < V) : fcOk V⁻¹ = fcOk V := by
  have h1 := inv_parts h
  have e1 : (V⁻¹).num = (V.den : Int) := h1.1
  have e2 : ((V⁻¹).den : Int) = V.num := h1.2
  unfold fcOk
  rw [e1, Bool.and_comm]
  congr 1
  · rw [decide_eq_decide]
    omega
  · rw [decide_eq_decide]
    omega
theorem one_parts : (1 : Rat).num = 1 ∧ ((1 : Rat).den : Int) = 1 := ⟨rfl, rfl⟩
/-- What a scaled value that is right scales back to. -/
theorem back_ok {x y : Int} {V : Rat} {pw qw : Int} (hv : valE x y = 0) (hV : 0 < V) (hpw : (pw = 1 ∧ qw = -1) ∨ (pw = -1 ∧ qw = 1)) (hE : scE 0 x y (scR x y V pw) = 0) :
    F64 (scR x y V pw).num ((scR x y V pw).den : Int) ∧ scE 0 (scR x y V pw).num ((scR x y V pw).den : Int) (scR (scR x y V pw).num ((scR x y V pw).den : Int) V qw) = 0 ∧
      (scR (scR x y V pw).num ((scR x y V pw).den : Int) V qw).num = x ∧ ((scR (scR x y V pw).num ((scR x y V pw).den : Int) V qw).den : Int) = y := by
  rw [scE_zero, if_pos hv] at hE
  have hs := unlessE_zero (by omega) hE
  obtain ⟨R, hR⟩ : ∃ R, scR x y V pw = R := ⟨_, rfl⟩
  rw [hR] at hs ⊢
  rw [smQ, Bool.and_eq_true, Bool.and_eq_true, decide_eq_true_eq, decide_eq_true_eq, decide_eq_true_eq] at hs
  have hd := R.den_pos
  obtain ⟨v1, v2, v3, v4⟩ := valE_ok hv
  have hq : scR R.num (R.den : Int) V qw = (x : Rat) / (y : Rat) := by
    rw [scR, rat_frac, ← hR, scR]
    have h4 := rat_pos_ne hV
    rcases hpw with ⟨rfl, rfl⟩ | ⟨rfl, rfl⟩ <;> rw [Rat.zpow_neg, Rat.zpow_one] <;> grind
  have hp := rat_parts (n := x) (d := y) v1 v2 hq
  refine ⟨⟨by omega, by omega⟩, ?_, hp⟩
  rw [scE_zero]
  have hv2 : valE R.num (R.den : Int) = 0 := by
    have h1 : isLow R.num (R.den : Int) = true := by
      rw [isLow, Bool.and_eq_true, decide_eq_true_eq, beq_iff_eq]
      have hr := R.reduced
      have hr2 : Int.gcd R.num (R.den : Int) = 1 := by simpa [Int.gcd] using hr
      exact ⟨by omega, by omega⟩
    have h2 : (szd R.num 1000000000 && decide ((R.den : Int) ≤ 1000000000)) = true := by
      rw [Bool.and_eq_true, decide_eq_true_eq]
      exact ⟨szd_iff.2 ⟨hs.1.1, hs.1.2⟩, by omega⟩
    rw [valE, h1, h2]
    rfl
  rw [if_pos hv2]
  have hs2 : smQ (scR R.num (R.den : Int) V qw) = true := by
    rw [smQ, hp.1, Bool.and_eq_true, Bool.and_eq_true, decide_eq_true_eq, decide_eq_true_eq, decide_eq_true_eq]
    have := hp.2
    omega
  rw [hs2]
  rfl
theorem qty_ok {a b c : Int} (h : qtyE a b c = 0) : (-4 ≤ a ∧ a ≤ 4) ∧ (-4 ≤ b ∧ b ≤ 4) ∧ (-4 ≤ c ∧ c ≤ 4) := exB3 (unlessE_zero (by omega) h)
theorem qty_mk {a b c : Int} (h : (-4 ≤ a ∧ a ≤ 4) ∧ (-4 ≤ b ∧ b ≤ 4) ∧ (-4 ≤ c ∧ c ≤ 4)) : qtyE a b c = 0 := by
  show unlessE (true && szd a 4 && szd b 4 && szd c 4) 2 = 0
  rw [szd_iff.2 h.1, szd_iff.2 h.2.1, szd_iff.2 h.2.2]
  rfl
theorem facH_zero {n1 d1 n2 d2 n3 d3 a b c : Int} (hs : (sclE (fs3 n1 d1 n2 d2 n3 d3)).2 = 0) (hq : qtyE a b c = 0) : facH n1 d1 n2 d2 n3 d3 a b c = 0 := by simp [facH, firstE, hs, hq]
theorem facE_of {n1 d1 n2 d2 n3 d3 a b c : Int} (h : facH n1 d1 n2 d2 n3 d3 a b c = 0) : facE n1 d1 n2 d2 n3 d3 a b c = unlessE (fcOk (facV n1 d1 n2 d2 n3 d3 a b c)) 8 := by rw [facE, if_pos h]
/-- All that a law of factors needs, when the scales and quantities are right. -/
structure Thr (n1 d1 n2 d2 n3 d3 a b c p q r F G an ad bn bd FD : Int) (V U P : Rat) : Prop where
  zE : facE n1 d1 n2 d2 n3 d3 0 0 0 = 0
  zV : facV n1 d1 n2 d2 n3 d3 0 0 0 = 1
  v0 : 0 < V
  oE : facE n1 d1 n2 d2 n3 d3 (-a) (-b) (-c) = F
  oV : facV n1 d1 n2 d2 n3 d3 (-a) (-b) (-c) = V⁻¹
  bE : qtyE (a + p) (b + q) (c + r) = 0 → facE n1 d1 n2 d2 n3 d3 (a + p) (b + q) (c + r) = FD
  bV : facV n1 d1 n2 d2 n3 d3 (a + p) (b + q) (c + r) = P
  big : F ≠ 0 → an = 0 ∧ ad = 0 ∧ qN F V⁻¹ = 0 ∧ qD F V⁻¹ = 0
  fit : F = 0 → qN F V⁻¹ = ad ∧ qD F V⁻¹ = an
  par : F = 0 → G = 0 → (0 < ad ∧ Int.gcd an ad = 1 ∧ 0 < bd ∧ Int.gcd bn bd = 1 ∧ (-1000000000 ≤ an ∧ an ≤ 1000000000) ∧ ad ≤ 1000000000 ∧ (-1000000000 ≤ bn ∧ bn ≤ 1000000000) ∧ bd ≤ 1000000000) ∧ (an : Rat) / (ad : Rat) * ((bn : Rat) / (bd : Rat)) = P
  sm : unlessE (smQ P) 8 = FD
theorem thr_of {n1 d1 n2 d2 n3 d3 a b c p q r F G an ad bn bd : Int} {V U : Rat} (hs : (sclE (fs3 n1 d1 n2 d2 n3 d3)).2 = 0) (hA : qtyE a b c = 0) (hB : qtyE p q r = 0)
    (hF : facE n1 d1 n2 d2 n3 d3 a b c = F) (hV : facV n1 d1 n2 d2 n3 d3 a b c = V) (hG : facE n1 d1 n2 d2 n3 d3 p q r = G) (hU : facV n1 d1 n2 d2 n3 d3 p q r = U)
    (han : qN F V = an) (had : qD F V = ad) (hbn : qN G U = bn) (hbd : qD G U = bd) : ∃ FD, Thr n1 d1 n2 d2 n3 d3 a b c p q r F G an ad bn bd FD V U (V * U) := by
  have kA := facH_ok (facH_zero hs hA)
  have kB := facH_ok (facH_zero hs hB)
  have hA' := qty_ok hA
  have hq0 : qtyE 0 0 0 = 0 := rfl
  have hqn : qtyE (-a) (-b) (-c) = 0 := qty_mk (by omega)
  have pV : 0 < V := by rw [← hV]; exact facV_pos kA
  have pU : 0 < U := by rw [← hU]; exact facV_pos kB
  have eV := (facE_of (facH_zero hs hA)).symm.trans hF
  have eU := (facE_of (facH_zero hs hB)).symm.trans hG
  rw [hV] at eV
  rw [hU] at eU
  have iv := inv_parts pV
  have sV := facV_zero n1 d1 n2 d2 n3 d3
  have pP := Rat.mul_pos pV pU
  have hP := rat_num_pos pP
  refine ⟨unlessE (smQ (V * U)) 8, ⟨?_, sV, pV, ?_, ?_, ?_, ?_, ?_, ?_, ?_, rfl⟩⟩
  · rw [facE_of (facH_zero hs hq0), sV]
    rfl
  · rw [facE_of (facH_zero hs hqn), facV_neg kA, hV, fcOk_inv pV]
    exact eV
  · rw [facV_neg kA, hV]
  · intro h
    rw [facE_of (facH_zero hs h), facV_add kA, hV, hU, smQ_pos (by omega)]
  · rw [facV_add kA, hV, hU]
  · intro h
    exact ⟨by rw [← han, qN, if_neg h], by rw [← had, qD, if_neg h], by rw [qN, if_neg h], by rw [qD, if_neg h]⟩
  · intro h
    exact ⟨by rw [← had, qN, qD, if_pos h, if_pos h, iv.1], by rw [← han, qN, qD, if_pos h, if_pos h, iv.2]⟩
  · intro h h'
    subst h
    subst h'
    have oV := fcOk_ok (unlessE_zero (by omega) eV) pV
    have oU := fcOk_ok (unlessE_zero (by omega) eU) pU
    have e1 : V.num = an := han
    have e2 : (V.den : Int) = ad := had
    have e3 : U.num = bn := hbn
    have e4 : (U.den : Int) = bd := hbd
    have r1 := rat_frac V
    have r2 := rat_frac U
    rw [e1, e2] at oV r1
    rw [e3, e4] at oU r2
    refine ⟨⟨oV.2.2.2.1, oV.2.2.2.2.1, oU.2.2.2.1, oU.2.2.2.2.1, by omega, by omega, by omega, by omega⟩, by rw [r1, r2]⟩
end Go.Proofs.Ytaiikekgckjdeaa
