/- The arguments of a law, opened: a slice that came in reads as a list of numbers. -/
import Derived.Test.YtmaidjankakppaaRr
import Derived.ProofKit
import Derived.OpenShut
namespace Go.Proofs.Ytmaidjankakppaa
set_option maxRecDepth 100000
open Go.ChangeShapes Go.WideShapes Go.ChangeAt Go.RowKit

theorem okWide_spot {P : Program} {w : World} {base : Nat} {t e : TypeId} {a : Addr} {n c : Nat} (ht : P.underlying t = some (.slice e)) (h : Value.okWide P w .any base t (.slice (some a) n c)) : a.spot = none := by
  simp only [Value.okWide, ht, Cell.okWide, Cell.ok, World.has] at h
  exact h.2.2.2.1

theorem add_none (b off i : Nat) : Addr.add ⟨b, off, none⟩ i = ⟨b, off + i, none⟩ := by
  unfold Addr.add
  split
  · simp_all
  · rfl

/-- Each cell of a slice of structs of ints is an int. -/
theorem open_recs {H : Type} {enc : TypeId × Value → H} {P : Program} {w : World} {base : Nat} {t e k : Nat} {fs : Array Field} {v : Value} {d : DataW H} {p : List MemPlace}
    (ht : P.underlying t = some (.slice e)) (he : P.underlying e = some (.struct fs)) (hk : P.cellsOf e = k) (k0 : 0 < k)
    (hF : ∀ i, i < k → ∃ f, fs[i]? = some f ∧ f.offset = i ∧ P.cellsOf f.type = 1 ∧ P.underlying f.type = some (.int .i64))
    (hok : Value.okWide P w .any base t v) (h : DataW.Trod enc P w 0 (fun _ => true) true t v d p) :
    ∃ a n c, ∃ zs : List Int, v = .slice a n c ∧ Sl w k a n c (zs.map (Value.int .i64)) ∧ zs.length = n * k ∧ ∀ z ∈ zs, (Lit.int .i64 z).wf = true := by
  obtain ⟨a, n, c, rfl⟩ := okWide_slice ht hok
  obtain ⟨fuel, hf⟩ := h
  rcases DataW.trod_slice ht hf with ⟨hcs, _⟩ | ⟨a', len, cap, elems, rest, m, _, hcs, _, hb, hl, hm, hlen, hel, _, _⟩
  · simp [Value.cells] at hcs
    obtain ⟨rfl, rfl, rfl⟩ := hcs
    exact ⟨none, 0, 0, [], rfl, Sl.nil w k, by simp, by simp⟩
  · simp [Value.cells] at hcs
    obtain ⟨rfl, rfl, rfl⟩ := hcs
    have hs : a'.spot = none := okWide_spot ht hok
    obtain ⟨b, off, spot⟩ := a'
    cases hs
    simp only [add_none] at hel
    have each : ∀ i, i < n * k → ∃ z, w.cell? ⟨b, off + i, none⟩ = some (.int .i64 z) ∧ (Lit.int .i64 z).wf = true := by
      intro i hi
      have hq : i / k < n := (Nat.div_lt_iff_lt_mul k0).2 hi
      have hr : i % k < k := Nat.mod_lt _ k0
      have h1 := hel (i / k) hq
      obtain ⟨y, hy⟩ : ∃ y, elems[i / k]? = some y := ⟨elems[i / k], List.getElem?_eq_getElem (by omega)⟩
      rw [hy, hk, Option.bind_eq_some_iff] at h1
      obtain ⟨cs', hc', ht'⟩ := h1
      obtain ⟨xs, m', _, _, _, hxl, hx⟩ := DataW.trod_struct he ht'
      obtain ⟨f, hf1, hf2, hf3, hf4⟩ := hF (i % k) hr
      have h2 := hx _ f hf1
      rw [hf2, hf3] at h2
      have h3 : i % k < xs.length := by
        have := (Array.getElem?_eq_some_iff.1 hf1).1
        omega
      rw [List.getElem?_eq_getElem h3] at h2
      obtain ⟨z, hz, _, hw⟩ := DataW.trod_int hf4 h2
      refine ⟨z, ?_, hw⟩
      have h4 := (World.cells?_some hc').2.2 (i % k) hr
      have h5 : cs'[i % k]? = some (.int .i64 z) := by
        have h6 : ((cs'.drop (i % k)).take 1)[0]? = some (Value.int .i64 z) := by rw [hz]; rfl
        rw [List.getElem?_take_of_lt (by omega), List.getElem?_drop] at h6
        simpa using h6
      rw [h5] at h4
      rw [← h4]
      have h7 : i / k * k + i % k = i := by rw [Nat.mul_comm]; exact Nat.div_add_mod i k
      rw [add_none, Nat.add_assoc, h7]
    have : ∃ zs : List Int, zs.length = n * k ∧ ∀ i, i < n * k → w.cell? ⟨b, off + i, none⟩ = some (.int .i64 (zs.getD i 0)) ∧ (Lit.int .i64 (zs.getD i 0)).wf = true := by
      let g : Nat → Int := fun i => match w.cell? ⟨b, off + i, none⟩ with | some (.int .i64 z) => z | _ => 0
      refine ⟨(List.range (n * k)).map g, by simp, fun i hi => ?_⟩
      obtain ⟨z, hz, hw⟩ := each i hi
      have hg : ((List.range (n * k)).map g).getD i 0 = z := by
        simp [List.getD_eq_getElem?_getD, hi, g, hz]
      rw [hg]
      exact ⟨hz, hw⟩
    obtain ⟨zs, hzl, hz⟩ := this
    refine ⟨some ⟨b, off, none⟩, n, c, zs, rfl, ⟨by simpa using hzl, hl, hm, .inr ?_⟩, hzl, ?_⟩
    · refine ⟨b, off, rfl, fun i hi => ?_⟩
      have := (hz i hi).1
      rw [this, List.getElem?_map, List.getElem?_eq_getElem (by omega)]
      simp [List.getD_eq_getElem?_getD, List.getElem?_eq_getElem (show i < zs.length by omega)]
    · intro z hzm
      obtain ⟨i, hi, rfl⟩ := List.getElem_of_mem hzm
      have := (hz i (by omega)).2
      simpa [List.getD_eq_getElem?_getD, List.getElem?_eq_getElem hi] using this

theorem rv_of (zs : List Int) (n : Nat) (h : zs.length = n * 2) : ∃ l : List (Int × Int), rv l = zs.map (Value.int .i64) := by
  induction n generalizing zs with
  | zero => exact ⟨[], by have : zs = [] := List.length_eq_zero_iff.1 (by omega); subst this; rfl⟩
  | succ n ih =>
    match zs, h with
    | [], h => simp at h
    | [x], h => simp at h; omega
    | x :: y :: zs, h =>
      obtain ⟨l, hl⟩ := ih zs (by simp at h; omega)
      refine ⟨(x, y) :: l, ?_⟩
      show _ :: _ :: rv l = _
      rw [hl]
      rfl
theorem rv_mem {l : List (Int × Int)} {zs : List Int} (h : rv l = zs.map (Value.int .i64)) : ∀ q ∈ l, q.1 ∈ zs ∧ q.2 ∈ zs := by
  intro q hq
  have h1 : Value.int .i64 q.1 ∈ rv l := by simp only [rv, List.mem_flatMap]; exact ⟨q, hq, by simp⟩
  have h2 : Value.int .i64 q.2 ∈ rv l := by simp only [rv, List.mem_flatMap]; exact ⟨q, hq, by simp⟩
  rw [h] at h1 h2
  simp at h1 h2
  exact ⟨h1, h2⟩

theorem Try.own' : ownKnob Try.prog.godebug = none := by kernel_rfl
theorem Try.laidOut' : laidOutB Try.prog = true := by kernel_rfl

/-- A slice of ranges that came in. -/
theorem open_ranges {H : Type} {enc : TypeId × Value → H} {w : World} {base : Nat} {v : Value} {d : DataW H} {p : List MemPlace}
    (hok : Value.okWide Try.prog w .any base 42 v) (h : DataW.Trod enc Try.prog w 0 (fun _ => true) true 42 v d p) :
    ∃ a n c l, v = .slice a n c ∧ SR w a n c l ∧ ∀ q ∈ l, (Lit.int .i64 q.1).wf = true ∧ (Lit.int .i64 q.2).wf = true := by
  obtain ⟨a, n, c, zs, rfl, hs, hl, hw⟩ := open_recs (k := 2) Try.underlying42 Try.underlying63 (by kernel_rfl) (by omega) (by
    intro i hi
    match i, hi with
    | 0, _ => exact ⟨_, rfl, rfl, by kernel_rfl, Try.underlying3⟩
    | 1, _ => exact ⟨_, rfl, rfl, by kernel_rfl, Try.underlying3⟩) hok h
  obtain ⟨l, hl'⟩ := rv_of zs n hl
  rw [← hl'] at hs
  exact ⟨a, n, c, l, rfl, hs, fun q hq => ⟨hw _ (rv_mem hl' q hq).1, hw _ (rv_mem hl' q hq).2⟩⟩

/-- A slice of numbers that came in. -/
theorem open_nums {H : Type} {enc : TypeId × Value → H} {w : World} {base : Nat} {v : Value} {d : DataW H} {p : List MemPlace}
    (hok : Value.okWide Try.prog w .any base 22 v) (h : DataW.Trod enc Try.prog w 0 (fun _ => true) true 22 v d p) :
    ∃ a n c l, v = .slice a n c ∧ SI w a n c l ∧ ∀ q ∈ l, (Lit.int .i64 q).wf = true := by
  obtain ⟨a, n, c, rfl⟩ := okWide_slice Try.underlying22 hok
  obtain ⟨fuel, hf⟩ := h
  rcases open_ints Try.underlying22 Try.underlying3 (by kernel_rfl) hf with ⟨hcs, _⟩ | ⟨x, l, c', zs, hcs, _, hl, hm, hz, _, hcell, hwz⟩
  · simp [Value.cells] at hcs
    obtain ⟨rfl, rfl, rfl⟩ := hcs
    exact ⟨none, 0, 0, [], rfl, Sl.nil w 1, by simp⟩
  · simp [Value.cells] at hcs
    obtain ⟨rfl, rfl, rfl⟩ := hcs
    have hs : x.spot = none := okWide_spot Try.underlying22 hok
    have hz' : zs.length = c := by simpa using hz
    refine ⟨some x, n, c, zs.take n, rfl, ⟨by simp; omega, hl, hm, .inr ?_⟩, fun q hq => hwz q (List.mem_of_mem_take hq)⟩
    obtain ⟨b, off, spot⟩ := x
    cases hs
    refine ⟨b, off, rfl, fun i hi => ?_⟩
    have := hcell i (by omega)
    rw [add_none] at this
    rw [this, List.getElem?_map, List.getElem?_take_of_lt (by omega), List.getElem?_eq_getElem (by omega)]
    simp [List.getD_eq_getElem?_getD, List.getElem?_eq_getElem (show i < zs.length by omega)]

end Go.Proofs.Ytmaidjankakppaa
