/- The reference's copy of a frame. The arguments of a law of chapter 5, opened: frames. Rows of fractions, and rows of rows of integers; base.Fracs, base.Lists. Printed by gen_f1.py. The reference's errors of scales, quantities and values. Arrays of exponents: plain. -/
import Derived.Test.YtaiikekgckjdeaaGreatK16
import Derived.Deep.WholeRow
namespace Go.Proofs.YtaiikekgckjdeaaGreat
open Go.RowKit
open Calmly (Kept)
theorem SEl.but {e : TypeId} {w w' : World} {a : Option Addr} {n c : Nat} {l : List El} (h : SEl w a n c l) (hi : In w 110 a) (hb : But e w w') (he : 110 ≠ e) : SEl w' a n c l :=
  Sl.same h (fun b o _ ha => hb.2 b (hi.blk b o ha).lt ((hi.blk b o ha).not he))
theorem owns_not {w w' : World} {B r n k c : Nat} {av : Option Addr} {e : TypeId} {xs : List Value} (h : w.ownsRow B e k (.slice av n c) n xs) (ho : ∀ b, b ≠ r → w'.heap[b]? = w.heap[b]?) (hr : ∀ g o, av = some ⟨g, o, none⟩ → g ≠ r) : w'.ownsRow B e k (.slice av n c) n xs := by
  obtain ⟨h1, h2⟩ := h
  refine ⟨h1, ?_⟩
  rcases h2 with h2 | ⟨g, cap, cur, hv, hg, hh, r'⟩
  · exact .inl h2
  · injection hv with e1 e2 e3
    exact .inr ⟨g, cap, cur, by rw [e1, e2, e3], hg, (ho g (hr g 0 e1)).trans hh, r'⟩
/-- The springs of so many floors that were copied. -/
def CfS (W : World) (fs : List Fl) (k : Nat) (rw' : List FlR) : Prop := ∀ i, i < k → (rw'[i]?.getD flr0).1 = (fs[i]?.getD fl0).1 ∧ (rw'[i]?.getD flr0).2.1 = (fs[i]?.getD fl0).2.1 ∧ SEl W (rw'[i]?.getD flr0).2.2.1 (rw'[i]?.getD flr0).2.2.2.1 (rw'[i]?.getD flr0).2.2.2.2 (fs[i]?.getD fl0).2.2 ∧ In W 110 (rw'[i]?.getD flr0).2.2.1
theorem CfS.keep {W W' : World} {fs : List Fl} {k : Nat} {rw' : List FlR} (h : CfS W fs k rw') (hb : Below W.heap.size W W') : CfS W' fs k rw' := fun i hi => ⟨(h i hi).1, (h i hi).2.1, (h i hi).2.2.1.keep hb, (h i hi).2.2.2.keep hb⟩
theorem CfS.but {e : TypeId} {W W' : World} {fs : List Fl} {k : Nat} {rw' : List FlR} (h : CfS W fs k rw') (hb : But e W W') (he : 110 ≠ e) : CfS W' fs k rw' := fun i hi => ⟨(h i hi).1, (h i hi).2.1, (h i hi).2.2.1.but (h i hi).2.2.2 hb he, (h i hi).2.2.2.but hb he⟩
/-- What lies between two rounds. -/
structure CfI (w : World) (a : Option Addr) (n c : Nat) (fs : List Fl) (k : Nat) (W : World) : Prop where
  bel : Below w.heap.size w W
  r1 : W.heap[w.heap.size]? = some (.cells #[.slice a n c] 71)
  r2 : W.heap[w.heap.size + 1]? = some (.cells #[.slice none 0 0] 71)
  out : ∃ av cv rw', W.heap[w.heap.size + 1 + 1]? = some (.cells #[.slice av k cv] 71) ∧ OwFlR W (w.heap.size + 1 + 1 + 1) av k cv rw' ∧ rw'.length = k ∧ CfS W fs k rw'
  sz : w.heap.size + 1 + 1 + 1 ≤ W.heap.size
theorem CfI.step {w X w9 : World} {a a4 a9 av : Option Addr} {n c k n' c4 c9 cv : Nat} {x y : Int} {fs : List Fl} {rw' : List FlR} (hbX : Below w.heap.size w X) (r1 : X.heap[w.heap.size]? = some (.cells #[.slice a n c] 71)) (r2 : X.heap[w.heap.size + 1]? = some (.cells #[.slice none 0 0] 71))
    (r3 : X.heap[w.heap.size + 1 + 1]? = some (.cells #[.slice av k cv] 71)) (hl : rw'.length = k) (hS : CfS X fs k rw') (hx : x = (fs[k]?.getD fl0).1) (hy : y = (fs[k]?.getD fl0).2.1) (hE : SEl X a4 n' c4 (fs[k]?.getD fl0).2.2) (hI : In X 110 a4)
    (ho9 : w9.ownsRow (w.heap.size + 1 + 1 + 1) 120 3 (.slice a9 (k + 1) c9) (k + 1) (rw'.flatMap encFlR ++ [.int .i64 x, .int .i64 y, .slice a4 n' c4])) (hb9 : Below (w.heap.size + 1 + 1 + 1) X w9) (hsm : ∀ b, b < X.heap.size → ¬ BlkT X b 120 → w9.heap[b]? = X.heap[b]?) (hs : w.heap.size + 1 + 1 + 1 ≤ X.heap.size) :
    CfI w a n c fs (k + 1) (w9.setCell ⟨w.heap.size + 1 + 1, 0, none⟩ (.slice a9 (k + 1) c9)) := by
  have hBut : But 120 X w9 := ⟨hb9.size, hsm⟩
  have q := (hb9.block _ (by omega)).trans r3
  have hB2 : But 71 w9 (w9.setCell ⟨w.heap.size + 1 + 1, 0, none⟩ (.slice a9 (k + 1) c9)) := But.setCell ⟨_, q⟩
  have hne : ∀ b, b ≠ w.heap.size + 1 + 1 → (w9.setCell ⟨w.heap.size + 1 + 1, 0, none⟩ (.slice a9 (k + 1) c9)).heap[b]? = w9.heap[b]? := fun b hb => Below.heap_setCell _ _ _ _ hb
  have q2 := setBlk q 0 (.slice a9 (k + 1) c9)
  refine ⟨(hbX.trans (hb9.mono (by omega))).setCell (by show w.heap.size ≤ w.heap.size + 1 + 1; omega) _, (hne _ (by omega)).trans ((hb9.block _ (by omega)).trans r1), (hne _ (by omega)).trans ((hb9.block _ (by omega)).trans r2), ⟨a9, c9, rw' ++ [(x, y, (a4, n', c4))], by simpa using q2, ?_, by rw [List.length_append, hl]; rfl, ?_⟩, ?_⟩
  · unfold OwFlR
    rw [List.flatMap_append]
    exact owns_apart ho9 hne (by omega)
  · intro i hi
    rcases Nat.lt_or_ge i k with hik | hik
    · rw [List.getElem?_append_left (by omega)]
      obtain ⟨e1, e2, e3, e4⟩ := ((hS.but hBut (by decide)).but hB2 (by decide)) i hik
      exact ⟨e1, e2, e3, e4⟩
    · obtain rfl : i = k := by omega
      rw [List.getElem?_append_right (by omega), hl, Nat.sub_self]
      exact ⟨hx, hy, (hE.but hI hBut (by decide)).but (hI.but hBut (by decide)) hB2 (by decide), (hI.but hBut (by decide)).but hB2 (by decide)⟩
  · have := hb9.size
    simp
    omega
theorem appRecZ {P : Program} {ops : Array Oper} {rest : List Oper} {o : Oper} {a : Act} {Q : Exit → Act → World → Prop} {Wx : World} (w0 : World) (sz : Nat) (hsz : w0.heap.size = sz) (t e : TypeId) {z : Value} {k bytes : Nat} {new : List Value} (hW : Wx = w0.alloc (.cells new.toArray e)) (hgd : o.guard = none) (s x' : Operand)
    (ho : o.op = .call { callee := .builtin .append, args := #[s, x'], argTypes := #[t, t] }) (ht : P.underlying t = some (.slice e)) (hinfo : (P.info? e).map (fun i => (i.zero, i.size, i.bytes)) = some (some z, k, bytes)) (hzs : z.cells.size = k) (hsz0 : 0 < k) (hbb : bytes ≤ 128)
    {B : Nat} {av : Option Addr} {n c : Nat} {xs : List Value} (hown : w0.ownsRow B e k (.slice av n c) n xs) (hs : a.eval s = .slice av n c) (hx : a.eval x' = .slice (some ⟨sz, 0, none⟩) 1 1) (hnl : new.length = k) (hone : ∀ u ∈ new, u.oneCell' = true)
    (hb1 : n + 1 ≤ 1099511627776) (hB : B ≤ sz)
    (h : ∀ a' c' w', w'.ownsRow B e k (.slice a' (n + 1) c') (n + 1) (xs ++ new) → Below B w0 w' → KeepsOthers w0 w' → (∀ b, b < sz → ¬ BlkT w0 b e → w'.heap[b]? = w0.heap[b]?) → wpList P ops Q rest (a.put o.dst (.slice a' (n + 1) c')) w') :
    wpList P ops Q (o :: rest) a Wx := by
  subst hsz
  exact appRec w0 t e hW hgd s x' ho ht hinfo hzs hsz0 hbb hown hs hx hnl hone hb1 hB h
end Go.Proofs.YtaiikekgckjdeaaGreat

namespace Go.Proofs.YtaiikekgckjdeaaGreat
set_option maxRecDepth 100000
open Go.ChangeShapes Go.WideShapes Go.ChangeAt Go.RowKit

/-- A slice of records within another record; where it has no room its place may be anything. -/
theorem inner_enc {H : Type} {enc : TypeId × Value → H} {P : Program} {w : World} {fuel : Nat} {t e k : Nat} {cs : List Value} {x : DataW H × List MemPlace} {α : Type} (en : α → List Value) (hen : ∀ x, (en x).length = k) (x0 : α) (Q : α → Prop)
    (ht : P.underlying t = some (.slice e)) (hk : P.cellsOf e = k) (k0 : 0 < k)
    (hrec : ∀ m cs x, DataW.trod enc P w 0 (fun _ => true) true m e cs = some x → ∃ y : α, cs = en y ∧ Q y)
    (h : DataW.trod enc P w 0 (fun _ => true) true fuel t cs = some x) :
    ∃ (a : Option Addr) (n c : Nat) (l : List α), cs = [.slice a n c] ∧ Sl w k a n c (l.flatMap en) ∧ ∀ y ∈ l, Q y := by
  rcases DataW.trod_slice ht h with ⟨rfl, _⟩ | ⟨a', n, c, elems, rest, m, _, rfl, _, hb, hl, hm, hlen, hel, hsp, _⟩
  · exact ⟨none, 0, 0, [], rfl, Sl.nil w k, by simp⟩
  · by_cases h0 : c = 0
    · obtain rfl : n = 0 := by omega
      exact ⟨some a', 0, c, [], rfl, ⟨by simp, hl, hm, .inl h0⟩, by simp⟩
    · obtain ⟨hrl, hre⟩ := hsp rfl
      have cell0 : ∀ i, i < c → ∃ y : α, Q y ∧ w.cells? 0 (a'.add (i * P.cellsOf e)) (P.cellsOf e) = some (en y) := by
        intro i hi
        have h1 : ∃ z, (w.cells? 0 (a'.add (i * P.cellsOf e)) (P.cellsOf e)).bind (DataW.trod enc P w 0 (fun _ => true) true m e) = some z := by
          rcases Nat.lt_or_ge i n with h5 | h5
          · refine ⟨elems[i]'(by omega), ?_⟩
            rw [hel i h5]
            exact List.getElem?_eq_getElem (by omega)
          · refine ⟨rest[i - n]'(by omega), ?_⟩
            have h6 := hre (i - n) (by omega)
            rw [show n + (i - n) = i by omega] at h6
            rw [h6]
            exact List.getElem?_eq_getElem (by omega)
        obtain ⟨z, hz⟩ := h1
        rw [Option.bind_eq_some_iff] at hz
        obtain ⟨cs', hc', ht'⟩ := hz
        obtain ⟨y, rfl, hq⟩ := hrec _ _ _ ht'
        exact ⟨y, hq, hc'⟩
      obtain ⟨b, off, spot⟩ := a'
      have hs : spot = none := by
        obtain ⟨y, _, hc'⟩ := cell0 0 (by omega)
        have h7 := (World.cells?_some hc').2.2 0 (by rw [hk]; exact k0)
        rw [show Addr.add (Addr.add ⟨b, off, spot⟩ (0 * P.cellsOf e)) 0 = ⟨b, off, spot⟩ by simp [Addr.add]] at h7
        have h8 : ∃ v, (en y)[0]? = some v := ⟨(en y)[0]'(by rw [hen]; exact k0), List.getElem?_eq_getElem (by rw [hen]; exact k0)⟩
        obtain ⟨v, hv⟩ := h8
        first | rw [hv] at h7 | rw [← h7] at hv
        unfold World.cell? at h7
        split at h7
        · cases spot with
          | none => rfl
          | some _ => simp at h7
        · cases h7
      subst hs
      simp only [add_none] at cell0
      have each : ∀ i, ∃ y : α, i < n → (∀ j, j < k → w.cell? ⟨b, off + i * k + j, none⟩ = (en y)[j]?) ∧ Q y := by
        intro i
        by_cases hi : i < n
        · obtain ⟨z, hq, hc'⟩ := cell0 i (by omega)
          rw [hk] at hc'
          refine ⟨z, fun _ => ⟨fun j hj => ?_, hq⟩⟩
          have h4 := (World.cells?_some hc').2.2 j hj
          rw [add_none] at h4
          first | exact h4 | exact h4.symm
        · exact ⟨x0, fun h => absurd h hi⟩
      obtain ⟨g, hg⟩ := Classical.axiomOfChoice each
      have hget : ∀ i, i < n → ((List.range n).map g)[i]?.getD x0 = g i := fun i hi => by simp [hi]
      refine ⟨some ⟨b, off, none⟩, n, c, (List.range n).map g, rfl, ⟨?_, hl, hm, .inr ⟨b, off, rfl, fun i hi => ?_⟩⟩, ?_⟩
      · rw [fm_len hen]
        simp
      · have hq : i / k < n := (Nat.div_lt_iff_lt_mul k0).2 hi
        have hr : i % k < k := Nat.mod_lt _ k0
        have h7 : i / k * k + i % k = i := by rw [Nat.mul_comm]; exact Nat.div_add_mod i k
        have h8 := (hg (i / k) hq).1 (i % k) hr
        rw [Nat.add_assoc, h7] at h8
        rw [h8]
        have h9 := fm_get hen ((List.range n).map g) x0 (i / k) (by simpa using hq) (i % k) hr
        rw [h7, hget _ hq] at h9
        exact h9.symm
      · intro y hy
        obtain ⟨i, hi, rfl⟩ := List.mem_map.1 hy
        exact (hg i (by simpa using hi)).2
/-- What is known of a floor that came in. -/
def FlQ (w : World) (y : FlR) (f : Fl) : Prop := y.1 = f.1 ∧ y.2.1 = f.2.1 ∧ SEl w y.2.2.1 y.2.2.2.1 y.2.2.2.2 f.2.2
/-- The numbers of a floor that came in. -/
def FlW (f : Fl) : Prop := (Lit.int .i64 f.1).wf = true ∧ (Lit.int .i64 f.2.1).wf = true ∧ ∀ z ∈ f.2.2, (Lit.int .i64 z.1).wf = true ∧ (Lit.int .i64 z.2.1).wf = true
theorem trod_fl {H : Type} {enc : TypeId × Value → H} {w : World} {m : Nat} {cs : List Value} {x : DataW H × List MemPlace} (h : DataW.trod enc Tryz.prog w 0 (fun _ => true) true m 120 cs = some x) :
    ∃ y : FlR, cs = encFlR y ∧ ∃ f, FlQ w y f ∧ FlW f := by
  obtain ⟨xs, n, _, _, hl, hxl, hx⟩ := DataW.trod_struct Tryz.underlying120 h
  have c2 : Tryz.prog.cellsOf 120 = 3 := by kernel_rfl
  rw [c2] at hl
  match cs, hl with
  | [p, q, r], _ =>
    have h0 := hx 0 _ rfl
    have h1 := hx 1 _ rfl
    have h2 := hx 2 _ rfl
    rw [List.getElem?_eq_getElem (by simp at hxl; omega)] at h0 h1 h2
    obtain ⟨n, rfl, hw⟩ := cell_of_int Tryz.underlying3 h0
    obtain ⟨m, rfl, hw'⟩ := cell_of_int Tryz.underlying3 h1
    obtain ⟨a, n', c, l, hr, hs, hwl⟩ := inner_enc encE encE_len el0 (fun y => (Lit.int .i64 y.1).wf = true ∧ (Lit.int .i64 y.2.1).wf = true) Tryz.underlying60 (by kernel_rfl) (by decide) (fun _ _ _ => trod_el) h2
    have hr' : [r] = [Value.slice a n' c] := hr
    injection hr' with hr'
    subst hr'
    exact ⟨(n, m, (a, n', c)), rfl, (n, m, l), ⟨rfl, rfl, hs⟩, hw, hw', hwl⟩
theorem fls_of {w : World} : ∀ raw : List FlR, (∀ y ∈ raw, ∃ f, FlQ w y f ∧ FlW f) → ∃ fs : List Fl, raw.length = fs.length ∧ (∀ i, i < fs.length → FlQ w (raw[i]?.getD flr0) (fs[i]?.getD fl0)) ∧ ∀ f ∈ fs, FlW f
  | [], _ => ⟨[], rfl, fun i hi => absurd hi (by simp), by simp⟩
  | y :: raw, h => by
    obtain ⟨f, h1, h2⟩ := h y (by simp)
    obtain ⟨fs, h3, h4, h5⟩ := fls_of raw (fun z hz => h z (by simp [hz]))
    refine ⟨f :: fs, by simp [h3], fun i hi => ?_, fun g hg => ?_⟩
    · cases i with
      | zero => exact h1
      | succ i => exact h4 i (by simpa using hi)
    · rcases List.mem_cons.1 hg with rfl | hg
      · exact h2
      · exact h5 g hg
theorem one_cell5 {cs : Array Value} (h : cs.size = 1) : ∃ x, cs = #[x] := by
  obtain ⟨l⟩ := cs
  match l, h with
  | [x], _ => exact ⟨x, rfl⟩
/-- A frame that came in. -/
theorem open_model {H : Type} {enc : TypeId × Value → H} {w : World} {base : Nat} {v : Value} {d : DataW H} {p : List MemPlace}
    (hok : Value.okWide Tryz.prog w .any base 71 v) (h : DataW.Trod enc Tryz.prog w 0 (fun _ => true) true 71 v d p) :
    ∃ a n c raw fs, v = .agg #[.slice a n c] ∧ FrV w a n c raw fs ∧ ∀ f ∈ fs, FlW f := by
  obtain ⟨cs, rfl, hsz, hall, hf⟩ := open_struct (ts := [69]) Tryz.underlying71 (by kernel_rfl) hok h
  obtain ⟨x, rfl⟩ := one_cell5 (hsz.trans (by kernel_rfl))
  obtain ⟨m0, x0, h0⟩ := hf 0 _ rfl
  simp only at h0
  obtain ⟨ty, hty, ho⟩ := hall 0 x rfl
  cases hty
  obtain ⟨k1, d', p', k2⟩ := cell_of_slice Tryz.underlying69 ho h0
  obtain ⟨a, n, c, raw, rfl, hs, hq⟩ := open_enc encFlR encFlR_len flr0 (fun y => ∃ f, FlQ w y f ∧ FlW f) Tryz.underlying69 (by kernel_rfl) (by decide) (fun _ _ _ => trod_fl) k1 k2
  obtain ⟨fs, h3, h4, h5⟩ := fls_of raw hq
  exact ⟨a, n, c, raw, fs, rfl, ⟨hs, h3, h4⟩, h5⟩
end Go.Proofs.YtaiikekgckjdeaaGreat

namespace Go.Proofs.YtaiikekgckjdeaaGreat
open Go.RowKit
open Calmly (Kept)

/-! ### Fractions -/
abbrev FcR := Int × Int
def encFcR (x : FcR) : List Value := [.int .i64 x.1, .int .i64 x.2]
def fcr0 : FcR := (0, 0)
theorem encFcR_len (x : FcR) : (encFcR x).length = 2 := rfl
def SFcR (w : World) (a : Option Addr) (n c : Nat) (l : List FcR) : Prop := Sl w 2 a n c (l.flatMap encFcR)
theorem SFcR.keep {w w' : World} {a : Option Addr} {n c : Nat} {l : List FcR} (h : SFcR w a n c l) (hb : Below w.heap.size w w') : SFcR w' a n c l := Sl.keep h hb
theorem SFcR.len {w : World} {a : Option Addr} {n c : Nat} {l : List FcR} (h : SFcR w a n c l) : n = l.length := Sl.recsLen encFcR_len (by decide) h
theorem SFcR.cap {w : World} {a : Option Addr} {n c : Nat} {l : List FcR} (h : SFcR w a n c l) : n ≤ c := h.2.1
theorem SFcR.max {w : World} {a : Option Addr} {n c : Nat} {l : List FcR} (h : SFcR w a n c l) : c ≤ 9223372036854775807 := h.2.2.1
theorem SFcR.nil (w : World) : SFcR w none 0 0 [] := Sl.nil w 2
theorem SFcR.at_ {w : World} {a : Option Addr} {n c : Nat} {l : List FcR} (h : SFcR w a n c l) (hn : 0 < n) :
    ∃ b off, a = some ⟨b, off, none⟩ ∧ ∀ i, i < n → w.cell? ⟨b, off + i * 2, none⟩ = some (.int .i64 (l[i]?.getD fcr0).1) ∧ w.cell? ⟨b, off + i * 2 + 1, none⟩ = some (.int .i64 (l[i]?.getD fcr0).2) := by
  obtain ⟨b, off, ha, hc⟩ := Sl.recs encFcR_len (by decide) fcr0 h hn
  exact ⟨b, off, ha, fun i hi => ⟨hc i hi 0 (by omega), hc i hi 1 (by omega)⟩⟩
theorem SFcR.blk {w : World} {a : Option Addr} {n c : Nat} {l : List FcR} (h : SFcR w a n c l) : ∀ b o, 0 < n → a = some ⟨b, o, none⟩ → b < w.heap.size := by
  intro b o hn ha
  obtain ⟨b', o', he, hc⟩ := h.at_ hn
  rw [ha] at he
  cases he
  exact cell_lt (hc 0 hn).1
theorem Tryz.info_fcr : (Tryz.prog.info? 27).map (fun i => (i.zero, i.size, i.bytes)) = some (some (.agg #[.int .i64 0, .int .i64 0]), 2, 16) := by kernel_rfl
def OwFcR (w : World) (B : Nat) (a : Option Addr) (n c : Nat) (l : List FcR) : Prop := w.ownsRow B 27 2 (.slice a n c) n (l.flatMap encFcR)
theorem OwFcR.nil (w : World) (B : Nat) : OwFcR w B none 0 0 [] := World.ownsRow_nil w B _ 2
theorem OwFcR.sr {w : World} {B : Nat} {a : Option Addr} {n c : Nat} {l : List FcR} (h : OwFcR w B a n c l) : SFcR w a n c l := by
  obtain ⟨a', c', he, hs⟩ := Sl.of_owns h
  cases he
  exact hs
theorem OwFcR.keep {w w' : World} {B : Nat} {a : Option Addr} {n c : Nat} {l : List FcR} (h : OwFcR w B a n c l) (hb : Below w.heap.size w w') : OwFcR w' B a n c l := owns_keep h hb
theorem OwFcR.lt {w : World} {B : Nat} {a : Option Addr} {n c : Nat} {l : List FcR} (h : OwFcR w B a n c l) : ∀ g o, a = some ⟨g, o, none⟩ → B ≤ g ∧ g < w.heap.size := by
  rintro g o rfl
  exact World.ownsRow.lt h g rfl
theorem oneCell_FcR (x : FcR) : ∀ u ∈ encFcR x, u.oneCell' = true := by
  intro u hu
  simp only [encFcR, List.mem_cons, List.not_mem_nil, or_false] at hu
  rcases hu with rfl | rfl <;> rfl

/-! ### Rows -/
abbrev LsR := Hd
def encLsR (x : LsR) : List Value := [hv x]
def lsr0 : LsR := (hd0)
theorem encLsR_len (x : LsR) : (encLsR x).length = 1 := rfl
def SLsR (w : World) (a : Option Addr) (n c : Nat) (l : List LsR) : Prop := Sl w 1 a n c (l.flatMap encLsR)
theorem SLsR.keep {w w' : World} {a : Option Addr} {n c : Nat} {l : List LsR} (h : SLsR w a n c l) (hb : Below w.heap.size w w') : SLsR w' a n c l := Sl.keep h hb
theorem SLsR.len {w : World} {a : Option Addr} {n c : Nat} {l : List LsR} (h : SLsR w a n c l) : n = l.length := Sl.recsLen encLsR_len (by decide) h
theorem SLsR.cap {w : World} {a : Option Addr} {n c : Nat} {l : List LsR} (h : SLsR w a n c l) : n ≤ c := h.2.1
theorem SLsR.max {w : World} {a : Option Addr} {n c : Nat} {l : List LsR} (h : SLsR w a n c l) : c ≤ 9223372036854775807 := h.2.2.1
theorem SLsR.nil (w : World) : SLsR w none 0 0 [] := Sl.nil w 1
theorem SLsR.at_ {w : World} {a : Option Addr} {n c : Nat} {l : List LsR} (h : SLsR w a n c l) (hn : 0 < n) :
    ∃ b off, a = some ⟨b, off, none⟩ ∧ ∀ i, i < n → w.cell? ⟨b, off + i * 1, none⟩ = some (hv (l[i]?.getD lsr0)) := by
  obtain ⟨b, off, ha, hc⟩ := Sl.recs encLsR_len (by decide) lsr0 h hn
  exact ⟨b, off, ha, fun i hi => hc i hi 0 (by omega)⟩
theorem SLsR.blk {w : World} {a : Option Addr} {n c : Nat} {l : List LsR} (h : SLsR w a n c l) : ∀ b o, 0 < n → a = some ⟨b, o, none⟩ → b < w.heap.size := by
  intro b o hn ha
  obtain ⟨b', o', he, hc⟩ := h.at_ hn
  rw [ha] at he
  cases he
  exact cell_lt (hc 0 hn)
theorem Tryz.info_lsr : (Tryz.prog.info? 29).map (fun i => (i.zero, i.size, i.bytes)) = some (some (.slice none 0 0), 1, 24) := by kernel_rfl
def OwLsR (w : World) (B : Nat) (a : Option Addr) (n c : Nat) (l : List LsR) : Prop := w.ownsRow B 29 1 (.slice a n c) n (l.flatMap encLsR)
theorem OwLsR.nil (w : World) (B : Nat) : OwLsR w B none 0 0 [] := World.ownsRow_nil w B _ 1
theorem OwLsR.sr {w : World} {B : Nat} {a : Option Addr} {n c : Nat} {l : List LsR} (h : OwLsR w B a n c l) : SLsR w a n c l := by
  obtain ⟨a', c', he, hs⟩ := Sl.of_owns h
  cases he
  exact hs
theorem OwLsR.keep {w w' : World} {B : Nat} {a : Option Addr} {n c : Nat} {l : List LsR} (h : OwLsR w B a n c l) (hb : Below w.heap.size w w') : OwLsR w' B a n c l := owns_keep h hb
theorem OwLsR.lt {w : World} {B : Nat} {a : Option Addr} {n c : Nat} {l : List LsR} (h : OwLsR w B a n c l) : ∀ g o, a = some ⟨g, o, none⟩ → B ≤ g ∧ g < w.heap.size := by
  rintro g o rfl
  exact World.ownsRow.lt h g rfl
theorem oneCell_LsR (x : LsR) : ∀ u ∈ encLsR x, u.oneCell' = true := by
  intro u hu
  simp only [encLsR, List.mem_cons, List.not_mem_nil, or_false] at hu
  subst hu; rfl

/-- A row of rows that reads. -/
structure LlV (w : World) (a : Option Addr) (n c : Nat) (raw : List LsR) (M : List (List Int)) : Prop where
  row : SLsR w a n c raw
  len : raw.length = M.length
  at_ : ∀ i, i < M.length → SI w (raw[i]?.getD lsr0).1 (raw[i]?.getD lsr0).2.1 (raw[i]?.getD lsr0).2.2 (M[i]?.getD [])
theorem LlV.keep {w w' : World} {a : Option Addr} {n c : Nat} {raw : List LsR} {M : List (List Int)} (h : LlV w a n c raw M) (hb : Below w.heap.size w w') : LlV w' a n c raw M := ⟨h.row.keep hb, h.len, fun i hi => (h.at_ i hi).keep hb⟩
theorem LlV.n_ {w : World} {a : Option Addr} {n c : Nat} {raw : List LsR} {M : List (List Int)} (h : LlV w a n c raw M) : n = M.length := by rw [h.row.len, h.len]
theorem drawn (w : World) (n : Nat) : Below w.heap.size w (w.drewN n) := below_drewN (Below.refl _ _) n
set_option maxRecDepth 100000 in
set_option maxHeartbeats 2000000 in
theorem fracs_any (a b : Option Addr) (n c m d : Nat) (ss ts : List FcR) (w : World) (h1 : SFcR w a n c ss) (h2 : SFcR w b m d ts) :
    Calls Tryz.prog 16 #[.slice a n c, .slice b m d] w fun e w' => e = .returned (.bool (decide (ss = ts))) ∧ Below w.heap.size w w' := by
  have hl : n = ss.length := h1.len
  have hl' : m = ts.length := h2.len
  have x1 := h1.max
  have x2 := h1.cap
  have x3 := h2.max
  have x4 := h2.cap
  have HL := Lib.hid hl
  have HL' := Lib.hid hl'
  clear hl hl'
  obtain ⟨R, hR⟩ : ∃ R, decide (ss = ts) = R := ⟨_, rfl⟩
  rw [hR]
  have HR := Lib.hid hR
  clear hR
  by_cases e3 : n = m
  case neg =>
    have b1 : ((n : Int) != (m : Int)) = true := by simp; omega
    go_enter Tryz.func16, Tryz.ntmps16
    go_wp2_with fail
    go_ret
    refine ⟨ret_bool ?_, Below.refl _ _⟩
    have hne : ¬ ss = ts := fun h => e3 (by rw [HL.out, HL'.out, h])
    rw [← HR.out]
    simp [hne]
  case pos =>
    subst e3
    have bq : ((n : Int) != (n : Int)) = false := by simp
    go_enter Tryz.func16, Tryz.ntmps16
    go_wp2_with fail
    go_loopw [5] (fun i wr => ∃ k : Nat, k ≤ n ∧ i = .int .i64 k ∧ ss.take k = ts.take k ∧ Below w.heap.size w wr) (fun i _ => n - (intOf i).toNat)
    case atStart => exact ⟨0, by omega, rfl, rfl, Below.refl _ _⟩
    case round =>
      obtain ⟨k, hk, rfl, ht, hb⟩ := hrel
      have HT := Lib.hid ht
      clear ht
      by_cases hlt : k < n
      · have hi : (k : Int) < (n : Int) := by omega
        have hi0 : (0 : Int) ≤ (k : Int) := by omega
        go_wp2_with fail
        refine Calmly.wp_region_mix 8 (.fl 0 <| .fl 1 <| .fl 2 <| .fl 3 <| .fl 4 <| .fl 5 <| .fl 6 <| .fl 7 <| .tail [8]) (by kernel_rfl) (by kernel_rfl) ?_
        have BD : Below wr.heap.size wr wr.drew := (Below.refl _ _).drew
        have hb3 := hb.trans (BD.mono hb.size)
        clear BD
        generalize wr.drew = V at *
        have kH := h1.keep hb3
        have kH' := h2.keep hb3
        obtain ⟨b1', o1, r1, hc1⟩ := kH.at_ (by omega)
        obtain ⟨b2', o2, r2, hc2⟩ := kH'.at_ (by omega)
        subst r1 r2
        obtain ⟨p0, p1⟩ := hc1 k hlt
        obtain ⟨q0, q1⟩ := hc2 k hlt
        obtain ⟨X, hX⟩ : ∃ x, ss[k]?.getD fcr0 = x := ⟨_, rfl⟩
        obtain ⟨Y, hY⟩ : ∃ x, ts[k]?.getD fcr0 = x := ⟨_, rfl⟩
        rw [hX] at p0 p1
        rw [hY] at q0 q1
        obtain ⟨x1', x2'⟩ := X
        obtain ⟨y1', y2'⟩ := Y
        dsimp only at p0 p1 q0 q1
        have HX := Lib.hid hX
        have HY := Lib.hid hY
        clear hc1 hc2 hX hY kH kH' 
        have hkn := hlt
        have hkl := hk
        clear hk hlt
        have hk := Below.refl V.heap.size V
        by_cases he1 : x1' = y1'
        · subst he1
          by_cases he2 : x2' = y2'
          · subst he2
            go_wp2_with (first | ((with_reducible refine Calmly.is_fl ?_); refine Calmly.mix_fl rfl ?_ (fun _ _ => ?_); (first | exact .move _ | exact .load _ _ | exact .fieldAddr _ _ _ (by kernel_rfl) | exact .assign _ | exact .binOp _ _ _ _ _ rfl | exact .indexAddr _ _ _ | exact .len _ _ (by kernel_rfl) | exact .field _ _ _ | exact .extract _ _ | exact .pick _ _ _ | exact .build _ _ | exact .slice _ _ _ _ _ | exact .unOp _ _ _ rfl | exact .index _ _ _ | exact .max _ _ _ rfl rfl | exact .min _ _ _ rfl rfl | exact .nilCheck _ _ rfl)) | ((with_reducible refine Calmly.is_gl ?_); refine Calmly.mix_gl rfl rfl rfl ?_; first | ((first | with_reducible refine Calmly.gl_tt ?_ (fun _ _ => ?_) | with_reducible refine Calmly.gl_ff ?_ (fun _ _ => ?_)); (first | exact .move _ | exact .load _ _ | exact .fieldAddr _ _ _ (by kernel_rfl) | exact .assign _ | exact .binOp _ _ _ _ _ rfl | exact .indexAddr _ _ _ | exact .len _ _ (by kernel_rfl) | exact .field _ _ _ | exact .extract _ _ | exact .pick _ _ _ | exact .build _ _ | exact .slice _ _ _ _ _ | exact .unOp _ _ _ rfl | exact .index _ _ _ | exact .max _ _ _ rfl rfl | exact .min _ _ _ rfl rfl | exact .nilCheck _ _ rfl)) | with_reducible refine Calmly.gl_tf (fun _ _ => ?_) | with_reducible refine Calmly.gl_ft (fun _ _ => ?_)) | ((with_reducible refine Calmly.is_eff ?_); refine Calmly.mix_eff rfl (fun _ _ => ?_)) | ((with_reducible refine Calmly.is_gf ?_); refine Calmly.mix_gf rfl rfl rfl ?_; first | with_reducible refine Calmly.gf_tt (fun _ _ => ?_) | with_reducible refine Calmly.gf_ff (fun _ _ => ?_) | with_reducible refine Calmly.gf_tf (kept_of hk) (fun _ _ => ?_) | with_reducible refine Calmly.gf_ft (kept_of hk) (fun _ _ => ?_)) | ((with_reducible refine Calmly.is_tail ?_); first | refine Calmly.mix_tail_nil ?_ | refine Calmly.mix_tail rfl (fun _ _ => ?_)) | ((with_reducible refine Calmly.is_kept ?_); refine ⟨kept_of hk, ?_⟩) | (with_reducible refine Calmly.mix_alt ?_ ?_))
            go_roundw
            case rel => exact ⟨k + 1, by omega, by go_num, takeG_step fcr0 HT.out (by have := HL.out; omega) (by have := HL'.out; omega) (by rw [HX.out, HY.out]), hb3.trans (hk.mono hb3.size)⟩
            case measure => simp [intOf]; omega
          · have d1 : (x2' == y2') = false := by simpa using he2
            have HE := Lib.hid he2
            clear he2
            go_wp2_with (first | ((with_reducible refine Calmly.is_fl ?_); refine Calmly.mix_fl rfl ?_ (fun _ _ => ?_); (first | exact .move _ | exact .load _ _ | exact .fieldAddr _ _ _ (by kernel_rfl) | exact .assign _ | exact .binOp _ _ _ _ _ rfl | exact .indexAddr _ _ _ | exact .len _ _ (by kernel_rfl) | exact .field _ _ _ | exact .extract _ _ | exact .pick _ _ _ | exact .build _ _ | exact .slice _ _ _ _ _ | exact .unOp _ _ _ rfl | exact .index _ _ _ | exact .max _ _ _ rfl rfl | exact .min _ _ _ rfl rfl | exact .nilCheck _ _ rfl)) | ((with_reducible refine Calmly.is_gl ?_); refine Calmly.mix_gl rfl rfl rfl ?_; first | ((first | with_reducible refine Calmly.gl_tt ?_ (fun _ _ => ?_) | with_reducible refine Calmly.gl_ff ?_ (fun _ _ => ?_)); (first | exact .move _ | exact .load _ _ | exact .fieldAddr _ _ _ (by kernel_rfl) | exact .assign _ | exact .binOp _ _ _ _ _ rfl | exact .indexAddr _ _ _ | exact .len _ _ (by kernel_rfl) | exact .field _ _ _ | exact .extract _ _ | exact .pick _ _ _ | exact .build _ _ | exact .slice _ _ _ _ _ | exact .unOp _ _ _ rfl | exact .index _ _ _ | exact .max _ _ _ rfl rfl | exact .min _ _ _ rfl rfl | exact .nilCheck _ _ rfl)) | with_reducible refine Calmly.gl_tf (fun _ _ => ?_) | with_reducible refine Calmly.gl_ft (fun _ _ => ?_)) | ((with_reducible refine Calmly.is_eff ?_); refine Calmly.mix_eff rfl (fun _ _ => ?_)) | ((with_reducible refine Calmly.is_gf ?_); refine Calmly.mix_gf rfl rfl rfl ?_; first | with_reducible refine Calmly.gf_tt (fun _ _ => ?_) | with_reducible refine Calmly.gf_ff (fun _ _ => ?_) | with_reducible refine Calmly.gf_tf (kept_of hk) (fun _ _ => ?_) | with_reducible refine Calmly.gf_ft (kept_of hk) (fun _ _ => ?_)) | ((with_reducible refine Calmly.is_tail ?_); first | refine Calmly.mix_tail_nil ?_ | refine Calmly.mix_tail rfl (fun _ _ => ?_)) | ((with_reducible refine Calmly.is_kept ?_); refine ⟨kept_of hk, ?_⟩) | (with_reducible refine Calmly.mix_alt ?_ ?_))
            go_ret
            refine ⟨ret_bool ?_, hb3.trans (hk.mono hb3.size)⟩
            have hne : ¬ ss = ts := fun h => by
              subst h
              have h5 := HX.out.symm.trans HY.out; rw [Prod.mk.injEq] at h5; exact HE.out h5.2
            rw [← HR.out]
            simp [hne]
        · have d1 : (x1' == y1') = false := by simpa using he1
          have HE := Lib.hid he1
          clear he1
          go_wp2_with (first | ((with_reducible refine Calmly.is_fl ?_); refine Calmly.mix_fl rfl ?_ (fun _ _ => ?_); (first | exact .move _ | exact .load _ _ | exact .fieldAddr _ _ _ (by kernel_rfl) | exact .assign _ | exact .binOp _ _ _ _ _ rfl | exact .indexAddr _ _ _ | exact .len _ _ (by kernel_rfl) | exact .field _ _ _ | exact .extract _ _ | exact .pick _ _ _ | exact .build _ _ | exact .slice _ _ _ _ _ | exact .unOp _ _ _ rfl | exact .index _ _ _ | exact .max _ _ _ rfl rfl | exact .min _ _ _ rfl rfl | exact .nilCheck _ _ rfl)) | ((with_reducible refine Calmly.is_gl ?_); refine Calmly.mix_gl rfl rfl rfl ?_; first | ((first | with_reducible refine Calmly.gl_tt ?_ (fun _ _ => ?_) | with_reducible refine Calmly.gl_ff ?_ (fun _ _ => ?_)); (first | exact .move _ | exact .load _ _ | exact .fieldAddr _ _ _ (by kernel_rfl) | exact .assign _ | exact .binOp _ _ _ _ _ rfl | exact .indexAddr _ _ _ | exact .len _ _ (by kernel_rfl) | exact .field _ _ _ | exact .extract _ _ | exact .pick _ _ _ | exact .build _ _ | exact .slice _ _ _ _ _ | exact .unOp _ _ _ rfl | exact .index _ _ _ | exact .max _ _ _ rfl rfl | exact .min _ _ _ rfl rfl | exact .nilCheck _ _ rfl)) | with_reducible refine Calmly.gl_tf (fun _ _ => ?_) | with_reducible refine Calmly.gl_ft (fun _ _ => ?_)) | ((with_reducible refine Calmly.is_eff ?_); refine Calmly.mix_eff rfl (fun _ _ => ?_)) | ((with_reducible refine Calmly.is_gf ?_); refine Calmly.mix_gf rfl rfl rfl ?_; first | with_reducible refine Calmly.gf_tt (fun _ _ => ?_) | with_reducible refine Calmly.gf_ff (fun _ _ => ?_) | with_reducible refine Calmly.gf_tf (kept_of hk) (fun _ _ => ?_) | with_reducible refine Calmly.gf_ft (kept_of hk) (fun _ _ => ?_)) | ((with_reducible refine Calmly.is_tail ?_); first | refine Calmly.mix_tail_nil ?_ | refine Calmly.mix_tail rfl (fun _ _ => ?_)) | ((with_reducible refine Calmly.is_kept ?_); refine ⟨kept_of hk, ?_⟩) | (with_reducible refine Calmly.mix_alt ?_ ?_))
          go_ret
          refine ⟨ret_bool ?_, hb3.trans (hk.mono hb3.size)⟩
          have hne : ¬ ss = ts := fun h => by
            subst h
            have h5 := HX.out.symm.trans HY.out; rw [Prod.mk.injEq] at h5; exact HE.out h5.1
          rw [← HR.out]
          simp [hne]
      · have hle : (n : Int) ≤ (k : Int) := by omega
        obtain rfl : n = k := by omega
        clear hlt hk
        go_wp2_with fail
        go_ret
        refine ⟨ret_bool ?_, hb⟩
        have h5 := HT.out
        rw [List.take_of_length_le (by have := HL.out; omega), List.take_of_length_le (by have := HL'.out; omega)] at h5
        rw [← HR.out]
        simp [h5]
end Go.Proofs.YtaiikekgckjdeaaGreat

namespace Go.Proofs.YtaiikekgckjdeaaGreat
open Go.RowKit
open Calmly (Kept)
set_option maxRecDepth 100000 in
set_option maxHeartbeats 1000000 in
theorem gcd_minB (a b : Int) (w : World) (ha1 : -9223372036854775808 ≤ a) (ha2 : a ≤ 9223372036854775807) (hb0 : 0 < b) (hb2 : b ≤ 9223372036854775807) :
    Calls Tryz.prog 70 #[.int .i64 a, .int .i64 b] w fun e w' => e = .returned (.int .i64 (Int.gcd a b)) ∧ ∃ n, w' = w.drewN n := by
  go_enter Tryz.func70, Tryz.ntmps70
  go_wp2
  go_loopw [0, 1] (fun x y wr => ∃ p q : Int, x = .int .i64 p ∧ y = .int .i64 q ∧ Int.gcd p q = Int.gcd a b ∧ (q = 0 → -9223372036854775807 ≤ p) ∧ -9223372036854775808 ≤ p ∧ p ≤ 9223372036854775807 ∧ -9223372036854775807 ≤ q ∧ q ≤ 9223372036854775807 ∧ ∃ n, wr = w.drewN n) (fun _ y _ => (intOf y).natAbs)
  case atStart => exact ⟨a, b, rfl, rfl, rfl, by omega, ha1, ha2, by omega, hb2, 0, rfl⟩
  case round =>
    obtain ⟨p, q, rfl, rfl, hg, hp0, hp1, hp2, hq1, hq2, n, rfl⟩ := hrel
    have HG := Lib.hid hg
    clear hg
    by_cases hz : q = 0
    · have hb : (q != 0) = false := by simp [hz]
      have hp1' := hp0 hz
      have Hz := Lib.hid hz
      clear hz hp0
      go_wp2_with (first | (go_at_call 57; refine (size_any _ _ hp1' hp2).mono ?_; rintro e w' ⟨rfl, rfl⟩))
      go_ret
      refine ⟨ret_int ?_, n, rfl⟩
      have := HG.out
      rw [Hz.out] at this
      simp at this
      omega
    · have hb : (q != 0) = true := by simpa using hz
      have h1 := tmod_bd (a := p) hz hq1 hq2
      have h2 := tmod_lt (a := p) hz
      have hc : (q == 0) = false := by simpa using hz
      clear hp0
      go_wp2_with fail
      refine Calmly.wp_region_mix 5 (.fl 0 <| .fl 1 <| .fl 2 <| .fl 3 <| .fl 4 <| .tail [5]) (by kernel_rfl) (by kernel_rfl) ?_
      go_wp2_with (first | ((with_reducible refine Calmly.is_fl ?_); refine Calmly.mix_fl rfl ?_ (fun _ _ => ?_); (first | exact .move _ | exact .load _ _ | exact .fieldAddr _ _ _ (by kernel_rfl) | exact .assign _ | exact .binOp _ _ _ _ _ rfl | exact .indexAddr _ _ _ | exact .len _ _ (by kernel_rfl) | exact .field _ _ _ | exact .extract _ _ | exact .pick _ _ _ | exact .build _ _ | exact .slice _ _ _ _ _ | exact .unOp _ _ _ rfl | exact .index _ _ _ | exact .max _ _ _ rfl rfl | exact .min _ _ _ rfl rfl | exact .nilCheck _ _ rfl)) | ((with_reducible refine Calmly.is_gl ?_); refine Calmly.mix_gl rfl rfl rfl ?_; first | ((first | with_reducible refine Calmly.gl_tt ?_ (fun _ _ => ?_) | with_reducible refine Calmly.gl_ff ?_ (fun _ _ => ?_)); (first | exact .move _ | exact .load _ _ | exact .fieldAddr _ _ _ (by kernel_rfl) | exact .assign _ | exact .binOp _ _ _ _ _ rfl | exact .indexAddr _ _ _ | exact .len _ _ (by kernel_rfl) | exact .field _ _ _ | exact .extract _ _ | exact .pick _ _ _ | exact .build _ _ | exact .slice _ _ _ _ _ | exact .unOp _ _ _ rfl | exact .index _ _ _ | exact .max _ _ _ rfl rfl | exact .min _ _ _ rfl rfl | exact .nilCheck _ _ rfl)) | with_reducible refine Calmly.gl_tf (fun _ _ => ?_) | with_reducible refine Calmly.gl_ft (fun _ _ => ?_)) | ((with_reducible refine Calmly.is_eff ?_); refine Calmly.mix_eff rfl (fun _ _ => ?_)) | ((with_reducible refine Calmly.is_gf ?_); refine Calmly.mix_gf rfl rfl rfl ?_; first | with_reducible refine Calmly.gf_tt (fun _ _ => ?_) | with_reducible refine Calmly.gf_ff (fun _ _ => ?_) | with_reducible refine Calmly.gf_tf (kept_of hk) (fun _ _ => ?_) | with_reducible refine Calmly.gf_ft (kept_of hk) (fun _ _ => ?_)) | ((with_reducible refine Calmly.is_tail ?_); first | refine Calmly.mix_tail_nil ?_ | refine Calmly.mix_tail rfl (fun _ _ => ?_)) | ((with_reducible refine Calmly.is_kept ?_); refine ⟨kept_of hk, ?_⟩) | (with_reducible refine Calmly.mix_alt ?_ ?_))
      go_roundw
      case rel => exact ⟨q, p.tmod q, rfl, rfl, by rw [gcd_step]; exact HG.out, by omega, by omega, hq2, h1.1, h1.2, n + 1, rfl⟩
      case measure => simpa [intOf] using h2

set_option maxRecDepth 100000 in
set_option maxHeartbeats 1000000 in
theorem isLowest_minB (x y : Int) (w : World) (h : F64 x y) :
    Calls Tryz.prog 100 #[.agg #[.int .i64 x, .int .i64 y]] w fun e w' => e = .returned (.bool (isLow x y)) ∧ Below w.heap.size w w' := by
  obtain ⟨⟨hx1, hx2⟩, hy1, hy2⟩ := h
  have hb : ∀ o, Below w.heap.size w (w.alloc o) := fun o => (Below.refl _ _).alloc (Nat.le_refl _) _
  by_cases h : 0 < y
  · go_enter Tryz.func100, Tryz.ntmps100
    go_wp2_with fail
    refine (gcd_minB x y _ hx1 hx2 h hy2).mono ?_
    rintro e w1 ⟨rfl, k, rfl⟩
    go_wp2_with fail
    go_ret
    refine ⟨ret_bool ?_, below_drewN (hb _) k⟩
    unfold isLow
    rw [decide_eq_true h]
    rfl
  · have h' : y ≤ 0 := by omega
    go_enter Tryz.func100, Tryz.ntmps100
    go_wp2_with fail
    go_ret
    refine ⟨ret_bool ?_, hb _⟩
    unfold isLow
    rw [decide_eq_false (by omega)]
    rfl
set_option maxRecDepth 100000 in
set_option maxHeartbeats 1000000 in
theorem rScaleErr_any (x y : Int) (w : World) (hf : F64 x y) : Calls Tryz.prog 86 #[.agg #[.int .i64 x, .int .i64 y]] w fun e w' => e = .returned (.int .i64 (sclErr (x, y))) ∧ Below w.heap.size w w' := by
  have y0 := alloc_new w (.cells #[.int .i64 x, .int .i64 y] 27)
  have BW : Below w.heap.size w (w.alloc (.cells #[.int .i64 x, .int .i64 y] 27)) := (Below.refl _ _).alloc (Nat.le_refl _) _
  have HE := Lib.hid (show sclErr (x, y) = firstE [unlessE (isLow x y) 3, unlessE (wIn x 1 100 && decide (y ≤ 100)) 2] from rfl)
  obtain ⟨E, hE⟩ : ∃ E, sclErr (x, y) = E := ⟨_, rfl⟩
  have hEE := HE.out
  rw [hE] at hEE ⊢
  replace HE := Lib.hid hEE
  clear hE hEE
  go_enter Tryz.func86, Tryz.ntmps86
  go_wp2_with fail
  generalize w.alloc (.cells #[.int .i64 x, .int .i64 y] 27) = W at *
  refine (isLowest_minB x y _ hf).mono ?_
  rintro e w1 ⟨rfl, hs⟩
  replace y0 := blk_keep y0 hs
  replace BW := BW.trans (hs.mono BW.size)
  have f0 := cell_block y0 0
  have f1 := cell_block y0 1
  cases h1 : isLow x y
  · go_wp2_with fail
    go_ret
    exact ⟨ret_int (by rw [HE.out, h1]; rfl), BW⟩
  · go_wp2_with fail
    refine (within_any x 1 100 _).mono ?_
    rintro e w1 ⟨rfl, rfl⟩
    cases h2 : wIn x 1 100
    · go_wp2_with fail
      go_ret
      exact ⟨ret_int (by rw [HE.out, h1]; simp [firstE, unlessE, h2]), BW⟩
    · by_cases h3 : y ≤ 100
      · have b3 : ¬ 100 < y := by omega
        go_wp2_with fail
        go_ret
        exact ⟨ret_int (by rw [HE.out, h1]; simp [firstE, unlessE, h2, h3]), BW⟩
      · have b3 : 100 < y := by omega
        go_wp2_with fail
        go_ret
        exact ⟨ret_int (by rw [HE.out, h1]; simp [firstE, unlessE, h2, h3]), BW⟩
set_option maxHeartbeats 400000 in
theorem rIsExp_any (n : Int) (w : World) : Calls Tryz.prog 50 #[.int .i64 n] w fun e w' => e = .returned (.bool (szd n 4)) ∧ w = w' := by
  go_enter Tryz.func50, Tryz.ntmps50
  go_wp2_with fail
  refine (within_any n (-4) 4 _).mono ?_
  rintro e w1 ⟨rfl, rfl⟩
  go_wp2_with fail
  go_ret
  exact ⟨rfl, rfl⟩
set_option maxRecDepth 100000 in
set_option maxHeartbeats 1000000 in
theorem rQuantityErr_any (a b c : Int) (w : World) : Calls Tryz.prog 49 #[.agg #[.int .i64 a, .int .i64 b, .int .i64 c]] w fun e w' => e = .returned (.int .i64 (qtyE a b c)) ∧ Below w.heap.size w w' := by
  have y0 := alloc_new w (.cells #[.int .i64 a, .int .i64 b, .int .i64 c] 53)
  have BW : Below w.heap.size w (w.alloc (.cells #[.int .i64 a, .int .i64 b, .int .i64 c] 53)) := (Below.refl _ _).alloc (Nat.le_refl _) _
  have HE := Lib.hid (show qtyE a b c = unlessE (true && szd a 4 && szd b 4 && szd c 4) 2 from rfl)
  have f0 := cell_block y0 0
  have f1 := cell_block y0 1
  have f2 := cell_block y0 2
  go_enter Tryz.func49, Tryz.ntmps49
  go_wp2_with fail
  generalize w.alloc (.cells #[.int .i64 a, .int .i64 b, .int .i64 c] 53) = W at *
  refine (rIsExp_any a _).mono ?_
  rintro e w1 ⟨rfl, rfl⟩
  cases ha : szd a 4
  · go_wp2_with fail
    go_ret
    exact ⟨ret_int (by rw [HE.out, ha]; rfl), BW⟩
  · go_wp2_with fail
    refine (rIsExp_any b _).mono ?_
    rintro e w1 ⟨rfl, rfl⟩
    cases hb : szd b 4
    · go_wp2_with fail
      go_ret
      exact ⟨ret_int (by rw [HE.out, ha, hb]; rfl), BW⟩
    · go_wp2_with fail
      refine (rIsExp_any c _).mono ?_
      rintro e w1 ⟨rfl, rfl⟩
      cases hc : szd c 4
      · go_wp2_with fail
        go_ret
        exact ⟨ret_int (by rw [HE.out, ha, hb, hc]; rfl), BW⟩
      · go_wp2_with fail
        go_ret
        exact ⟨ret_int (by rw [HE.out, ha, hb, hc]; rfl), BW⟩
set_option maxRecDepth 100000 in
set_option maxHeartbeats 1000000 in
theorem rCheckScales_any (n1 d1 n2 d2 n3 d3 : Int) (w : World) (h1 : F64 n1 d1) (h2 : F64 n2 d2) (h3 : F64 n3 d3) :
    Calls Tryz.prog 67 #[.agg #[.int .i64 n1, .int .i64 d1, .int .i64 n2, .int .i64 d2, .int .i64 n3, .int .i64 d3]] w fun e w' => e = .returned (.tuple #[.int .i64 (sclE (fs3 n1 d1 n2 d2 n3 d3)).1, .int .i64 (sclE (fs3 n1 d1 n2 d2 n3 d3)).2]) ∧ Below w.heap.size w w' := by
  have y0 := alloc_new w (.cells #[.int .i64 n1, .int .i64 d1, .int .i64 n2, .int .i64 d2, .int .i64 n3, .int .i64 d3] 28)
  have BW : Below w.heap.size w (w.alloc (.cells #[.int .i64 n1, .int .i64 d1, .int .i64 n2, .int .i64 d2, .int .i64 n3, .int .i64 d3] 28)) := (Below.refl _ _).alloc (Nat.le_refl _) _
  obtain ⟨I, E, hR⟩ : ∃ I E, sclE (fs3 n1 d1 n2 d2 n3 d3) = (I, E) := ⟨_, _, rfl⟩
  rw [hR]
  have HR := Lib.hid (show eaF (fun i => sclErr ((fs3 n1 d1 n2 d2 n3 d3)[i]?.getD fr0)) 0 (3 - 0) = (I, E) from hR)
  clear hR
  have hF : ∀ i, i < 3 → F64 ((fs3 n1 d1 n2 d2 n3 d3)[i]?.getD fr0).1 ((fs3 n1 d1 n2 d2 n3 d3)[i]?.getD fr0).2 := by
    intro i hi
    rcases i with _ | _ | _ | i
    · exact h1
    · exact h2
    · exact h3
    · omega
  have HF := Lib.hid hF
  have hC : ∀ i, i < 3 → ∀ w', Below w.heap.size w w' → w'.heap[w.heap.size]? = some (.cells #[.int .i64 n1, .int .i64 d1, .int .i64 n2, .int .i64 d2, .int .i64 n3, .int .i64 d3] 28) → w'.cell? ⟨w.heap.size, i * 2, none⟩ = some (.int .i64 ((fs3 n1 d1 n2 d2 n3 d3)[i]?.getD fr0).1) ∧ w'.cell? ⟨w.heap.size, i * 2 + 1, none⟩ = some (.int .i64 ((fs3 n1 d1 n2 d2 n3 d3)[i]?.getD fr0).2) := by
    intro i hi w' _ h
    rw [cell_block h, cell_block h]
    rcases i with _ | _ | _ | i
    · exact ⟨rfl, rfl⟩
    · exact ⟨rfl, rfl⟩
    · exact ⟨rfl, rfl⟩
    · omega
  have HC := Lib.hid hC
  clear hF hC
  go_enter Tryz.func67, Tryz.ntmps67
  go_wp2_with fail
  generalize w.alloc (.cells #[.int .i64 n1, .int .i64 d1, .int .i64 n2, .int .i64 d2, .int .i64 n3, .int .i64 d3] 28) = W at *
  go_loopw [4] (fun i wr => ∃ k : Nat, k ≤ 3 ∧ i = .int .i64 k ∧ eaF (fun i => sclErr ((fs3 n1 d1 n2 d2 n3 d3)[i]?.getD fr0)) k (3 - k) = (I, E) ∧ Below W.heap.size W wr) (fun i _ => 3 - (intOf i).toNat)
  case atStart => exact ⟨0, by omega, rfl, HR.out, Below.refl _ _⟩
  case round =>
    obtain ⟨k, hk3, rfl, ht, hb⟩ := hrel
    have HT := Lib.hid ht
    clear ht
    by_cases hlt : k < 3
    · obtain ⟨p0, p1⟩ := HC.out k hlt wr (BW.trans (hb.mono BW.size)) (blk_keep y0 hb)
      have hf := HF.out k hlt
      have hs : sclErr ((fs3 n1 d1 n2 d2 n3 d3)[k]?.getD fr0) = sclErr (((fs3 n1 d1 n2 d2 n3 d3)[k]?.getD fr0).1, ((fs3 n1 d1 n2 d2 n3 d3)[k]?.getD fr0).2) := rfl
      obtain ⟨xx, hxx⟩ : ∃ x, (fs3 n1 d1 n2 d2 n3 d3)[k]?.getD fr0 = x := ⟨_, rfl⟩
      obtain ⟨x, y⟩ := xx
      rw [hxx] at p0 p1 hf hs
      dsimp only at p0 p1 hf
      have HX := Lib.hid hxx
      have hi : (k : Int) < 3 := by omega
      have hi0 : (0 : Int) ≤ (k : Int) := by omega
      clear hs hxx
      go_wp2_with fail
      refine (rScaleErr_any x y _ hf).mono ?_
      rintro e w1 ⟨rfl, hs1⟩
      obtain ⟨R, hR⟩ : ∃ R, sclErr (x, y) = R := ⟨_, rfl⟩
      rw [hR]
      have HRR := Lib.hid hR
      clear hR p0 p1
      by_cases hz : R = 0
      · have b1 : (R != 0) = false := by rw [hz]; rfl
        have HZ := Lib.hid hz
        clear hz
        go_wp2_with fail
        go_roundw
        case rel => exact ⟨k + 1, by omega, by go_num, (eaF_ok (err := fun i => sclErr ((fs3 n1 d1 n2 d2 n3 d3)[i]?.getD fr0)) hlt (by show sclErr _ = 0; rw [HX.out, HRR.out, HZ.out])).symm.trans HT.out, hb.trans (hs1.mono hb.size)⟩
        case measure => simp [intOf]; omega
      · have b1 : (R != 0) = true := by simpa using hz
        have hRE : (I, E) = ((k : Int), R) := by
          have hsc : sclErr ((fs3 n1 d1 n2 d2 n3 d3)[k]?.getD fr0) = R := by rw [HX.out, HRR.out]
          rw [← HT.out, eaF_bad hlt (by show sclErr _ ≠ 0; rw [hsc]; exact hz), hsc]
        injection hRE with e1 e2
        have E1 := Lib.hid e1
        have E2 := Lib.hid e2
        clear e1 e2 hz
        go_wp2_with fail
        refine bodyPost_ret (v := .tuple #[.int .i64 (k : Int), .int .i64 R]) (by simp [results, Tryz.results67]) rfl ⟨by rw [E1.out, E2.out], BW.trans ((hb.trans (hs1.mono hb.size)).mono BW.size)⟩
    · have hle : (3 : Int) ≤ (k : Int) := by omega
      have hR0 : (I, E) = (0, 0) := by rw [← HT.out, eaF_end (by omega)]
      injection hR0 with e1 e2
      subst e1 e2
      go_wp2_with fail
      refine bodyPost_ret (v := .tuple #[.int .i64 0, .int .i64 0]) (by simp [results, Tryz.results67]) rfl ⟨rfl, BW.trans (hb.mono BW.size)⟩
end Go.Proofs.YtaiikekgckjdeaaGreat

namespace Go.Proofs.YtaiikekgckjdeaaGreat
open Go.RowKit Go.Maps
def fA (xs : List Int) : Array Value := (xs.map (Value.int .i64)).toArray
theorem fA_size (xs : List Int) : (fA xs).size = xs.length := by simp [fA]
theorem fA_one (xs : List Int) : (fA xs).all (·.oneCell') = true := by
  rw [Array.all_eq_true_iff_forall_mem]
  intro v hv
  simp [fA] at hv
  obtain ⟨x, _, rfl⟩ := hv
  rfl
theorem fA_get (xs : List Int) {i : Nat} (h : i < xs.length) : (fA xs)[i]? = some (.int .i64 (xs[i]?.getD 0)) := by
  simp [fA, h]
theorem fA_set (xs : List Int) (i : Nat) (v : Int) : (fA xs).setIfInBounds i (.int .i64 v) = fA (xs.set i v) := by
  simp [fA, List.map_set]
/-- The number at a place. -/
def xa (xs : List Int) (p : Nat) : Int := xs[p]?.getD 0
theorem xa_set_same {xs : List Int} {p : Nat} (h : p < xs.length) (v : Int) : xa (xs.set p v) p = v := by simp [xa, h]
theorem xa_set_other {xs : List Int} {p q : Nat} (h : p ≠ q) (v : Int) : xa (xs.set p v) q = xa xs q := by simp [xa, h]
/-- The array holds powers of primes alone, up to M in size. -/
structure PrA (M : Int) (xs : List Int) : Prop where
  len : xs.length = 101
  prm : ∀ p, xa xs p ≠ 0 → Prm p
  bd : ∀ p, -M ≤ xa xs p ∧ xa xs p ≤ M
/-- The product of so many. -/
def vaA (xs : List Int) : Nat → Rat
  | 0 => 1
  | k + 1 => vaA xs k * (k : Rat) ^ (xa xs k)
def upA (xs : List Int) : Nat → Nat
  | 0 => 1
  | k + 1 => upA xs k * k ^ (xa xs k).toNat
def dnA (xs : List Int) : Nat → Nat
  | 0 => 1
  | k + 1 => dnA xs k * k ^ (-(xa xs k)).toNat
def lA (xs : List Int) : Nat → List (Nat × Int)
  | 0 => []
  | k + 1 => if xa xs k = 0 then lA xs k else (k, xa xs k) :: lA xs k
theorem lA_lt {xs : List Int} : ∀ {k : Nat}, ∀ x ∈ lA xs k, x.1 < k ∧ x.2 = xa xs x.1 ∧ xa xs x.1 ≠ 0
  | 0, x, h => by cases h
  | k + 1, x, h => by
    rw [lA] at h
    split at h
    · have := lA_lt x h
      exact ⟨by omega, this.2⟩
    · rename_i hk
      rcases List.mem_cons.1 h with rfl | h
      · exact ⟨by dsimp only; omega, rfl, hk⟩
      · have := lA_lt x h
        exact ⟨by omega, this.2⟩
theorem lA_prms {M : Int} {xs : List Int} (h : PrA M xs) : ∀ k, Prms (lA xs k)
  | 0 => ⟨List.Pairwise.nil, fun _ h => by cases h⟩
  | k + 1 => by
    rw [lA]
    split
    · exact lA_prms h k
    · rename_i hk
      have ih := lA_prms h k
      refine ⟨List.pairwise_cons.2 ⟨fun y hy => by have := (lA_lt y hy).1; dsimp only; omega, ih.1⟩, fun y hy => ?_⟩
      rcases List.mem_cons.1 hy with rfl | hy
      · exact h.prm _ hk
      · exact ih.2 y hy
theorem lA_va (xs : List Int) : ∀ k, valQ (lA xs k) = vaA xs k
  | 0 => rfl
  | k + 1 => by
    rw [lA, vaA]
    split
    · rename_i hk
      rw [hk, Rat.zpow_zero, Rat.mul_one]
      exact lA_va xs k
    · rw [valQ, lA_va xs k, Rat.mul_comm]
theorem lA_up (xs : List Int) : ∀ k, upN (lA xs k) = upA xs k
  | 0 => rfl
  | k + 1 => by
    rw [lA, upA]
    split
    · rename_i hk
      rw [hk, show (0 : Int).toNat = 0 from rfl, Nat.pow_zero, Nat.mul_one]
      exact lA_up xs k
    · rw [upN, lA_up xs k, Nat.mul_comm]
theorem lA_dn (xs : List Int) : ∀ k, dnN (lA xs k) = dnA xs k
  | 0 => rfl
  | k + 1 => by
    rw [lA, dnA]
    split
    · rename_i hk
      rw [hk, show (-(0 : Int)).toNat = 0 from rfl, Nat.pow_zero, Nat.mul_one]
      exact lA_dn xs k
    · rw [dnN, lA_dn xs k, Nat.mul_comm]
theorem vaA_num {M : Int} {xs : List Int} (h : PrA M xs) (k : Nat) : (vaA xs k).num = (upA xs k : Int) ∧ (vaA xs k).den = dnA xs k := by
  have := valQ_num (lA_prms h k)
  rw [lA_va, lA_up, lA_dn] at this
  exact this
theorem fac_pos {M : Int} {xs : List Int} (h : PrA M xs) (p : Nat) : 0 < p ^ (xa xs p).toNat ∧ 0 < p ^ (-(xa xs p)).toNat := by
  by_cases h0 : xa xs p = 0
  · rw [h0]
    exact ⟨Nat.one_pos, Nat.one_pos⟩
  · have := (h.prm p h0).1
    exact ⟨Nat.pow_pos (by omega), Nat.pow_pos (by omega)⟩
theorem upA_mono {M : Int} {xs : List Int} (h : PrA M xs) (k d : Nat) : upA xs k ≤ upA xs (k + d) ∧ dnA xs k ≤ dnA xs (k + d) := by
  induction d with
  | zero => exact ⟨Nat.le_refl _, Nat.le_refl _⟩
  | succ d ih =>
    have hp := fac_pos h (k + d)
    exact ⟨Nat.le_trans ih.1 (Nat.le_mul_of_pos_right _ hp.1), Nat.le_trans ih.2 (Nat.le_mul_of_pos_right _ hp.2)⟩
theorem vaA_same {xs ys : List Int} : ∀ {k : Nat}, (∀ p, p < k → xa xs p = xa ys p) → vaA xs k = vaA ys k
  | 0, _ => rfl
  | k + 1, h => by rw [vaA, vaA, vaA_same (fun p hp => h p (by omega)), h k (by omega)]
theorem vaA_set {xs : List Int} {p : Nat} (hp : 2 ≤ p) (hl : p < xs.length) (c : Int) : ∀ {k : Nat}, p < k → vaA (xs.set p (xa xs p + c)) k = vaA xs k * (p : Rat) ^ c
  | 0, h => by omega
  | k + 1, h => by
    have hp0 : (p : Rat) ≠ 0 := by
      intro e
      have : p = 0 := by exact_mod_cast e
      omega
    rw [vaA, vaA]
    by_cases e : p = k
    · subst e
      rw [vaA_same (ys := xs) (fun q hq => xa_set_other (by omega) _), xa_set_same hl, Rat.zpow_add hp0]
      grind
    · rw [vaA_set hp hl c (by omega), xa_set_other e]
      grind
theorem PrA.put {M M' : Int} {xs : List Int} (h : PrA M xs) {p : Nat} (hp : Prm p) (hp9 : p ≤ 100) {c : Int} (hM : M ≤ M') (hc : -M' ≤ xa xs p + c ∧ xa xs p + c ≤ M') : PrA M' (xs.set p (xa xs p + c)) ∧ vaA (xs.set p (xa xs p + c)) 101 = vaA xs 101 * (p : Rat) ^ c := by
  have hl : p < xs.length := by rw [h.len]; omega
  refine ⟨⟨by rw [List.length_set]; exact h.len, fun q hq => ?_, fun q => ?_⟩, vaA_set hp.1 hl c (by omega)⟩
  · by_cases e : p = q
    · subst e; exact hp
    · rw [xa_set_other e] at hq
      exact h.prm q hq
  · by_cases e : p = q
    · subst e
      rw [xa_set_same hl]
      exact hc
    · rw [xa_set_other e]
      have := h.bd q
      omega
theorem PrA.mono {M M' : Int} {xs : List Int} (h : PrA M xs) (hM : M ≤ M') : PrA M' xs := ⟨h.len, h.prm, fun p => by have := h.bd p; omega⟩
def z101 : List Int := List.replicate 101 0
theorem xa_zeros (p : Nat) : xa z101 p = 0 := by
  simp only [xa, z101, List.getElem?_replicate]
  split <;> rfl
theorem PrA.zero : PrA 0 z101 := ⟨by simp [z101], fun p h => absurd (xa_zeros p) h, fun p => by rw [xa_zeros]; omega⟩
theorem vaA_zero : ∀ k, vaA z101 k = 1
  | 0 => rfl
  | k + 1 => by rw [vaA, vaA_zero k, xa_zeros, Rat.zpow_zero, Rat.mul_one]
end Go.Proofs.YtaiikekgckjdeaaGreat
