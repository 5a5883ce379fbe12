/- The reference's copy of a frame. The arguments of a law of chapter 5, opened: frames. The reference's drift and push. The reference's push on a floor. The reference's next displacements. -/
import Derived.Test.YtaiikekgckjdeaaK21
namespace Go.Proofs.Ytaiikekgckjdeaa
open Go.RowKit
open Calmly (Kept)
theorem SEl.but {e : TypeId} {w w' : World} {a : Option Addr} {n c : Nat} {l : List El} (h : SEl w a n c l) (hi : In w 152 a) (hb : But e w w') (he : 152 ≠ e) : SEl w' a n c l :=
  Sl.same h (fun b o _ ha => hb.2 b (hi.blk b o ha).lt ((hi.blk b o ha).not he))
theorem owns_not {w w' : World} {B r n k c : Nat} {av : Option Addr} {e : TypeId} {xs : List Value} (h : w.ownsRow B e k (.slice av n c) n xs) (ho : ∀ b, b ≠ r → w'.heap[b]? = w.heap[b]?) (hr : ∀ g o, av = some ⟨g, o, none⟩ → g ≠ r) : w'.ownsRow B e k (.slice av n c) n xs := by
  obtain ⟨h1, h2⟩ := h
  refine ⟨h1, ?_⟩
  rcases h2 with h2 | ⟨g, cap, cur, hv, hg, hh, r'⟩
  · exact .inl h2
  · injection hv with e1 e2 e3
    exact .inr ⟨g, cap, cur, by rw [e1, e2, e3], hg, (ho g (hr g 0 e1)).trans hh, r'⟩
/-- The springs of so many floors that were copied. -/
def CfS (W : World) (fs : List Fl) (k : Nat) (rw' : List FlR) : Prop := ∀ i, i < k → (rw'[i]?.getD flr0).1 = (fs[i]?.getD fl0).1 ∧ (rw'[i]?.getD flr0).2.1 = (fs[i]?.getD fl0).2.1 ∧ SEl W (rw'[i]?.getD flr0).2.2.1 (rw'[i]?.getD flr0).2.2.2.1 (rw'[i]?.getD flr0).2.2.2.2 (fs[i]?.getD fl0).2.2 ∧ In W 152 (rw'[i]?.getD flr0).2.2.1
theorem CfS.keep {W W' : World} {fs : List Fl} {k : Nat} {rw' : List FlR} (h : CfS W fs k rw') (hb : Below W.heap.size W W') : CfS W' fs k rw' := fun i hi => ⟨(h i hi).1, (h i hi).2.1, (h i hi).2.2.1.keep hb, (h i hi).2.2.2.keep hb⟩
theorem CfS.but {e : TypeId} {W W' : World} {fs : List Fl} {k : Nat} {rw' : List FlR} (h : CfS W fs k rw') (hb : But e W W') (he : 152 ≠ e) : CfS W' fs k rw' := fun i hi => ⟨(h i hi).1, (h i hi).2.1, (h i hi).2.2.1.but (h i hi).2.2.2 hb he, (h i hi).2.2.2.but hb he⟩
/-- What lies between two rounds. -/
structure CfI (w : World) (a : Option Addr) (n c : Nat) (fs : List Fl) (k : Nat) (W : World) : Prop where
  bel : Below w.heap.size w W
  r1 : W.heap[w.heap.size]? = some (.cells #[.slice a n c] 24)
  r2 : W.heap[w.heap.size + 1]? = some (.cells #[.slice none 0 0] 24)
  out : ∃ av cv rw', W.heap[w.heap.size + 1 + 1]? = some (.cells #[.slice av k cv] 24) ∧ OwFlR W (w.heap.size + 1 + 1 + 1) av k cv rw' ∧ rw'.length = k ∧ CfS W fs k rw'
  sz : w.heap.size + 1 + 1 + 1 ≤ W.heap.size
theorem CfI.step {w X w9 : World} {a a4 a9 av : Option Addr} {n c k n' c4 c9 cv : Nat} {x y : Int} {fs : List Fl} {rw' : List FlR} (hbX : Below w.heap.size w X) (r1 : X.heap[w.heap.size]? = some (.cells #[.slice a n c] 24)) (r2 : X.heap[w.heap.size + 1]? = some (.cells #[.slice none 0 0] 24))
    (r3 : X.heap[w.heap.size + 1 + 1]? = some (.cells #[.slice av k cv] 24)) (hl : rw'.length = k) (hS : CfS X fs k rw') (hx : x = (fs[k]?.getD fl0).1) (hy : y = (fs[k]?.getD fl0).2.1) (hE : SEl X a4 n' c4 (fs[k]?.getD fl0).2.2) (hI : In X 152 a4)
    (ho9 : w9.ownsRow (w.heap.size + 1 + 1 + 1) 130 3 (.slice a9 (k + 1) c9) (k + 1) (rw'.flatMap encFlR ++ [.int .i64 x, .int .i64 y, .slice a4 n' c4])) (hb9 : Below (w.heap.size + 1 + 1 + 1) X w9) (hsm : ∀ b, b < X.heap.size → ¬ BlkT X b 130 → w9.heap[b]? = X.heap[b]?) (hs : w.heap.size + 1 + 1 + 1 ≤ X.heap.size) :
    CfI w a n c fs (k + 1) (w9.setCell ⟨w.heap.size + 1 + 1, 0, none⟩ (.slice a9 (k + 1) c9)) := by
  have hBut : But 130 X w9 := ⟨hb9.size, hsm⟩
  have q := (hb9.block _ (by omega)).trans r3
  have hB2 : But 24 w9 (w9.setCell ⟨w.heap.size + 1 + 1, 0, none⟩ (.slice a9 (k + 1) c9)) := But.setCell ⟨_, q⟩
  have hne : ∀ b, b ≠ w.heap.size + 1 + 1 → (w9.setCell ⟨w.heap.size + 1 + 1, 0, none⟩ (.slice a9 (k + 1) c9)).heap[b]? = w9.heap[b]? := fun b hb => Below.heap_setCell _ _ _ _ hb
  have q2 := setBlk q 0 (.slice a9 (k + 1) c9)
  refine ⟨(hbX.trans (hb9.mono (by omega))).setCell (by show w.heap.size ≤ w.heap.size + 1 + 1; omega) _, (hne _ (by omega)).trans ((hb9.block _ (by omega)).trans r1), (hne _ (by omega)).trans ((hb9.block _ (by omega)).trans r2), ⟨a9, c9, rw' ++ [(x, y, (a4, n', c4))], by simpa using q2, ?_, by rw [List.length_append, hl]; rfl, ?_⟩, ?_⟩
  · unfold OwFlR
    rw [List.flatMap_append]
    exact owns_apart ho9 hne (by omega)
  · intro i hi
    rcases Nat.lt_or_ge i k with hik | hik
    · rw [List.getElem?_append_left (by omega)]
      obtain ⟨e1, e2, e3, e4⟩ := ((hS.but hBut (by decide)).but hB2 (by decide)) i hik
      exact ⟨e1, e2, e3, e4⟩
    · obtain rfl : i = k := by omega
      rw [List.getElem?_append_right (by omega), hl, Nat.sub_self]
      exact ⟨hx, hy, (hE.but hI hBut (by decide)).but (hI.but hBut (by decide)) hB2 (by decide), (hI.but hBut (by decide)).but hB2 (by decide)⟩
  · have := hb9.size
    simp
    omega
theorem appRecZ {P : Program} {ops : Array Oper} {rest : List Oper} {o : Oper} {a : Act} {Q : Exit → Act → World → Prop} {Wx : World} (w0 : World) (sz : Nat) (hsz : w0.heap.size = sz) (t e : TypeId) {z : Value} {k bytes : Nat} {new : List Value} (hW : Wx = w0.alloc (.cells new.toArray e)) (hgd : o.guard = none) (s x' : Operand)
    (ho : o.op = .call { callee := .builtin .append, args := #[s, x'], argTypes := #[t, t] }) (ht : P.underlying t = some (.slice e)) (hinfo : (P.info? e).map (fun i => (i.zero, i.size, i.bytes)) = some (some z, k, bytes)) (hzs : z.cells.size = k) (hsz0 : 0 < k) (hbb : bytes ≤ 128)
    {B : Nat} {av : Option Addr} {n c : Nat} {xs : List Value} (hown : w0.ownsRow B e k (.slice av n c) n xs) (hs : a.eval s = .slice av n c) (hx : a.eval x' = .slice (some ⟨sz, 0, none⟩) 1 1) (hnl : new.length = k) (hone : ∀ u ∈ new, u.oneCell' = true)
    (hb1 : n + 1 ≤ 1099511627776) (hB : B ≤ sz)
    (h : ∀ a' c' w', w'.ownsRow B e k (.slice a' (n + 1) c') (n + 1) (xs ++ new) → Below B w0 w' → KeepsOthers w0 w' → (∀ b, b < sz → ¬ BlkT w0 b e → w'.heap[b]? = w0.heap[b]?) → wpList P ops Q rest (a.put o.dst (.slice a' (n + 1) c')) w') :
    wpList P ops Q (o :: rest) a Wx := by
  subst hsz
  exact appRec w0 t e hW hgd s x' ho ht hinfo hzs hsz0 hbb hown hs hx hnl hone hb1 hB h
set_option maxRecDepth 100000 in
set_option maxHeartbeats 1000000 in
theorem CopyFrame_any (a : Option Addr) (n c : Nat) (raw : List FlR) (fs : List Fl) (w : World) (h1 : FrV w a n c raw fs) (hn : n ≤ 1000) (hsp : ∀ i, i < fs.length → (fs[i]?.getD fl0).2.2.length ≤ 1000) :
    Calls Try.prog 14 #[.agg #[.slice a n c]] w fun e w' => ∃ a' c' raw', e = .returned (.agg #[.slice a' n c']) ∧ FrV w' a' n c' raw' fs ∧ Below w.heap.size w w' := by
  have hln := h1.n_
  have HLN := Lib.hid hln
  have HSP := Lib.hid hsp
  have m1 := h1.row.max
  have c1 := h1.row.cap
  have y1 := blk_keep (blk_keep (alloc_new w (.cells #[.slice a n c] 24)) ((Below.refl _ _).alloc (Nat.le_refl _) (.cells #[.slice none 0 0] 24))) ((Below.refl _ _).alloc (Nat.le_refl _) (.cells #[.slice none 0 0] 24))
  have y2 := blk_keep (alloc_new (w.alloc (.cells #[.slice a n c] 24)) (.cells #[.slice none 0 0] 24)) ((Below.refl _ _).alloc (Nat.le_refl _) (.cells #[.slice none 0 0] 24))
  have y3 := alloc_new ((w.alloc (.cells #[.slice a n c] 24)).alloc (.cells #[.slice none 0 0] 24)) (.cells #[.slice none 0 0] 24)
  have BW : Below w.heap.size w (((w.alloc (.cells #[.slice a n c] 24)).alloc (.cells #[.slice none 0 0] 24)).alloc (.cells #[.slice none 0 0] 24)) := (((Below.refl _ _).alloc (Nat.le_refl _) _).alloc (by simp) _).alloc (by simp; omega) _
  have hsz : (((w.alloc (.cells #[.slice a n c] 24)).alloc (.cells #[.slice none 0 0] 24)).alloc (.cells #[.slice none 0 0] 24)).heap.size = w.heap.size + 1 + 1 + 1 := by simp
  have HSZ := Lib.hid hsz
  simp only [World.size_alloc] at y2 y3
  clear hln hsp hsz
  go_enter Try.func14, Try.ntmps14
  go_wp2_with fail
  generalize ((w.alloc (.cells #[.slice a n c] 24)).alloc (.cells #[.slice none 0 0] 24)).alloc (.cells #[.slice none 0 0] 24) = W at *
  go_loopw [4] (fun i wr => ∃ k : Nat, k ≤ n ∧ i = .int .i64 k ∧ CfI w a n c fs k wr) (fun i _ => n - (intOf i).toNat)
  case atStart => exact ⟨0, by omega, rfl, ⟨BW, y1, y2, ⟨none, 0, [], y3, OwFlR.nil _ _, rfl, fun i hi => absurd hi (by omega)⟩, by rw [HSZ.out]; omega⟩⟩
  case round =>
    clear y1 y2 y3 BW HSZ
    obtain ⟨k, hk, rfl, hb, z1, z2, ⟨av, cv, rw', z3, hO, hrl, hS⟩, hsz⟩ := hrel
    have HRL := Lib.hid hrl
    have HS := Lib.hid hS
    clear hrl hS
    have f0 := cell_block z1 0
    by_cases hlt : k < n
    · have hF := h1.keep hb
      obtain ⟨b1', o1, rfl, hc1⟩ := hF.row.at_ (by omega)
      obtain ⟨p0, p1, p2⟩ := hc1 k hlt
      have hkl : k < fs.length := by have := HLN.out; omega
      obtain ⟨e0, e1, e2⟩ := hF.fl k hkl
      have hi : (k : Int) < (n : Int) := by omega
      have hi0 : (0 : Int) ≤ (k : Int) := by omega
      have hl6 := HSP.out k hkl
      have hl7 := e2.len
      obtain ⟨yy, hyy⟩ : ∃ x, raw[k]?.getD flr0 = x := ⟨_, rfl⟩
      obtain ⟨x', y', a', n', c'⟩ := yy
      rw [hyy] at e0 e1 e2 p0 p1 p2 hl7
      dsimp only [hv] at e0 e1 e2 p0 p1 p2 hl7
      have hn' : n' ≤ 1000 := by omega
      have E0 := Lib.hid e0
      have E1 := Lib.hid e1
      clear hc1 hyy e0 e1 hl6 hl7
      have z5 := alloc_new wr (.cells #[.int .i64 x', .int .i64 y', .slice a' n' c'] 130)
      have hA : Below wr.heap.size wr (wr.alloc (.cells #[.int .i64 x', .int .i64 y', .slice a' n' c'] 130)) := (Below.refl _ _).alloc (Nat.le_refl _) _
      go_wp2_with fail
      have hoq : ∀ g o, av = some ⟨g, o, none⟩ → g ≠ wr.heap.size := fun g o e => by have := hO.lt g o e; omega
      replace z1 := blk_keep z1 hA
      replace z2 := blk_keep z2 hA
      replace z3 := blk_keep z3 hA
      replace hO := hO.keep hA
      have hS2 := HS.out.keep hA
      replace hb := hb.trans (hA.mono hb.size)
      replace e2 := e2.keep hA
      have g5 := cell_block z5 2
      have hq3 : w.heap.size + 1 + 1 + 1 ≤ wr.heap.size := hsz
      have hsz2 : wr.heap.size < (wr.alloc (.cells #[.int .i64 x', .int .i64 y', .slice a' n' c'] 130)).heap.size := by simp
      clear hA p0 p1 p2 hF f0 hsz HS
      generalize hq : wr.heap.size = q at *
      generalize wr.alloc (.cells #[.int .i64 x', .int .i64 y', .slice a' n' c'] 130) = V at *
      clear hq
      refine (CopySpring_any a' n' c' _ _ e2 (by omega)).mono ?_
      rintro e w3 ⟨a4, c4, rfl, ho4, hb4⟩
      replace z1 := blk_keep z1 hb4
      replace z2 := blk_keep z2 hb4
      replace z3 := blk_keep z3 hb4
      replace z5 := blk_keep z5 hb4
      replace hO := hO.keep hb4
      replace hS2 := hS2.keep hb4
      replace hb := hb.trans (hb4.mono hb.size)
      have hsz3 : q < w3.heap.size := Nat.lt_of_lt_of_le hsz2 hb4.size
      clear g5 hb4 hsz2 e2
      have hneq : ∀ b, b ≠ q → (w3.setCell ⟨q, 2, none⟩ (.slice a4 n' c4)).heap[b]? = w3.heap[b]? := fun b hb => Below.heap_setCell _ _ _ _ hb
      have hBq : But 130 w3 (w3.setCell ⟨q, 2, none⟩ (.slice a4 n' c4)) := But.setCell ⟨_, z5⟩
      have x1 := (hneq _ (by omega)).trans z1
      have x2 := (hneq _ (by omega)).trans z2
      have x3 := (hneq _ (by omega)).trans z3
      have x5 := setBlk z5 2 (.slice a4 n' c4)
      simp at x5
      have xO : OwFlR (w3.setCell ⟨q, 2, none⟩ (.slice a4 n' c4)) (w.heap.size + 1 + 1 + 1) av k cv rw' := owns_not hO hneq hoq
      have xS := hS2.but hBq (by decide)
      have xE := ho4.se.but (In.of_owns ho4) hBq (by decide)
      have xI := (In.of_owns ho4).but hBq (by decide)
      have xb : Below w.heap.size w (w3.setCell ⟨q, 2, none⟩ (.slice a4 n' c4)) := hb.setCell (by show w.heap.size ≤ q; omega) _
      have g0 := cell_block z5 2
      have g1 := frozen_block z5 2
      have t0 := cell_block x3 0
      have t1 := cell_block x5 0
      have t2 := cell_block x5 1
      have t3 := cell_block x5 2
      go_wp2_with (first | (refine appRecZ (w3.setCell ⟨q, 2, none⟩ (.slice a4 n' c4)) w3.heap.size (by simp) 22 130 (new := [.int .i64 x', .int .i64 y', .slice a4 n' c4]) rfl rfl _ _ rfl Try.underlying22 Try.info_flr rfl (by decide) (by decide) xO rfl rfl rfl (oneCell_FlR (x', y', (a4, n', c4))) (by omega) (by omega) (fun a9 c9 w9 ho9 hb9 hko9 hsm9 => ?_); have k9 := (hb9.block _ (by omega)).trans x3; have f5 := cell_block k9 0; have f6 := frozen_block k9 0))
      go_roundw
      case rel => exact ⟨k + 1, by omega, by go_num, CfI.step xb x1 x2 x3 HRL.out xS E0.out E1.out xE xI ho9 hb9 (fun b hb => hsm9 b (by simpa using hb)) (by simp; omega)⟩
      case measure => simp [intOf]; omega
    · have hle : (n : Int) ≤ (k : Int) := by omega
      obtain rfl : n = k := by omega
      clear hlt hk
      have g0 := cell_block z3 0
      have e0 := cell_block z2 0
      have x0 := frozen_block z2 0
      go_wp2_with fail
      have hne2 : ∀ b, b ≠ w.heap.size + 1 → (wr.setCell ⟨w.heap.size + 1, 0, none⟩ (.slice av n cv)).heap[b]? = wr.heap[b]? := fun b hb => Below.heap_setCell _ _ _ _ hb
      have hB2 : But 24 wr (wr.setCell ⟨w.heap.size + 1, 0, none⟩ (.slice av n cv)) := But.setCell ⟨_, z2⟩
      have q0 := setBlk z2 0 (.slice av n cv)
      simp at q0
      have r0 := cell_block q0 0
      have hO2 : OwFlR (wr.setCell ⟨w.heap.size + 1, 0, none⟩ (.slice av n cv)) (w.heap.size + 1 + 1 + 1) av n cv rw' := owns_apart hO hne2 (by omega)
      have hS3 := HS.out.but hB2 (by decide)
      refine bodyPost_ret (v := .agg #[.slice av n cv]) (by simp [results, Try.results14, go_sem, r0]) rfl ⟨_, _, rw', rfl, ⟨hO2.sr, by rw [HRL.out]; exact HLN.out, fun i hi => ?_⟩, hb.setCell (by show w.heap.size ≤ w.heap.size + 1; omega) _⟩
      obtain ⟨s1, s2, s3, _⟩ := hS3 i (by have := HLN.out; omega)
      exact ⟨s1, s2, s3⟩
end Go.Proofs.Ytaiikekgckjdeaa

namespace Go.Proofs.Ytaiikekgckjdeaa
set_option maxRecDepth 100000
open Go.ChangeShapes Go.WideShapes Go.ChangeAt Go.RowKit

/-- A slice of records within another record; where it has no room its place may be anything. -/
theorem inner_enc {H : Type} {enc : TypeId × Value → H} {P : Program} {w : World} {fuel : Nat} {t e k : Nat} {cs : List Value} {x : DataW H × List MemPlace} {α : Type} (en : α → List Value) (hen : ∀ x, (en x).length = k) (x0 : α) (Q : α → Prop)
    (ht : P.underlying t = some (.slice e)) (hk : P.cellsOf e = k) (k0 : 0 < k)
    (hrec : ∀ m cs x, DataW.trod enc P w 0 (fun _ => true) true m e cs = some x → ∃ y : α, cs = en y ∧ Q y)
    (h : DataW.trod enc P w 0 (fun _ => true) true fuel t cs = some x) :
    ∃ (a : Option Addr) (n c : Nat) (l : List α), cs = [.slice a n c] ∧ Sl w k a n c (l.flatMap en) ∧ ∀ y ∈ l, Q y := by
  rcases DataW.trod_slice ht h with ⟨rfl, _⟩ | ⟨a', n, c, elems, rest, m, _, rfl, _, hb, hl, hm, hlen, hel, hsp, _⟩
  · exact ⟨none, 0, 0, [], rfl, Sl.nil w k, by simp⟩
  · by_cases h0 : c = 0
    · obtain rfl : n = 0 := by omega
      exact ⟨some a', 0, c, [], rfl, ⟨by simp, hl, hm, .inl h0⟩, by simp⟩
    · obtain ⟨hrl, hre⟩ := hsp rfl
      have cell0 : ∀ i, i < c → ∃ y : α, Q y ∧ w.cells? 0 (a'.add (i * P.cellsOf e)) (P.cellsOf e) = some (en y) := by
        intro i hi
        have h1 : ∃ z, (w.cells? 0 (a'.add (i * P.cellsOf e)) (P.cellsOf e)).bind (DataW.trod enc P w 0 (fun _ => true) true m e) = some z := by
          rcases Nat.lt_or_ge i n with h5 | h5
          · refine ⟨elems[i]'(by omega), ?_⟩
            rw [hel i h5]
            exact List.getElem?_eq_getElem (by omega)
          · refine ⟨rest[i - n]'(by omega), ?_⟩
            have h6 := hre (i - n) (by omega)
            rw [show n + (i - n) = i by omega] at h6
            rw [h6]
            exact List.getElem?_eq_getElem (by omega)
        obtain ⟨z, hz⟩ := h1
        rw [Option.bind_eq_some_iff] at hz
        obtain ⟨cs', hc', ht'⟩ := hz
        obtain ⟨y, rfl, hq⟩ := hrec _ _ _ ht'
        exact ⟨y, hq, hc'⟩
      obtain ⟨b, off, spot⟩ := a'
      have hs : spot = none := by
        obtain ⟨y, _, hc'⟩ := cell0 0 (by omega)
        have h7 := (World.cells?_some hc').2.2 0 (by rw [hk]; exact k0)
        rw [show Addr.add (Addr.add ⟨b, off, spot⟩ (0 * P.cellsOf e)) 0 = ⟨b, off, spot⟩ by simp [Addr.add]] at h7
        have h8 : ∃ v, (en y)[0]? = some v := ⟨(en y)[0]'(by rw [hen]; exact k0), List.getElem?_eq_getElem (by rw [hen]; exact k0)⟩
        obtain ⟨v, hv⟩ := h8
        first | rw [hv] at h7 | rw [← h7] at hv
        unfold World.cell? at h7
        split at h7
        · cases spot with
          | none => rfl
          | some _ => simp at h7
        · cases h7
      subst hs
      simp only [add_none] at cell0
      have each : ∀ i, ∃ y : α, i < n → (∀ j, j < k → w.cell? ⟨b, off + i * k + j, none⟩ = (en y)[j]?) ∧ Q y := by
        intro i
        by_cases hi : i < n
        · obtain ⟨z, hq, hc'⟩ := cell0 i (by omega)
          rw [hk] at hc'
          refine ⟨z, fun _ => ⟨fun j hj => ?_, hq⟩⟩
          have h4 := (World.cells?_some hc').2.2 j hj
          rw [add_none] at h4
          first | exact h4 | exact h4.symm
        · exact ⟨x0, fun h => absurd h hi⟩
      obtain ⟨g, hg⟩ := Classical.axiomOfChoice each
      have hget : ∀ i, i < n → ((List.range n).map g)[i]?.getD x0 = g i := fun i hi => by simp [hi]
      refine ⟨some ⟨b, off, none⟩, n, c, (List.range n).map g, rfl, ⟨?_, hl, hm, .inr ⟨b, off, rfl, fun i hi => ?_⟩⟩, ?_⟩
      · rw [fm_len hen]
        simp
      · have hq : i / k < n := (Nat.div_lt_iff_lt_mul k0).2 hi
        have hr : i % k < k := Nat.mod_lt _ k0
        have h7 : i / k * k + i % k = i := by rw [Nat.mul_comm]; exact Nat.div_add_mod i k
        have h8 := (hg (i / k) hq).1 (i % k) hr
        rw [Nat.add_assoc, h7] at h8
        rw [h8]
        have h9 := fm_get hen ((List.range n).map g) x0 (i / k) (by simpa using hq) (i % k) hr
        rw [h7, hget _ hq] at h9
        exact h9.symm
      · intro y hy
        obtain ⟨i, hi, rfl⟩ := List.mem_map.1 hy
        exact (hg i (by simpa using hi)).2
/-- What is known of a floor that came in. -/
def FlQ (w : World) (y : FlR) (f : Fl) : Prop := y.1 = f.1 ∧ y.2.1 = f.2.1 ∧ SEl w y.2.2.1 y.2.2.2.1 y.2.2.2.2 f.2.2
/-- The numbers of a floor that came in. -/
def FlW (f : Fl) : Prop := (Lit.int .i64 f.1).wf = true ∧ (Lit.int .i64 f.2.1).wf = true ∧ ∀ z ∈ f.2.2, (Lit.int .i64 z.1).wf = true ∧ (Lit.int .i64 z.2.1).wf = true
theorem trod_fl {H : Type} {enc : TypeId × Value → H} {w : World} {m : Nat} {cs : List Value} {x : DataW H × List MemPlace} (h : DataW.trod enc Try.prog w 0 (fun _ => true) true m 130 cs = some x) :
    ∃ y : FlR, cs = encFlR y ∧ ∃ f, FlQ w y f ∧ FlW f := by
  obtain ⟨xs, n, _, _, hl, hxl, hx⟩ := DataW.trod_struct Try.underlying130 h
  have c2 : Try.prog.cellsOf 130 = 3 := by kernel_rfl
  rw [c2] at hl
  match cs, hl with
  | [p, q, r], _ =>
    have h0 := hx 0 _ rfl
    have h1 := hx 1 _ rfl
    have h2 := hx 2 _ rfl
    rw [List.getElem?_eq_getElem (by simp at hxl; omega)] at h0 h1 h2
    obtain ⟨n, rfl, hw⟩ := cell_of_int Try.underlying3 h0
    obtain ⟨m, rfl, hw'⟩ := cell_of_int Try.underlying3 h1
    obtain ⟨a, n', c, l, hr, hs, hwl⟩ := inner_enc encE encE_len el0 (fun y => (Lit.int .i64 y.1).wf = true ∧ (Lit.int .i64 y.2.1).wf = true) Try.underlying44 (by kernel_rfl) (by decide) (fun _ _ _ => trod_el) h2
    have hr' : [r] = [Value.slice a n' c] := hr
    injection hr' with hr'
    subst hr'
    exact ⟨(n, m, (a, n', c)), rfl, (n, m, l), ⟨rfl, rfl, hs⟩, hw, hw', hwl⟩
theorem fls_of {w : World} : ∀ raw : List FlR, (∀ y ∈ raw, ∃ f, FlQ w y f ∧ FlW f) → ∃ fs : List Fl, raw.length = fs.length ∧ (∀ i, i < fs.length → FlQ w (raw[i]?.getD flr0) (fs[i]?.getD fl0)) ∧ ∀ f ∈ fs, FlW f
  | [], _ => ⟨[], rfl, fun i hi => absurd hi (by simp), by simp⟩
  | y :: raw, h => by
    obtain ⟨f, h1, h2⟩ := h y (by simp)
    obtain ⟨fs, h3, h4, h5⟩ := fls_of raw (fun z hz => h z (by simp [hz]))
    refine ⟨f :: fs, by simp [h3], fun i hi => ?_, fun g hg => ?_⟩
    · cases i with
      | zero => exact h1
      | succ i => exact h4 i (by simpa using hi)
    · rcases List.mem_cons.1 hg with rfl | hg
      · exact h2
      · exact h5 g hg
theorem one_cell5 {cs : Array Value} (h : cs.size = 1) : ∃ x, cs = #[x] := by
  obtain ⟨l⟩ := cs
  match l, h with
  | [x], _ => exact ⟨x, rfl⟩
/-- A frame that came in. -/
theorem open_model {H : Type} {enc : TypeId × Value → H} {w : World} {base : Nat} {v : Value} {d : DataW H} {p : List MemPlace}
    (hok : Value.okWide Try.prog w .any base 24 v) (h : DataW.Trod enc Try.prog w 0 (fun _ => true) true 24 v d p) :
    ∃ a n c raw fs, v = .agg #[.slice a n c] ∧ FrV w a n c raw fs ∧ ∀ f ∈ fs, FlW f := by
  obtain ⟨cs, rfl, hsz, hall, hf⟩ := open_struct (ts := [22]) Try.underlying24 (by kernel_rfl) hok h
  obtain ⟨x, rfl⟩ := one_cell5 (hsz.trans (by kernel_rfl))
  obtain ⟨m0, x0, h0⟩ := hf 0 _ rfl
  simp only at h0
  obtain ⟨ty, hty, ho⟩ := hall 0 x rfl
  cases hty
  obtain ⟨k1, d', p', k2⟩ := cell_of_slice Try.underlying22 ho h0
  obtain ⟨a, n, c, raw, rfl, hs, hq⟩ := open_enc encFlR encFlR_len flr0 (fun y => ∃ f, FlQ w y f ∧ FlW f) Try.underlying22 (by kernel_rfl) (by decide) (fun _ _ _ => trod_fl) k1 k2
  obtain ⟨fs, h3, h4, h5⟩ := fls_of raw hq
  exact ⟨a, n, c, raw, fs, rfl, ⟨hs, h3, h4⟩, h5⟩
end Go.Proofs.Ytaiikekgckjdeaa

namespace Go.Proofs.Ytaiikekgckjdeaa
open Go.RowKit
open Calmly (Kept)
set_option maxRecDepth 100000 in
set_option maxHeartbeats 1000000 in
theorem rDrift_any (a : Option Addr) (n c k : Nat) (xs : List Int) (w : World) (h1 : SI w a n c xs) (hk : k < n) (hb : ∀ i : Nat, -1000000000000 ≤ xs[i]?.getD 0 ∧ xs[i]?.getD 0 ≤ 1000000000000) :
    Calls Try.prog 91 #[.slice a n c, .int .i64 (k : Int)] w fun e w' => e = .returned (.int .i64 (dr xs k)) ∧ Below w.heap.size w w' := by
  have m1 := h1.max
  have c1 := h1.cap
  obtain ⟨b1, o1, rfl, hc1⟩ := h1.at_ (by omega)
  have p0 := hc1 k hk
  have hb0 := hb k
  obtain ⟨hb1, hb2⟩ := hb0
  have hi : (k : Int) < (n : Int) := by omega
  have hi0 : (0 : Int) ≤ (k : Int) := by omega
  by_cases h0 : k = 0
  · have hd : dr xs k = xs[k]?.getD 0 := by rw [dr, bel, if_pos h0, Int.sub_zero]
    rw [hd]
    obtain ⟨X, hX⟩ : ∃ X, xs[k]?.getD 0 = X := ⟨_, rfl⟩
    rw [hX] at p0 ⊢
    subst h0
    have hn0 : (0 : Int) < (n : Int) := by omega
    clear hd hX hc1 hb hb1 hb2
    simp only [Nat.add_zero, Int.natCast_zero] at *
    go_enter Try.func91, Try.ntmps91
    go_wp2_with fail
    go_ret
    exact ⟨rfl, Below.refl _ _⟩
  · obtain ⟨j, rfl⟩ : ∃ j, k = j + 1 := ⟨k - 1, by omega⟩
    have hd : dr xs (j + 1) = xs[j + 1]?.getD 0 - xs[j]?.getD 0 := by rw [dr, bel, if_neg h0]; rfl
    rw [hd]
    have p1 := hc1 j (by omega)
    obtain ⟨hb3, hb4⟩ := hb j
    obtain ⟨X, hX⟩ : ∃ X, xs[j + 1]?.getD 0 = X := ⟨_, rfl⟩
    obtain ⟨Y, hY⟩ : ∃ X, xs[j]?.getD 0 = X := ⟨_, rfl⟩
    rw [hX] at p0 hb1 hb2 ⊢
    rw [hY] at p1 hb3 hb4 ⊢
    obtain ⟨K, hK⟩ : ∃ K : Int, ((j + 1 : Nat) : Int) = K := ⟨_, rfl⟩
    have hKj : K - 1 = (j : Int) := by omega
    have hji : (j : Int) < (n : Int) := by omega
    have e1 : (K == 0) = false := by simp; omega
    have hK1 : ((K - 1).toNat) = j := by omega
    have hK2 : K.toNat = j + 1 := by omega
    rw [hK] at hi hi0 ⊢
    have hi1 : (0 : Int) ≤ K - 1 := by omega
    have hi2 : K - 1 < (n : Int) := by omega
    have hi3 : K ≤ 9223372036854775807 := by omega
    have hi4 : -9223372036854775807 ≤ K := by omega
    clear hd hX hY hc1 hb h0 hK
    go_enter Try.func91, Try.ntmps91
    go_wp2_with fail
    refine Calmly.wp_region_mix 9 (.fl 0 <| .fl 1 <| .fl 2 <| .fl 3 <| .fl 4 <| .fl 5 <| .fl 6 <| .fl 7 <| .fl 8 <| .tail [9, 10]) (by kernel_rfl) (by kernel_rfl) ?_
    have BD : Below w.heap.size w w.drew := (Below.refl _ _).drew
    replace p0 := cell_keep p0 BD
    replace p1 := cell_keep p1 BD
    generalize w.drew = V at *
    have hk5 := Below.refl V.heap.size V
    go_wp2_with (first | ((with_reducible refine Calmly.is_fl ?_); refine Calmly.mix_fl rfl ?_ (fun _ _ => ?_); (first | exact .move _ | exact .load _ _ | exact .fieldAddr _ _ _ (by kernel_rfl) | exact .assign _ | exact .binOp _ _ _ _ _ rfl | exact .indexAddr _ _ _ | exact .len _ _ (by kernel_rfl) | exact .field _ _ _ | exact .extract _ _ | exact .pick _ _ _ | exact .build _ _ | exact .slice _ _ _ _ _ | exact .unOp _ _ _ rfl | exact .index _ _ _ | exact .max _ _ _ rfl rfl | exact .min _ _ _ rfl rfl | exact .nilCheck _ _ rfl)) | ((with_reducible refine Calmly.is_gl ?_); refine Calmly.mix_gl rfl rfl rfl ?_; first | ((first | with_reducible refine Calmly.gl_tt ?_ (fun _ _ => ?_) | with_reducible refine Calmly.gl_ff ?_ (fun _ _ => ?_)); (first | exact .move _ | exact .load _ _ | exact .fieldAddr _ _ _ (by kernel_rfl) | exact .assign _ | exact .binOp _ _ _ _ _ rfl | exact .indexAddr _ _ _ | exact .len _ _ (by kernel_rfl) | exact .field _ _ _ | exact .extract _ _ | exact .pick _ _ _ | exact .build _ _ | exact .slice _ _ _ _ _ | exact .unOp _ _ _ rfl | exact .index _ _ _ | exact .max _ _ _ rfl rfl | exact .min _ _ _ rfl rfl | exact .nilCheck _ _ rfl)) | with_reducible refine Calmly.gl_tf (fun _ _ => ?_) | with_reducible refine Calmly.gl_ft (fun _ _ => ?_)) | ((with_reducible refine Calmly.is_eff ?_); refine Calmly.mix_eff rfl (fun _ _ => ?_)) | ((with_reducible refine Calmly.is_gf ?_); refine Calmly.mix_gf rfl rfl rfl ?_; first | with_reducible refine Calmly.gf_tt (fun _ _ => ?_) | with_reducible refine Calmly.gf_ff (fun _ _ => ?_) | with_reducible refine Calmly.gf_tf (kept_of hk) (fun _ _ => ?_) | with_reducible refine Calmly.gf_ft (kept_of hk) (fun _ _ => ?_)) | ((with_reducible refine Calmly.is_tail ?_); first | refine Calmly.mix_tail_nil ?_ | refine Calmly.mix_tail rfl (fun _ _ => ?_)) | ((with_reducible refine Calmly.is_kept ?_); refine ⟨kept_of hk, ?_⟩) | (with_reducible refine Calmly.mix_alt ?_ ?_))
    go_ret
    exact ⟨rfl, BD⟩
/-- Holds and states that read, wherever they lie. -/
structure HlW (w : World) (a : Option Addr) (n c : Nat) (raw : List HoR) (hs : List Ho) : Prop where
  row : SHoR w a n c raw
  len : raw.length = hs.length
  hl : ∀ i, i < hs.length → (raw[i]?.getD hor0).1 = (hs[i]?.getD ho0).1 ∧ SSp w (raw[i]?.getD hor0).2.1 (raw[i]?.getD hor0).2.2.1 (raw[i]?.getD hor0).2.2.2 (hs[i]?.getD ho0).2
theorem HlW.keep {w w' : World} {a : Option Addr} {n c : Nat} {raw : List HoR} {hs : List Ho} (h : HlW w a n c raw hs) (hb : Below w.heap.size w w') : HlW w' a n c raw hs :=
  ⟨h.row.keep hb, h.len, fun i hi => ⟨(h.hl i hi).1, (h.hl i hi).2.keep hb⟩⟩
theorem HlV.w {w : World} {a : Option Addr} {n c : Nat} {raw : List HoR} {hs : List Ho} (h : HlV w a n c raw hs) : HlW w a n c raw hs := ⟨h.row, h.len, fun i hi => ⟨(h.hl i hi).1, (h.hl i hi).2.1⟩⟩
structure StW (w : World) (x : StR) (s : St) : Prop where
  now : SI w x.1.1 x.1.2.1 x.1.2.2 s.1
  bef : SI w x.2.1.1 x.2.1.2.1 x.2.1.2.2 s.2.1
  hol : ∃ raw, HlW w x.2.2.1 x.2.2.2.1 x.2.2.2.2 raw s.2.2
theorem StW.keep {w w' : World} {x : StR} {s : St} (h : StW w x s) (hb : Below w.heap.size w w') : StW w' x s := by
  obtain ⟨h1, h3, ⟨raw, h5⟩⟩ := h
  exact ⟨h1.keep hb, h3.keep hb, ⟨raw, h5.keep hb⟩⟩
theorem StV.w {w : World} {x : StR} {s : St} (h : StV w x s) : StW w x s := by
  obtain ⟨h1, _, h3, _, ⟨raw, h5⟩, _⟩ := h
  exact ⟨h1, h3, ⟨raw, h5.w⟩⟩
theorem force_at {W : World} {a b : Option Addr} {n c m d i : Nat} {raw : List FlR} {hraw : List HoR} {fs : List Fl} {s : St} (hF : FrV W a n c raw fs) (hH : HlW W b m d hraw s.2.2) (hO : StOk fs s) (hi : i < fs.length) :
    Calls Try.prog 40 #[hv (raw[i]?.getD flr0).2.2, .agg #[.int .i64 (hraw[i]?.getD hor0).1, hv (hraw[i]?.getD hor0).2]] W fun e w' => e = .returned (.int .i64 (frS fs s i)) ∧ Below W.heap.size W w' := by
  obtain ⟨_, _, e2⟩ := hF.fl i hi
  obtain ⟨g0, g1⟩ := hH.hl i (by rw [hO.hol]; exact hi)
  have hk := hO.ok i hi
  have l1 := e2.len
  have l2 := g1.len
  have hs := hk.same
  have hl := hk.len
  rw [g0]
  obtain ⟨yy, hyy⟩ : ∃ x, raw[i]?.getD flr0 = x := ⟨_, rfl⟩
  obtain ⟨zz, hzz⟩ : ∃ x, hraw[i]?.getD hor0 = x := ⟨_, rfl⟩
  rw [hyy] at e2 l1 ⊢
  rw [hzz] at g1 l2 ⊢
  obtain ⟨x', y', a', n', c'⟩ := yy
  obtain ⟨t', a2, n2, c2⟩ := zz
  dsimp only [hv] at e2 l1 g1 l2 ⊢
  obtain rfl : n' = n2 := by omega
  refine (rForce_any a' a2 n' c' c2 _ _ _ W e2 g1 (by omega) (fun j hj => hk.elB hk.at_ (by omega))).mono ?_
  rintro e w' ⟨rfl, hb⟩
  refine ⟨?_, hb⟩
  rw [frS, frcS, ← l1]
end Go.Proofs.Ytaiikekgckjdeaa

namespace Go.Proofs.Ytaiikekgckjdeaa
open Go.RowKit
open Calmly (Kept)
set_option maxRecDepth 100000 in
set_option maxHeartbeats 2000000 in
theorem rPush_any (a a1 a2 a3 : Option Addr) (n c n1 c1 n2 c2 n3 c3 k : Nat) (raw : List FlR) (fs : List Fl) (s : St) (w : World) (h1 : FrV w a n c raw fs) (h2 : StW w ((a1, n1, c1), (a2, n2, c2), (a3, n3, c3)) s) (hO : StOk fs s) (hk : k < n) :
    Calls Try.prog 121 #[.agg #[.slice a n c], .agg #[.slice a1 n1 c1, .slice a2 n2 c2, .slice a3 n3 c3], .int .i64 (k : Int)] w fun e w' => e = .returned (.int .i64 (psA (frS fs s) fs.length k)) ∧ Below w.heap.size w w' := by
  have hln := h1.n_
  obtain ⟨hraw, hH⟩ := h2.hol
  dsimp only at hH
  have hln3 : n3 = n := by have h5 := hH.row.len; have h6 := hH.len; have h7 := hO.hol; omega
  subst hln3
  have m1 := h1.row.max
  have cc1 := h1.row.cap
  have m3 := hH.row.max
  have cc3 := hH.row.cap
  have hb0 := hO.frS_bd k
  have hb1 := hO.frS_bd (k + 1)
  have hFO : ∀ i W, i < n3 → Below w.heap.size w W → Calls Try.prog 40 #[hv (raw[i]?.getD flr0).2.2, .agg #[.int .i64 (hraw[i]?.getD hor0).1, hv (hraw[i]?.getD hor0).2]] W fun e w' => e = .returned (.int .i64 (frS fs s i)) ∧ Below W.heap.size W w' := fun i W hi hb => force_at (h1.keep hb) (hH.keep hb) hO (by omega)
  have hP : psA (frS fs s) fs.length k = if k + 1 < n3 then frS fs s (k + 1) - frS fs s k else -frS fs s k := by
    rw [psA, ← hln]
    by_cases h : k + 1 < n3
    · rw [if_pos h, if_pos h]
    · rw [if_neg h, if_neg h, if_pos (by omega)]
  rw [hP]
  obtain ⟨A, hA⟩ : ∃ A, frS fs s k = A := ⟨_, rfl⟩
  obtain ⟨B, hB⟩ : ∃ A, frS fs s (k + 1) = A := ⟨_, rfl⟩
  have hFA := fun W hb => hFO k W hk hb
  rw [hA] at hFA hb0 ⊢
  rw [hB] at hb1 ⊢
  obtain ⟨P, hPP⟩ : ∃ P, (if k + 1 < n3 then B - A else -A) = P := ⟨_, rfl⟩
  rw [hPP]
  have HPP := Lib.hid hPP
  clear hPP
  obtain ⟨bA1, bA2⟩ := hb0
  obtain ⟨bB1, bB2⟩ := hb1
  have hR1 := h1.row
  have hR2 := hH.row
  have HFO := Lib.hid hFO
  have HB := Lib.hid hB
  clear hP hA hB hFO hH h2 hO h1 hln
  obtain ⟨yy, hyy⟩ : ∃ x, raw[k]?.getD flr0 = x := ⟨_, rfl⟩
  obtain ⟨zz, hzz⟩ : ∃ x, hraw[k]?.getD hor0 = x := ⟨_, rfl⟩
  rw [hyy, hzz] at hFA
  obtain ⟨x', y', p', q', r'⟩ := yy
  obtain ⟨t', u', v', w'⟩ := zz
  have HY := Lib.hid hyy
  have HZ := Lib.hid hzz
  dsimp only [hv] at hFA
  have HFA := Lib.hid hFA
  clear hyy hzz hFA
  have y3 := blk_keep (alloc_new w (.cells #[.slice a n3 c] 24)) ((Below.refl _ _).alloc (Nat.le_refl _) (.cells #[.slice a1 n1 c1, .slice a2 n2 c2, .slice a3 n3 c3] 97))
  have y4 := alloc_new (w.alloc (.cells #[.slice a n3 c] 24)) (.cells #[.slice a1 n1 c1, .slice a2 n2 c2, .slice a3 n3 c3] 97)
  have BW : Below w.heap.size w ((w.alloc (.cells #[.slice a n3 c] 24)).alloc (.cells #[.slice a1 n1 c1, .slice a2 n2 c2, .slice a3 n3 c3] 97)) := ((Below.refl _ _).alloc (Nat.le_refl _) _).alloc (by simp) _
  simp only [World.size_alloc] at y4
  have hi : (k : Int) < (n3 : Int) := by omega
  have hi0 : (0 : Int) ≤ (k : Int) := by omega
  go_enter Try.func121, Try.ntmps121
  go_wp2_with fail
  refine Calmly.wp_region_mix 12 (.fl 0 <| .fl 1 <| .fl 2 <| .fl 3 <| .fl 4 <| .fl 5 <| .fl 6 <| .fl 7 <| .fl 8 <| .fl 9 <| .fl 10 <| .eff 11 <| .tail [12, 13]) (by kernel_rfl) (by kernel_rfl) ?_
  generalize (w.alloc (.cells #[.slice a n3 c] 24)).alloc (.cells #[.slice a1 n1 c1, .slice a2 n2 c2, .slice a3 n3 c3] 97) = W at *
  have BD : Below W.heap.size W W.drew := (Below.refl _ _).drew
  replace y3 := blk_keep y3 BD
  replace y4 := blk_keep y4 BD
  replace BW := BW.trans (BD.mono BW.size)
  clear BD
  generalize W.drew = V at *
  obtain ⟨b1', o1, rfl, hc1⟩ := (hR1.keep BW).at_ (by omega)
  obtain ⟨b2', o2, rfl, hc2⟩ := (hR2.keep BW).at_ (by omega)
  obtain ⟨p0, p1, p2⟩ := hc1 k hk
  obtain ⟨q0, q1⟩ := hc2 k hk
  have hD1 : k + 1 < n3 → _ := fun h => hc1 (k + 1) h
  have hD2 : k + 1 < n3 → _ := fun h => hc2 (k + 1) h
  have HD1 := Lib.hid hD1
  have HD2 := Lib.hid hD2
  clear hc1 hc2 hD1 hD2
  rw [HY.out] at p0 p1 p2
  rw [HZ.out] at q0 q1
  dsimp only [hv] at p2 q0 q1
  have f0 := cell_block y3 0
  have g0 := cell_block y4 0
  have g1 := cell_block y4 1
  have g2 := cell_block y4 2
  have hk9 := hk
  clear hk
  have hk := Below.refl V.heap.size V
  by_cases hlt : k + 1 < n3
  · have hi2 : (k : Int) + 1 < (n3 : Int) := by omega
    have hi3 : (0 : Int) ≤ (k : Int) + 1 := by omega
    obtain ⟨d0, d1, d2⟩ := HD1.out hlt
    obtain ⟨s0, s1⟩ := HD2.out hlt
    have hFB := fun W hb => HFO.out (k + 1) W hlt hb
    rw [HB.out] at hFB
    obtain ⟨yy, hyy⟩ : ∃ x, raw[k + 1]?.getD flr0 = x := ⟨_, rfl⟩
    obtain ⟨zz, hzz⟩ : ∃ x, hraw[k + 1]?.getD hor0 = x := ⟨_, rfl⟩
    rw [hyy] at hFB d2
    rw [hzz] at hFB s0 s1
    obtain ⟨x5, y5, p5, q5, r5⟩ := yy
    obtain ⟨t5, u5, v5, w6⟩ := zz
    dsimp only [hv] at hFB d2 s0 s1
    have HFB := Lib.hid hFB
    have D2 := Lib.hid d2
    have S0 := Lib.hid s0
    have S1 := Lib.hid s1
    clear hyy hzz hFB d0 d1 d2 s0 s1
    go_wp2_with (first | ((with_reducible refine Calmly.is_fl ?_); refine Calmly.mix_fl rfl ?_ (fun _ _ => ?_); (first | exact .move _ | exact .load _ _ | exact .fieldAddr _ _ _ (by kernel_rfl) | exact .assign _ | exact .binOp _ _ _ _ _ rfl | exact .indexAddr _ _ _ | exact .len _ _ (by kernel_rfl) | exact .field _ _ _ | exact .extract _ _ | exact .pick _ _ _ | exact .build _ _ | exact .slice _ _ _ _ _ | exact .unOp _ _ _ rfl | exact .index _ _ _ | exact .max _ _ _ rfl rfl | exact .min _ _ _ rfl rfl | exact .nilCheck _ _ rfl)) | ((with_reducible refine Calmly.is_gl ?_); refine Calmly.mix_gl rfl rfl rfl ?_; first | ((first | with_reducible refine Calmly.gl_tt ?_ (fun _ _ => ?_) | with_reducible refine Calmly.gl_ff ?_ (fun _ _ => ?_)); (first | exact .move _ | exact .load _ _ | exact .fieldAddr _ _ _ (by kernel_rfl) | exact .assign _ | exact .binOp _ _ _ _ _ rfl | exact .indexAddr _ _ _ | exact .len _ _ (by kernel_rfl) | exact .field _ _ _ | exact .extract _ _ | exact .pick _ _ _ | exact .build _ _ | exact .slice _ _ _ _ _ | exact .unOp _ _ _ rfl | exact .index _ _ _ | exact .max _ _ _ rfl rfl | exact .min _ _ _ rfl rfl | exact .nilCheck _ _ rfl)) | with_reducible refine Calmly.gl_tf (fun _ _ => ?_) | with_reducible refine Calmly.gl_ft (fun _ _ => ?_)) | ((with_reducible refine Calmly.is_eff ?_); refine Calmly.mix_eff rfl (fun _ _ => ?_)) | ((with_reducible refine Calmly.is_gf ?_); refine Calmly.mix_gf rfl rfl rfl ?_; first | with_reducible refine Calmly.gf_tt (fun _ _ => ?_) | with_reducible refine Calmly.gf_ff (fun _ _ => ?_) | with_reducible refine Calmly.gf_tf (kept_of hk) (fun _ _ => ?_) | with_reducible refine Calmly.gf_ft (kept_of hk) (fun _ _ => ?_)) | ((with_reducible refine Calmly.is_tail ?_); first | refine Calmly.mix_tail_nil ?_ | refine Calmly.mix_tail rfl (fun _ _ => ?_)) | ((with_reducible refine Calmly.is_kept ?_); refine ⟨kept_of hk, ?_⟩) | (with_reducible refine Calmly.mix_alt ?_ ?_) | (go_at_call 40; refine (HFA.out _ (BW.trans (hk.mono BW.size))).mono ?_; rintro e w5 ⟨rfl, hb5⟩; replace hk := step_of hk hb5; have f0 := cell_block (blk_keep y3 hk) 0))
    refine Calmly.wp_region_mix 15 (.fl 0 <| .fl 1 <| .fl 2 <| .fl 3 <| .fl 4 <| .fl 5 <| .fl 6 <| .fl 7 <| .fl 8 <| .fl 9 <| .fl 10 <| .fl 11 <| .fl 12 <| .fl 13 <| .eff 14 <| .tail [15, 16]) (by kernel_rfl) (by kernel_rfl) ?_
    have hk2 := hk.drew
    have z3 := blk_keep y3 hk2
    have z4 := blk_keep y4 hk2
    have d2 := cell_keep D2.out hk2
    have s0 := cell_keep S0.out hk2
    have s1 := cell_keep S1.out hk2
    have BW2 := BW.trans (hk2.mono BW.size)
    clear f0 g0 g1 g2 p0 p1 p2 q0 q1 hk hk2
    generalize w5.drew = U at *
    have hk := Below.refl U.heap.size U
    have f0 := cell_block z3 0
    have g2 := cell_block z4 2
    have ek : ((k : Int) + 1).toNat = k + 1 := by omega
    go_wp2_with (first | ((with_reducible refine Calmly.is_fl ?_); refine Calmly.mix_fl rfl ?_ (fun _ _ => ?_); (first | exact .move _ | exact .load _ _ | exact .fieldAddr _ _ _ (by kernel_rfl) | exact .assign _ | exact .binOp _ _ _ _ _ rfl | exact .indexAddr _ _ _ | exact .len _ _ (by kernel_rfl) | exact .field _ _ _ | exact .extract _ _ | exact .pick _ _ _ | exact .build _ _ | exact .slice _ _ _ _ _ | exact .unOp _ _ _ rfl | exact .index _ _ _ | exact .max _ _ _ rfl rfl | exact .min _ _ _ rfl rfl | exact .nilCheck _ _ rfl)) | ((with_reducible refine Calmly.is_gl ?_); refine Calmly.mix_gl rfl rfl rfl ?_; first | ((first | with_reducible refine Calmly.gl_tt ?_ (fun _ _ => ?_) | with_reducible refine Calmly.gl_ff ?_ (fun _ _ => ?_)); (first | exact .move _ | exact .load _ _ | exact .fieldAddr _ _ _ (by kernel_rfl) | exact .assign _ | exact .binOp _ _ _ _ _ rfl | exact .indexAddr _ _ _ | exact .len _ _ (by kernel_rfl) | exact .field _ _ _ | exact .extract _ _ | exact .pick _ _ _ | exact .build _ _ | exact .slice _ _ _ _ _ | exact .unOp _ _ _ rfl | exact .index _ _ _ | exact .max _ _ _ rfl rfl | exact .min _ _ _ rfl rfl | exact .nilCheck _ _ rfl)) | with_reducible refine Calmly.gl_tf (fun _ _ => ?_) | with_reducible refine Calmly.gl_ft (fun _ _ => ?_)) | ((with_reducible refine Calmly.is_eff ?_); refine Calmly.mix_eff rfl (fun _ _ => ?_)) | ((with_reducible refine Calmly.is_gf ?_); refine Calmly.mix_gf rfl rfl rfl ?_; first | with_reducible refine Calmly.gf_tt (fun _ _ => ?_) | with_reducible refine Calmly.gf_ff (fun _ _ => ?_) | with_reducible refine Calmly.gf_tf (kept_of hk) (fun _ _ => ?_) | with_reducible refine Calmly.gf_ft (kept_of hk) (fun _ _ => ?_)) | ((with_reducible refine Calmly.is_tail ?_); first | refine Calmly.mix_tail_nil ?_ | refine Calmly.mix_tail rfl (fun _ _ => ?_)) | ((with_reducible refine Calmly.is_kept ?_); refine ⟨kept_of hk, ?_⟩) | (with_reducible refine Calmly.mix_alt ?_ ?_) | (go_at_call 40; refine (HFB.out _ (BW2.trans (hk.mono BW2.size))).mono ?_; rintro e w7 ⟨rfl, hb7⟩; replace hk := step_of hk hb7))
    go_ret
    exact ⟨ret_int (by rw [← HPP.out, if_pos hlt]; omega), BW2.trans (hk.mono BW2.size)⟩
  · have hi2 : ¬ (k : Int) + 1 < (n3 : Int) := by omega
    go_wp2_with (first | ((with_reducible refine Calmly.is_fl ?_); refine Calmly.mix_fl rfl ?_ (fun _ _ => ?_); (first | exact .move _ | exact .load _ _ | exact .fieldAddr _ _ _ (by kernel_rfl) | exact .assign _ | exact .binOp _ _ _ _ _ rfl | exact .indexAddr _ _ _ | exact .len _ _ (by kernel_rfl) | exact .field _ _ _ | exact .extract _ _ | exact .pick _ _ _ | exact .build _ _ | exact .slice _ _ _ _ _ | exact .unOp _ _ _ rfl | exact .index _ _ _ | exact .max _ _ _ rfl rfl | exact .min _ _ _ rfl rfl | exact .nilCheck _ _ rfl)) | ((with_reducible refine Calmly.is_gl ?_); refine Calmly.mix_gl rfl rfl rfl ?_; first | ((first | with_reducible refine Calmly.gl_tt ?_ (fun _ _ => ?_) | with_reducible refine Calmly.gl_ff ?_ (fun _ _ => ?_)); (first | exact .move _ | exact .load _ _ | exact .fieldAddr _ _ _ (by kernel_rfl) | exact .assign _ | exact .binOp _ _ _ _ _ rfl | exact .indexAddr _ _ _ | exact .len _ _ (by kernel_rfl) | exact .field _ _ _ | exact .extract _ _ | exact .pick _ _ _ | exact .build _ _ | exact .slice _ _ _ _ _ | exact .unOp _ _ _ rfl | exact .index _ _ _ | exact .max _ _ _ rfl rfl | exact .min _ _ _ rfl rfl | exact .nilCheck _ _ rfl)) | with_reducible refine Calmly.gl_tf (fun _ _ => ?_) | with_reducible refine Calmly.gl_ft (fun _ _ => ?_)) | ((with_reducible refine Calmly.is_eff ?_); refine Calmly.mix_eff rfl (fun _ _ => ?_)) | ((with_reducible refine Calmly.is_gf ?_); refine Calmly.mix_gf rfl rfl rfl ?_; first | with_reducible refine Calmly.gf_tt (fun _ _ => ?_) | with_reducible refine Calmly.gf_ff (fun _ _ => ?_) | with_reducible refine Calmly.gf_tf (kept_of hk) (fun _ _ => ?_) | with_reducible refine Calmly.gf_ft (kept_of hk) (fun _ _ => ?_)) | ((with_reducible refine Calmly.is_tail ?_); first | refine Calmly.mix_tail_nil ?_ | refine Calmly.mix_tail rfl (fun _ _ => ?_)) | ((with_reducible refine Calmly.is_kept ?_); refine ⟨kept_of hk, ?_⟩) | (with_reducible refine Calmly.mix_alt ?_ ?_) | (go_at_call 40; refine (HFA.out _ (BW.trans (hk.mono BW.size))).mono ?_; rintro e w5 ⟨rfl, hb5⟩; replace hk := step_of hk hb5; have f0 := cell_block (blk_keep y3 hk) 0))
    go_ret
    exact ⟨ret_int (by rw [← HPP.out, if_neg hlt]), BW.trans (hk.mono BW.size)⟩
end Go.Proofs.Ytaiikekgckjdeaa

namespace Go.Proofs.Ytaiikekgckjdeaa
open Go.RowKit
open Calmly (Kept)
theorem ediv_bd {x d M : Int} (h1 : -M ≤ x) (h2 : x ≤ M) (hd : 1 ≤ d) (hM : 0 ≤ M) : -M ≤ x / d ∧ x / d ≤ M := by
  constructor
  · have h3 : -M / d ≤ x / d := Int.ediv_le_ediv (by omega) h1
    have h4 : -M ≤ -M / d := by
      rw [Int.le_ediv_iff_mul_le (by omega)]
      have := Int.mul_le_mul_of_nonneg_left hd hM
      have h5 : -M * d = -(M * d) := Int.neg_mul M d
      omega
    omega
  · have h3 : x / d ≤ M / d := Int.ediv_le_ediv (by omega) h2
    have h4 : M / d ≤ M := Int.ediv_le_self d hM
    omega
/-- An append to a row of numbers of the call's own, within a plan against an older world. -/
theorem mix_appO (i : Nat) {w0 Wx : World} {B : Nat} {k : Calmly.Plan} {dst : Option Tmp} {s x : Operand} {ty : TypeId} {pos : String} {after : Array Edge} {a : Act} {W0 : World} {ops : Array Oper} {Q : Exit → Act → World → Prop} {av : Option Addr} {n c : Nat} {xs : List Int} {v : Int}
    (hW : Wx = w0.alloc (.cells #[.int .i64 v] 3)) (hi : ops[i]? = some ⟨dst, .call { callee := .builtin .append, args := #[s, x], argTypes := #[25, 25] }, ty, pos, after, none⟩)
    (hown : OwI w0 B av n c xs) (hs : a.eval s = .slice av n c) (hx : a.eval x = .slice (some ⟨w0.heap.size, 0, none⟩) 1 1) (hb1 : n + 1 ≤ 17592186044416) (hB : B ≤ w0.heap.size)
    (h : ∀ a' c' w', OwI w' B a' (n + 1) c' (xs ++ [v]) → Below B w0 w' → w0.heap.size ≤ w'.heap.size → Kept W0 w' ∧ Calmly.WpMix Try.prog ops Q W0 k (a.put dst (.slice a' (n + 1) c')) w') :
    Calmly.WpMix Try.prog ops Q W0 (.eff i k) a Wx := by
  subst hW
  refine Calmly.mix_eff hi (fun K hK => ?_)
  obtain ⟨i0, hi0, hz0, hz1, hz2⟩ := info_parts Try.info_int
  have hb : Below B w0 (w0.alloc (.cells #[.int .i64 v] 3)) := (Below.refl _ _).alloc hB _
  obtain ⟨v', w', hrun, r1, r2, _⟩ := run_append_own (P := Try.prog) (w0.alloc (.cells #[.int .i64 v] 3)) B 25 ty _ i0 (.int .i64 0) 1 8 Try.underlying25 hi0 hz0 hz1 hz2 rfl (by decide) (.slice av n c) n _ (World.ownsRow.alloc hown _) ⟨w0.heap.size, 0, none⟩ 1 1 [Value.int .i64 v] rfl (cells_new w0 _ _) (by simp [Value.oneCell']) (by unfold maxLen; omega) (by omega) (by simp; omega)
  obtain ⟨a', c', rfl⟩ := owns_slice r1
  have hrow : ∀ j, (Value.slice av n c).ownBlock = some j → B ≤ j := fun j hj => (World.ownsRow.lt hown j hj).1
  have hb2 : Below B w0 w' := hb.trans (grown_below r2 (by simp; omega) hrow)
  have ho : OwI w' B a' (n + 1) c' (xs ++ [v]) := by unfold OwI; simpa using r1
  unfold Oper.wp
  simp [execOp, resolve, invoke, builtin, hs, hx, hrun, Result.andThen]
  exact hK _ _ (h a' c' w' ho hb2 hb2.size)
/-- What lies between two rounds. -/
structure NxI (w : World) (a a1 a2 a3 : Option Addr) (n c n1 c1 n2 c2 n3 c3 k : Nat) (av : Option Addr) (cv : Nat) (rows : List Int) (W : World) : Prop where
  bel : Below w.heap.size w W
  r3 : W.heap[w.heap.size]? = some (.cells #[.slice a n c] 24)
  r4 : W.heap[w.heap.size + 1]? = some (.cells #[.slice a1 n1 c1, .slice a2 n2 c2, .slice a3 n3 c3] 97)
  out : OwI W (w.heap.size + 1 + 1) av k cv rows
  sz : w.heap.size + 1 + 1 ≤ W.heap.size
set_option maxRecDepth 100000 in
set_option maxHeartbeats 2000000 in
theorem rNext_any (a a1 a2 a3 : Option Addr) (n c n1 c1 n2 c2 n3 c3 : Nat) (g : Int) (raw : List FlR) (fs : List Fl) (s : St) (w : World) (h1 : FrV w a n c raw fs) (h2 : StW w ((a1, n1, c1), (a2, n2, c2), (a3, n3, c3)) s) (hO : StOk fs s) (hg : -100 ≤ g ∧ g ≤ 100) :
    Calls Try.prog 120 #[.agg #[.slice a n c], .agg #[.slice a1 n1 c1, .slice a2 n2 c2, .slice a3 n3 c3], .int .i64 g] w fun e w' => ∃ av cv, e = .returned (.slice av n cv) ∧ OwI w' w.heap.size av n cv (nxts fs s g) ∧ Below w.heap.size w w' := by
  have hln := h1.n_
  have hln1 : n1 = n := by have h5 := h2.now.len; have h6 := hO.now; dsimp only at h5; omega
  have hln2 : n2 = n := by have h5 := h2.bef.len; have h6 := hO.bef; dsimp only at h5; omega
  have m1 := h1.row.max
  have cc1 := h1.row.cap
  have m2 := h2.now.max
  have cc2 := h2.now.cap
  have m3 := h2.bef.max
  have cc3 := h2.bef.cap
  dsimp only at m2 cc2 m3 cc3
  have hfo := frmE_ok hO.frm
  have hn5 : n ≤ 5 := by omega
  subst hln1 hln2
  obtain ⟨g1, g2⟩ := hg
  have HLN := Lib.hid hln
  have HFO := Lib.hid hfo.2
  have y3 := blk_keep (alloc_new w (.cells #[.slice a n2 c] 24)) ((Below.refl _ _).alloc (Nat.le_refl _) (.cells #[.slice a1 n2 c1, .slice a2 n2 c2, .slice a3 n3 c3] 97))
  have y4 := alloc_new (w.alloc (.cells #[.slice a n2 c] 24)) (.cells #[.slice a1 n2 c1, .slice a2 n2 c2, .slice a3 n3 c3] 97)
  have BW : Below w.heap.size w ((w.alloc (.cells #[.slice a n2 c] 24)).alloc (.cells #[.slice a1 n2 c1, .slice a2 n2 c2, .slice a3 n3 c3] 97)) := ((Below.refl _ _).alloc (Nat.le_refl _) _).alloc (by simp) _
  have hsz : ((w.alloc (.cells #[.slice a n2 c] 24)).alloc (.cells #[.slice a1 n2 c1, .slice a2 n2 c2, .slice a3 n3 c3] 97)).heap.size = w.heap.size + 1 + 1 := by simp
  have HSZ := Lib.hid hsz
  simp only [World.size_alloc] at y4
  clear hln hfo hsz
  go_enter Try.func120, Try.ntmps120
  go_wp2_with fail
  generalize (w.alloc (.cells #[.slice a n2 c] 24)).alloc (.cells #[.slice a1 n2 c1, .slice a2 n2 c2, .slice a3 n3 c3] 97) = W at *
  go_loopw [7, 8] (fun x i wr => ∃ (k : Nat) (av : Option Addr) (cv : Nat), k ≤ n2 ∧ i = .int .i64 (k : Int) ∧ x = .slice av k cv ∧ NxI w a a1 a2 a3 n2 c n2 c1 n2 c2 n3 c3 k av cv ((List.range k).map (nxS fs s g)) wr ∧ Below W.heap.size W wr) (fun _ i _ => n2 - (intOf i).toNat)
  case atStart => exact ⟨0, none, 0, by omega, rfl, rfl, ⟨BW, y3, y4, OwI.nil _ _, by rw [HSZ.out]; omega⟩, Below.refl _ _⟩
  case round =>
    obtain ⟨k, av, cv, hk, rfl, rfl, ⟨hb, z3, z4, hOw, hsz⟩, hbW⟩ := hrel
    have f0 := cell_block z3 0
    by_cases hlt : k < n2
    · have hkl : k < fs.length := by have := HLN.out; omega
      have hi : (k : Int) < (n2 : Int) := by omega
      have hi0 : (0 : Int) ≤ (k : Int) := by omega
      go_wp2_with fail
      refine Calmly.wp_region_mix_at W (kept_of hbW) 29 (.fl 0 <| .fl 1 <| .fl 2 <| .fl 3 <| .fl 4 <| .fl 5 <| .fl 6 <| .fl 7 <| .fl 8 <| .fl 9 <| .fl 10 <| .fl 11 <| .fl 12 <| .fl 13 <| .fl 14 <| .fl 15 <| .fl 17 <| .fl 18 <| .fl 19 <| .fl 20 <| .fl 21 <| .fl 22 <| .fl 25 <| .eff 16 <| .eff 23 <| .fl 24 <| .fl 26 <| .eff 27 <| .eff 28 <| .tail [29]) (by kernel_rfl) (by kernel_rfl) ?_
      have BD : Below wr.heap.size wr wr.drew := (Below.refl _ _).drew
      replace z3 := blk_keep z3 BD
      replace z4 := blk_keep z4 BD
      replace hOw := OwI.keepM hOw BD
      replace hb := hb.trans (BD.mono hb.size)
      replace hbW := hbW.trans (BD.mono hbW.size)
      have hsz2 : w.heap.size + 1 + 1 ≤ wr.drew.heap.size := Nat.le_trans hsz BD.size
      clear BD hsz f0
      generalize wr.drew = V at *
      have hF := h1.keep BW
      have hSt := h2.keep BW
      have hmass := (flErr_ok (HFO.out k hkl)).1
      have hnb := hO.nbd k
      have hbb := hO.bbd k
      have hpb := psA_bd (F := frS fs s) (k := fs.length) (i := k) (M := 200000000) (fun i => hO.frS_bd i)
      have hnx : nxS fs s g k = 2 * s.1[k]?.getD 0 - s.2.1[k]?.getD 0 + psA (frS fs s) fs.length k / (fs[k]?.getD fl0).1 - g := rfl
      have hrows : (List.range (k + 1)).map (nxS fs s g) = (List.range k).map (nxS fs s g) ++ [nxS fs s g k] := by rw [List.range_succ, List.map_append]; rfl
      rw [hnx] at hrows
      obtain ⟨b1', o1, e1', hc1⟩ := hF.row.at_ (by omega)
      obtain ⟨b2', o2, e2', hc2⟩ := hSt.now.at_ (show 0 < n2 by omega)
      obtain ⟨b3', o3, e3', hc3⟩ := hSt.bef.at_ (show 0 < n2 by omega)
      dsimp only at e2' e3'
      subst e1' e2' e3'
      obtain ⟨p0, _, _⟩ := hc1 k hlt
      have q0 := hc2 k hlt
      have r0 := hc3 k hlt
      rw [(hF.fl k hkl).1] at p0
      obtain ⟨MS, hMS⟩ : ∃ x, (fs[k]?.getD fl0).1 = x := ⟨_, rfl⟩
      obtain ⟨NW, hNW⟩ : ∃ x, s.1[k]?.getD 0 = x := ⟨_, rfl⟩
      obtain ⟨BF, hBF⟩ : ∃ x, s.2.1[k]?.getD 0 = x := ⟨_, rfl⟩
      obtain ⟨PA, hPA⟩ : ∃ x, psA (frS fs s) fs.length k = x := ⟨_, rfl⟩
      rw [hMS] at p0 hmass hrows
      rw [hNW] at q0 hnb hrows
      rw [hBF] at r0 hbb hrows
      rw [hPA] at hpb hrows
      have hfl := ediv_bd (x := PA) (d := MS) (M := 400000000) (by omega) (by omega) (by omega) (by omega)
      obtain ⟨FQ, hFQ⟩ : ∃ x, PA / MS = x := ⟨_, rfl⟩
      rw [hFQ] at hfl hrows
      obtain ⟨k1, k2⟩ := hmass
      obtain ⟨k3, k4⟩ := hnb
      obtain ⟨k5, k6⟩ := hbb
      obtain ⟨k7, k8⟩ := hpb
      obtain ⟨k9, k10⟩ := hfl
      have HROWS := Lib.hid hrows
      have HPA := Lib.hid hPA
      have HFQ := Lib.hid hFQ
      have hkn := hlt
      clear hc1 hc2 hc3 hnx hrows hMS hNW hBF hPA hFQ hk hlt
      have hk := hbW
      have f0 := cell_block y3 0
      have g0 := cell_block y4 0
      have g1' := cell_block y4 1
      have g2' := cell_block y4 2
      go_wp2_with (first | (refine mix_appO (w0 := w5) (B := w.heap.size + 1 + 1) 28 rfl rfl hO5 rfl rfl (by omega) hB5 (fun a9 c9 w9 ho9 hb9 hs9 => ?_); have hk9 := hk5.trans (show Below W.heap.size w5 w9 by rw [HSZ.out]; exact hb9); refine ⟨kept_of hk9, ?_⟩) | ((with_reducible refine Calmly.is_fl ?_); refine Calmly.mix_fl rfl ?_ (fun _ _ => ?_); (first | exact .move _ | exact .load _ _ | exact .fieldAddr _ _ _ (by kernel_rfl) | exact .assign _ | exact .binOp _ _ _ _ _ rfl | exact .indexAddr _ _ _ | exact .len _ _ (by kernel_rfl) | exact .field _ _ _ | exact .extract _ _ | exact .pick _ _ _ | exact .build _ _ | exact .slice _ _ _ _ _ | exact .unOp _ _ _ rfl | exact .index _ _ _ | exact .max _ _ _ rfl rfl | exact .min _ _ _ rfl rfl | exact .nilCheck _ _ rfl)) | ((with_reducible refine Calmly.is_gl ?_); refine Calmly.mix_gl rfl rfl rfl ?_; first | ((first | with_reducible refine Calmly.gl_tt ?_ (fun _ _ => ?_) | with_reducible refine Calmly.gl_ff ?_ (fun _ _ => ?_)); (first | exact .move _ | exact .load _ _ | exact .fieldAddr _ _ _ (by kernel_rfl) | exact .assign _ | exact .binOp _ _ _ _ _ rfl | exact .indexAddr _ _ _ | exact .len _ _ (by kernel_rfl) | exact .field _ _ _ | exact .extract _ _ | exact .pick _ _ _ | exact .build _ _ | exact .slice _ _ _ _ _ | exact .unOp _ _ _ rfl | exact .index _ _ _ | exact .max _ _ _ rfl rfl | exact .min _ _ _ rfl rfl | exact .nilCheck _ _ rfl)) | with_reducible refine Calmly.gl_tf (fun _ _ => ?_) | with_reducible refine Calmly.gl_ft (fun _ _ => ?_)) | ((with_reducible refine Calmly.is_eff ?_); refine Calmly.mix_eff rfl (fun _ _ => ?_)) | ((with_reducible refine Calmly.is_gf ?_); refine Calmly.mix_gf rfl rfl rfl ?_; first | with_reducible refine Calmly.gf_tt (fun _ _ => ?_) | with_reducible refine Calmly.gf_ff (fun _ _ => ?_) | with_reducible refine Calmly.gf_tf (kept_of hk) (fun _ _ => ?_) | with_reducible refine Calmly.gf_ft (kept_of hk) (fun _ _ => ?_)) | ((with_reducible refine Calmly.is_tail ?_); first | refine Calmly.mix_tail_nil ?_ | refine Calmly.mix_tail rfl (fun _ _ => ?_)) | ((with_reducible refine Calmly.is_kept ?_); refine ⟨kept_of hk, ?_⟩) | (with_reducible refine Calmly.mix_alt ?_ ?_) | (refine kept_alloc hk (fun hk' hblk hge => ?_); replace hk := hk'; clear hk') | (go_at_call 121; refine (rPush_any _ _ _ _ n2 c n2 c1 n2 c2 n3 c3 k raw fs s _ (hF.keep hk) (hSt.keep hk) hO hkn).mono ?_; rintro e w5 ⟨rfl, hb5⟩; rw [HPA.out]; have hO5 := OwI.keepM hOw hb5; have hB5 := Nat.le_trans hsz2 hb5.size; replace hk := step_of hk hb5; have hk5 := hk; have hb6 := hb.trans (hb5.mono hb.size)) | (go_at_call 142; refine (floor_any PA MS _ (by omega) (by omega) (by omega) (by omega)).mono ?_; rintro e w6 ⟨rfl, rfl⟩; rw [HFQ.out]))
      go_roundw
      case rel => exact ⟨k + 1, a9, c9, by omega, by go_num, rfl, ⟨hb6.trans (hb9.mono (by omega)), blk_keep y3 hk9, blk_keep y4 hk9, by rw [HROWS.out]; exact ho9, by have := hb9.size; omega⟩, hk9⟩
      case measure => simp [intOf]; omega
    · have hle : (n2 : Int) ≤ (k : Int) := by omega
      obtain rfl : n2 = k := by omega
      clear hlt hk
      go_wp2_with fail
      go_ret
      exact ⟨_, _, rfl, by rw [nxts, ← HLN.out]; exact owns_lower hOw (by omega), hb⟩
end Go.Proofs.Ytaiikekgckjdeaa
