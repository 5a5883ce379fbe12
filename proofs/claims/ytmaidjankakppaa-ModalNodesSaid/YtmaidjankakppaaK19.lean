/- The reference's determinants. The reference's counts are the program's. Plain law of shapes: numbers over a common denominator, divided by all that divides them, are those over the smallest common denominator; sways and shapes are the reference's. -/
import Derived.Test.YtmaidjankakppaaK18
namespace Go.Proofs.Ytmaidjankakppaa
open Go.RowKit Go.Wides
open Calmly (Kept)

/-- The two last determinants, of rational numbers. -/
def dQ (ms ks : List Int) (q : Rat) : Nat → Rat × Rat
  | 0 => (0, 1)
  | i + 1 => ((dQ ms ks q i).2, (((ks[i]?.getD 0 + ks[i + 1]?.getD 0 : Int) : Rat) - q * ((ms[i]?.getD 0 : Int) : Rat)) * (dQ ms ks q i).2 - ((ks[i]?.getD 0 * ks[i]?.getD 0 : Int) : Rat) * (dQ ms ks q i).1)
def dQs (ms ks : List Int) (q : Rat) (n : Nat) : List Rat := (List.range (n + 1)).map (fun i => (dQ ms ks q i).2)
theorem dQs_len (ms ks : List Int) (q : Rat) (n : Nat) : (dQs ms ks q n).length = n + 1 := by simp [dQs]
theorem dQs_get (ms ks : List Int) (q : Rat) (n i : Nat) (hi : i ≤ n) : (dQs ms ks q n)[i]?.getD 0 = (dQ ms ks q i).2 := by
  unfold dQs
  rw [List.getElem?_map, List.getElem?_range (by omega)]
  rfl
theorem dQs_zero (ms ks : List Int) (q : Rat) : dQs ms ks q 0 = [1] := rfl
theorem dQs_succ (ms ks : List Int) (q : Rat) (n : Nat) : dQs ms ks q (n + 1) = dQs ms ks q n ++ [(dQ ms ks q (n + 1)).2] := by
  unfold dQs
  rw [List.range_succ, List.map_append]
  rfl
theorem dQ_first (ms ks : List Int) (q : Rat) : (dQ ms ks q 1).2 = (((ks[0]?.getD 0 + ks[1]?.getD 0 : Int) : Rat) - q * ((ms[0]?.getD 0 : Int) : Rat)) * (dQ ms ks q 0).2 := by
  show _ * _ - _ * (0 : Rat) = _
  rw [Rat.mul_zero]
  grind

theorem Fr.ks {ms ks : List Int} (h : Fr ms ks) : ∀ x ∈ ks, 1 ≤ x ∧ x ≤ 20 := fun x hx => by
  obtain ⟨i, hi, rfl⟩ := List.getElem_of_mem hx
  have := h.k i (by have := h.len; omega)
  rwa [List.getElem?_eq_getElem hi] at this
/-- How many digits a determinant has at most. -/
def dL : Nat → Nat
  | 0 => 46
  | i + 1 => 4 * dL i + 18
theorem dL_bd (i : Nat) (hi : i ≤ 4) : 46 ≤ dL i ∧ dL i ≤ 20000 := by
  rcases (by omega : i = 0 ∨ i = 1 ∨ i = 2 ∨ i = 3 ∨ i = 4) with rfl | rfl | rfl | rfl | rfl <;> decide
theorem RowQ.mono {w : World} {B : Nat} {a : Option Addr} {n c L L' : Nat} {qs : List Rat} (h : RowQ w B a n c L qs) (hL : L ≤ L') : RowQ w B a n c L' qs := by
  obtain ⟨l, h1, h2, h3⟩ := h
  exact ⟨l, h1, h2, fun i hi => (h3 i hi).mono hL⟩

theorem RowQ.other {w : World} {B g o' n c L : Nat} {qs : List Rat} (h : RowQ w B (some ⟨g, o', none⟩) n c L qs) {r o : Nat} (hr : r ≠ g) (hT : BlkT w r 72) (v : Value) : RowQ (w.setCell ⟨r, o, none⟩ v) B (some ⟨g, o', none⟩) n c L qs := by
  obtain ⟨l, h1, h2, h3⟩ := h
  refine ⟨l, ?_, h2, fun i hi => (h3 i hi).frame fun b hb => Below.heap_setCell _ _ _ _ ?_⟩
  · obtain ⟨k1, k2⟩ := h1
    refine ⟨k1, ?_⟩
    rcases k2 with ⟨k2, _⟩ | ⟨g', cap, cur, hv, hg, hh, r'⟩
    · cases k2
    · cases hv
      exact .inr ⟨g, _, _, rfl, hg, (Below.heap_setCell _ _ _ _ (Ne.symm hr)).trans hh, r'⟩
  · rintro rfl
    obtain ⟨cs, hcs⟩ := hb
    obtain ⟨cs', hcs'⟩ := hT
    rw [hcs] at hcs'
    cases hcs'
theorem RowQ.other4 {w : World} {B g o' n c L : Nat} {qs : List Rat} (h : RowQ w B (some ⟨g, o', none⟩) n c L qs) {r : Nat} (hr : r ≠ g) (hT : BlkT w r 72) (x y z u : Value) : RowQ ((((w.setCell ⟨r, 0, none⟩ x).setCell ⟨r, 1, none⟩ y).setCell ⟨r, 2, none⟩ z).setCell ⟨r, 3, none⟩ u) B (some ⟨g, o', none⟩) n c L qs :=
  (((h.other hr hT x).other hr (hT.set _ _) y).other hr ((hT.set _ _).set _ _) z).other hr (((hT.set _ _).set _ _).set _ _) u
theorem packQ {U W' : World} {r : Nat} {u0 u1 u2 u3 : Value} {s : Int} {a : Option Addr} {m c : Nat} {s' : Int} {a' : Option Addr} {m' c' : Nat} {x : Rat} (p : W'.heap[r]? = some (.cells #[u0, u1, u2, u3] 72)) (h : RatV W' s a m c s' a' m' c' x) (hk : Below U.heap.size U W') (hr : U.heap.size ≤ r) :
    ∃ b v2, ((((W'.setCell ⟨r, 0, none⟩ (.int .i64 s)).setCell ⟨r, 1, none⟩ (.slice a m c)).setCell ⟨r, 2, none⟩ (.int .i64 s')).setCell ⟨r, 3, none⟩ (.slice a' m' c')) = v2 ∧ r = b ∧ U.heap.size ≤ b ∧ Below U.heap.size U v2 ∧ v2.heap[b]? = some (.cells #[.int .i64 s, .slice a m c, .int .i64 s', .slice a' m' c'] 72) ∧ RatV v2 s a m c s' a' m' c' x := by
  obtain ⟨X4, W1, W2⟩ := ratFin p h.1 h.2
  exact ⟨r, _, rfl, rfl, hr, below4 hk hr, X4, W1, W2⟩

set_option maxRecDepth 100000 in
set_option maxHeartbeats 8000000 in
theorem Determinants_any (a b : Option Addr) (n c m d : Nat) (ms ks : List Int) (s1 : Int) (a1 : Option Addr) (n1 c1 : Nat) (s2 : Int) (a2 : Option Addr) (n2 c2 : Nat) (q : Rat) (w : World) (h1 : SI w a n c ms) (h2 : SI w b m d ks) (hf : Fr ms ks)
    (h : RatV w s1 a1 n1 c1 s2 a2 n2 c2 q) (hl1 : n1 ≤ 7) (hl2 : n2 ≤ 7) :
    Calls Try.prog 106 #[.agg #[.slice a n c, .slice b m d], .agg #[.int .i64 s1, .slice a1 n1 c1, .int .i64 s2, .slice a2 n2 c2]] w fun e w' => ∃ a' c' B, e = .returned (.slice a' (n + 1) c') ∧ RowQ w' B a' (n + 1) c' 20000 (dQs ms ks q n) ∧ Below w.heap.size w w' := by
  have hb2 : Below w.heap.size w ((w.alloc (.cells #[.slice a n c, .slice b m d] 24)).alloc (.cells #[.int .i64 s1, .slice a1 n1 c1, .int .i64 s2, .slice a2 n2 c2] 72)) := ((Below.refl _ _).alloc (Nat.le_refl _) _).alloc (by simp) _
  obtain ⟨l1, l2⟩ : n ≤ ms.length ∧ ms.length ≤ n := by have := h1.len; omega
  obtain ⟨l3, l4⟩ : m ≤ n ∧ n ≤ m := by have := h2.len; have := hf.len; omega
  obtain ⟨l5, l6⟩ : 0 < n ∧ n ≤ 4 := by have := hf.pos; have := hf.few; omega
  go_enter Try.func106, Try.ntmps106
  go_wp2_with fail
  refine (RatioInt_any 1 _ (by omega) (by omega)).mono ?_
  rintro e w1 ⟨⟨gs, ga, gn, gc, gs', ga', gn', gc', rfl, gh, gh', gV⟩, hs⟩
  obtain ⟨x1, x2⟩ := box2 (w := w) (o := .cells #[.slice a n c, .slice b m d] 24) (o' := .cells #[.int .i64 s1, .slice a1 n1 c1, .int .i64 s2, .slice a2 n2 c2] 72) hs
  have B1 := hb2.trans (hs.mono hb2.size)
  have sX := blk_lt x2
  have R1 := RowQ.one (B := w.heap.size + 1 + 1) (by omega) gV (L := dL 0) (by show _ ≤ 46; omega) (by show _ ≤ 46; omega)
  clear hb2 hs gV
  go_wp2_with fail
  go_loopw [5, 6] (fun l i wr => ∃ (k c' : Nat) (a' : Option Addr), i = .int .i64 (k : Int) ∧ l = .slice a' (k + 1) c' ∧ k ≤ n ∧ RowQ wr (w.heap.size + 1 + 1) a' (k + 1) c' (dL k) (dQs ms ks q k) ∧ Below (w.heap.size + 1 + 1) w1 wr) (fun _ i _ => n - (intOf i).toNat)
  case atStart => exact ⟨0, _, _, rfl, rfl, by omega, R1, (Below.refl _ _).alloc (by omega) _⟩
  case round =>
    obtain ⟨k, c', a', rfl, rfl, hk0, hrow, hbel⟩ := hrel
    have Bw := B1.trans (hbel.mono (by omega))
    have hsz := hbel.size
    have y1 : wr.heap[w.heap.size]? = some (.cells #[.slice a n c, .slice b m d] 24) := (hbel.block _ (by omega)).trans x1
    have y2 : wr.heap[w.heap.size + 1]? = some (.cells #[.int .i64 s1, .slice a1 n1 c1, .int .i64 s2, .slice a2 n2 c2] 72) := (hbel.block _ (by omega)).trans x2
    have v0 := cell_block y1 0
    have v1 := cell_block y1 1
    have u0 := cell_block y2 0
    have u1 := cell_block y2 1
    have u2 := cell_block y2 2
    have u3 := cell_block y2 3
    obtain ⟨dl1, dl2⟩ := dL_bd k (by omega)
    by_cases hlt : k < n
    · have hi : (k : Int) < (n : Int) := by omega
      have hi0 : (0 : Int) ≤ (k : Int) := by omega
      obtain ⟨ba, oa, rfl, hca⟩ := h1.at_ (by omega)
      have em := hca k hlt
      have em' : wr.drew.cell? ⟨ba, oa + k, none⟩ = some (.int .i64 (ms[k]?.getD 0)) := (Bw.drew.cell (p := ⟨ba, oa + k, none⟩) (cell_lt em)).trans em
      obtain ⟨mv, hmv⟩ : ∃ v, ms[k]?.getD 0 = v := ⟨_, rfl⟩
      obtain ⟨ov, hov⟩ : ∃ v, ks[k]?.getD 0 + ks[k + 1]?.getD 0 = v := ⟨_, rfl⟩
      have hmb := hf.m k (by omega)
      have hob1 := hf.k0 k
      have hob2 := hf.k0 (k + 1)
      have hob : 0 ≤ ov ∧ ov ≤ 40 := by omega
      rw [hmv] at em' hmb
      have HM := Lib.hid hmv
      have HO := Lib.hid hov
      clear hca em hmv hov hob1 hob2
      go_wp2_with fail
      refine Calmly.wp_region_mix 14 (.fl 0 <| .fl 1 <| .fl 4 <| .fl 5 <| .fl 6 <| .fl 7 <| .fl 8 <| .fl 9 <| .alt 2 (.alt 3 (.alt 10 (.alt 11 (.alt 12 (.eff 13 <| .tail [14]) (.eff 13 (.eff 12 <| .tail [14]))) (.eff 13 (.eff 11 <| .eff 12 <| .tail [14]))) (.eff 13 (.eff 10 <| .eff 11 <| .eff 12 <| .tail [14]))) (.eff 13 (.eff 3 <| .eff 10 <| .eff 11 <| .eff 12 <| .tail [14]))) (.eff 13 (.eff 2 <| .eff 3 <| .eff 10 <| .eff 11 <| .eff 12 <| .tail [14]))) (by kernel_rfl) (by kernel_rfl) ?_
      replace y1 : wr.drew.heap[w.heap.size]? = some (.cells #[.slice (some ⟨ba, oa, none⟩) n c, .slice b m d] 24) := y1
      replace y2 : wr.drew.heap[w.heap.size + 1]? = some (.cells #[.int .i64 s1, .slice a1 n1 c1, .int .i64 s2, .slice a2 n2 c2] 72) := y2
      replace hrow := hrow.drew
      replace hbel := hbel.drew
      replace Bw := Bw.drew
      clear v0 v1 u0 u1 u2 u3
      generalize wr.drew = V at *
      have v0 := cell_block y1 0
      have v1 := cell_block y1 1
      have u0 := cell_block y2 0
      have u1 := cell_block y2 1
      have u2 := cell_block y2 2
      have u3 := cell_block y2 3
      have H := h.keep Bw
      have H2 := h2.keep Bw
      have hk := Below.refl V.heap.size V
      rename_i K hK
      have hK' := fun a w (h : StopR _) => hK a w h.out
      clear hK
      have HKK : ∀ (b7 : Nat) (x18 x19 x20 x21 x22 x23 x24 x25 x26 x27 x28 x29 x30 : Value) (is : Int) (ib : Option Addr) (iN ic : Nat) (is' : Int) (ib' : Option Addr) (iN' ic' : Nat) (v : World), V.heap.size ≤ b7 → Below V.heap.size V v → v.heap[b7]? = some (.cells #[.int .i64 is, .slice ib iN ic, .int .i64 is', .slice ib' iN' ic'] 72) → RatV v is ib iN ic is' ib' iN' ic' ((ov : Rat) - q * (mv : Rat)) → iN ≤ 46 → iN' ≤ 46 →
          K { tmps := #[Value.agg #[Value.slice (some ⟨ba, oa, none⟩) n c, Value.slice b m d], Value.agg #[Value.int IntKind.i64 s1, Value.slice a1 n1 c1, Value.int IntKind.i64 s2, Value.slice a2 n2 c2], Value.pointer (some ⟨w.heap.size, 0, none⟩), Value.pointer (some ⟨w.heap.size + 1, 0, none⟩), Value.slice none 0 0, Value.slice a' (k + 1) c', Value.int IntKind.i64 ↑k, Value.pointer (some ⟨b7, 0, none⟩), u8, Value.agg #[Value.int IntKind.i64 gs, Value.slice ga gn gc, Value.int IntKind.i64 gs', Value.slice ga' gn' gc'], Value.slice (some ⟨w1.heap.size, 0, none⟩) 1 1, Value.int IntKind.i64 ↑k, Value.pointer (some ⟨w.heap.size, 0, none⟩), Value.slice (some ⟨ba, oa, none⟩) n c, Value.int IntKind.i64 ↑n, Value.bool true, u16, u17, x18, x19, x20, x21, x22, x23, x24, x25, x26, x27, x28, x29, x30, u31, u32, u33, u34, u35, u36, u37, u38, u39, u40, u41, u42, u43, u44, u45, u46, u47, u48, u49, u50, u51, u52, u53, u54, u55, u56, u57, u58, u59, u60, u61, u62, undef], defers := [] } v := by
        intro b7 x18 x19 x20 x21 x22 x23 x24 x25 x26 x27 x28 x29 x30 is ib iN ic is' ib' iN' ic' v hb7 hv X7 RD hN hN'
        refine hK' _ _ ⟨?_⟩
        clear hK' K
        have f0 := cell_block X7 0
        have f1 := cell_block X7 1
        have f2 := cell_block X7 2
        have f3 := cell_block X7 3
        clear v0 v1 u0 u1 u2 u3
        replace em' := (hv.cell (p := ⟨ba, oa + k, none⟩) (cell_lt em')).trans em'
        replace y1 := blk_keep y1 hv
        replace y2 := blk_keep y2 hv
        replace hrow := hrow.keep hv
        have hbel0 := Lib.hid hbel
        replace hbel := hbel.trans (hv.mono (by have := hbel.size; omega))
        replace Bw := Bw.trans (hv.mono Bw.size)
        obtain ⟨br, off, gs1, ga1, gn1, gc1, gs2, ga2, gn2, gc2, rfl, g0, g1, g2, g3, gl1, gl2, gR⟩ := hrow.at_ k (by omega)
        rw [dQs_get _ _ _ _ _ (Nat.le_refl _)] at gR
        have glt := cell_lt g0
        have hk1 : (k : Int) < ((k + 1 : Nat) : Int) := by omega
        go_wp2_with fail
        refine Calmly.wp_region_mix 7 (.fl 0 <| .fl 1 <| .fl 2 <| .fl 3 <| .fl 4 <| .alt 5 (.eff 6 <| .tail [7]) (.eff 6 (.eff 5 <| .tail [7]))) (by kernel_rfl) (by kernel_rfl) ?_
        replace em' : v.drew.cell? ⟨ba, oa + k, none⟩ = some (.int .i64 mv) := em'
        replace y1 : v.drew.heap[w.heap.size]? = some (.cells #[.slice (some ⟨ba, oa, none⟩) n c, .slice b m d] 24) := y1
        replace hrow := hrow.drew
        replace hbel := hbel.drew
        replace Bw := Bw.drew
        replace f0 : v.drew.cell? ⟨b7, 0, none⟩ = some (.int .i64 is) := f0
        replace f1 : v.drew.cell? ⟨b7, 1, none⟩ = some (.slice ib iN ic) := f1
        replace f2 : v.drew.cell? ⟨b7, 2, none⟩ = some (.int .i64 is') := f2
        replace f3 : v.drew.cell? ⟨b7, 3, none⟩ = some (.slice ib' iN' ic') := f3
        replace g0 : v.drew.cell? ⟨br, off + k * 4, none⟩ = some (.int .i64 gs1) := g0
        replace g1 : v.drew.cell? ⟨br, off + k * 4 + 1, none⟩ = some (.slice ga1 gn1 gc1) := g1
        replace g2 : v.drew.cell? ⟨br, off + k * 4 + 2, none⟩ = some (.int .i64 gs2) := g2
        replace g3 : v.drew.cell? ⟨br, off + k * 4 + 3, none⟩ = some (.slice ga2 gn2 gc2) := g3
        replace RD := RD.keep (Below.refl _ _).drew
        replace gR := gR.keep (Below.refl _ _).drew
        clear hv X7 y2 hk
        rename_i K hK
        have hK' := fun a w (h : StopR _) => hK a w h.out
        clear hK
        generalize v.drew = U at *
        have hk := Below.refl U.heap.size U
        go_wp2_with (first | ((with_reducible refine Calmly.is_fl ?_); refine Calmly.mix_fl rfl ?_ (fun _ _ => ?_); (first | exact .move _ | exact .load _ _ | exact .fieldAddr _ _ _ (by kernel_rfl) | exact .assign _ | exact .binOp _ _ _ _ _ rfl | exact .indexAddr _ _ _ | exact .len _ _ (by kernel_rfl) | exact .field _ _ _ | exact .extract _ _ | exact .pick _ _ _ | exact .build _ _ | exact .slice _ _ _ _ _ | exact .unOp _ _ _ rfl | exact .index _ _ _ | exact .max _ _ _ rfl rfl | exact .min _ _ _ rfl rfl)) | ((with_reducible refine Calmly.is_gl ?_); refine Calmly.mix_gl rfl rfl rfl ?_; first | ((first | with_reducible refine Calmly.gl_tt ?_ (fun _ _ => ?_) | with_reducible refine Calmly.gl_ff ?_ (fun _ _ => ?_)); (first | exact .move _ | exact .load _ _ | exact .fieldAddr _ _ _ (by kernel_rfl) | exact .assign _ | exact .binOp _ _ _ _ _ rfl | exact .indexAddr _ _ _ | exact .len _ _ (by kernel_rfl) | exact .field _ _ _ | exact .extract _ _ | exact .pick _ _ _ | exact .build _ _ | exact .slice _ _ _ _ _ | exact .unOp _ _ _ rfl | exact .index _ _ _ | exact .max _ _ _ rfl rfl | exact .min _ _ _ rfl rfl)) | with_reducible refine Calmly.gl_tf (fun _ _ => ?_) | with_reducible refine Calmly.gl_ft (fun _ _ => ?_)) | ((with_reducible refine Calmly.is_eff ?_); refine Calmly.mix_eff rfl (fun _ _ => ?_)) | ((with_reducible refine Calmly.is_gf ?_); refine Calmly.mix_gf rfl rfl rfl ?_; first | with_reducible refine Calmly.gf_tt (fun _ _ => ?_) | with_reducible refine Calmly.gf_ff (fun _ _ => ?_) | with_reducible refine Calmly.gf_tf (kept_of hk) (fun _ _ => ?_) | with_reducible refine Calmly.gf_ft (kept_of hk) (fun _ _ => ?_)) | ((with_reducible refine Calmly.is_kept ?_); refine ⟨kept_of hk, ?_⟩) | (with_reducible refine Calmly.mix_alt ?_ ?_) | (go_at_call 49; refine (RatioMul_any _ _ _ _ _ _ _ _ _ _ _ _ _ _ _ _ (dL k) _ _ _ (RD.keep hk) (gR.keep hk) (by omega) (by omega) (by omega) (by omega) (by omega)).mono ?_; rintro e w' ⟨⟨js, jb, jn, jc, js', jb', jn', jc', rfl, jh, jh', rJ⟩, hs⟩; replace hk := step_of hk hs; (try replace p8 := blk_keep p8 hs); clear hs) | (refine kept_allocB hk (fun hs hk' hblk => ?_); have hge := hk.size; generalize World.alloc _ _ = W' at hs hk' hblk ⊢; replace hk := hk'; clear hk'; (try replace rJ := rJ.keep hs); have p8 := hblk; clear hs hblk))
        all_goals
          have z0 := cell_block p8 0
          have z1 := cell_block p8 1
          have z2 := cell_block p8 2
          have z3 := cell_block p8 3
          have z4 := frozen_block p8 0
          have z5 := frozen_block p8 1
          have z6 := frozen_block p8 2
          have z7 := frozen_block p8 3
        go_wp2_with (first | ((with_reducible refine Calmly.is_fl ?_); refine Calmly.mix_fl rfl ?_ (fun _ _ => ?_); (first | exact .move _ | exact .load _ _ | exact .fieldAddr _ _ _ (by kernel_rfl) | exact .assign _ | exact .binOp _ _ _ _ _ rfl | exact .indexAddr _ _ _ | exact .len _ _ (by kernel_rfl) | exact .field _ _ _ | exact .extract _ _ | exact .pick _ _ _ | exact .build _ _ | exact .slice _ _ _ _ _ | exact .unOp _ _ _ rfl | exact .index _ _ _ | exact .max _ _ _ rfl rfl | exact .min _ _ _ rfl rfl)) | ((with_reducible refine Calmly.is_gl ?_); refine Calmly.mix_gl rfl rfl rfl ?_; first | ((first | with_reducible refine Calmly.gl_tt ?_ (fun _ _ => ?_) | with_reducible refine Calmly.gl_ff ?_ (fun _ _ => ?_)); (first | exact .move _ | exact .load _ _ | exact .fieldAddr _ _ _ (by kernel_rfl) | exact .assign _ | exact .binOp _ _ _ _ _ rfl | exact .indexAddr _ _ _ | exact .len _ _ (by kernel_rfl) | exact .field _ _ _ | exact .extract _ _ | exact .pick _ _ _ | exact .build _ _ | exact .slice _ _ _ _ _ | exact .unOp _ _ _ rfl | exact .index _ _ _ | exact .max _ _ _ rfl rfl | exact .min _ _ _ rfl rfl)) | with_reducible refine Calmly.gl_tf (fun _ _ => ?_) | with_reducible refine Calmly.gl_ft (fun _ _ => ?_)) | ((with_reducible refine Calmly.is_eff ?_); refine Calmly.mix_eff rfl (fun _ _ => ?_)) | ((with_reducible refine Calmly.is_gf ?_); refine Calmly.mix_gf rfl rfl rfl ?_; first | with_reducible refine Calmly.gf_tt (fun _ _ => ?_) | with_reducible refine Calmly.gf_ff (fun _ _ => ?_) | with_reducible refine Calmly.gf_tf (kept_of hk) (fun _ _ => ?_) | with_reducible refine Calmly.gf_ft (kept_of hk) (fun _ _ => ?_)) | ((with_reducible refine Calmly.is_tail ?_); first | refine Calmly.mix_tail_nil ?_ | refine Calmly.mix_tail rfl (fun _ _ => ?_)) | ((with_reducible refine Calmly.is_kept ?_); refine ⟨kept_of hk, ?_⟩) | (with_reducible refine Calmly.mix_alt ?_ ?_))
        all_goals
          refine ⟨?_⟩
          obtain ⟨b8, v2, e2, e1, hb8, hv2, X8, RJ⟩ := packQ p8 rJ hk (by omega)
          rw [e2, e1]
          have gltU := cell_lt g0
          clear e2 e1 z0 z1 z2 z3 z4 z5 z6 z7 p8 rJ hk f0 f1 f2 f3 g0 g1 g2 g3 hge RD gR
          have BW2 := Bw.trans (hv2.mono Bw.size)
          have HB2 := hbel.trans (hv2.mono (by have := hbel.size; omega))
          have hrow2 := hrow.keep hv2
          have z0 := cell_block X8 0
          have z1 := cell_block X8 1
          have z2 := cell_block X8 2
          have z3 := cell_block X8 3
          have hB2 : w.heap.size + 1 + 1 ≤ v2.heap.size := by have := hbel.size; have := hv2.size; omega
          have hdl : dL (k + 1) = 4 * dL k + 18 := rfl
          by_cases h0 : k = 0
          · have h00 : (k : Int) ≤ 0 := by omega
            have H0 := Lib.hid h0
            clear h0
            go_wp2_with (first | (at_builtin; refine appQ _ rfl rfl _ _ rfl (hrow2.mono (L' := dL (k + 1)) (by omega)) RJ (by omega) (by omega) rfl rfl (by omega) (by omega) ?_; intro a9 c9 w9 hrow9 hb9 hlt9))
            go_roundw
            case rel =>
              refine ⟨k + 1, c9, a9, by go_num, rfl, by omega, ?_, HB2.trans hb9⟩
              obtain rfl := H0.out
              rw [dQs_succ, dQ_first, HO.out, HM.out]
              exact hrow9
            case measure => simp [intOf]; omega
          · have h00 : (0 : Int) < (k : Int) := by omega
            have y1' := blk_keep y1 hv2
            have t1 := cell_block y1' 0
            have t2 := cell_block y1' 1
            obtain ⟨bk, ok, rfl, hck⟩ := (h2.keep BW2).at_ (by omega)
            have ek := hck k (by omega)
            have hkb := hf.k k (by omega)
            obtain ⟨kv, hkv⟩ : ∃ x, ks[k]?.getD 0 = x := ⟨_, rfl⟩
            rw [hkv] at ek hkb
            have HKV := Lib.hid hkv
            clear hck hkv
            have hkk := mul_bd2 (a := kv) (x := kv) (A := 20) (C := 20) (by omega) (by omega) (by omega) (by omega)
            obtain ⟨br2, off2, os1, oa1, on1, oc1, os2, oa2, on2, oc2, hbr, o0, o1, o2, o3, ol1, ol2, oR⟩ := hrow2.at_ (k - 1) (by omega)
            cases hbr
            rw [dQs_get _ _ _ _ _ (by omega)] at oR
            have hj : ((k : Int) - 1).toNat = k - 1 := by omega
            have hj1 : (k : Int) - 1 < ((k + 1 : Nat) : Int) := by omega
            have hm1 : (k : Int) < (m : Int) := by omega
            go_wp2_with fail
            refine Calmly.wp_region_mix 20 (.fl 0 <| .fl 1 <| .fl 2 <| .fl 3 <| .fl 4 <| .fl 5 <| .fl 6 <| .fl 7 <| .fl 8 <| .fl 9 <| .fl 10 <| .fl 11 <| .fl 13 <| .fl 14 <| .fl 15 <| .fl 16 <| .fl 17 <| .eff 12 <| .eff 18 <| .eff 19 <| .tail [20]) (by kernel_rfl) (by kernel_rfl) ?_
            have x8 : v2.drew.heap[b8]? = some (.cells #[.int .i64 js, .slice jb jn jc, .int .i64 js', .slice jb' jn' jc'] 72) := X8
            have y1'' : v2.drew.heap[w.heap.size]? = some (.cells #[.slice (some ⟨ba, oa, none⟩) n c, .slice (some ⟨bk, ok, none⟩) m d] 24) := y1'
            replace ek : v2.drew.cell? ⟨bk, ok + k, none⟩ = some (.int .i64 kv) := ek
            replace o0 : v2.drew.cell? ⟨br, off + (k - 1) * 4, none⟩ = some (.int .i64 os1) := o0
            replace o1 : v2.drew.cell? ⟨br, off + (k - 1) * 4 + 1, none⟩ = some (.slice oa1 on1 oc1) := o1
            replace o2 : v2.drew.cell? ⟨br, off + (k - 1) * 4 + 2, none⟩ = some (.int .i64 os2) := o2
            replace o3 : v2.drew.cell? ⟨br, off + (k - 1) * 4 + 3, none⟩ = some (.slice oa2 on2 oc2) := o3
            replace oR := oR.keep (Below.refl _ _).drew
            replace RJ := RJ.keep (Below.refl _ _).drew
            have hrow4' := hrow2.drew
            have hB2' : w.heap.size + 1 + 1 ≤ v2.drew.heap.size := hB2
            have HB2' := HB2.drew
            have hb8' : b8 < v2.drew.heap.size := blk_lt x8
            clear z0 z1 z2 z3 t1 t2 X8 y1' hrow2 hrow BW2 HB2 hB2 h00 hv2 h1 h2 H2 y1 x1 x2 R1 B1
            generalize v2.drew = V2 at *
            have z0 := cell_block x8 0
            have z1 := cell_block x8 1
            have z2 := cell_block x8 2
            have z3 := cell_block x8 3
            have t1 := cell_block y1'' 0
            have t2 := cell_block y1'' 1
            have hk := Below.refl V2.heap.size V2
            rename_i K hK _
            have hK' := fun a w (h : StopR _) => hK a w h.out
            clear hK
            go_wp2_with (first | ((with_reducible refine Calmly.is_fl ?_); refine Calmly.mix_fl rfl ?_ (fun _ _ => ?_); (first | exact .move _ | exact .load _ _ | exact .fieldAddr _ _ _ (by kernel_rfl) | exact .assign _ | exact .binOp _ _ _ _ _ rfl | exact .indexAddr _ _ _ | exact .len _ _ (by kernel_rfl) | exact .field _ _ _ | exact .extract _ _ | exact .pick _ _ _ | exact .build _ _ | exact .slice _ _ _ _ _ | exact .unOp _ _ _ rfl | exact .index _ _ _ | exact .max _ _ _ rfl rfl | exact .min _ _ _ rfl rfl)) | ((with_reducible refine Calmly.is_gl ?_); refine Calmly.mix_gl rfl rfl rfl ?_; first | ((first | with_reducible refine Calmly.gl_tt ?_ (fun _ _ => ?_) | with_reducible refine Calmly.gl_ff ?_ (fun _ _ => ?_)); (first | exact .move _ | exact .load _ _ | exact .fieldAddr _ _ _ (by kernel_rfl) | exact .assign _ | exact .binOp _ _ _ _ _ rfl | exact .indexAddr _ _ _ | exact .len _ _ (by kernel_rfl) | exact .field _ _ _ | exact .extract _ _ | exact .pick _ _ _ | exact .build _ _ | exact .slice _ _ _ _ _ | exact .unOp _ _ _ rfl | exact .index _ _ _ | exact .max _ _ _ rfl rfl | exact .min _ _ _ rfl rfl)) | with_reducible refine Calmly.gl_tf (fun _ _ => ?_) | with_reducible refine Calmly.gl_ft (fun _ _ => ?_)) | ((with_reducible refine Calmly.is_eff ?_); refine Calmly.mix_eff rfl (fun _ _ => ?_)) | ((with_reducible refine Calmly.is_gf ?_); refine Calmly.mix_gf rfl rfl rfl ?_; first | with_reducible refine Calmly.gf_tt (fun _ _ => ?_) | with_reducible refine Calmly.gf_ff (fun _ _ => ?_) | with_reducible refine Calmly.gf_tf (kept_of hk) (fun _ _ => ?_) | with_reducible refine Calmly.gf_ft (kept_of hk) (fun _ _ => ?_)) | ((with_reducible refine Calmly.is_kept ?_); refine ⟨kept_of hk, ?_⟩) | (with_reducible refine Calmly.mix_alt ?_ ?_) | (go_at_call 47; refine (RatioInt_any _ _ (by omega) (by omega)).mono ?_; rintro e w' ⟨⟨ps, pb, pn, pc, ps', pb', pn', pc', rfl, ph, ph', rP⟩, hs⟩; replace hk := step_of hk hs; clear hs) | (go_at_call 49; refine (RatioMul_any _ _ _ _ _ _ _ _ _ _ _ _ _ _ _ _ (dL k) _ _ _ rP (oR.keep hk) (by omega) (by omega) (by omega) (by omega) (by omega)).mono ?_; rintro e w' ⟨⟨qs, qb, qn, qc, qs', qb', qn', qc', rfl, qh, qh', rQ⟩, hs⟩; replace hk := step_of hk hs; clear hs) | (go_at_call 125; refine (RatioSub_any _ _ _ _ _ _ _ _ _ _ _ _ _ _ _ _ (2 * dL k + 6) _ _ _ (RJ.keep hk) rQ (by omega) (by omega) (by omega) (by omega) (by omega)).mono ?_; rintro e w5 ⟨⟨ts, tb, tn, tc, ts', tb', tn', tc', rfl, th, th', RT⟩, hs⟩; replace hk := step_of hk hs; clear hs))
            have x8' := blk_keep x8 hk
            have i0 := cell_block x8' 0
            have i1 := cell_block x8' 1
            have i2 := cell_block x8' 2
            have i3 := cell_block x8' 3
            have i4 := frozen_block x8' 0
            have i5 := frozen_block x8' 1
            have i6 := frozen_block x8' 2
            have i7 := frozen_block x8' 3
            go_wp2_with (first | ((with_reducible refine Calmly.is_fl ?_); refine Calmly.mix_fl rfl ?_ (fun _ _ => ?_); (first | exact .move _ | exact .load _ _ | exact .fieldAddr _ _ _ (by kernel_rfl) | exact .assign _ | exact .binOp _ _ _ _ _ rfl | exact .indexAddr _ _ _ | exact .len _ _ (by kernel_rfl) | exact .field _ _ _ | exact .extract _ _ | exact .pick _ _ _ | exact .build _ _ | exact .slice _ _ _ _ _ | exact .unOp _ _ _ rfl | exact .index _ _ _ | exact .max _ _ _ rfl rfl | exact .min _ _ _ rfl rfl)) | ((with_reducible refine Calmly.is_gl ?_); refine Calmly.mix_gl rfl rfl rfl ?_; first | ((first | with_reducible refine Calmly.gl_tt ?_ (fun _ _ => ?_) | with_reducible refine Calmly.gl_ff ?_ (fun _ _ => ?_)); (first | exact .move _ | exact .load _ _ | exact .fieldAddr _ _ _ (by kernel_rfl) | exact .assign _ | exact .binOp _ _ _ _ _ rfl | exact .indexAddr _ _ _ | exact .len _ _ (by kernel_rfl) | exact .field _ _ _ | exact .extract _ _ | exact .pick _ _ _ | exact .build _ _ | exact .slice _ _ _ _ _ | exact .unOp _ _ _ rfl | exact .index _ _ _ | exact .max _ _ _ rfl rfl | exact .min _ _ _ rfl rfl)) | with_reducible refine Calmly.gl_tf (fun _ _ => ?_) | with_reducible refine Calmly.gl_ft (fun _ _ => ?_)) | ((with_reducible refine Calmly.is_eff ?_); refine Calmly.mix_eff rfl (fun _ _ => ?_)) | ((with_reducible refine Calmly.is_gf ?_); refine Calmly.mix_gf rfl rfl rfl ?_; first | with_reducible refine Calmly.gf_tt (fun _ _ => ?_) | with_reducible refine Calmly.gf_ff (fun _ _ => ?_) | with_reducible refine Calmly.gf_tf (kept_of hk) (fun _ _ => ?_) | with_reducible refine Calmly.gf_ft (kept_of hk) (fun _ _ => ?_)) | ((with_reducible refine Calmly.is_tail ?_); first | refine Calmly.mix_tail_nil ?_ | refine Calmly.mix_tail rfl (fun _ _ => ?_)) | ((with_reducible refine Calmly.is_kept ?_); refine ⟨kept_of hk, ?_⟩) | (with_reducible refine Calmly.mix_alt ?_ ?_))
            refine ⟨?_⟩
            have hrow4 := (hrow4'.keep hk).other4 (show b8 ≠ br by omega) ⟨_, x8'⟩ (.int .i64 ts) (.slice tb tn tc) (.int .i64 ts') (.slice tb' tn' tc')
            obtain ⟨X9, W1, W2⟩ := ratFin x8' RT.1 RT.2
            have HB9 := below4 (x := .int .i64 ts) (y := .slice tb tn tc) (z := .int .i64 ts') (u := .slice tb' tn' tc') (HB2'.trans (hk.mono hB2')) (show w.heap.size + 1 + 1 ≤ b8 by have := hbel.size; omega)
            have hBs : w.heap.size + 1 + 1 ≤ w5.heap.size := by have := hk.size; omega
            clear RT i0 i1 i2 i3 i4 i5 i6 i7 x8' hk
            have hsz5 : w5.heap.size = ((((w5.setCell ⟨b8, 0, none⟩ (.int .i64 ts)).setCell ⟨b8, 1, none⟩ (.slice tb tn tc)).setCell ⟨b8, 2, none⟩ (.int .i64 ts')).setCell ⟨b8, 3, none⟩ (.slice tb' tn' tc')).heap.size := by simp
            rw [hsz5] at hBs
            clear hsz5
            generalize ((((w5.setCell ⟨b8, 0, none⟩ (.int .i64 ts)).setCell ⟨b8, 1, none⟩ (.slice tb tn tc)).setCell ⟨b8, 2, none⟩ (.int .i64 ts')).setCell ⟨b8, 3, none⟩ (.slice tb' tn' tc')) = v5 at *
            have RT : RatV v5 ts tb tn tc ts' tb' tn' tc' _ := ⟨W1, W2⟩
            have i0 := cell_block X9 0
            have i1 := cell_block X9 1
            have i2 := cell_block X9 2
            have i3 := cell_block X9 3
            go_wp2_with (first | (at_builtin; refine appQ _ rfl rfl _ _ rfl (hrow4.mono (L' := dL (k + 1)) (by omega)) RT (by omega) (by omega) rfl rfl (by omega) (by omega) ?_; intro a9 c9 w9 hrow9 hb9 hlt9))
            go_roundw
            case rel =>
              refine ⟨k + 1, c9, a9, by go_num, rfl, by omega, ?_, HB9.trans hb9⟩
              obtain ⟨j, rfl⟩ : ∃ j, k = j + 1 := ⟨k - 1, by omega⟩
              have e9 : (dQ ms ks q (j + 1 + 1)).2 = ((ov : Rat) - q * (mv : Rat)) * (dQ ms ks q (j + 1)).2 - ((kv * kv : Int) : Rat) * (dQ ms ks q (j + 1 - 1)).2 := by
                rw [← HO.out, ← HM.out, ← HKV.out]
                rfl
              rw [dQs_succ, e9]
              exact hrow9
            case measure => simp [intOf]; omega
      have HK2 := Lib.hid HKK
      clear HKK
      clear hK'
      go_wp2_with (first | ((with_reducible refine Calmly.is_fl ?_); refine Calmly.mix_fl rfl ?_ (fun _ _ => ?_); (first | exact .move _ | exact .load _ _ | exact .fieldAddr _ _ _ (by kernel_rfl) | exact .assign _ | exact .binOp _ _ _ _ _ rfl | exact .indexAddr _ _ _ | exact .len _ _ (by kernel_rfl) | exact .field _ _ _ | exact .extract _ _ | exact .pick _ _ _ | exact .build _ _ | exact .slice _ _ _ _ _ | exact .unOp _ _ _ rfl | exact .index _ _ _ | exact .max _ _ _ rfl rfl | exact .min _ _ _ rfl rfl)) | ((with_reducible refine Calmly.is_gl ?_); refine Calmly.mix_gl rfl rfl rfl ?_; first | ((first | with_reducible refine Calmly.gl_tt ?_ (fun _ _ => ?_) | with_reducible refine Calmly.gl_ff ?_ (fun _ _ => ?_)); (first | exact .move _ | exact .load _ _ | exact .fieldAddr _ _ _ (by kernel_rfl) | exact .assign _ | exact .binOp _ _ _ _ _ rfl | exact .indexAddr _ _ _ | exact .len _ _ (by kernel_rfl) | exact .field _ _ _ | exact .extract _ _ | exact .pick _ _ _ | exact .build _ _ | exact .slice _ _ _ _ _ | exact .unOp _ _ _ rfl | exact .index _ _ _ | exact .max _ _ _ rfl rfl | exact .min _ _ _ rfl rfl)) | with_reducible refine Calmly.gl_tf (fun _ _ => ?_) | with_reducible refine Calmly.gl_ft (fun _ _ => ?_)) | ((with_reducible refine Calmly.is_eff ?_); refine Calmly.mix_eff rfl (fun _ _ => ?_)) | ((with_reducible refine Calmly.is_gf ?_); refine Calmly.mix_gf rfl rfl rfl ?_; first | with_reducible refine Calmly.gf_tt (fun _ _ => ?_) | with_reducible refine Calmly.gf_ff (fun _ _ => ?_) | with_reducible refine Calmly.gf_tf (kept_of hk) (fun _ _ => ?_) | with_reducible refine Calmly.gf_ft (kept_of hk) (fun _ _ => ?_)) | ((with_reducible refine Calmly.is_kept ?_); refine ⟨kept_of hk, ?_⟩) | (with_reducible refine Calmly.mix_alt ?_ ?_) | (go_at_call 97; refine (Own_any _ b n c m d ks k _ (H2.keep hk) (by omega) (by omega) hf.ks).mono ?_; rintro e w' ⟨rfl, hs⟩; rw [show (k : Int).toNat = k from rfl, HO.out]; replace hk := step_of hk hs; (try replace p7 := blk_keep p7 hs); clear hs) | (go_at_call 47; have hq := rA; refine (RatioInt_any _ _ (by omega) (by omega)).mono ?_; rintro e w' ⟨⟨bs, bb, bn, bc, bs', bb', bn', bc', rfl, bh, bh', rB⟩, hs⟩; replace rA := rA.keep hs; replace hk := step_of hk hs; (try replace p7 := blk_keep p7 hs); clear hs hq) | (go_at_call 47; refine (RatioInt_any _ _ (by omega) (by omega)).mono ?_; rintro e w' ⟨⟨es, eb, en, ec, es', eb', en', ec', rfl, eh, eh', rA⟩, hs⟩; replace hk := step_of hk hs; (try replace p7 := blk_keep p7 hs); clear hs) | (go_at_call 49; refine (RatioMul_any _ _ _ _ _ _ _ _ _ _ _ _ _ _ _ _ 7 _ _ _ (H.keep hk) rB (by omega) (by omega) (by omega) (by omega) (by omega)).mono ?_; rintro e w' ⟨⟨fs, fb, fn, fc, fs', fb', fn', fc', rfl, fh, fh', rC⟩, hs⟩; replace rA := rA.keep hs; replace hk := step_of hk hs; (try replace p7 := blk_keep p7 hs); clear hs) | (go_at_call 125; refine (RatioSub_any _ _ _ _ _ _ _ _ _ _ _ _ _ _ _ _ 20 _ _ _ rA rC (by omega) (by omega) (by omega) (by omega) (by omega)).mono ?_; rintro e w' ⟨⟨is, ib, iN, ic, is', ib', iN', ic', rfl, ih, ih', rD⟩, hs⟩; replace hk := step_of hk hs; (try replace p7 := blk_keep p7 hs); clear hs) | (refine kept_allocB hk (fun hs hk' hblk => ?_); have hge := hk.size; generalize World.alloc _ _ = W' at hs hk' hblk ⊢; replace hk := hk'; clear hk'; (try replace rA := rA.keep hs); (try replace rB := rB.keep hs); (try replace rC := rC.keep hs); (try replace rD := rD.keep hs); have p7 := hblk; clear hs hblk))
      all_goals
        have z0 := cell_block p7 0
        have z1 := cell_block p7 1
        have z2 := cell_block p7 2
        have z3 := cell_block p7 3
        have z4 := frozen_block p7 0
        have z5 := frozen_block p7 1
        have z6 := frozen_block p7 2
        have z7 := frozen_block p7 3
      go_wp2_with (first | ((with_reducible refine Calmly.is_fl ?_); refine Calmly.mix_fl rfl ?_ (fun _ _ => ?_); (first | exact .move _ | exact .load _ _ | exact .fieldAddr _ _ _ (by kernel_rfl) | exact .assign _ | exact .binOp _ _ _ _ _ rfl | exact .indexAddr _ _ _ | exact .len _ _ (by kernel_rfl) | exact .field _ _ _ | exact .extract _ _ | exact .pick _ _ _ | exact .build _ _ | exact .slice _ _ _ _ _ | exact .unOp _ _ _ rfl | exact .index _ _ _ | exact .max _ _ _ rfl rfl | exact .min _ _ _ rfl rfl)) | ((with_reducible refine Calmly.is_gl ?_); refine Calmly.mix_gl rfl rfl rfl ?_; first | ((first | with_reducible refine Calmly.gl_tt ?_ (fun _ _ => ?_) | with_reducible refine Calmly.gl_ff ?_ (fun _ _ => ?_)); (first | exact .move _ | exact .load _ _ | exact .fieldAddr _ _ _ (by kernel_rfl) | exact .assign _ | exact .binOp _ _ _ _ _ rfl | exact .indexAddr _ _ _ | exact .len _ _ (by kernel_rfl) | exact .field _ _ _ | exact .extract _ _ | exact .pick _ _ _ | exact .build _ _ | exact .slice _ _ _ _ _ | exact .unOp _ _ _ rfl | exact .index _ _ _ | exact .max _ _ _ rfl rfl | exact .min _ _ _ rfl rfl)) | with_reducible refine Calmly.gl_tf (fun _ _ => ?_) | with_reducible refine Calmly.gl_ft (fun _ _ => ?_)) | ((with_reducible refine Calmly.is_eff ?_); refine Calmly.mix_eff rfl (fun _ _ => ?_)) | ((with_reducible refine Calmly.is_gf ?_); refine Calmly.mix_gf rfl rfl rfl ?_; first | with_reducible refine Calmly.gf_tt (fun _ _ => ?_) | with_reducible refine Calmly.gf_ff (fun _ _ => ?_) | with_reducible refine Calmly.gf_tf (kept_of hk) (fun _ _ => ?_) | with_reducible refine Calmly.gf_ft (kept_of hk) (fun _ _ => ?_)) | ((with_reducible refine Calmly.is_tail ?_); first | refine Calmly.mix_tail_nil ?_ | refine Calmly.mix_tail rfl (fun _ _ => ?_)) | ((with_reducible refine Calmly.is_kept ?_); refine ⟨kept_of hk, ?_⟩) | (with_reducible refine Calmly.mix_alt ?_ ?_))
      all_goals
        obtain ⟨X4, W1, W2⟩ := ratFin p7 rD.1 rD.2
        exact HK2.out _ _ _ _ _ _ _ _ _ _ _ _ _ _ _ _ _ _ _ _ _ _ _ (by omega) (below4 hk (by omega)) X4 ⟨W1, W2⟩ (by omega) (by omega)
    · have hle : (n : Int) ≤ (k : Int) := by omega
      obtain rfl : k = n := by omega
      go_wp2_with fail
      go_ret
      exact ⟨_, _, _, rfl, hrow.mono dl2, Bw⟩
end Go.Proofs.Ytmaidjankakppaa

namespace Go.Proofs.Ytmaidjankakppaa
open Go.RowKit Go.Wides
open Calmly (Kept)

/-- The determinants of rational numbers, and those of whole ones. -/
theorem dQ_det (ms ks : List Int) (num den : Int) (hd : 0 < den) (i : Nat) :
    (((detRow ms ks num den i).2 : Int) : Rat) = (den : Rat) ^ i * (dQ ms ks (Rat.divInt num den) i).2 ∧ (((detRow ms ks num den i).1 : Int) : Rat) * (den : Rat) = (den : Rat) ^ i * (dQ ms ks (Rat.divInt num den) i).1 := by
  have hdr : (den : Rat) ≠ 0 := by
    intro h
    have h2 : (den : Rat) = ((0 : Int) : Rat) := h
    have := Rat.intCast_inj.1 h2
    omega
  have hq : Rat.divInt num den * (den : Rat) = (num : Rat) := by
    rw [Rat.divInt_eq_div]
    exact Rat.div_mul_cancel hdr
  generalize Rat.divInt num den = q at *
  induction i with
  | zero => constructor <;> simp [detRow, dQ]
  | succ i ih =>
    obtain ⟨h1, h2⟩ := ih
    refine ⟨?_, ?_⟩
    · show ((detNext _ _ _ _ _ _ _ _ : Int) : Rat) = _ * (_ * _ - _ * _)
      have hn : detNext (ks[i]?.getD 0 + ks[i + 1]?.getD 0) (ms[i]?.getD 0) (ks[i]?.getD 0) num den i (detRow ms ks num den i).1 (detRow ms ks num den i).2 =
          (den * (ks[i]?.getD 0 + ks[i + 1]?.getD 0) - num * ms[i]?.getD 0) * (detRow ms ks num den i).2 - den * den * ks[i]?.getD 0 * ks[i]?.getD 0 * (detRow ms ks num den i).1 := by
        unfold detNext
        split
        · rename_i h0
          subst h0
          simp [detRow]
        · rfl
      rw [hn]
      generalize detRow ms ks num den i = R at *
      generalize dQ ms ks q i = D at *
      obtain ⟨r1, r2⟩ := R
      obtain ⟨d1, d2⟩ := D
      dsimp only at *
      generalize ks[i]?.getD 0 = k at *
      generalize ks[i + 1]?.getD 0 = k' at *
      generalize ms[i]?.getD 0 = m at *
      simp only [Rat.intCast_sub, Rat.intCast_mul, Rat.intCast_add, Rat.pow_succ]
      rw [h1]
      generalize (den : Rat) ^ i = P at *
      grind
    · show (((detRow ms ks num den i).2 : Int) : Rat) * _ = _ * (dQ ms ks q i).2
      rw [h1, Rat.pow_succ]
      grind
theorem num_neg {y : Rat} (h : y < 0) : y.num < 0 := by
  rcases Int.lt_or_le y.num 0 with h1 | h1
  · exact h1
  · exact absurd h (Rat.not_lt.2 (Rat.num_nonneg.1 h1))
theorem num_pos {y : Rat} (h : 0 < y) : 0 < y.num := by
  have h1 : 0 ≤ y.num := Rat.num_nonneg.2 (Rat.le_of_lt h)
  have h2 : y.num ≠ 0 := fun h3 => by
    rw [Rat.num_eq_zero.1 h3] at h
    exact absurd h (by decide)
  omega
theorem rat_cases (y : Rat) : y < 0 ∨ y = 0 ∨ 0 < y := by
  rcases Rat.le_total (a := y) (b := 0) with h | h
  · by_cases h2 : y = 0
    · exact .inr (.inl h2)
    · exact .inl (Rat.lt_of_le_of_ne h h2)
  · by_cases h2 : y = 0
    · exact .inr (.inl h2)
    · exact .inr (.inr (Rat.lt_of_le_of_ne h (Ne.symm h2)))
theorem sign_of_mul {z : Int} {P y : Rat} (hP : 0 < P) (h : (z : Rat) = P * y) : y.num.sign = z.sign := by
  rcases rat_cases y with hy | hy | hy
  · have h1 : (z : Rat) < 0 := by
      have := Rat.mul_pos hP (show 0 < -y by grind)
      grind
    have h2 : z < 0 := Rat.intCast_lt_intCast.1 h1
    rw [Int.sign_eq_neg_one_of_neg h2, Int.sign_eq_neg_one_of_neg (num_neg hy)]
  · rw [hy, Rat.mul_zero] at h
    have h2 : z = 0 := Rat.intCast_inj.1 h
    rw [h2, hy]
    rfl
  · have h1 : 0 < (z : Rat) := by
      rw [h]
      exact Rat.mul_pos hP hy
    have h2 : 0 < z := Rat.intCast_lt_intCast.1 h1
    rw [Int.sign_eq_one_of_pos h2, Int.sign_eq_one_of_pos (num_pos hy)]
theorem dQ_sign (ms ks : List Int) (num den : Int) (hd : 0 < den) (i : Nat) : (dQ ms ks (Rat.divInt num den) i).2.num.sign = (detRow ms ks num den i).2.sign :=
  sign_of_mul (Rat.pow_pos (Rat.intCast_lt_intCast.2 hd)) (dQ_det ms ks num den hd i).1

/-- The signs' count. -/
def dnum (ms ks : List Int) (q : Rat) (n : Nat) : List Int := (List.range n).map (fun i => (dQ ms ks q (i + 1)).2.num)
theorem dnum_succ (ms ks : List Int) (q : Rat) (n : Nat) : dnum ms ks q (n + 1) = dnum ms ks q n ++ [(dQ ms ks q (n + 1)).2.num] := by
  unfold dnum
  rw [List.range_succ, List.map_append]
  rfl
theorem dnum_len (ms ks : List Int) (q : Rat) (n : Nat) : (dnum ms ks q n).length = n := by simp [dnum]
def belowQ (ms ks : List Int) (q : Rat) (n : Nat) : Int × Int := ((bAll (dnum ms ks q n)).1, (bAll (dnum ms ks q n)).2.1)
theorem belowQ_bd (ms ks : List Int) (q : Rat) (n : Nat) : 0 ≤ (belowQ ms ks q n).1 ∧ (belowQ ms ks q n).1 ≤ n := by
  have := bAll_bd (dnum ms ks q n)
  rw [dnum_len] at this
  exact this
theorem belowQ_succ (ms ks : List Int) (q : Rat) (n : Nat) : belowQ ms ks q (n + 1) = if (dQ ms ks q (n + 1)).2.num.sign ≠ 0 ∧ (dQ ms ks q (n + 1)).2.num.sign ≠ (belowQ ms ks q n).2 then ((belowQ ms ks q n).1 + 1, (dQ ms ks q (n + 1)).2.num.sign) else belowQ ms ks q n := by
  unfold belowQ
  rw [dnum_succ, bAll_snoc]
  unfold bStep
  split <;> rfl
theorem belowQ_eq (ms ks : List Int) (num den : Int) (hd : 0 < den) (n : Nat) : belowQ ms ks (Rat.divInt num den) n = ((bAll (dets ms ks num den n)).1, (bAll (dets ms ks num den n)).2.1) := by
  induction n with
  | zero => rfl
  | succ n ih =>
    rw [belowQ_succ, ih, dets_succ, bAll_snoc, dQ_sign _ _ _ _ hd]
    unfold bStep
    dsimp only
    split <;> rfl
theorem belowQ_F (ms ks : List Int) (num den : Int) (hd : 0 < den) : (belowQ ms ks (Rat.divInt num den) ms.length).1 = belowF ms ks num den := by rw [belowQ_eq _ _ _ _ hd]; rfl
theorem modeQ_F {ms ks : List Int} (h : Fr ms ks) (num den : Int) (hd : 0 < den) : ((dQ ms ks (Rat.divInt num den) ms.length).2.num.sign == 0) = modeF ms ks num den := by
  rw [dQ_sign _ _ _ _ hd]
  unfold modeF
  obtain ⟨n, hn⟩ : ∃ n, ms.length = n + 1 := ⟨ms.length - 1, by have := h.pos; omega⟩
  rw [hn, dets_succ, bAll_snoc]
  have : (bStep (bAll (dets ms ks num den n)) (detRow ms ks num den (n + 1)).2).2.2 = (detRow ms ks num den (n + 1)).2 := by
    unfold bStep
    split <;> rfl
  rw [this]
  rw [Bool.eq_iff_iff]
  simp
end Go.Proofs.Ytmaidjankakppaa

namespace Go.Proofs.Ytmaidjankakppaa

theorem gcd_mul_dvd (d a b x : Nat) : d ∣ Nat.gcd a b * x ↔ d ∣ a * x ∧ d ∣ b * x := by
  rw [← Nat.gcd_mul_right, Nat.dvd_gcd_iff]
theorem gcds_fold (l : List Int) (g d x : Nat) : d ∣ (l.foldl (fun g x => Int.gcd g x) g) * x ↔ d ∣ g * x ∧ ∀ p ∈ l, d ∣ p.natAbs * x := by
  induction l generalizing g with
  | nil => simp
  | cons p l ih =>
    rw [List.foldl_cons, ih]
    have : Int.gcd (g : Int) p = Nat.gcd g p.natAbs := by simp [Int.gcd]
    rw [this, gcd_mul_dvd]
    simp [and_assoc]
theorem gcds_dvd (l : List Int) (d x : Nat) : d ∣ gcds l * x ↔ ∀ p ∈ l, d ∣ p.natAbs * x := by
  unfold gcds
  rw [gcds_fold]
  simp
/-- The smallest common denominator. -/
def lcmQ (qs : List Rat) : Nat := qs.foldl (fun m q => Nat.lcm m q.den) 1
theorem lcm_fold (qs : List Rat) (m x : Nat) : qs.foldl (fun m q => Nat.lcm m q.den) m ∣ x ↔ m ∣ x ∧ ∀ q ∈ qs, q.den ∣ x := by
  induction qs generalizing m with
  | nil => simp
  | cons q l ih =>
    rw [List.foldl_cons, ih, Nat.lcm_dvd_iff]
    simp [and_assoc]
theorem lcmQ_dvd (qs : List Rat) (x : Nat) : lcmQ qs ∣ x ↔ ∀ q ∈ qs, q.den ∣ x := by
  unfold lcmQ
  rw [lcm_fold]
  simp
theorem lcmQ_take (qs : List Rat) (k : Nat) (h : k < qs.length) : lcmQ (qs.take (k + 1)) = Nat.lcm (lcmQ (qs.take k)) (qs[k]?.getD 0).den := by
  unfold lcmQ
  rw [List.take_succ_eq_append_getElem h, List.foldl_append, List.getElem?_eq_getElem h]
  rfl
theorem den_dvd (p : Int) (d x : Nat) (hd : 0 < d) : (Rat.divInt p d).den ∣ x ↔ d ∣ p.natAbs * x := by
  have e : (Rat.divInt p d).den = d / Nat.gcd p.natAbs d := by
    rw [Rat.den_divInt, if_neg (by omega), Int.gcd_comm]
    simp [Int.gcd]
  rw [e, Nat.div_dvd_iff_dvd_mul (Nat.gcd_dvd_right _ _) (Nat.gcd_pos_of_pos_right _ hd), gcd_mul_dvd]
  exact ⟨fun h => h.1, fun h => ⟨h, Nat.dvd_mul_right d x⟩⟩
theorem gcds_dvd_mem {l : List Int} {p : Int} (h : p ∈ l) : ((gcds l : Nat) : Int) ∣ p := by
  have := (gcds_dvd l (gcds l) 1).1 (by simp) p h
  rw [Nat.mul_one] at this
  exact Int.natAbs_dvd_natAbs.1 (by simpa using this)
theorem gcds_pos {l : List Int} {p : Int} (h : p ∈ l) (hp : p ≠ 0) : 0 < gcds l := by
  rcases Nat.eq_zero_or_pos (gcds l) with h0 | h0
  · have := gcds_dvd_mem h
    rw [h0] at this
    simp at this
    exact absurd this hp
  · exact h0
/-- The parts over a common denominator, and the numbers. -/
theorem common_den (parts : List Int) (d : Nat) (hd : 0 < d) : lcmQ (parts.map (fun p => Rat.divInt p d)) = d / gcds (parts ++ [(d : Int)]) := by
  have hg := gcds_pos (l := parts ++ [(d : Int)]) (p := (d : Int)) (by simp) (by omega)
  have hgd : gcds (parts ++ [(d : Int)]) ∣ d := by
    have := gcds_dvd_mem (l := parts ++ [(d : Int)]) (p := (d : Int)) (by simp)
    exact Int.natCast_dvd_natCast.1 this
  have key : ∀ x, lcmQ (parts.map (fun p => Rat.divInt p d)) ∣ x ↔ d / gcds (parts ++ [(d : Int)]) ∣ x := by
    intro x
    rw [lcmQ_dvd, Nat.div_dvd_iff_dvd_mul hgd hg, gcds_dvd]
    constructor
    · intro h p hp
      rcases List.mem_append.1 hp with hp | hp
      · exact (den_dvd p d x hd).1 (h _ (List.mem_map_of_mem hp))
      · simp at hp
        subst hp
        simp only [Int.natAbs_natCast]
        exact Nat.dvd_mul_right d x
    · intro h q hq
      obtain ⟨p, hp, rfl⟩ := List.mem_map.1 hq
      exact (den_dvd p d x hd).2 (h p (List.mem_append_left _ hp))
  exact Nat.dvd_antisymm ((key _).2 (Nat.dvd_refl _)) ((key _).1 (Nat.dvd_refl _))
theorem rat_floor {r : Rat} {z : Int} (h : r = (z : Rat)) : r.num / (r.den : Int) = z := by subst h; simp
theorem common_part (p : Int) (d g : Nat) (hd : 0 < d) (hg : g ∣ d) (hp : (g : Int) ∣ p) : Rat.divInt p d * ((d / g : Nat) : Rat) = ((p.tdiv g : Int) : Rat) := by
  obtain ⟨N, rfl⟩ := hg
  obtain ⟨t, rfl⟩ := hp
  have hg0 : 0 < g := Nat.pos_of_mul_pos_right hd
  have hN0 : 0 < N := Nat.pos_of_mul_pos_left hd
  rw [Int.mul_tdiv_cancel_left _ (by omega), Nat.mul_div_cancel_left _ hg0, Rat.divInt_eq_div]
  have h1 : (g : Rat) ≠ 0 := by
    intro h
    simp at h
    omega
  have h2 : (N : Rat) ≠ 0 := by
    intro h
    simp at h
    omega
  push_cast
  grind

/-- What the spring below a storey carries: so many loads from the storey on. -/
def carT (ls : List Int) (i : Nat) : Nat → Int
  | 0 => 0
  | t + 1 => carT ls i t + ls[i + t]?.getD 0
theorem carT_bd {ls : List Int} (h : ∀ j : Nat, -1000 ≤ ls[j]?.getD 0 ∧ ls[j]?.getD 0 ≤ 1000) (i t : Nat) : -(1000 * (t : Int)) ≤ carT ls i t ∧ carT ls i t ≤ 1000 * (t : Int) := by
  induction t with
  | zero => simp [carT]
  | succ t ih =>
    have := h (i + t)
    show _ ≤ carT ls i t + _ ∧ carT ls i t + _ ≤ _
    omega
/-- The product of the first springs. -/
def prodK (ks : List Int) : Nat → Int
  | 0 => 1
  | i + 1 => prodK ks i * ks[i]?.getD 0
theorem prodK_bd {ks : List Int} {n : Nat} (h : ∀ j, j < n → 1 ≤ ks[j]?.getD 0 ∧ ks[j]?.getD 0 ≤ 20) (i : Nat) (hi : i ≤ n) : 1 ≤ prodK ks i ∧ prodK ks i ≤ 20 ^ i := by
  induction i with
  | zero => simp [prodK]
  | succ i ih =>
    obtain ⟨h1, h2⟩ := ih (by omega)
    obtain ⟨h3, h4⟩ := h i (by omega)
    show 1 ≤ prodK ks i * _ ∧ prodK ks i * _ ≤ _
    refine ⟨?_, ?_⟩
    · have := Int.mul_le_mul h1 h3 (by omega) (by omega)
      omega
    · rw [Int.pow_succ]
      exact Int.mul_le_mul h2 h4 (by omega) (by have : (0 : Int) ≤ 20 ^ i := Int.pow_nonneg (by omega); omega)
theorem prodK_dvd (ks : List Int) (i n : Nat) (h : i < n) : ks[i]?.getD 0 ∣ prodK ks n := by
  induction n with
  | zero => omega
  | succ n ih =>
    rcases Nat.lt_or_ge i n with h2 | h2
    · exact Int.dvd_trans (ih h2) (Int.dvd_mul_right _ _)
    · obtain rfl : i = n := by omega
      exact Int.dvd_mul_left _ _
/-- The sway of the first storeys, times the product of the springs; and itself. -/
def swP (ks ls : List Int) (n : Nat) (D : Int) : Nat → Int
  | 0 => 0
  | i + 1 => swP ks ls n D i + carT ls i (n - i) * D.tdiv (ks[i]?.getD 0)
def swQ (ks ls : List Int) (n : Nat) : Nat → Rat
  | 0 => 0
  | i + 1 => swQ ks ls n i + Rat.divInt (carT ls i (n - i)) (ks[i]?.getD 0)
theorem swP_swQ (ks ls : List Int) (n : Nat) (hk : ∀ j, j < n → 1 ≤ ks[j]?.getD 0 ∧ ks[j]?.getD 0 ≤ 20) (i : Nat) (hi : i ≤ n) : (swP ks ls n (prodK ks n) i : Rat) = swQ ks ls n i * (prodK ks n : Rat) := by
  induction i with
  | zero => simp [swP, swQ]
  | succ i ih =>
    rw [swP, swQ]
    obtain ⟨t, ht⟩ := prodK_dvd ks i n (by omega)
    obtain ⟨h1, h2⟩ := hk i (by omega)
    generalize ks[i]?.getD 0 = k at *
    have e : (prodK ks n).tdiv k = t := by rw [ht, Int.mul_tdiv_cancel_left _ (by omega)]
    rw [e, Rat.intCast_add, Rat.intCast_mul, ih (by omega), Rat.divInt_eq_div]
    have h3 : (k : Rat) ≠ 0 := by
      intro h
      have : k = 0 := by simpa using h
      omega
    have h4 : (prodK ks n : Rat) = (k : Rat) * (t : Rat) := by rw [ht, Rat.intCast_mul]
    rw [h4]
    grind
theorem swP_bd {ks ls : List Int} {n : Nat} (hn : n ≤ 4) (hk : ∀ j, j < n → 1 ≤ ks[j]?.getD 0 ∧ ks[j]?.getD 0 ≤ 20) (hl : ∀ j : Nat, -1000 ≤ ls[j]?.getD 0 ∧ ls[j]?.getD 0 ≤ 1000) (i : Nat) (hi : i ≤ n) :
    -(640000000 * (i : Int)) ≤ swP ks ls n (prodK ks n) i ∧ swP ks ls n (prodK ks n) i ≤ 640000000 * (i : Int) := by
  induction i with
  | zero => simp [swP]
  | succ i ih =>
    obtain ⟨h1, h2⟩ := ih (by omega)
    rw [swP]
    obtain ⟨k1, k2⟩ := hk i (by omega)
    obtain ⟨p1, p2⟩ := prodK_bd hk n (Nat.le_refl _)
    have p3 : prodK ks n ≤ 160000 := by
      refine Int.le_trans p2 ?_
      rcases (by omega : n = 0 ∨ n = 1 ∨ n = 2 ∨ n = 3 ∨ n = 4) with rfl | rfl | rfl | rfl | rfl <;> decide
    obtain ⟨c1, c2⟩ := carT_bd hl i (n - i)
    have d1 : 0 ≤ (prodK ks n).tdiv (ks[i]?.getD 0) := Int.tdiv_nonneg (by omega) (by omega)
    have d2 : (prodK ks n).tdiv (ks[i]?.getD 0) ≤ 160000 := by
      have := Int.natAbs_tdiv_le_natAbs (prodK ks n) (ks[i]?.getD 0)
      omega
    generalize (prodK ks n).tdiv (ks[i]?.getD 0) = D at *
    generalize carT ls i (n - i) = C at *
    have c3 : -4000 ≤ C ∧ C ≤ 4000 := by omega
    have e1 : C * D ≤ 4000 * 160000 := by
      rcases Int.lt_or_le C 0 with h | h
      · have : C * D ≤ 0 := Int.mul_nonpos_of_nonpos_of_nonneg (by omega) d1
        omega
      · exact Int.mul_le_mul c3.2 d2 d1 (by omega)
    have e2 : -(4000 * 160000) ≤ C * D := by
      rcases Int.lt_or_le C 0 with h | h
      · have : -C * D ≤ 4000 * 160000 := Int.mul_le_mul (by omega) d2 d1 (by omega)
        rw [Int.neg_mul] at this
        omega
      · have : 0 ≤ C * D := Int.mul_nonneg h d1
        omega
    omega
end Go.Proofs.Ytmaidjankakppaa
