/- The reference's determinants. -/
import Derived.Test.YtmaidjankakppaaRe
import Derived.Test.YtmaidjankakppaaSd
namespace Go.Proofs.Ytmaidjankakppaa
open Go.RowKit Go.Wides
open Calmly (Kept)

/-- The two last determinants, of rational numbers. -/
def dQ (ms ks : List Int) (q : Rat) : Nat → Rat × Rat
  | 0 => (0, 1)
  | i + 1 => ((dQ ms ks q i).2, (((ks[i]?.getD 0 + ks[i + 1]?.getD 0 : Int) : Rat) - q * ((ms[i]?.getD 0 : Int) : Rat)) * (dQ ms ks q i).2 - ((ks[i]?.getD 0 * ks[i]?.getD 0 : Int) : Rat) * (dQ ms ks q i).1)
def dQs (ms ks : List Int) (q : Rat) (n : Nat) : List Rat := (List.range (n + 1)).map (fun i => (dQ ms ks q i).2)
theorem dQs_len (ms ks : List Int) (q : Rat) (n : Nat) : (dQs ms ks q n).length = n + 1 := by simp [dQs]
theorem dQs_get (ms ks : List Int) (q : Rat) (n i : Nat) (hi : i ≤ n) : (dQs ms ks q n)[i]?.getD 0 = (dQ ms ks q i).2 := by
  unfold dQs
  rw [List.getElem?_map, List.getElem?_range (by omega)]
  rfl
theorem dQs_zero (ms ks : List Int) (q : Rat) : dQs ms ks q 0 = [1] := rfl
theorem dQs_succ (ms ks : List Int) (q : Rat) (n : Nat) : dQs ms ks q (n + 1) = dQs ms ks q n ++ [(dQ ms ks q (n + 1)).2] := by
  unfold dQs
  rw [List.range_succ, List.map_append]
  rfl
theorem dQ_first (ms ks : List Int) (q : Rat) : (dQ ms ks q 1).2 = (((ks[0]?.getD 0 + ks[1]?.getD 0 : Int) : Rat) - q * ((ms[0]?.getD 0 : Int) : Rat)) * (dQ ms ks q 0).2 := by
  show _ * _ - _ * (0 : Rat) = _
  rw [Rat.mul_zero]
  grind

theorem Fr.ks {ms ks : List Int} (h : Fr ms ks) : ∀ x ∈ ks, 1 ≤ x ∧ x ≤ 20 := fun x hx => by
  obtain ⟨i, hi, rfl⟩ := List.getElem_of_mem hx
  have := h.k i (by have := h.len; omega)
  rwa [List.getElem?_eq_getElem hi] at this
/-- How many digits a determinant has at most. -/
def dL : Nat → Nat
  | 0 => 46
  | i + 1 => 4 * dL i + 18
theorem dL_bd (i : Nat) (hi : i ≤ 4) : 46 ≤ dL i ∧ dL i ≤ 20000 := by
  rcases (by omega : i = 0 ∨ i = 1 ∨ i = 2 ∨ i = 3 ∨ i = 4) with rfl | rfl | rfl | rfl | rfl <;> decide
theorem RowQ.mono {w : World} {B : Nat} {a : Option Addr} {n c L L' : Nat} {qs : List Rat} (h : RowQ w B a n c L qs) (hL : L ≤ L') : RowQ w B a n c L' qs := by
  obtain ⟨l, h1, h2, h3⟩ := h
  exact ⟨l, h1, h2, fun i hi => (h3 i hi).mono hL⟩

theorem RowQ.other {w : World} {B g o' n c L : Nat} {qs : List Rat} (h : RowQ w B (some ⟨g, o', none⟩) n c L qs) {r o : Nat} (hr : r ≠ g) (hT : BlkT w r 72) (v : Value) : RowQ (w.setCell ⟨r, o, none⟩ v) B (some ⟨g, o', none⟩) n c L qs := by
  obtain ⟨l, h1, h2, h3⟩ := h
  refine ⟨l, ?_, h2, fun i hi => (h3 i hi).frame fun b hb => Below.heap_setCell _ _ _ _ ?_⟩
  · obtain ⟨k1, k2⟩ := h1
    refine ⟨k1, ?_⟩
    rcases k2 with ⟨k2, _⟩ | ⟨g', cap, cur, hv, hg, hh, r'⟩
    · cases k2
    · cases hv
      exact .inr ⟨g, _, _, rfl, hg, (Below.heap_setCell _ _ _ _ (Ne.symm hr)).trans hh, r'⟩
  · rintro rfl
    obtain ⟨cs, hcs⟩ := hb
    obtain ⟨cs', hcs'⟩ := hT
    rw [hcs] at hcs'
    cases hcs'
theorem RowQ.other4 {w : World} {B g o' n c L : Nat} {qs : List Rat} (h : RowQ w B (some ⟨g, o', none⟩) n c L qs) {r : Nat} (hr : r ≠ g) (hT : BlkT w r 72) (x y z u : Value) : RowQ ((((w.setCell ⟨r, 0, none⟩ x).setCell ⟨r, 1, none⟩ y).setCell ⟨r, 2, none⟩ z).setCell ⟨r, 3, none⟩ u) B (some ⟨g, o', none⟩) n c L qs :=
  (((h.other hr hT x).other hr (hT.set _ _) y).other hr ((hT.set _ _).set _ _) z).other hr (((hT.set _ _).set _ _).set _ _) u
theorem packQ {U W' : World} {r : Nat} {u0 u1 u2 u3 : Value} {s : Int} {a : Option Addr} {m c : Nat} {s' : Int} {a' : Option Addr} {m' c' : Nat} {x : Rat} (p : W'.heap[r]? = some (.cells #[u0, u1, u2, u3] 72)) (h : RatV W' s a m c s' a' m' c' x) (hk : Below U.heap.size U W') (hr : U.heap.size ≤ r) :
    ∃ b v2, ((((W'.setCell ⟨r, 0, none⟩ (.int .i64 s)).setCell ⟨r, 1, none⟩ (.slice a m c)).setCell ⟨r, 2, none⟩ (.int .i64 s')).setCell ⟨r, 3, none⟩ (.slice a' m' c')) = v2 ∧ r = b ∧ U.heap.size ≤ b ∧ Below U.heap.size U v2 ∧ v2.heap[b]? = some (.cells #[.int .i64 s, .slice a m c, .int .i64 s', .slice a' m' c'] 72) ∧ RatV v2 s a m c s' a' m' c' x := by
  obtain ⟨X4, W1, W2⟩ := ratFin p h.1 h.2
  exact ⟨r, _, rfl, rfl, hr, below4 hk hr, X4, W1, W2⟩

set_option maxRecDepth 100000 in
set_option maxHeartbeats 8000000 in
theorem Determinants_any (a b : Option Addr) (n c m d : Nat) (ms ks : List Int) (s1 : Int) (a1 : Option Addr) (n1 c1 : Nat) (s2 : Int) (a2 : Option Addr) (n2 c2 : Nat) (q : Rat) (w : World) (h1 : SI w a n c ms) (h2 : SI w b m d ks) (hf : Fr ms ks)
    (h : RatV w s1 a1 n1 c1 s2 a2 n2 c2 q) (hl1 : n1 ≤ 7) (hl2 : n2 ≤ 7) :
    Calls Try.prog 106 #[.agg #[.slice a n c, .slice b m d], .agg #[.int .i64 s1, .slice a1 n1 c1, .int .i64 s2, .slice a2 n2 c2]] w fun e w' => ∃ a' c' B, e = .returned (.slice a' (n + 1) c') ∧ RowQ w' B a' (n + 1) c' 20000 (dQs ms ks q n) ∧ Below w.heap.size w w' := by
  have hb2 : Below w.heap.size w ((w.alloc (.cells #[.slice a n c, .slice b m d] 24)).alloc (.cells #[.int .i64 s1, .slice a1 n1 c1, .int .i64 s2, .slice a2 n2 c2] 72)) := ((Below.refl _ _).alloc (Nat.le_refl _) _).alloc (by simp) _
  obtain ⟨l1, l2⟩ : n ≤ ms.length ∧ ms.length ≤ n := by have := h1.len; omega
  obtain ⟨l3, l4⟩ : m ≤ n ∧ n ≤ m := by have := h2.len; have := hf.len; omega
  obtain ⟨l5, l6⟩ : 0 < n ∧ n ≤ 4 := by have := hf.pos; have := hf.few; omega
  go_enter Try.func106, Try.ntmps106
  go_wp2_with fail
  refine (RatioInt_any 1 _ (by omega) (by omega)).mono ?_
  rintro e w1 ⟨⟨gs, ga, gn, gc, gs', ga', gn', gc', rfl, gh, gh', gV⟩, hs⟩
  obtain ⟨x1, x2⟩ := box2 (w := w) (o := .cells #[.slice a n c, .slice b m d] 24) (o' := .cells #[.int .i64 s1, .slice a1 n1 c1, .int .i64 s2, .slice a2 n2 c2] 72) hs
  have B1 := hb2.trans (hs.mono hb2.size)
  have sX := blk_lt x2
  have R1 := RowQ.one (B := w.heap.size + 1 + 1) (by omega) gV (L := dL 0) (by show _ ≤ 46; omega) (by show _ ≤ 46; omega)
  clear hb2 hs gV
  go_wp2_with fail
  go_loopw [5, 6] (fun l i wr => ∃ (k c' : Nat) (a' : Option Addr), i = .int .i64 (k : Int) ∧ l = .slice a' (k + 1) c' ∧ k ≤ n ∧ RowQ wr (w.heap.size + 1 + 1) a' (k + 1) c' (dL k) (dQs ms ks q k) ∧ Below (w.heap.size + 1 + 1) w1 wr) (fun _ i _ => n - (intOf i).toNat)
  case atStart => exact ⟨0, _, _, rfl, rfl, by omega, R1, (Below.refl _ _).alloc (by omega) _⟩
  case round =>
    obtain ⟨k, c', a', rfl, rfl, hk0, hrow, hbel⟩ := hrel
    have Bw := B1.trans (hbel.mono (by omega))
    have hsz := hbel.size
    have y1 : wr.heap[w.heap.size]? = some (.cells #[.slice a n c, .slice b m d] 24) := (hbel.block _ (by omega)).trans x1
    have y2 : wr.heap[w.heap.size + 1]? = some (.cells #[.int .i64 s1, .slice a1 n1 c1, .int .i64 s2, .slice a2 n2 c2] 72) := (hbel.block _ (by omega)).trans x2
    have v0 := cell_block y1 0
    have v1 := cell_block y1 1
    have u0 := cell_block y2 0
    have u1 := cell_block y2 1
    have u2 := cell_block y2 2
    have u3 := cell_block y2 3
    obtain ⟨dl1, dl2⟩ := dL_bd k (by omega)
    by_cases hlt : k < n
    · have hi : (k : Int) < (n : Int) := by omega
      have hi0 : (0 : Int) ≤ (k : Int) := by omega
      obtain ⟨ba, oa, rfl, hca⟩ := h1.at_ (by omega)
      have em := hca k hlt
      have em' : wr.drew.cell? ⟨ba, oa + k, none⟩ = some (.int .i64 (ms[k]?.getD 0)) := (Bw.drew.cell (p := ⟨ba, oa + k, none⟩) (cell_lt em)).trans em
      obtain ⟨mv, hmv⟩ : ∃ v, ms[k]?.getD 0 = v := ⟨_, rfl⟩
      obtain ⟨ov, hov⟩ : ∃ v, ks[k]?.getD 0 + ks[k + 1]?.getD 0 = v := ⟨_, rfl⟩
      have hmb := hf.m k (by omega)
      have hob1 := hf.k0 k
      have hob2 := hf.k0 (k + 1)
      have hob : 0 ≤ ov ∧ ov ≤ 40 := by omega
      rw [hmv] at em' hmb
      have HM := Lib.hid hmv
      have HO := Lib.hid hov
      clear hca em hmv hov hob1 hob2
      go_wp2_with fail
      refine Calmly.wp_region_mix 14 (.fl 0 <| .fl 1 <| .fl 4 <| .fl 5 <| .fl 6 <| .fl 7 <| .fl 8 <| .fl 9 <| .alt 2 (.alt 3 (.alt 10 (.alt 11 (.alt 12 (.eff 13 <| .tail [14]) (.eff 13 (.eff 12 <| .tail [14]))) (.eff 13 (.eff 11 <| .eff 12 <| .tail [14]))) (.eff 13 (.eff 10 <| .eff 11 <| .eff 12 <| .tail [14]))) (.eff 13 (.eff 3 <| .eff 10 <| .eff 11 <| .eff 12 <| .tail [14]))) (.eff 13 (.eff 2 <| .eff 3 <| .eff 10 <| .eff 11 <| .eff 12 <| .tail [14]))) (by kernel_rfl) (by kernel_rfl) ?_
      replace y1 : wr.drew.heap[w.heap.size]? = some (.cells #[.slice (some ⟨ba, oa, none⟩) n c, .slice b m d] 24) := y1
      replace y2 : wr.drew.heap[w.heap.size + 1]? = some (.cells #[.int .i64 s1, .slice a1 n1 c1, .int .i64 s2, .slice a2 n2 c2] 72) := y2
      replace hrow := hrow.drew
      replace hbel := hbel.drew
      replace Bw := Bw.drew
      clear v0 v1 u0 u1 u2 u3
      generalize wr.drew = V at *
      have v0 := cell_block y1 0
      have v1 := cell_block y1 1
      have u0 := cell_block y2 0
      have u1 := cell_block y2 1
      have u2 := cell_block y2 2
      have u3 := cell_block y2 3
      have H := h.keep Bw
      have H2 := h2.keep Bw
      have hk := Below.refl V.heap.size V
      rename_i K hK
      have hK' := fun a w (h : StopR _) => hK a w h.out
      clear hK
      have HKK : ∀ (b7 : Nat) (x18 x19 x20 x21 x22 x23 x24 x25 x26 x27 x28 x29 x30 : Value) (is : Int) (ib : Option Addr) (iN ic : Nat) (is' : Int) (ib' : Option Addr) (iN' ic' : Nat) (v : World), V.heap.size ≤ b7 → Below V.heap.size V v → v.heap[b7]? = some (.cells #[.int .i64 is, .slice ib iN ic, .int .i64 is', .slice ib' iN' ic'] 72) → RatV v is ib iN ic is' ib' iN' ic' ((ov : Rat) - q * (mv : Rat)) → iN ≤ 46 → iN' ≤ 46 →
          K { tmps := #[Value.agg #[Value.slice (some ⟨ba, oa, none⟩) n c, Value.slice b m d], Value.agg #[Value.int IntKind.i64 s1, Value.slice a1 n1 c1, Value.int IntKind.i64 s2, Value.slice a2 n2 c2], Value.pointer (some ⟨w.heap.size, 0, none⟩), Value.pointer (some ⟨w.heap.size + 1, 0, none⟩), Value.slice none 0 0, Value.slice a' (k + 1) c', Value.int IntKind.i64 ↑k, Value.pointer (some ⟨b7, 0, none⟩), u8, Value.agg #[Value.int IntKind.i64 gs, Value.slice ga gn gc, Value.int IntKind.i64 gs', Value.slice ga' gn' gc'], Value.slice (some ⟨w1.heap.size, 0, none⟩) 1 1, Value.int IntKind.i64 ↑k, Value.pointer (some ⟨w.heap.size, 0, none⟩), Value.slice (some ⟨ba, oa, none⟩) n c, Value.int IntKind.i64 ↑n, Value.bool true, u16, u17, x18, x19, x20, x21, x22, x23, x24, x25, x26, x27, x28, x29, x30, u31, u32, u33, u34, u35, u36, u37, u38, u39, u40, u41, u42, u43, u44, u45, u46, u47, u48, u49, u50, u51, u52, u53, u54, u55, u56, u57, u58, u59, u60, u61, u62, undef], defers := [] } v := by
        intro b7 x18 x19 x20 x21 x22 x23 x24 x25 x26 x27 x28 x29 x30 is ib iN ic is' ib' iN' ic' v hb7 hv X7 RD hN hN'
        refine hK' _ _ ⟨?_⟩
        clear hK' K
        have f0 := cell_block X7 0
        have f1 := cell_block X7 1
        have f2 := cell_block X7 2
        have f3 := cell_block X7 3
        clear v0 v1 u0 u1 u2 u3
        replace em' := (hv.cell (p := ⟨ba, oa + k, none⟩) (cell_lt em')).trans em'
        replace y1 := blk_keep y1 hv
        replace y2 := blk_keep y2 hv
        replace hrow := hrow.keep hv
        have hbel0 := Lib.hid hbel
        replace hbel := hbel.trans (hv.mono (by have := hbel.size; omega))
        replace Bw := Bw.trans (hv.mono Bw.size)
        obtain ⟨br, off, gs1, ga1, gn1, gc1, gs2, ga2, gn2, gc2, rfl, g0, g1, g2, g3, gl1, gl2, gR⟩ := hrow.at_ k (by omega)
        rw [dQs_get _ _ _ _ _ (Nat.le_refl _)] at gR
        have glt := cell_lt g0
        have hk1 : (k : Int) < ((k + 1 : Nat) : Int) := by omega
        go_wp2_with fail
        refine Calmly.wp_region_mix 7 (.fl 0 <| .fl 1 <| .fl 2 <| .fl 3 <| .fl 4 <| .alt 5 (.eff 6 <| .tail [7]) (.eff 6 (.eff 5 <| .tail [7]))) (by kernel_rfl) (by kernel_rfl) ?_
        replace em' : v.drew.cell? ⟨ba, oa + k, none⟩ = some (.int .i64 mv) := em'
        replace y1 : v.drew.heap[w.heap.size]? = some (.cells #[.slice (some ⟨ba, oa, none⟩) n c, .slice b m d] 24) := y1
        replace hrow := hrow.drew
        replace hbel := hbel.drew
        replace Bw := Bw.drew
        replace f0 : v.drew.cell? ⟨b7, 0, none⟩ = some (.int .i64 is) := f0
        replace f1 : v.drew.cell? ⟨b7, 1, none⟩ = some (.slice ib iN ic) := f1
        replace f2 : v.drew.cell? ⟨b7, 2, none⟩ = some (.int .i64 is') := f2
        replace f3 : v.drew.cell? ⟨b7, 3, none⟩ = some (.slice ib' iN' ic') := f3
        replace g0 : v.drew.cell? ⟨br, off + k * 4, none⟩ = some (.int .i64 gs1) := g0
        replace g1 : v.drew.cell? ⟨br, off + k * 4 + 1, none⟩ = some (.slice ga1 gn1 gc1) := g1
        replace g2 : v.drew.cell? ⟨br, off + k * 4 + 2, none⟩ = some (.int .i64 gs2) := g2
        replace g3 : v.drew.cell? ⟨br, off + k * 4 + 3, none⟩ = some (.slice ga2 gn2 gc2) := g3
        replace RD := RD.keep (Below.refl _ _).drew
        replace gR := gR.keep (Below.refl _ _).drew
        clear hv X7 y2 hk
        rename_i K hK
        have hK' := fun a w (h : StopR _) => hK a w h.out
        clear hK
        generalize v.drew = U at *
        have hk := Below.refl U.heap.size U
        go_wp2_with (first | ((with_reducible refine Calmly.is_fl ?_); refine Calmly.mix_fl rfl ?_ (fun _ _ => ?_); (first | exact .move _ | exact .load _ _ | exact .fieldAddr _ _ _ (by kernel_rfl) | exact .assign _ | exact .binOp _ _ _ _ _ rfl | exact .indexAddr _ _ _ | exact .len _ _ (by kernel_rfl) | exact .field _ _ _ | exact .extract _ _ | exact .pick _ _ _ | exact .build _ _ | exact .slice _ _ _ _ _ | exact .unOp _ _ _ rfl | exact .index _ _ _ | exact .max _ _ _ rfl rfl | exact .min _ _ _ rfl rfl)) | ((with_reducible refine Calmly.is_gl ?_); refine Calmly.mix_gl rfl rfl rfl ?_; first | ((first | with_reducible refine Calmly.gl_tt ?_ (fun _ _ => ?_) | with_reducible refine Calmly.gl_ff ?_ (fun _ _ => ?_)); (first | exact .move _ | exact .load _ _ | exact .fieldAddr _ _ _ (by kernel_rfl) | exact .assign _ | exact .binOp _ _ _ _ _ rfl | exact .indexAddr _ _ _ | exact .len _ _ (by kernel_rfl) | exact .field _ _ _ | exact .extract _ _ | exact .pick _ _ _ | exact .build _ _ | exact .slice _ _ _ _ _ | exact .unOp _ _ _ rfl | exact .index _ _ _ | exact .max _ _ _ rfl rfl | exact .min _ _ _ rfl rfl)) | with_reducible refine Calmly.gl_tf (fun _ _ => ?_) | with_reducible refine Calmly.gl_ft (fun _ _ => ?_)) | ((with_reducible refine Calmly.is_eff ?_); refine Calmly.mix_eff rfl (fun _ _ => ?_)) | ((with_reducible refine Calmly.is_gf ?_); refine Calmly.mix_gf rfl rfl rfl ?_; first | with_reducible refine Calmly.gf_tt (fun _ _ => ?_) | with_reducible refine Calmly.gf_ff (fun _ _ => ?_) | with_reducible refine Calmly.gf_tf (kept_of hk) (fun _ _ => ?_) | with_reducible refine Calmly.gf_ft (kept_of hk) (fun _ _ => ?_)) | ((with_reducible refine Calmly.is_kept ?_); refine ⟨kept_of hk, ?_⟩) | (with_reducible refine Calmly.mix_alt ?_ ?_) | (go_at_call 49; refine (RatioMul_any _ _ _ _ _ _ _ _ _ _ _ _ _ _ _ _ (dL k) _ _ _ (RD.keep hk) (gR.keep hk) (by omega) (by omega) (by omega) (by omega) (by omega)).mono ?_; rintro e w' ⟨⟨js, jb, jn, jc, js', jb', jn', jc', rfl, jh, jh', rJ⟩, hs⟩; replace hk := step_of hk hs; (try replace p8 := blk_keep p8 hs); clear hs) | (refine kept_allocB hk (fun hs hk' hblk => ?_); have hge := hk.size; generalize World.alloc _ _ = W' at hs hk' hblk ⊢; replace hk := hk'; clear hk'; (try replace rJ := rJ.keep hs); have p8 := hblk; clear hs hblk))
        all_goals
          have z0 := cell_block p8 0
          have z1 := cell_block p8 1
          have z2 := cell_block p8 2
          have z3 := cell_block p8 3
          have z4 := frozen_block p8 0
          have z5 := frozen_block p8 1
          have z6 := frozen_block p8 2
          have z7 := frozen_block p8 3
        go_wp2_with (first | ((with_reducible refine Calmly.is_fl ?_); refine Calmly.mix_fl rfl ?_ (fun _ _ => ?_); (first | exact .move _ | exact .load _ _ | exact .fieldAddr _ _ _ (by kernel_rfl) | exact .assign _ | exact .binOp _ _ _ _ _ rfl | exact .indexAddr _ _ _ | exact .len _ _ (by kernel_rfl) | exact .field _ _ _ | exact .extract _ _ | exact .pick _ _ _ | exact .build _ _ | exact .slice _ _ _ _ _ | exact .unOp _ _ _ rfl | exact .index _ _ _ | exact .max _ _ _ rfl rfl | exact .min _ _ _ rfl rfl)) | ((with_reducible refine Calmly.is_gl ?_); refine Calmly.mix_gl rfl rfl rfl ?_; first | ((first | with_reducible refine Calmly.gl_tt ?_ (fun _ _ => ?_) | with_reducible refine Calmly.gl_ff ?_ (fun _ _ => ?_)); (first | exact .move _ | exact .load _ _ | exact .fieldAddr _ _ _ (by kernel_rfl) | exact .assign _ | exact .binOp _ _ _ _ _ rfl | exact .indexAddr _ _ _ | exact .len _ _ (by kernel_rfl) | exact .field _ _ _ | exact .extract _ _ | exact .pick _ _ _ | exact .build _ _ | exact .slice _ _ _ _ _ | exact .unOp _ _ _ rfl | exact .index _ _ _ | exact .max _ _ _ rfl rfl | exact .min _ _ _ rfl rfl)) | with_reducible refine Calmly.gl_tf (fun _ _ => ?_) | with_reducible refine Calmly.gl_ft (fun _ _ => ?_)) | ((with_reducible refine Calmly.is_eff ?_); refine Calmly.mix_eff rfl (fun _ _ => ?_)) | ((with_reducible refine Calmly.is_gf ?_); refine Calmly.mix_gf rfl rfl rfl ?_; first | with_reducible refine Calmly.gf_tt (fun _ _ => ?_) | with_reducible refine Calmly.gf_ff (fun _ _ => ?_) | with_reducible refine Calmly.gf_tf (kept_of hk) (fun _ _ => ?_) | with_reducible refine Calmly.gf_ft (kept_of hk) (fun _ _ => ?_)) | ((with_reducible refine Calmly.is_tail ?_); first | refine Calmly.mix_tail_nil ?_ | refine Calmly.mix_tail rfl (fun _ _ => ?_)) | ((with_reducible refine Calmly.is_kept ?_); refine ⟨kept_of hk, ?_⟩) | (with_reducible refine Calmly.mix_alt ?_ ?_))
        all_goals
          refine ⟨?_⟩
          obtain ⟨b8, v2, e2, e1, hb8, hv2, X8, RJ⟩ := packQ p8 rJ hk (by omega)
          rw [e2, e1]
          have gltU := cell_lt g0
          clear e2 e1 z0 z1 z2 z3 z4 z5 z6 z7 p8 rJ hk f0 f1 f2 f3 g0 g1 g2 g3 hge RD gR
          have BW2 := Bw.trans (hv2.mono Bw.size)
          have HB2 := hbel.trans (hv2.mono (by have := hbel.size; omega))
          have hrow2 := hrow.keep hv2
          have z0 := cell_block X8 0
          have z1 := cell_block X8 1
          have z2 := cell_block X8 2
          have z3 := cell_block X8 3
          have hB2 : w.heap.size + 1 + 1 ≤ v2.heap.size := by have := hbel.size; have := hv2.size; omega
          have hdl : dL (k + 1) = 4 * dL k + 18 := rfl
          by_cases h0 : k = 0
          · have h00 : (k : Int) ≤ 0 := by omega
            have H0 := Lib.hid h0
            clear h0
            go_wp2_with (first | (at_builtin; refine appQ _ rfl rfl _ _ rfl (hrow2.mono (L' := dL (k + 1)) (by omega)) RJ (by omega) (by omega) rfl rfl (by omega) (by omega) ?_; intro a9 c9 w9 hrow9 hb9 hlt9))
            go_roundw
            case rel =>
              refine ⟨k + 1, c9, a9, by go_num, rfl, by omega, ?_, HB2.trans hb9⟩
              obtain rfl := H0.out
              rw [dQs_succ, dQ_first, HO.out, HM.out]
              exact hrow9
            case measure => simp [intOf]; omega
          · have h00 : (0 : Int) < (k : Int) := by omega
            have y1' := blk_keep y1 hv2
            have t1 := cell_block y1' 0
            have t2 := cell_block y1' 1
            obtain ⟨bk, ok, rfl, hck⟩ := (h2.keep BW2).at_ (by omega)
            have ek := hck k (by omega)
            have hkb := hf.k k (by omega)
            obtain ⟨kv, hkv⟩ : ∃ x, ks[k]?.getD 0 = x := ⟨_, rfl⟩
            rw [hkv] at ek hkb
            have HKV := Lib.hid hkv
            clear hck hkv
            have hkk := mul_bd2 (a := kv) (x := kv) (A := 20) (C := 20) (by omega) (by omega) (by omega) (by omega)
            obtain ⟨br2, off2, os1, oa1, on1, oc1, os2, oa2, on2, oc2, hbr, o0, o1, o2, o3, ol1, ol2, oR⟩ := hrow2.at_ (k - 1) (by omega)
            cases hbr
            rw [dQs_get _ _ _ _ _ (by omega)] at oR
            have hj : ((k : Int) - 1).toNat = k - 1 := by omega
            have hj1 : (k : Int) - 1 < ((k + 1 : Nat) : Int) := by omega
            have hm1 : (k : Int) < (m : Int) := by omega
            go_wp2_with fail
            refine Calmly.wp_region_mix 20 (.fl 0 <| .fl 1 <| .fl 2 <| .fl 3 <| .fl 4 <| .fl 5 <| .fl 6 <| .fl 7 <| .fl 8 <| .fl 9 <| .fl 10 <| .fl 11 <| .fl 13 <| .fl 14 <| .fl 15 <| .fl 16 <| .fl 17 <| .eff 12 <| .eff 18 <| .eff 19 <| .tail [20]) (by kernel_rfl) (by kernel_rfl) ?_
            have x8 : v2.drew.heap[b8]? = some (.cells #[.int .i64 js, .slice jb jn jc, .int .i64 js', .slice jb' jn' jc'] 72) := X8
            have y1'' : v2.drew.heap[w.heap.size]? = some (.cells #[.slice (some ⟨ba, oa, none⟩) n c, .slice (some ⟨bk, ok, none⟩) m d] 24) := y1'
            replace ek : v2.drew.cell? ⟨bk, ok + k, none⟩ = some (.int .i64 kv) := ek
            replace o0 : v2.drew.cell? ⟨br, off + (k - 1) * 4, none⟩ = some (.int .i64 os1) := o0
            replace o1 : v2.drew.cell? ⟨br, off + (k - 1) * 4 + 1, none⟩ = some (.slice oa1 on1 oc1) := o1
            replace o2 : v2.drew.cell? ⟨br, off + (k - 1) * 4 + 2, none⟩ = some (.int .i64 os2) := o2
            replace o3 : v2.drew.cell? ⟨br, off + (k - 1) * 4 + 3, none⟩ = some (.slice oa2 on2 oc2) := o3
            replace oR := oR.keep (Below.refl _ _).drew
            replace RJ := RJ.keep (Below.refl _ _).drew
            have hrow4' := hrow2.drew
            have hB2' : w.heap.size + 1 + 1 ≤ v2.drew.heap.size := hB2
            have HB2' := HB2.drew
            have hb8' : b8 < v2.drew.heap.size := blk_lt x8
            clear z0 z1 z2 z3 t1 t2 X8 y1' hrow2 hrow BW2 HB2 hB2 h00 hv2 h1 h2 H2 y1 x1 x2 R1 B1
            generalize v2.drew = V2 at *
            have z0 := cell_block x8 0
            have z1 := cell_block x8 1
            have z2 := cell_block x8 2
            have z3 := cell_block x8 3
            have t1 := cell_block y1'' 0
            have t2 := cell_block y1'' 1
            have hk := Below.refl V2.heap.size V2
            rename_i K hK _
            have hK' := fun a w (h : StopR _) => hK a w h.out
            clear hK
            go_wp2_with (first | ((with_reducible refine Calmly.is_fl ?_); refine Calmly.mix_fl rfl ?_ (fun _ _ => ?_); (first | exact .move _ | exact .load _ _ | exact .fieldAddr _ _ _ (by kernel_rfl) | exact .assign _ | exact .binOp _ _ _ _ _ rfl | exact .indexAddr _ _ _ | exact .len _ _ (by kernel_rfl) | exact .field _ _ _ | exact .extract _ _ | exact .pick _ _ _ | exact .build _ _ | exact .slice _ _ _ _ _ | exact .unOp _ _ _ rfl | exact .index _ _ _ | exact .max _ _ _ rfl rfl | exact .min _ _ _ rfl rfl)) | ((with_reducible refine Calmly.is_gl ?_); refine Calmly.mix_gl rfl rfl rfl ?_; first | ((first | with_reducible refine Calmly.gl_tt ?_ (fun _ _ => ?_) | with_reducible refine Calmly.gl_ff ?_ (fun _ _ => ?_)); (first | exact .move _ | exact .load _ _ | exact .fieldAddr _ _ _ (by kernel_rfl) | exact .assign _ | exact .binOp _ _ _ _ _ rfl | exact .indexAddr _ _ _ | exact .len _ _ (by kernel_rfl) | exact .field _ _ _ | exact .extract _ _ | exact .pick _ _ _ | exact .build _ _ | exact .slice _ _ _ _ _ | exact .unOp _ _ _ rfl | exact .index _ _ _ | exact .max _ _ _ rfl rfl | exact .min _ _ _ rfl rfl)) | with_reducible refine Calmly.gl_tf (fun _ _ => ?_) | with_reducible refine Calmly.gl_ft (fun _ _ => ?_)) | ((with_reducible refine Calmly.is_eff ?_); refine Calmly.mix_eff rfl (fun _ _ => ?_)) | ((with_reducible refine Calmly.is_gf ?_); refine Calmly.mix_gf rfl rfl rfl ?_; first | with_reducible refine Calmly.gf_tt (fun _ _ => ?_) | with_reducible refine Calmly.gf_ff (fun _ _ => ?_) | with_reducible refine Calmly.gf_tf (kept_of hk) (fun _ _ => ?_) | with_reducible refine Calmly.gf_ft (kept_of hk) (fun _ _ => ?_)) | ((with_reducible refine Calmly.is_kept ?_); refine ⟨kept_of hk, ?_⟩) | (with_reducible refine Calmly.mix_alt ?_ ?_) | (go_at_call 47; refine (RatioInt_any _ _ (by omega) (by omega)).mono ?_; rintro e w' ⟨⟨ps, pb, pn, pc, ps', pb', pn', pc', rfl, ph, ph', rP⟩, hs⟩; replace hk := step_of hk hs; clear hs) | (go_at_call 49; refine (RatioMul_any _ _ _ _ _ _ _ _ _ _ _ _ _ _ _ _ (dL k) _ _ _ rP (oR.keep hk) (by omega) (by omega) (by omega) (by omega) (by omega)).mono ?_; rintro e w' ⟨⟨qs, qb, qn, qc, qs', qb', qn', qc', rfl, qh, qh', rQ⟩, hs⟩; replace hk := step_of hk hs; clear hs) | (go_at_call 125; refine (RatioSub_any _ _ _ _ _ _ _ _ _ _ _ _ _ _ _ _ (2 * dL k + 6) _ _ _ (RJ.keep hk) rQ (by omega) (by omega) (by omega) (by omega) (by omega)).mono ?_; rintro e w5 ⟨⟨ts, tb, tn, tc, ts', tb', tn', tc', rfl, th, th', RT⟩, hs⟩; replace hk := step_of hk hs; clear hs))
            have x8' := blk_keep x8 hk
            have i0 := cell_block x8' 0
            have i1 := cell_block x8' 1
            have i2 := cell_block x8' 2
            have i3 := cell_block x8' 3
            have i4 := frozen_block x8' 0
            have i5 := frozen_block x8' 1
            have i6 := frozen_block x8' 2
            have i7 := frozen_block x8' 3
            go_wp2_with (first | ((with_reducible refine Calmly.is_fl ?_); refine Calmly.mix_fl rfl ?_ (fun _ _ => ?_); (first | exact .move _ | exact .load _ _ | exact .fieldAddr _ _ _ (by kernel_rfl) | exact .assign _ | exact .binOp _ _ _ _ _ rfl | exact .indexAddr _ _ _ | exact .len _ _ (by kernel_rfl) | exact .field _ _ _ | exact .extract _ _ | exact .pick _ _ _ | exact .build _ _ | exact .slice _ _ _ _ _ | exact .unOp _ _ _ rfl | exact .index _ _ _ | exact .max _ _ _ rfl rfl | exact .min _ _ _ rfl rfl)) | ((with_reducible refine Calmly.is_gl ?_); refine Calmly.mix_gl rfl rfl rfl ?_; first | ((first | with_reducible refine Calmly.gl_tt ?_ (fun _ _ => ?_) | with_reducible refine Calmly.gl_ff ?_ (fun _ _ => ?_)); (first | exact .move _ | exact .load _ _ | exact .fieldAddr _ _ _ (by kernel_rfl) | exact .assign _ | exact .binOp _ _ _ _ _ rfl | exact .indexAddr _ _ _ | exact .len _ _ (by kernel_rfl) | exact .field _ _ _ | exact .extract _ _ | exact .pick _ _ _ | exact .build _ _ | exact .slice _ _ _ _ _ | exact .unOp _ _ _ rfl | exact .index _ _ _ | exact .max _ _ _ rfl rfl | exact .min _ _ _ rfl rfl)) | with_reducible refine Calmly.gl_tf (fun _ _ => ?_) | with_reducible refine Calmly.gl_ft (fun _ _ => ?_)) | ((with_reducible refine Calmly.is_eff ?_); refine Calmly.mix_eff rfl (fun _ _ => ?_)) | ((with_reducible refine Calmly.is_gf ?_); refine Calmly.mix_gf rfl rfl rfl ?_; first | with_reducible refine Calmly.gf_tt (fun _ _ => ?_) | with_reducible refine Calmly.gf_ff (fun _ _ => ?_) | with_reducible refine Calmly.gf_tf (kept_of hk) (fun _ _ => ?_) | with_reducible refine Calmly.gf_ft (kept_of hk) (fun _ _ => ?_)) | ((with_reducible refine Calmly.is_tail ?_); first | refine Calmly.mix_tail_nil ?_ | refine Calmly.mix_tail rfl (fun _ _ => ?_)) | ((with_reducible refine Calmly.is_kept ?_); refine ⟨kept_of hk, ?_⟩) | (with_reducible refine Calmly.mix_alt ?_ ?_))
            refine ⟨?_⟩
            have hrow4 := (hrow4'.keep hk).other4 (show b8 ≠ br by omega) ⟨_, x8'⟩ (.int .i64 ts) (.slice tb tn tc) (.int .i64 ts') (.slice tb' tn' tc')
            obtain ⟨X9, W1, W2⟩ := ratFin x8' RT.1 RT.2
            have HB9 := below4 (x := .int .i64 ts) (y := .slice tb tn tc) (z := .int .i64 ts') (u := .slice tb' tn' tc') (HB2'.trans (hk.mono hB2')) (show w.heap.size + 1 + 1 ≤ b8 by have := hbel.size; omega)
            have hBs : w.heap.size + 1 + 1 ≤ w5.heap.size := by have := hk.size; omega
            clear RT i0 i1 i2 i3 i4 i5 i6 i7 x8' hk
            have hsz5 : w5.heap.size = ((((w5.setCell ⟨b8, 0, none⟩ (.int .i64 ts)).setCell ⟨b8, 1, none⟩ (.slice tb tn tc)).setCell ⟨b8, 2, none⟩ (.int .i64 ts')).setCell ⟨b8, 3, none⟩ (.slice tb' tn' tc')).heap.size := by simp
            rw [hsz5] at hBs
            clear hsz5
            generalize ((((w5.setCell ⟨b8, 0, none⟩ (.int .i64 ts)).setCell ⟨b8, 1, none⟩ (.slice tb tn tc)).setCell ⟨b8, 2, none⟩ (.int .i64 ts')).setCell ⟨b8, 3, none⟩ (.slice tb' tn' tc')) = v5 at *
            have RT : RatV v5 ts tb tn tc ts' tb' tn' tc' _ := ⟨W1, W2⟩
            have i0 := cell_block X9 0
            have i1 := cell_block X9 1
            have i2 := cell_block X9 2
            have i3 := cell_block X9 3
            go_wp2_with (first | (at_builtin; refine appQ _ rfl rfl _ _ rfl (hrow4.mono (L' := dL (k + 1)) (by omega)) RT (by omega) (by omega) rfl rfl (by omega) (by omega) ?_; intro a9 c9 w9 hrow9 hb9 hlt9))
            go_roundw
            case rel =>
              refine ⟨k + 1, c9, a9, by go_num, rfl, by omega, ?_, HB9.trans hb9⟩
              obtain ⟨j, rfl⟩ : ∃ j, k = j + 1 := ⟨k - 1, by omega⟩
              have e9 : (dQ ms ks q (j + 1 + 1)).2 = ((ov : Rat) - q * (mv : Rat)) * (dQ ms ks q (j + 1)).2 - ((kv * kv : Int) : Rat) * (dQ ms ks q (j + 1 - 1)).2 := by
                rw [← HO.out, ← HM.out, ← HKV.out]
                rfl
              rw [dQs_succ, e9]
              exact hrow9
            case measure => simp [intOf]; omega
      have HK2 := Lib.hid HKK
      clear HKK
      clear hK'
      go_wp2_with (first | ((with_reducible refine Calmly.is_fl ?_); refine Calmly.mix_fl rfl ?_ (fun _ _ => ?_); (first | exact .move _ | exact .load _ _ | exact .fieldAddr _ _ _ (by kernel_rfl) | exact .assign _ | exact .binOp _ _ _ _ _ rfl | exact .indexAddr _ _ _ | exact .len _ _ (by kernel_rfl) | exact .field _ _ _ | exact .extract _ _ | exact .pick _ _ _ | exact .build _ _ | exact .slice _ _ _ _ _ | exact .unOp _ _ _ rfl | exact .index _ _ _ | exact .max _ _ _ rfl rfl | exact .min _ _ _ rfl rfl)) | ((with_reducible refine Calmly.is_gl ?_); refine Calmly.mix_gl rfl rfl rfl ?_; first | ((first | with_reducible refine Calmly.gl_tt ?_ (fun _ _ => ?_) | with_reducible refine Calmly.gl_ff ?_ (fun _ _ => ?_)); (first | exact .move _ | exact .load _ _ | exact .fieldAddr _ _ _ (by kernel_rfl) | exact .assign _ | exact .binOp _ _ _ _ _ rfl | exact .indexAddr _ _ _ | exact .len _ _ (by kernel_rfl) | exact .field _ _ _ | exact .extract _ _ | exact .pick _ _ _ | exact .build _ _ | exact .slice _ _ _ _ _ | exact .unOp _ _ _ rfl | exact .index _ _ _ | exact .max _ _ _ rfl rfl | exact .min _ _ _ rfl rfl)) | with_reducible refine Calmly.gl_tf (fun _ _ => ?_) | with_reducible refine Calmly.gl_ft (fun _ _ => ?_)) | ((with_reducible refine Calmly.is_eff ?_); refine Calmly.mix_eff rfl (fun _ _ => ?_)) | ((with_reducible refine Calmly.is_gf ?_); refine Calmly.mix_gf rfl rfl rfl ?_; first | with_reducible refine Calmly.gf_tt (fun _ _ => ?_) | with_reducible refine Calmly.gf_ff (fun _ _ => ?_) | with_reducible refine Calmly.gf_tf (kept_of hk) (fun _ _ => ?_) | with_reducible refine Calmly.gf_ft (kept_of hk) (fun _ _ => ?_)) | ((with_reducible refine Calmly.is_kept ?_); refine ⟨kept_of hk, ?_⟩) | (with_reducible refine Calmly.mix_alt ?_ ?_) | (go_at_call 97; refine (Own_any _ b n c m d ks k _ (H2.keep hk) (by omega) (by omega) hf.ks).mono ?_; rintro e w' ⟨rfl, hs⟩; rw [show (k : Int).toNat = k from rfl, HO.out]; replace hk := step_of hk hs; (try replace p7 := blk_keep p7 hs); clear hs) | (go_at_call 47; have hq := rA; refine (RatioInt_any _ _ (by omega) (by omega)).mono ?_; rintro e w' ⟨⟨bs, bb, bn, bc, bs', bb', bn', bc', rfl, bh, bh', rB⟩, hs⟩; replace rA := rA.keep hs; replace hk := step_of hk hs; (try replace p7 := blk_keep p7 hs); clear hs hq) | (go_at_call 47; refine (RatioInt_any _ _ (by omega) (by omega)).mono ?_; rintro e w' ⟨⟨es, eb, en, ec, es', eb', en', ec', rfl, eh, eh', rA⟩, hs⟩; replace hk := step_of hk hs; (try replace p7 := blk_keep p7 hs); clear hs) | (go_at_call 49; refine (RatioMul_any _ _ _ _ _ _ _ _ _ _ _ _ _ _ _ _ 7 _ _ _ (H.keep hk) rB (by omega) (by omega) (by omega) (by omega) (by omega)).mono ?_; rintro e w' ⟨⟨fs, fb, fn, fc, fs', fb', fn', fc', rfl, fh, fh', rC⟩, hs⟩; replace rA := rA.keep hs; replace hk := step_of hk hs; (try replace p7 := blk_keep p7 hs); clear hs) | (go_at_call 125; refine (RatioSub_any _ _ _ _ _ _ _ _ _ _ _ _ _ _ _ _ 20 _ _ _ rA rC (by omega) (by omega) (by omega) (by omega) (by omega)).mono ?_; rintro e w' ⟨⟨is, ib, iN, ic, is', ib', iN', ic', rfl, ih, ih', rD⟩, hs⟩; replace hk := step_of hk hs; (try replace p7 := blk_keep p7 hs); clear hs) | (refine kept_allocB hk (fun hs hk' hblk => ?_); have hge := hk.size; generalize World.alloc _ _ = W' at hs hk' hblk ⊢; replace hk := hk'; clear hk'; (try replace rA := rA.keep hs); (try replace rB := rB.keep hs); (try replace rC := rC.keep hs); (try replace rD := rD.keep hs); have p7 := hblk; clear hs hblk))
      all_goals
        have z0 := cell_block p7 0
        have z1 := cell_block p7 1
        have z2 := cell_block p7 2
        have z3 := cell_block p7 3
        have z4 := frozen_block p7 0
        have z5 := frozen_block p7 1
        have z6 := frozen_block p7 2
        have z7 := frozen_block p7 3
      go_wp2_with (first | ((with_reducible refine Calmly.is_fl ?_); refine Calmly.mix_fl rfl ?_ (fun _ _ => ?_); (first | exact .move _ | exact .load _ _ | exact .fieldAddr _ _ _ (by kernel_rfl) | exact .assign _ | exact .binOp _ _ _ _ _ rfl | exact .indexAddr _ _ _ | exact .len _ _ (by kernel_rfl) | exact .field _ _ _ | exact .extract _ _ | exact .pick _ _ _ | exact .build _ _ | exact .slice _ _ _ _ _ | exact .unOp _ _ _ rfl | exact .index _ _ _ | exact .max _ _ _ rfl rfl | exact .min _ _ _ rfl rfl)) | ((with_reducible refine Calmly.is_gl ?_); refine Calmly.mix_gl rfl rfl rfl ?_; first | ((first | with_reducible refine Calmly.gl_tt ?_ (fun _ _ => ?_) | with_reducible refine Calmly.gl_ff ?_ (fun _ _ => ?_)); (first | exact .move _ | exact .load _ _ | exact .fieldAddr _ _ _ (by kernel_rfl) | exact .assign _ | exact .binOp _ _ _ _ _ rfl | exact .indexAddr _ _ _ | exact .len _ _ (by kernel_rfl) | exact .field _ _ _ | exact .extract _ _ | exact .pick _ _ _ | exact .build _ _ | exact .slice _ _ _ _ _ | exact .unOp _ _ _ rfl | exact .index _ _ _ | exact .max _ _ _ rfl rfl | exact .min _ _ _ rfl rfl)) | with_reducible refine Calmly.gl_tf (fun _ _ => ?_) | with_reducible refine Calmly.gl_ft (fun _ _ => ?_)) | ((with_reducible refine Calmly.is_eff ?_); refine Calmly.mix_eff rfl (fun _ _ => ?_)) | ((with_reducible refine Calmly.is_gf ?_); refine Calmly.mix_gf rfl rfl rfl ?_; first | with_reducible refine Calmly.gf_tt (fun _ _ => ?_) | with_reducible refine Calmly.gf_ff (fun _ _ => ?_) | with_reducible refine Calmly.gf_tf (kept_of hk) (fun _ _ => ?_) | with_reducible refine Calmly.gf_ft (kept_of hk) (fun _ _ => ?_)) | ((with_reducible refine Calmly.is_tail ?_); first | refine Calmly.mix_tail_nil ?_ | refine Calmly.mix_tail rfl (fun _ _ => ?_)) | ((with_reducible refine Calmly.is_kept ?_); refine ⟨kept_of hk, ?_⟩) | (with_reducible refine Calmly.mix_alt ?_ ?_))
      all_goals
        obtain ⟨X4, W1, W2⟩ := ratFin p7 rD.1 rD.2
        exact HK2.out _ _ _ _ _ _ _ _ _ _ _ _ _ _ _ _ _ _ _ _ _ _ _ (by omega) (below4 hk (by omega)) X4 ⟨W1, W2⟩ (by omega) (by omega)
    · have hle : (n : Int) ≤ (k : Int) := by omega
      obtain rfl : k = n := by omega
      go_wp2_with fail
      go_ret
      exact ⟨_, _, _, rfl, hrow.mono dl2, Bw⟩
end Go.Proofs.Ytmaidjankakppaa
