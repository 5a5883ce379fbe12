/- Contracts of fractions of numbers of any size: sums, products, quotients, signs. -/
import Derived.Test.YtfjcfbmfpefabaaGreatK09
namespace Go.Proofs.YtfjcfbmfpefabaaGreat
open Go.RowKit Go.Wides
open Calmly (Kept)
attribute [local go_sem] field_wide0 field_wide1

/-- What a call returns: a rational number, of so many digits at most. -/
def RV (L : Nat) (q : Rat) (e : Ending) (w' : World) : Prop := ∃ s a m c s' a' m' c', e = .returned (.agg #[.int .i64 s, .slice a m c, .int .i64 s', .slice a' m' c']) ∧ m ≤ L ∧ m' ≤ L ∧ RatV w' s a m c s' a' m' c' q
/-- A result is stored. -/
theorem ratFin {V : World} {r : Nat} {u0 u1 u2 u3 : Value} {s : Int} {a : Option Addr} {m c : Nat} {s' : Int} {a' : Option Addr} {m' c' : Nat} {z z' : Int} (X : V.heap[r]? = some (.cells #[u0, u1, u2, u3] 80)) (h1 : WideV V s a m c z) (h2 : WideV V s' a' m' c' z') :
    ((((V.setCell ⟨r, 0, none⟩ (.int .i64 s)).setCell ⟨r, 1, none⟩ (.slice a m c)).setCell ⟨r, 2, none⟩ (.int .i64 s')).setCell ⟨r, 3, none⟩ (.slice a' m' c')).heap[r]? = some (.cells #[.int .i64 s, .slice a m c, .int .i64 s', .slice a' m' c'] 80) ∧
    WideV ((((V.setCell ⟨r, 0, none⟩ (.int .i64 s)).setCell ⟨r, 1, none⟩ (.slice a m c)).setCell ⟨r, 2, none⟩ (.int .i64 s')).setCell ⟨r, 3, none⟩ (.slice a' m' c')) s a m c z ∧
    WideV ((((V.setCell ⟨r, 0, none⟩ (.int .i64 s)).setCell ⟨r, 1, none⟩ (.slice a m c)).setCell ⟨r, 2, none⟩ (.int .i64 s')).setCell ⟨r, 3, none⟩ (.slice a' m' c')) s' a' m' c' z' := by
  have hT : BlkT V r 80 := ⟨_, X⟩
  exact ⟨blkSet (blkSet (blkSet (blkSet X 0 _) 1 _) 2 _) 3 _, (((h1.set hT (by decide)).set (hT.set _ _) (by decide)).set ((hT.set _ _).set _ _) (by decide)).set (((hT.set _ _).set _ _).set _ _) (by decide),
    (((h2.set hT (by decide)).set (hT.set _ _) (by decide)).set ((hT.set _ _).set _ _) (by decide)).set (((hT.set _ _).set _ _).set _ _) (by decide)⟩
theorem below4 {B : Nat} {w V : World} {r : Nat} {x y z u : Value} (h : Below B w V) (hr : B ≤ r) : Below B w ((((V.setCell ⟨r, 0, none⟩ x).setCell ⟨r, 1, none⟩ y).setCell ⟨r, 2, none⟩ z).setCell ⟨r, 3, none⟩ u) :=
  (((h.setCell (p := ⟨r, 0, none⟩) hr _).setCell (p := ⟨r, 1, none⟩) hr _).setCell (p := ⟨r, 2, none⟩) hr _).setCell (p := ⟨r, 3, none⟩) hr _

set_option maxRecDepth 100000 in
set_option maxHeartbeats 1000000 in
theorem RatioOf_any (n d : Int) (w : World) (hn1 : -9223372036854775807 ≤ n) (hn2 : n ≤ 9223372036854775807) (hd1 : -9223372036854775807 ≤ d) (hd2 : d ≤ 9223372036854775807) (hd : d ≠ 0) :
    Calls Tryz.prog 47 #[.int .i64 n, .int .i64 d] w fun e w' => RV 7 (Rat.divInt n d) e w' ∧ Below w.heap.size w w' := by
  have hb : ∀ o, Below w.heap.size w (w.alloc o) := fun o => (Below.refl _ _).alloc (Nat.le_refl _) _
  have X := alloc_new w (.cells #[.int .i64 0, .slice none 0 0, .int .i64 0, .slice none 0 0] 80)
  have BW := hb (.cells #[.int .i64 0, .slice none 0 0, .int .i64 0, .slice none 0 0] 80)
  go_enter Tryz.func47, Tryz.ntmps47
  go_wp2_with fail
  refine (WideOf_any n _ hn1 hn2).mono ?_
  rintro e w1 ⟨s, a, m, c, rfl, ⟨hm, V1⟩, hs⟩
  replace X := blk_keep X hs
  replace BW := BW.trans (hs.mono BW.size)
  go_wp2_with fail
  refine (WideOf_any d _ hd1 hd2).mono ?_
  rintro e w2 ⟨s', a', m', c', rfl, ⟨hm', V2⟩, hs⟩
  replace X := blk_keep X hs
  replace BW := BW.trans (hs.mono BW.size)
  replace V1 := V1.keep hs
  go_wp2_with fail
  refine (RatioMake_any s s' a a' m m' c c' n d _ V1 V2 hd (by omega) (by omega)).mono ?_
  rintro e w3 ⟨t, b, k, g, t', b', k', g', rfl, ⟨hk1, hk2, VR⟩, hs⟩
  replace X := blk_keep X hs
  replace BW := BW.trans (hs.mono BW.size)
  have x0 := cell_block X 0
  have x1 := cell_block X 1
  have x2 := cell_block X 2
  have x3 := cell_block X 3
  have f0 := frozen_block X 0
  have f1 := frozen_block X 1
  have f2 := frozen_block X 2
  have f3 := frozen_block X 3
  obtain ⟨X4, W1, W2⟩ := ratFin X VR.1 VR.2
  have r0 := cell_block X4 0
  have r1 := cell_block X4 1
  have r2 := cell_block X4 2
  have r3 := cell_block X4 3
  go_wp2_with fail
  refine bodyPost_ret (v := .agg #[.int .i64 t, .slice b k g, .int .i64 t', .slice b' k' g']) (by simp [results, Tryz.results47, go_sem, r0, r1, r2, r3]) rfl ⟨⟨_, _, _, _, _, _, _, _, rfl, by omega, by omega, ?_⟩, below4 BW (by omega)⟩
  exact ⟨W1, W2⟩

set_option maxRecDepth 100000 in
set_option maxHeartbeats 1000000 in
theorem RatioInt_any (n : Int) (w : World) (hn1 : -9223372036854775807 ≤ n) (hn2 : n ≤ 9223372036854775807) :
    Calls Tryz.prog 39 #[.int .i64 n] w fun e w' => RV 3 (n : Rat) e w' ∧ Below w.heap.size w w' := by
  have hb : ∀ o, Below w.heap.size w (w.alloc o) := fun o => (Below.refl _ _).alloc (Nat.le_refl _) _
  have X := alloc_new w (.cells #[.int .i64 0, .slice none 0 0, .int .i64 0, .slice none 0 0] 80)
  have BW := hb (.cells #[.int .i64 0, .slice none 0 0, .int .i64 0, .slice none 0 0] 80)
  go_enter Tryz.func39, Tryz.ntmps39
  go_wp2_with fail
  refine (WideOf_any n _ hn1 hn2).mono ?_
  rintro e w1 ⟨s, a, m, c, rfl, ⟨hm, V1⟩, hs⟩
  replace X := blk_keep X hs
  replace BW := BW.trans (hs.mono BW.size)
  go_wp2_with fail
  refine (WideOf_any 1 _ (by omega) (by omega)).mono ?_
  rintro e w2 ⟨s', a', m', c', rfl, ⟨hm', V2⟩, hs⟩
  replace X := blk_keep X hs
  replace BW := BW.trans (hs.mono BW.size)
  replace V1 := V1.keep hs
  have x0 := cell_block X 0
  have x1 := cell_block X 1
  have x2 := cell_block X 2
  have x3 := cell_block X 3
  have f0 := frozen_block X 0
  have f1 := frozen_block X 1
  have f2 := frozen_block X 2
  have f3 := frozen_block X 3
  obtain ⟨X4, W1, W2⟩ := ratFin X V1 V2
  have r0 := cell_block X4 0
  have r1 := cell_block X4 1
  have r2 := cell_block X4 2
  have r3 := cell_block X4 3
  go_wp2_with fail
  refine bodyPost_ret (v := .agg #[.int .i64 s, .slice a m c, .int .i64 s', .slice a' m' c']) (by simp [results, Tryz.results39, go_sem, r0, r1, r2, r3]) rfl ⟨⟨_, _, _, _, _, _, _, _, rfl, by omega, by omega, ?_⟩, below4 BW (by omega)⟩
  exact ⟨W1, W2⟩

set_option maxRecDepth 100000 in
set_option maxHeartbeats 1000000 in
theorem RatioNeg_any (s1 : Int) (a1 : Option Addr) (n1 c1 : Nat) (s2 : Int) (a2 : Option Addr) (n2 c2 : Nat) (L : Nat) (p : Rat) (w : World) (h : RatV w s1 a1 n1 c1 s2 a2 n2 c2 p) (hl1 : n1 ≤ L) (hl2 : n2 ≤ L) :
    Calls Tryz.prog 75 #[.agg #[.int .i64 s1, .slice a1 n1 c1, .int .i64 s2, .slice a2 n2 c2]] w fun e w' => RV L (-p) e w' ∧ Below w.heap.size w w' := by
  have hb2 : Below w.heap.size w ((w.alloc (.cells #[.int .i64 s1, .slice a1 n1 c1, .int .i64 s2, .slice a2 n2 c2] 80)).alloc (.cells #[.int .i64 0, .slice none 0 0, .int .i64 0, .slice none 0 0] 80)) := ((Below.refl _ _).alloc (Nat.le_refl _) _).alloc (by simp) _
  have X1 : ((w.alloc (.cells #[.int .i64 s1, .slice a1 n1 c1, .int .i64 s2, .slice a2 n2 c2] 80)).alloc (.cells #[.int .i64 0, .slice none 0 0, .int .i64 0, .slice none 0 0] 80)).drew.heap[w.heap.size]? = some (.cells #[.int .i64 s1, .slice a1 n1 c1, .int .i64 s2, .slice a2 n2 c2] 80) := blk_keep (alloc_new w (.cells #[.int .i64 s1, .slice a1 n1 c1, .int .i64 s2, .slice a2 n2 c2] 80)) ((Below.refl _ _).alloc (Nat.le_refl _) _).drew
  have X2 : ((w.alloc (.cells #[.int .i64 s1, .slice a1 n1 c1, .int .i64 s2, .slice a2 n2 c2] 80)).alloc (.cells #[.int .i64 0, .slice none 0 0, .int .i64 0, .slice none 0 0] 80)).drew.heap[w.heap.size + 1]? = some (.cells #[.int .i64 0, .slice none 0 0, .int .i64 0, .slice none 0 0] 80) := by
    have := alloc_new (w.alloc (.cells #[.int .i64 s1, .slice a1 n1 c1, .int .i64 s2, .slice a2 n2 c2] 80)) (.cells #[.int .i64 0, .slice none 0 0, .int .i64 0, .slice none 0 0] 80)
    simp only [World.size_alloc] at this
    exact this
  have hbd := h.1.s_bd
  have H1 := h.1.keep hb2.drew
  have H2 := h.2.keep hb2.drew
  have BW := hb2.drew
  clear hb2 h
  go_enter Tryz.func75, Tryz.ntmps75
  go_wp2_with fail
  refine Calmly.wp_region_mix 5 (.fl 0 <| .fl 1 <| .fl 3 <| .fl 4 <| .eff 2 <| .tail [5, 6]) (by kernel_rfl) (by kernel_rfl) ?_
  generalize World.drew (World.alloc (World.alloc w _) _) = v at X1 X2 H1 H2 BW ⊢
  have y0 := cell_block X1 0
  have y1 := cell_block X1 1
  have y2 := cell_block X1 2
  have y3 := cell_block X1 3
  have hk := Below.refl v.heap.size v
  go_wp2_with (first | ((with_reducible refine Calmly.is_fl ?_); refine Calmly.mix_fl rfl ?_ (fun _ _ => ?_); (first | exact .move _ | exact .load _ _ | exact .fieldAddr _ _ _ (by kernel_rfl) | exact .assign _ | exact .binOp _ _ _ _ _ rfl | exact .indexAddr _ _ _ | exact .len _ _ (by kernel_rfl) | exact .field _ _ _ | exact .extract _ _ | exact .pick _ _ _ | exact .build _ _ | exact .slice _ _ _ _ _ | exact .unOp _ _ _ rfl | exact .index _ _ _ | exact .max _ _ _ rfl rfl | exact .min _ _ _ rfl rfl)) | ((with_reducible refine Calmly.is_gl ?_); refine Calmly.mix_gl rfl rfl rfl ?_; first | ((first | with_reducible refine Calmly.gl_tt ?_ (fun _ _ => ?_) | with_reducible refine Calmly.gl_ff ?_ (fun _ _ => ?_)); (first | exact .move _ | exact .load _ _ | exact .fieldAddr _ _ _ (by kernel_rfl) | exact .assign _ | exact .binOp _ _ _ _ _ rfl | exact .indexAddr _ _ _ | exact .len _ _ (by kernel_rfl) | exact .field _ _ _ | exact .extract _ _ | exact .pick _ _ _ | exact .build _ _ | exact .slice _ _ _ _ _ | exact .unOp _ _ _ rfl | exact .index _ _ _ | exact .max _ _ _ rfl rfl | exact .min _ _ _ rfl rfl)) | with_reducible refine Calmly.gl_tf (fun _ _ => ?_) | with_reducible refine Calmly.gl_ft (fun _ _ => ?_)) | ((with_reducible refine Calmly.is_eff ?_); refine Calmly.mix_eff rfl (fun _ _ => ?_)) | ((with_reducible refine Calmly.is_gf ?_); refine Calmly.mix_gf rfl rfl rfl ?_; first | with_reducible refine Calmly.gf_tt (fun _ _ => ?_) | with_reducible refine Calmly.gf_ff (fun _ _ => ?_) | with_reducible refine Calmly.gf_tf (kept_of hk) (fun _ _ => ?_) | with_reducible refine Calmly.gf_ft (kept_of hk) (fun _ _ => ?_)) | ((with_reducible refine Calmly.is_tail ?_); first | refine Calmly.mix_tail_nil ?_ | refine Calmly.mix_tail rfl (fun _ _ => ?_)) | ((with_reducible refine Calmly.is_kept ?_); refine ⟨kept_of hk, ?_⟩) | (with_reducible refine Calmly.mix_alt ?_ ?_))
  refine (WideNeg_any s1 a1 n1 c1 p.num _ H1).mono ?_
  rintro e w1 ⟨rfl, V1, hs⟩
  replace hk := step_of hk hs
  replace H2 := H2.keep hs
  replace X2 := blk_keep X2 hs
  replace BW := BW.trans (hs.mono BW.size)
  have sX := blk_lt X2
  have x0 := cell_block X2 0
  have x1 := cell_block X2 1
  have x2 := cell_block X2 2
  have x3 := cell_block X2 3
  have f0 := frozen_block X2 0
  have f1 := frozen_block X2 1
  have f2 := frozen_block X2 2
  have f3 := frozen_block X2 3
  obtain ⟨X4, W1, W2⟩ := ratFin X2 V1 H2
  have r0 := cell_block X4 0
  have r1 := cell_block X4 1
  have r2 := cell_block X4 2
  have r3 := cell_block X4 3
  go_wp2_with (first | ((with_reducible refine Calmly.is_fl ?_); refine Calmly.mix_fl rfl ?_ (fun _ _ => ?_); (first | exact .move _ | exact .load _ _ | exact .fieldAddr _ _ _ (by kernel_rfl) | exact .assign _ | exact .binOp _ _ _ _ _ rfl | exact .indexAddr _ _ _ | exact .len _ _ (by kernel_rfl) | exact .field _ _ _ | exact .extract _ _ | exact .pick _ _ _ | exact .build _ _ | exact .slice _ _ _ _ _ | exact .unOp _ _ _ rfl | exact .index _ _ _ | exact .max _ _ _ rfl rfl | exact .min _ _ _ rfl rfl)) | ((with_reducible refine Calmly.is_gl ?_); refine Calmly.mix_gl rfl rfl rfl ?_; first | ((first | with_reducible refine Calmly.gl_tt ?_ (fun _ _ => ?_) | with_reducible refine Calmly.gl_ff ?_ (fun _ _ => ?_)); (first | exact .move _ | exact .load _ _ | exact .fieldAddr _ _ _ (by kernel_rfl) | exact .assign _ | exact .binOp _ _ _ _ _ rfl | exact .indexAddr _ _ _ | exact .len _ _ (by kernel_rfl) | exact .field _ _ _ | exact .extract _ _ | exact .pick _ _ _ | exact .build _ _ | exact .slice _ _ _ _ _ | exact .unOp _ _ _ rfl | exact .index _ _ _ | exact .max _ _ _ rfl rfl | exact .min _ _ _ rfl rfl)) | with_reducible refine Calmly.gl_tf (fun _ _ => ?_) | with_reducible refine Calmly.gl_ft (fun _ _ => ?_)) | ((with_reducible refine Calmly.is_eff ?_); refine Calmly.mix_eff rfl (fun _ _ => ?_)) | ((with_reducible refine Calmly.is_gf ?_); refine Calmly.mix_gf rfl rfl rfl ?_; first | with_reducible refine Calmly.gf_tt (fun _ _ => ?_) | with_reducible refine Calmly.gf_ff (fun _ _ => ?_) | with_reducible refine Calmly.gf_tf (kept_of hk) (fun _ _ => ?_) | with_reducible refine Calmly.gf_ft (kept_of hk) (fun _ _ => ?_)) | ((with_reducible refine Calmly.is_tail ?_); first | refine Calmly.mix_tail_nil ?_ | refine Calmly.mix_tail rfl (fun _ _ => ?_)) | ((with_reducible refine Calmly.is_kept ?_); refine ⟨kept_of hk, ?_⟩) | (with_reducible refine Calmly.mix_alt ?_ ?_))
  refine bodyPost_ret (v := .agg #[.int .i64 (-s1), .slice a1 n1 c1, .int .i64 s2, .slice a2 n2 c2]) (by simp [results, Tryz.results75, go_sem, r0, r1, r2, r3]) rfl ⟨⟨_, _, _, _, _, _, _, _, rfl, hl1, hl2, ?_⟩, below4 BW (by omega)⟩
  exact ⟨by rw [Rat.neg_num]; exact W1, by rw [Rat.neg_den]; exact W2⟩

set_option maxRecDepth 100000 in
set_option maxHeartbeats 1000000 in
theorem RatioSign_any (s1 : Int) (a1 : Option Addr) (n1 c1 : Nat) (s2 : Int) (a2 : Option Addr) (n2 c2 : Nat) (p : Rat) (w : World) (h : RatV w s1 a1 n1 c1 s2 a2 n2 c2 p) :
    Calls Tryz.prog 88 #[.agg #[.int .i64 s1, .slice a1 n1 c1, .int .i64 s2, .slice a2 n2 c2]] w fun e w' => e = .returned (.int .i64 p.num.sign) ∧ Below w.heap.size w w' := by
  have hb : ∀ o, Below w.heap.size w (w.alloc o) := fun o => (Below.refl _ _).alloc (Nat.le_refl _) _
  have hsg : s1 = p.num.sign := by obtain ⟨⟨_, _, _, _, _, _, h⟩, _⟩ := h; exact h
  have HS := Lib.hid hsg
  clear hsg h
  go_enter Tryz.func88, Tryz.ntmps88
  go_wp2_with fail
  refine (WideSign_any s1 a1 n1 c1 _).mono ?_
  rintro e w1 ⟨rfl, hs⟩
  go_wp2_with fail
  go_ret
  exact ⟨by rw [HS.out]; rfl, (hb _).trans (hs.mono (hb _).size)⟩

set_option maxRecDepth 100000 in
set_option maxHeartbeats 2000000 in
theorem RatioMul_any (s1 : Int) (a1 : Option Addr) (n1 c1 : Nat) (s2 : Int) (a2 : Option Addr) (n2 c2 : Nat) (s3 : Int) (a3 : Option Addr) (n3 c3 : Nat) (s4 : Int) (a4 : Option Addr) (n4 c4 : Nat) (L : Nat) (p q : Rat) (w : World) (h : RatV w s1 a1 n1 c1 s2 a2 n2 c2 p) (h' : RatV w s3 a3 n3 c3 s4 a4 n4 c4 q) (hl1 : n1 ≤ L) (hl2 : n2 ≤ L) (hl3 : n3 ≤ L) (hl4 : n4 ≤ L) (hL : L ≤ 1000000000) :
    Calls Tryz.prog 40 #[.agg #[.int .i64 s1, .slice a1 n1 c1, .int .i64 s2, .slice a2 n2 c2], .agg #[.int .i64 s3, .slice a3 n3 c3, .int .i64 s4, .slice a4 n4 c4]] w fun e w' => RV (2 * L + 6) (p * q) e w' ∧ Below w.heap.size w w' := by
  have hb3 : Below w.heap.size w (((w.alloc (.cells #[.int .i64 s1, .slice a1 n1 c1, .int .i64 s2, .slice a2 n2 c2] 80)).alloc (.cells #[.int .i64 s3, .slice a3 n3 c3, .int .i64 s4, .slice a4 n4 c4] 80)).alloc (.cells #[.int .i64 0, .slice none 0 0, .int .i64 0, .slice none 0 0] 80)) := (((Below.refl _ _).alloc (Nat.le_refl _) _).alloc (by simp) _).alloc (by simp; omega) _
  obtain ⟨X1, X2, X3⟩ := box3r (w := w) (o := (.cells #[.int .i64 s1, .slice a1 n1 c1, .int .i64 s2, .slice a2 n2 c2] 80)) (o' := (.cells #[.int .i64 s3, .slice a3 n3 c3, .int .i64 s4, .slice a4 n4 c4] 80)) (o'' := (.cells #[.int .i64 0, .slice none 0 0, .int .i64 0, .slice none 0 0] 80)) (Below.refl _ (((w.alloc (.cells #[.int .i64 s1, .slice a1 n1 c1, .int .i64 s2, .slice a2 n2 c2] 80)).alloc (.cells #[.int .i64 s3, .slice a3 n3 c3, .int .i64 s4, .slice a4 n4 c4] 80)).alloc (.cells #[.int .i64 0, .slice none 0 0, .int .i64 0, .slice none 0 0] 80)).drew)
  have H1 := h.1.keep hb3.drew
  have H2 := h.2.keep hb3.drew
  have H3 := h'.1.keep hb3.drew
  have H4 := h'.2.keep hb3.drew
  have BW := hb3.drew
  clear hb3
  have sX := blk_lt X3
  go_enter Tryz.func40, Tryz.ntmps40
  go_wp2_with fail
  refine Calmly.wp_region_mix 11 (.fl 0 <| .fl 1 <| .fl 2 <| .fl 3 <| .fl 5 <| .fl 6 <| .fl 7 <| .fl 8 <| .eff 4 <| .eff 9 <| .eff 10 <| .tail [11]) (by kernel_rfl) (by kernel_rfl) ?_
  generalize World.drew (World.alloc (World.alloc (World.alloc w _) _) _) = v at X1 X2 X3 H1 H2 H3 H4 BW sX ⊢
  have y0 := cell_block X1 0
  have y1 := cell_block X1 1
  have y2 := cell_block X1 2
  have y3 := cell_block X1 3
  have u0 := cell_block X2 0
  have u1 := cell_block X2 1
  have u2 := cell_block X2 2
  have u3 := cell_block X2 3
  have hk := Below.refl v.heap.size v
  go_wp2_with (first | ((with_reducible refine Calmly.is_fl ?_); refine Calmly.mix_fl rfl ?_ (fun _ _ => ?_); (first | exact .move _ | exact .load _ _ | exact .fieldAddr _ _ _ (by kernel_rfl) | exact .assign _ | exact .binOp _ _ _ _ _ rfl | exact .indexAddr _ _ _ | exact .len _ _ (by kernel_rfl) | exact .field _ _ _ | exact .extract _ _ | exact .pick _ _ _ | exact .build _ _ | exact .slice _ _ _ _ _ | exact .unOp _ _ _ rfl | exact .index _ _ _ | exact .max _ _ _ rfl rfl | exact .min _ _ _ rfl rfl)) | ((with_reducible refine Calmly.is_gl ?_); refine Calmly.mix_gl rfl rfl rfl ?_; first | ((first | with_reducible refine Calmly.gl_tt ?_ (fun _ _ => ?_) | with_reducible refine Calmly.gl_ff ?_ (fun _ _ => ?_)); (first | exact .move _ | exact .load _ _ | exact .fieldAddr _ _ _ (by kernel_rfl) | exact .assign _ | exact .binOp _ _ _ _ _ rfl | exact .indexAddr _ _ _ | exact .len _ _ (by kernel_rfl) | exact .field _ _ _ | exact .extract _ _ | exact .pick _ _ _ | exact .build _ _ | exact .slice _ _ _ _ _ | exact .unOp _ _ _ rfl | exact .index _ _ _ | exact .max _ _ _ rfl rfl | exact .min _ _ _ rfl rfl)) | with_reducible refine Calmly.gl_tf (fun _ _ => ?_) | with_reducible refine Calmly.gl_ft (fun _ _ => ?_)) | ((with_reducible refine Calmly.is_eff ?_); refine Calmly.mix_eff rfl (fun _ _ => ?_)) | ((with_reducible refine Calmly.is_gf ?_); refine Calmly.mix_gf rfl rfl rfl ?_; first | with_reducible refine Calmly.gf_tt (fun _ _ => ?_) | with_reducible refine Calmly.gf_ff (fun _ _ => ?_) | with_reducible refine Calmly.gf_tf (kept_of hk) (fun _ _ => ?_) | with_reducible refine Calmly.gf_ft (kept_of hk) (fun _ _ => ?_)) | ((with_reducible refine Calmly.is_tail ?_); first | refine Calmly.mix_tail_nil ?_ | refine Calmly.mix_tail rfl (fun _ _ => ?_)) | ((with_reducible refine Calmly.is_kept ?_); refine ⟨kept_of hk, ?_⟩) | (with_reducible refine Calmly.mix_alt ?_ ?_))
  refine (WideMul_any s1 s3 a1 a3 n1 n3 c1 c3 p.num q.num _ H1 H3 (by omega) (by omega)).mono ?_
  rintro e _ ⟨gs, ga, gn, gc, rfl, ⟨gh, gV⟩, hs⟩
  replace hk := step_of hk hs
  replace H2 := H2.keep hs
  replace H4 := H4.keep hs
  replace X3 := blk_keep X3 hs
  replace BW := BW.trans (hs.mono BW.size)
  go_wp2_with (first | ((with_reducible refine Calmly.is_fl ?_); refine Calmly.mix_fl rfl ?_ (fun _ _ => ?_); (first | exact .move _ | exact .load _ _ | exact .fieldAddr _ _ _ (by kernel_rfl) | exact .assign _ | exact .binOp _ _ _ _ _ rfl | exact .indexAddr _ _ _ | exact .len _ _ (by kernel_rfl) | exact .field _ _ _ | exact .extract _ _ | exact .pick _ _ _ | exact .build _ _ | exact .slice _ _ _ _ _ | exact .unOp _ _ _ rfl | exact .index _ _ _ | exact .max _ _ _ rfl rfl | exact .min _ _ _ rfl rfl)) | ((with_reducible refine Calmly.is_gl ?_); refine Calmly.mix_gl rfl rfl rfl ?_; first | ((first | with_reducible refine Calmly.gl_tt ?_ (fun _ _ => ?_) | with_reducible refine Calmly.gl_ff ?_ (fun _ _ => ?_)); (first | exact .move _ | exact .load _ _ | exact .fieldAddr _ _ _ (by kernel_rfl) | exact .assign _ | exact .binOp _ _ _ _ _ rfl | exact .indexAddr _ _ _ | exact .len _ _ (by kernel_rfl) | exact .field _ _ _ | exact .extract _ _ | exact .pick _ _ _ | exact .build _ _ | exact .slice _ _ _ _ _ | exact .unOp _ _ _ rfl | exact .index _ _ _ | exact .max _ _ _ rfl rfl | exact .min _ _ _ rfl rfl)) | with_reducible refine Calmly.gl_tf (fun _ _ => ?_) | with_reducible refine Calmly.gl_ft (fun _ _ => ?_)) | ((with_reducible refine Calmly.is_eff ?_); refine Calmly.mix_eff rfl (fun _ _ => ?_)) | ((with_reducible refine Calmly.is_gf ?_); refine Calmly.mix_gf rfl rfl rfl ?_; first | with_reducible refine Calmly.gf_tt (fun _ _ => ?_) | with_reducible refine Calmly.gf_ff (fun _ _ => ?_) | with_reducible refine Calmly.gf_tf (kept_of hk) (fun _ _ => ?_) | with_reducible refine Calmly.gf_ft (kept_of hk) (fun _ _ => ?_)) | ((with_reducible refine Calmly.is_tail ?_); first | refine Calmly.mix_tail_nil ?_ | refine Calmly.mix_tail rfl (fun _ _ => ?_)) | ((with_reducible refine Calmly.is_kept ?_); refine ⟨kept_of hk, ?_⟩) | (with_reducible refine Calmly.mix_alt ?_ ?_))
  refine (WideMul_any s2 s4 a2 a4 n2 n4 c2 c4 (p.den : Int) (q.den : Int) _ H2 H4 (by omega) (by omega)).mono ?_
  rintro e _ ⟨ks, ka, kn, kc, rfl, ⟨kh, kV⟩, hs⟩
  replace hk := step_of hk hs
  replace gV := gV.keep hs
  replace X3 := blk_keep X3 hs
  replace BW := BW.trans (hs.mono BW.size)
  go_wp2_with (first | ((with_reducible refine Calmly.is_fl ?_); refine Calmly.mix_fl rfl ?_ (fun _ _ => ?_); (first | exact .move _ | exact .load _ _ | exact .fieldAddr _ _ _ (by kernel_rfl) | exact .assign _ | exact .binOp _ _ _ _ _ rfl | exact .indexAddr _ _ _ | exact .len _ _ (by kernel_rfl) | exact .field _ _ _ | exact .extract _ _ | exact .pick _ _ _ | exact .build _ _ | exact .slice _ _ _ _ _ | exact .unOp _ _ _ rfl | exact .index _ _ _ | exact .max _ _ _ rfl rfl | exact .min _ _ _ rfl rfl)) | ((with_reducible refine Calmly.is_gl ?_); refine Calmly.mix_gl rfl rfl rfl ?_; first | ((first | with_reducible refine Calmly.gl_tt ?_ (fun _ _ => ?_) | with_reducible refine Calmly.gl_ff ?_ (fun _ _ => ?_)); (first | exact .move _ | exact .load _ _ | exact .fieldAddr _ _ _ (by kernel_rfl) | exact .assign _ | exact .binOp _ _ _ _ _ rfl | exact .indexAddr _ _ _ | exact .len _ _ (by kernel_rfl) | exact .field _ _ _ | exact .extract _ _ | exact .pick _ _ _ | exact .build _ _ | exact .slice _ _ _ _ _ | exact .unOp _ _ _ rfl | exact .index _ _ _ | exact .max _ _ _ rfl rfl | exact .min _ _ _ rfl rfl)) | with_reducible refine Calmly.gl_tf (fun _ _ => ?_) | with_reducible refine Calmly.gl_ft (fun _ _ => ?_)) | ((with_reducible refine Calmly.is_eff ?_); refine Calmly.mix_eff rfl (fun _ _ => ?_)) | ((with_reducible refine Calmly.is_gf ?_); refine Calmly.mix_gf rfl rfl rfl ?_; first | with_reducible refine Calmly.gf_tt (fun _ _ => ?_) | with_reducible refine Calmly.gf_ff (fun _ _ => ?_) | with_reducible refine Calmly.gf_tf (kept_of hk) (fun _ _ => ?_) | with_reducible refine Calmly.gf_ft (kept_of hk) (fun _ _ => ?_)) | ((with_reducible refine Calmly.is_tail ?_); first | refine Calmly.mix_tail_nil ?_ | refine Calmly.mix_tail rfl (fun _ _ => ?_)) | ((with_reducible refine Calmly.is_kept ?_); refine ⟨kept_of hk, ?_⟩) | (with_reducible refine Calmly.mix_alt ?_ ?_))
  refine (RatioMake_any gs ks ga ka gn kn gc kc (p.num * q.num) ((p.den : Int) * (q.den : Int)) _ gV kV (Int.ne_of_gt (Int.mul_pos (by have := p.den_pos; omega) (by have := q.den_pos; omega))) (by omega) (by omega)).mono ?_
  rintro e _ ⟨t, b, k, g, t', b', k', g', rfl, ⟨hk1, hk2, VR⟩, hs⟩
  replace hk := step_of hk hs
  replace X3 := blk_keep X3 hs
  replace BW := BW.trans (hs.mono BW.size)
  have hq : Rat.divInt (p.num * q.num) ((p.den : Int) * (q.den : Int)) = p * q := by
    rw [Rat.mul_def', ← Rat.divInt_ofNat]
    simp
  rw [hq] at VR
  clear hq
  have x0 := cell_block X3 0
  have x1 := cell_block X3 1
  have x2 := cell_block X3 2
  have x3 := cell_block X3 3
  have f0 := frozen_block X3 0
  have f1 := frozen_block X3 1
  have f2 := frozen_block X3 2
  have f3 := frozen_block X3 3
  obtain ⟨X4, W1, W2⟩ := ratFin X3 VR.1 VR.2
  have r0 := cell_block X4 0
  have r1 := cell_block X4 1
  have r2 := cell_block X4 2
  have r3 := cell_block X4 3
  go_wp2_with (first | ((with_reducible refine Calmly.is_fl ?_); refine Calmly.mix_fl rfl ?_ (fun _ _ => ?_); (first | exact .move _ | exact .load _ _ | exact .fieldAddr _ _ _ (by kernel_rfl) | exact .assign _ | exact .binOp _ _ _ _ _ rfl | exact .indexAddr _ _ _ | exact .len _ _ (by kernel_rfl) | exact .field _ _ _ | exact .extract _ _ | exact .pick _ _ _ | exact .build _ _ | exact .slice _ _ _ _ _ | exact .unOp _ _ _ rfl | exact .index _ _ _ | exact .max _ _ _ rfl rfl | exact .min _ _ _ rfl rfl)) | ((with_reducible refine Calmly.is_gl ?_); refine Calmly.mix_gl rfl rfl rfl ?_; first | ((first | with_reducible refine Calmly.gl_tt ?_ (fun _ _ => ?_) | with_reducible refine Calmly.gl_ff ?_ (fun _ _ => ?_)); (first | exact .move _ | exact .load _ _ | exact .fieldAddr _ _ _ (by kernel_rfl) | exact .assign _ | exact .binOp _ _ _ _ _ rfl | exact .indexAddr _ _ _ | exact .len _ _ (by kernel_rfl) | exact .field _ _ _ | exact .extract _ _ | exact .pick _ _ _ | exact .build _ _ | exact .slice _ _ _ _ _ | exact .unOp _ _ _ rfl | exact .index _ _ _ | exact .max _ _ _ rfl rfl | exact .min _ _ _ rfl rfl)) | with_reducible refine Calmly.gl_tf (fun _ _ => ?_) | with_reducible refine Calmly.gl_ft (fun _ _ => ?_)) | ((with_reducible refine Calmly.is_eff ?_); refine Calmly.mix_eff rfl (fun _ _ => ?_)) | ((with_reducible refine Calmly.is_gf ?_); refine Calmly.mix_gf rfl rfl rfl ?_; first | with_reducible refine Calmly.gf_tt (fun _ _ => ?_) | with_reducible refine Calmly.gf_ff (fun _ _ => ?_) | with_reducible refine Calmly.gf_tf (kept_of hk) (fun _ _ => ?_) | with_reducible refine Calmly.gf_ft (kept_of hk) (fun _ _ => ?_)) | ((with_reducible refine Calmly.is_tail ?_); first | refine Calmly.mix_tail_nil ?_ | refine Calmly.mix_tail rfl (fun _ _ => ?_)) | ((with_reducible refine Calmly.is_kept ?_); refine ⟨kept_of hk, ?_⟩) | (with_reducible refine Calmly.mix_alt ?_ ?_))
  refine bodyPost_ret (v := .agg #[.int .i64 t, .slice b k g, .int .i64 t', .slice b' k' g']) (by simp [results, Tryz.results40, go_sem, r0, r1, r2, r3]) rfl ⟨⟨_, _, _, _, _, _, _, _, rfl, by omega, by omega, ?_⟩, below4 BW (by omega)⟩
  exact ⟨W1, W2⟩

set_option maxRecDepth 100000 in
set_option maxHeartbeats 2000000 in
theorem RatioDiv_any (s1 : Int) (a1 : Option Addr) (n1 c1 : Nat) (s2 : Int) (a2 : Option Addr) (n2 c2 : Nat) (s3 : Int) (a3 : Option Addr) (n3 c3 : Nat) (s4 : Int) (a4 : Option Addr) (n4 c4 : Nat) (L : Nat) (p q : Rat) (w : World) (h : RatV w s1 a1 n1 c1 s2 a2 n2 c2 p) (h' : RatV w s3 a3 n3 c3 s4 a4 n4 c4 q) (hl1 : n1 ≤ L) (hl2 : n2 ≤ L) (hl3 : n3 ≤ L) (hl4 : n4 ≤ L) (hL : L ≤ 1000000000) (hz : q ≠ 0) :
    Calls Tryz.prog 89 #[.agg #[.int .i64 s1, .slice a1 n1 c1, .int .i64 s2, .slice a2 n2 c2], .agg #[.int .i64 s3, .slice a3 n3 c3, .int .i64 s4, .slice a4 n4 c4]] w fun e w' => RV (2 * L + 6) (p / q) e w' ∧ Below w.heap.size w w' := by
  have hzn : q.num ≠ 0 := fun h0 => hz (Rat.num_eq_zero.1 h0)
  clear hz
  have hb3 : Below w.heap.size w (((w.alloc (.cells #[.int .i64 s1, .slice a1 n1 c1, .int .i64 s2, .slice a2 n2 c2] 80)).alloc (.cells #[.int .i64 s3, .slice a3 n3 c3, .int .i64 s4, .slice a4 n4 c4] 80)).alloc (.cells #[.int .i64 0, .slice none 0 0, .int .i64 0, .slice none 0 0] 80)) := (((Below.refl _ _).alloc (Nat.le_refl _) _).alloc (by simp) _).alloc (by simp; omega) _
  obtain ⟨X1, X2, X3⟩ := box3r (w := w) (o := (.cells #[.int .i64 s1, .slice a1 n1 c1, .int .i64 s2, .slice a2 n2 c2] 80)) (o' := (.cells #[.int .i64 s3, .slice a3 n3 c3, .int .i64 s4, .slice a4 n4 c4] 80)) (o'' := (.cells #[.int .i64 0, .slice none 0 0, .int .i64 0, .slice none 0 0] 80)) (Below.refl _ (((w.alloc (.cells #[.int .i64 s1, .slice a1 n1 c1, .int .i64 s2, .slice a2 n2 c2] 80)).alloc (.cells #[.int .i64 s3, .slice a3 n3 c3, .int .i64 s4, .slice a4 n4 c4] 80)).alloc (.cells #[.int .i64 0, .slice none 0 0, .int .i64 0, .slice none 0 0] 80)).drew)
  have H1 := h.1.keep hb3.drew
  have H2 := h.2.keep hb3.drew
  have H3 := h'.1.keep hb3.drew
  have H4 := h'.2.keep hb3.drew
  have BW := hb3.drew
  clear hb3
  have sX := blk_lt X3
  go_enter Tryz.func89, Tryz.ntmps89
  go_wp2_with fail
  refine Calmly.wp_region_mix 11 (.fl 0 <| .fl 1 <| .fl 2 <| .fl 3 <| .fl 5 <| .fl 6 <| .fl 7 <| .fl 8 <| .eff 4 <| .eff 9 <| .eff 10 <| .tail [11]) (by kernel_rfl) (by kernel_rfl) ?_
  generalize World.drew (World.alloc (World.alloc (World.alloc w _) _) _) = v at X1 X2 X3 H1 H2 H3 H4 BW sX ⊢
  have y0 := cell_block X1 0
  have y1 := cell_block X1 1
  have y2 := cell_block X1 2
  have y3 := cell_block X1 3
  have u0 := cell_block X2 0
  have u1 := cell_block X2 1
  have u2 := cell_block X2 2
  have u3 := cell_block X2 3
  have hk := Below.refl v.heap.size v
  go_wp2_with (first | ((with_reducible refine Calmly.is_fl ?_); refine Calmly.mix_fl rfl ?_ (fun _ _ => ?_); (first | exact .move _ | exact .load _ _ | exact .fieldAddr _ _ _ (by kernel_rfl) | exact .assign _ | exact .binOp _ _ _ _ _ rfl | exact .indexAddr _ _ _ | exact .len _ _ (by kernel_rfl) | exact .field _ _ _ | exact .extract _ _ | exact .pick _ _ _ | exact .build _ _ | exact .slice _ _ _ _ _ | exact .unOp _ _ _ rfl | exact .index _ _ _ | exact .max _ _ _ rfl rfl | exact .min _ _ _ rfl rfl)) | ((with_reducible refine Calmly.is_gl ?_); refine Calmly.mix_gl rfl rfl rfl ?_; first | ((first | with_reducible refine Calmly.gl_tt ?_ (fun _ _ => ?_) | with_reducible refine Calmly.gl_ff ?_ (fun _ _ => ?_)); (first | exact .move _ | exact .load _ _ | exact .fieldAddr _ _ _ (by kernel_rfl) | exact .assign _ | exact .binOp _ _ _ _ _ rfl | exact .indexAddr _ _ _ | exact .len _ _ (by kernel_rfl) | exact .field _ _ _ | exact .extract _ _ | exact .pick _ _ _ | exact .build _ _ | exact .slice _ _ _ _ _ | exact .unOp _ _ _ rfl | exact .index _ _ _ | exact .max _ _ _ rfl rfl | exact .min _ _ _ rfl rfl)) | with_reducible refine Calmly.gl_tf (fun _ _ => ?_) | with_reducible refine Calmly.gl_ft (fun _ _ => ?_)) | ((with_reducible refine Calmly.is_eff ?_); refine Calmly.mix_eff rfl (fun _ _ => ?_)) | ((with_reducible refine Calmly.is_gf ?_); refine Calmly.mix_gf rfl rfl rfl ?_; first | with_reducible refine Calmly.gf_tt (fun _ _ => ?_) | with_reducible refine Calmly.gf_ff (fun _ _ => ?_) | with_reducible refine Calmly.gf_tf (kept_of hk) (fun _ _ => ?_) | with_reducible refine Calmly.gf_ft (kept_of hk) (fun _ _ => ?_)) | ((with_reducible refine Calmly.is_tail ?_); first | refine Calmly.mix_tail_nil ?_ | refine Calmly.mix_tail rfl (fun _ _ => ?_)) | ((with_reducible refine Calmly.is_kept ?_); refine ⟨kept_of hk, ?_⟩) | (with_reducible refine Calmly.mix_alt ?_ ?_))
  refine (WideMul_any s1 s4 a1 a4 n1 n4 c1 c4 p.num (q.den : Int) _ H1 H4 (by omega) (by omega)).mono ?_
  rintro e _ ⟨gs, ga, gn, gc, rfl, ⟨gh, gV⟩, hs⟩
  replace hk := step_of hk hs
  replace H2 := H2.keep hs
  replace H3 := H3.keep hs
  replace X3 := blk_keep X3 hs
  replace BW := BW.trans (hs.mono BW.size)
  go_wp2_with (first | ((with_reducible refine Calmly.is_fl ?_); refine Calmly.mix_fl rfl ?_ (fun _ _ => ?_); (first | exact .move _ | exact .load _ _ | exact .fieldAddr _ _ _ (by kernel_rfl) | exact .assign _ | exact .binOp _ _ _ _ _ rfl | exact .indexAddr _ _ _ | exact .len _ _ (by kernel_rfl) | exact .field _ _ _ | exact .extract _ _ | exact .pick _ _ _ | exact .build _ _ | exact .slice _ _ _ _ _ | exact .unOp _ _ _ rfl | exact .index _ _ _ | exact .max _ _ _ rfl rfl | exact .min _ _ _ rfl rfl)) | ((with_reducible refine Calmly.is_gl ?_); refine Calmly.mix_gl rfl rfl rfl ?_; first | ((first | with_reducible refine Calmly.gl_tt ?_ (fun _ _ => ?_) | with_reducible refine Calmly.gl_ff ?_ (fun _ _ => ?_)); (first | exact .move _ | exact .load _ _ | exact .fieldAddr _ _ _ (by kernel_rfl) | exact .assign _ | exact .binOp _ _ _ _ _ rfl | exact .indexAddr _ _ _ | exact .len _ _ (by kernel_rfl) | exact .field _ _ _ | exact .extract _ _ | exact .pick _ _ _ | exact .build _ _ | exact .slice _ _ _ _ _ | exact .unOp _ _ _ rfl | exact .index _ _ _ | exact .max _ _ _ rfl rfl | exact .min _ _ _ rfl rfl)) | with_reducible refine Calmly.gl_tf (fun _ _ => ?_) | with_reducible refine Calmly.gl_ft (fun _ _ => ?_)) | ((with_reducible refine Calmly.is_eff ?_); refine Calmly.mix_eff rfl (fun _ _ => ?_)) | ((with_reducible refine Calmly.is_gf ?_); refine Calmly.mix_gf rfl rfl rfl ?_; first | with_reducible refine Calmly.gf_tt (fun _ _ => ?_) | with_reducible refine Calmly.gf_ff (fun _ _ => ?_) | with_reducible refine Calmly.gf_tf (kept_of hk) (fun _ _ => ?_) | with_reducible refine Calmly.gf_ft (kept_of hk) (fun _ _ => ?_)) | ((with_reducible refine Calmly.is_tail ?_); first | refine Calmly.mix_tail_nil ?_ | refine Calmly.mix_tail rfl (fun _ _ => ?_)) | ((with_reducible refine Calmly.is_kept ?_); refine ⟨kept_of hk, ?_⟩) | (with_reducible refine Calmly.mix_alt ?_ ?_))
  refine (WideMul_any s2 s3 a2 a3 n2 n3 c2 c3 (p.den : Int) q.num _ H2 H3 (by omega) (by omega)).mono ?_
  rintro e _ ⟨ks, ka, kn, kc, rfl, ⟨kh, kV⟩, hs⟩
  replace hk := step_of hk hs
  replace gV := gV.keep hs
  replace X3 := blk_keep X3 hs
  replace BW := BW.trans (hs.mono BW.size)
  go_wp2_with (first | ((with_reducible refine Calmly.is_fl ?_); refine Calmly.mix_fl rfl ?_ (fun _ _ => ?_); (first | exact .move _ | exact .load _ _ | exact .fieldAddr _ _ _ (by kernel_rfl) | exact .assign _ | exact .binOp _ _ _ _ _ rfl | exact .indexAddr _ _ _ | exact .len _ _ (by kernel_rfl) | exact .field _ _ _ | exact .extract _ _ | exact .pick _ _ _ | exact .build _ _ | exact .slice _ _ _ _ _ | exact .unOp _ _ _ rfl | exact .index _ _ _ | exact .max _ _ _ rfl rfl | exact .min _ _ _ rfl rfl)) | ((with_reducible refine Calmly.is_gl ?_); refine Calmly.mix_gl rfl rfl rfl ?_; first | ((first | with_reducible refine Calmly.gl_tt ?_ (fun _ _ => ?_) | with_reducible refine Calmly.gl_ff ?_ (fun _ _ => ?_)); (first | exact .move _ | exact .load _ _ | exact .fieldAddr _ _ _ (by kernel_rfl) | exact .assign _ | exact .binOp _ _ _ _ _ rfl | exact .indexAddr _ _ _ | exact .len _ _ (by kernel_rfl) | exact .field _ _ _ | exact .extract _ _ | exact .pick _ _ _ | exact .build _ _ | exact .slice _ _ _ _ _ | exact .unOp _ _ _ rfl | exact .index _ _ _ | exact .max _ _ _ rfl rfl | exact .min _ _ _ rfl rfl)) | with_reducible refine Calmly.gl_tf (fun _ _ => ?_) | with_reducible refine Calmly.gl_ft (fun _ _ => ?_)) | ((with_reducible refine Calmly.is_eff ?_); refine Calmly.mix_eff rfl (fun _ _ => ?_)) | ((with_reducible refine Calmly.is_gf ?_); refine Calmly.mix_gf rfl rfl rfl ?_; first | with_reducible refine Calmly.gf_tt (fun _ _ => ?_) | with_reducible refine Calmly.gf_ff (fun _ _ => ?_) | with_reducible refine Calmly.gf_tf (kept_of hk) (fun _ _ => ?_) | with_reducible refine Calmly.gf_ft (kept_of hk) (fun _ _ => ?_)) | ((with_reducible refine Calmly.is_tail ?_); first | refine Calmly.mix_tail_nil ?_ | refine Calmly.mix_tail rfl (fun _ _ => ?_)) | ((with_reducible refine Calmly.is_kept ?_); refine ⟨kept_of hk, ?_⟩) | (with_reducible refine Calmly.mix_alt ?_ ?_))
  refine (RatioMake_any gs ks ga ka gn kn gc kc (p.num * (q.den : Int)) ((p.den : Int) * q.num) _ gV kV (Int.mul_ne_zero (by have := p.den_pos; omega) hzn) (by omega) (by omega)).mono ?_
  rintro e _ ⟨t, b, k, g, t', b', k', g', rfl, ⟨hk1, hk2, VR⟩, hs⟩
  replace hk := step_of hk hs
  replace X3 := blk_keep X3 hs
  replace BW := BW.trans (hs.mono BW.size)
  have hq : Rat.divInt (p.num * (q.den : Int)) ((p.den : Int) * q.num) = p / q := by
    rw [Rat.div_def, Rat.inv_def]
    conv => rhs; rw [← Rat.num_divInt_den p]
    rw [Rat.divInt_mul_divInt]
  rw [hq] at VR
  clear hq
  have x0 := cell_block X3 0
  have x1 := cell_block X3 1
  have x2 := cell_block X3 2
  have x3 := cell_block X3 3
  have f0 := frozen_block X3 0
  have f1 := frozen_block X3 1
  have f2 := frozen_block X3 2
  have f3 := frozen_block X3 3
  obtain ⟨X4, W1, W2⟩ := ratFin X3 VR.1 VR.2
  have r0 := cell_block X4 0
  have r1 := cell_block X4 1
  have r2 := cell_block X4 2
  have r3 := cell_block X4 3
  go_wp2_with (first | ((with_reducible refine Calmly.is_fl ?_); refine Calmly.mix_fl rfl ?_ (fun _ _ => ?_); (first | exact .move _ | exact .load _ _ | exact .fieldAddr _ _ _ (by kernel_rfl) | exact .assign _ | exact .binOp _ _ _ _ _ rfl | exact .indexAddr _ _ _ | exact .len _ _ (by kernel_rfl) | exact .field _ _ _ | exact .extract _ _ | exact .pick _ _ _ | exact .build _ _ | exact .slice _ _ _ _ _ | exact .unOp _ _ _ rfl | exact .index _ _ _ | exact .max _ _ _ rfl rfl | exact .min _ _ _ rfl rfl)) | ((with_reducible refine Calmly.is_gl ?_); refine Calmly.mix_gl rfl rfl rfl ?_; first | ((first | with_reducible refine Calmly.gl_tt ?_ (fun _ _ => ?_) | with_reducible refine Calmly.gl_ff ?_ (fun _ _ => ?_)); (first | exact .move _ | exact .load _ _ | exact .fieldAddr _ _ _ (by kernel_rfl) | exact .assign _ | exact .binOp _ _ _ _ _ rfl | exact .indexAddr _ _ _ | exact .len _ _ (by kernel_rfl) | exact .field _ _ _ | exact .extract _ _ | exact .pick _ _ _ | exact .build _ _ | exact .slice _ _ _ _ _ | exact .unOp _ _ _ rfl | exact .index _ _ _ | exact .max _ _ _ rfl rfl | exact .min _ _ _ rfl rfl)) | with_reducible refine Calmly.gl_tf (fun _ _ => ?_) | with_reducible refine Calmly.gl_ft (fun _ _ => ?_)) | ((with_reducible refine Calmly.is_eff ?_); refine Calmly.mix_eff rfl (fun _ _ => ?_)) | ((with_reducible refine Calmly.is_gf ?_); refine Calmly.mix_gf rfl rfl rfl ?_; first | with_reducible refine Calmly.gf_tt (fun _ _ => ?_) | with_reducible refine Calmly.gf_ff (fun _ _ => ?_) | with_reducible refine Calmly.gf_tf (kept_of hk) (fun _ _ => ?_) | with_reducible refine Calmly.gf_ft (kept_of hk) (fun _ _ => ?_)) | ((with_reducible refine Calmly.is_tail ?_); first | refine Calmly.mix_tail_nil ?_ | refine Calmly.mix_tail rfl (fun _ _ => ?_)) | ((with_reducible refine Calmly.is_kept ?_); refine ⟨kept_of hk, ?_⟩) | (with_reducible refine Calmly.mix_alt ?_ ?_))
  refine bodyPost_ret (v := .agg #[.int .i64 t, .slice b k g, .int .i64 t', .slice b' k' g']) (by simp [results, Tryz.results89, go_sem, r0, r1, r2, r3]) rfl ⟨⟨_, _, _, _, _, _, _, _, rfl, by omega, by omega, ?_⟩, below4 BW (by omega)⟩
  exact ⟨W1, W2⟩

set_option maxRecDepth 100000 in
set_option maxHeartbeats 2000000 in
theorem RatioAdd_any (s1 : Int) (a1 : Option Addr) (n1 c1 : Nat) (s2 : Int) (a2 : Option Addr) (n2 c2 : Nat) (s3 : Int) (a3 : Option Addr) (n3 c3 : Nat) (s4 : Int) (a4 : Option Addr) (n4 c4 : Nat) (L : Nat) (p q : Rat) (w : World) (h : RatV w s1 a1 n1 c1 s2 a2 n2 c2 p) (h' : RatV w s3 a3 n3 c3 s4 a4 n4 c4 q) (hl1 : n1 ≤ L) (hl2 : n2 ≤ L) (hl3 : n3 ≤ L) (hl4 : n4 ≤ L) (hL : L ≤ 1000000000) :
    Calls Tryz.prog 38 #[.agg #[.int .i64 s1, .slice a1 n1 c1, .int .i64 s2, .slice a2 n2 c2], .agg #[.int .i64 s3, .slice a3 n3 c3, .int .i64 s4, .slice a4 n4 c4]] w fun e w' => RV (2 * L + 6) (p + q) e w' ∧ Below w.heap.size w w' := by
  have hb3 : Below w.heap.size w (((w.alloc (.cells #[.int .i64 s1, .slice a1 n1 c1, .int .i64 s2, .slice a2 n2 c2] 80)).alloc (.cells #[.int .i64 s3, .slice a3 n3 c3, .int .i64 s4, .slice a4 n4 c4] 80)).alloc (.cells #[.int .i64 0, .slice none 0 0, .int .i64 0, .slice none 0 0] 80)) := (((Below.refl _ _).alloc (Nat.le_refl _) _).alloc (by simp) _).alloc (by simp; omega) _
  obtain ⟨X1, X2, X3⟩ := box3r (w := w) (o := (.cells #[.int .i64 s1, .slice a1 n1 c1, .int .i64 s2, .slice a2 n2 c2] 80)) (o' := (.cells #[.int .i64 s3, .slice a3 n3 c3, .int .i64 s4, .slice a4 n4 c4] 80)) (o'' := (.cells #[.int .i64 0, .slice none 0 0, .int .i64 0, .slice none 0 0] 80)) (Below.refl _ (((w.alloc (.cells #[.int .i64 s1, .slice a1 n1 c1, .int .i64 s2, .slice a2 n2 c2] 80)).alloc (.cells #[.int .i64 s3, .slice a3 n3 c3, .int .i64 s4, .slice a4 n4 c4] 80)).alloc (.cells #[.int .i64 0, .slice none 0 0, .int .i64 0, .slice none 0 0] 80)).drew)
  have H1 := h.1.keep hb3.drew
  have H2 := h.2.keep hb3.drew
  have H3 := h'.1.keep hb3.drew
  have H4 := h'.2.keep hb3.drew
  have BW := hb3.drew
  clear hb3
  have sX := blk_lt X3
  go_enter Tryz.func38, Tryz.ntmps38
  go_wp2_with fail
  refine Calmly.wp_region_mix 17 (.fl 0 <| .fl 1 <| .fl 2 <| .fl 3 <| .fl 5 <| .fl 6 <| .fl 7 <| .fl 8 <| .fl 11 <| .fl 12 <| .fl 13 <| .fl 14 <| .eff 4 <| .eff 9 <| .eff 10 <| .eff 15 <| .eff 16 <| .tail [17]) (by kernel_rfl) (by kernel_rfl) ?_
  generalize World.drew (World.alloc (World.alloc (World.alloc w _) _) _) = v at X1 X2 X3 H1 H2 H3 H4 BW sX ⊢
  have y0 := cell_block X1 0
  have y1 := cell_block X1 1
  have y2 := cell_block X1 2
  have y3 := cell_block X1 3
  have u0 := cell_block X2 0
  have u1 := cell_block X2 1
  have u2 := cell_block X2 2
  have u3 := cell_block X2 3
  have hk := Below.refl v.heap.size v
  go_wp2_with (first | ((with_reducible refine Calmly.is_fl ?_); refine Calmly.mix_fl rfl ?_ (fun _ _ => ?_); (first | exact .move _ | exact .load _ _ | exact .fieldAddr _ _ _ (by kernel_rfl) | exact .assign _ | exact .binOp _ _ _ _ _ rfl | exact .indexAddr _ _ _ | exact .len _ _ (by kernel_rfl) | exact .field _ _ _ | exact .extract _ _ | exact .pick _ _ _ | exact .build _ _ | exact .slice _ _ _ _ _ | exact .unOp _ _ _ rfl | exact .index _ _ _ | exact .max _ _ _ rfl rfl | exact .min _ _ _ rfl rfl)) | ((with_reducible refine Calmly.is_gl ?_); refine Calmly.mix_gl rfl rfl rfl ?_; first | ((first | with_reducible refine Calmly.gl_tt ?_ (fun _ _ => ?_) | with_reducible refine Calmly.gl_ff ?_ (fun _ _ => ?_)); (first | exact .move _ | exact .load _ _ | exact .fieldAddr _ _ _ (by kernel_rfl) | exact .assign _ | exact .binOp _ _ _ _ _ rfl | exact .indexAddr _ _ _ | exact .len _ _ (by kernel_rfl) | exact .field _ _ _ | exact .extract _ _ | exact .pick _ _ _ | exact .build _ _ | exact .slice _ _ _ _ _ | exact .unOp _ _ _ rfl | exact .index _ _ _ | exact .max _ _ _ rfl rfl | exact .min _ _ _ rfl rfl)) | with_reducible refine Calmly.gl_tf (fun _ _ => ?_) | with_reducible refine Calmly.gl_ft (fun _ _ => ?_)) | ((with_reducible refine Calmly.is_eff ?_); refine Calmly.mix_eff rfl (fun _ _ => ?_)) | ((with_reducible refine Calmly.is_gf ?_); refine Calmly.mix_gf rfl rfl rfl ?_; first | with_reducible refine Calmly.gf_tt (fun _ _ => ?_) | with_reducible refine Calmly.gf_ff (fun _ _ => ?_) | with_reducible refine Calmly.gf_tf (kept_of hk) (fun _ _ => ?_) | with_reducible refine Calmly.gf_ft (kept_of hk) (fun _ _ => ?_)) | ((with_reducible refine Calmly.is_tail ?_); first | refine Calmly.mix_tail_nil ?_ | refine Calmly.mix_tail rfl (fun _ _ => ?_)) | ((with_reducible refine Calmly.is_kept ?_); refine ⟨kept_of hk, ?_⟩) | (with_reducible refine Calmly.mix_alt ?_ ?_))
  refine (WideMul_any s1 s4 a1 a4 n1 n4 c1 c4 p.num (q.den : Int) _ H1 H4 (by omega) (by omega)).mono ?_
  rintro e _ ⟨gs, ga, gn, gc, rfl, ⟨gh, gV⟩, hs⟩
  replace hk := step_of hk hs
  replace H2 := H2.keep hs
  replace H3 := H3.keep hs
  replace H4 := H4.keep hs
  replace X3 := blk_keep X3 hs
  replace BW := BW.trans (hs.mono BW.size)
  go_wp2_with (first | ((with_reducible refine Calmly.is_fl ?_); refine Calmly.mix_fl rfl ?_ (fun _ _ => ?_); (first | exact .move _ | exact .load _ _ | exact .fieldAddr _ _ _ (by kernel_rfl) | exact .assign _ | exact .binOp _ _ _ _ _ rfl | exact .indexAddr _ _ _ | exact .len _ _ (by kernel_rfl) | exact .field _ _ _ | exact .extract _ _ | exact .pick _ _ _ | exact .build _ _ | exact .slice _ _ _ _ _ | exact .unOp _ _ _ rfl | exact .index _ _ _ | exact .max _ _ _ rfl rfl | exact .min _ _ _ rfl rfl)) | ((with_reducible refine Calmly.is_gl ?_); refine Calmly.mix_gl rfl rfl rfl ?_; first | ((first | with_reducible refine Calmly.gl_tt ?_ (fun _ _ => ?_) | with_reducible refine Calmly.gl_ff ?_ (fun _ _ => ?_)); (first | exact .move _ | exact .load _ _ | exact .fieldAddr _ _ _ (by kernel_rfl) | exact .assign _ | exact .binOp _ _ _ _ _ rfl | exact .indexAddr _ _ _ | exact .len _ _ (by kernel_rfl) | exact .field _ _ _ | exact .extract _ _ | exact .pick _ _ _ | exact .build _ _ | exact .slice _ _ _ _ _ | exact .unOp _ _ _ rfl | exact .index _ _ _ | exact .max _ _ _ rfl rfl | exact .min _ _ _ rfl rfl)) | with_reducible refine Calmly.gl_tf (fun _ _ => ?_) | with_reducible refine Calmly.gl_ft (fun _ _ => ?_)) | ((with_reducible refine Calmly.is_eff ?_); refine Calmly.mix_eff rfl (fun _ _ => ?_)) | ((with_reducible refine Calmly.is_gf ?_); refine Calmly.mix_gf rfl rfl rfl ?_; first | with_reducible refine Calmly.gf_tt (fun _ _ => ?_) | with_reducible refine Calmly.gf_ff (fun _ _ => ?_) | with_reducible refine Calmly.gf_tf (kept_of hk) (fun _ _ => ?_) | with_reducible refine Calmly.gf_ft (kept_of hk) (fun _ _ => ?_)) | ((with_reducible refine Calmly.is_tail ?_); first | refine Calmly.mix_tail_nil ?_ | refine Calmly.mix_tail rfl (fun _ _ => ?_)) | ((with_reducible refine Calmly.is_kept ?_); refine ⟨kept_of hk, ?_⟩) | (with_reducible refine Calmly.mix_alt ?_ ?_))
  refine (WideMul_any s3 s2 a3 a2 n3 n2 c3 c2 q.num (p.den : Int) _ H3 H2 (by omega) (by omega)).mono ?_
  rintro e _ ⟨ks, ka, kn, kc, rfl, ⟨kh, kV⟩, hs⟩
  replace hk := step_of hk hs
  replace gV := gV.keep hs
  replace H2 := H2.keep hs
  replace H4 := H4.keep hs
  replace X3 := blk_keep X3 hs
  replace BW := BW.trans (hs.mono BW.size)
  go_wp2_with (first | ((with_reducible refine Calmly.is_fl ?_); refine Calmly.mix_fl rfl ?_ (fun _ _ => ?_); (first | exact .move _ | exact .load _ _ | exact .fieldAddr _ _ _ (by kernel_rfl) | exact .assign _ | exact .binOp _ _ _ _ _ rfl | exact .indexAddr _ _ _ | exact .len _ _ (by kernel_rfl) | exact .field _ _ _ | exact .extract _ _ | exact .pick _ _ _ | exact .build _ _ | exact .slice _ _ _ _ _ | exact .unOp _ _ _ rfl | exact .index _ _ _ | exact .max _ _ _ rfl rfl | exact .min _ _ _ rfl rfl)) | ((with_reducible refine Calmly.is_gl ?_); refine Calmly.mix_gl rfl rfl rfl ?_; first | ((first | with_reducible refine Calmly.gl_tt ?_ (fun _ _ => ?_) | with_reducible refine Calmly.gl_ff ?_ (fun _ _ => ?_)); (first | exact .move _ | exact .load _ _ | exact .fieldAddr _ _ _ (by kernel_rfl) | exact .assign _ | exact .binOp _ _ _ _ _ rfl | exact .indexAddr _ _ _ | exact .len _ _ (by kernel_rfl) | exact .field _ _ _ | exact .extract _ _ | exact .pick _ _ _ | exact .build _ _ | exact .slice _ _ _ _ _ | exact .unOp _ _ _ rfl | exact .index _ _ _ | exact .max _ _ _ rfl rfl | exact .min _ _ _ rfl rfl)) | with_reducible refine Calmly.gl_tf (fun _ _ => ?_) | with_reducible refine Calmly.gl_ft (fun _ _ => ?_)) | ((with_reducible refine Calmly.is_eff ?_); refine Calmly.mix_eff rfl (fun _ _ => ?_)) | ((with_reducible refine Calmly.is_gf ?_); refine Calmly.mix_gf rfl rfl rfl ?_; first | with_reducible refine Calmly.gf_tt (fun _ _ => ?_) | with_reducible refine Calmly.gf_ff (fun _ _ => ?_) | with_reducible refine Calmly.gf_tf (kept_of hk) (fun _ _ => ?_) | with_reducible refine Calmly.gf_ft (kept_of hk) (fun _ _ => ?_)) | ((with_reducible refine Calmly.is_tail ?_); first | refine Calmly.mix_tail_nil ?_ | refine Calmly.mix_tail rfl (fun _ _ => ?_)) | ((with_reducible refine Calmly.is_kept ?_); refine ⟨kept_of hk, ?_⟩) | (with_reducible refine Calmly.mix_alt ?_ ?_))
  refine (WideAdd_any gs ks ga ka gn kn gc kc (p.num * (q.den : Int)) (q.num * (p.den : Int)) _ gV kV (by omega) (by omega)).mono ?_
  rintro e _ ⟨fs, fa, fn, fc, rfl, ⟨fh, fV⟩, hs⟩
  replace hk := step_of hk hs
  replace H2 := H2.keep hs
  replace H4 := H4.keep hs
  replace X3 := blk_keep X3 hs
  replace BW := BW.trans (hs.mono BW.size)
  go_wp2_with (first | ((with_reducible refine Calmly.is_fl ?_); refine Calmly.mix_fl rfl ?_ (fun _ _ => ?_); (first | exact .move _ | exact .load _ _ | exact .fieldAddr _ _ _ (by kernel_rfl) | exact .assign _ | exact .binOp _ _ _ _ _ rfl | exact .indexAddr _ _ _ | exact .len _ _ (by kernel_rfl) | exact .field _ _ _ | exact .extract _ _ | exact .pick _ _ _ | exact .build _ _ | exact .slice _ _ _ _ _ | exact .unOp _ _ _ rfl | exact .index _ _ _ | exact .max _ _ _ rfl rfl | exact .min _ _ _ rfl rfl)) | ((with_reducible refine Calmly.is_gl ?_); refine Calmly.mix_gl rfl rfl rfl ?_; first | ((first | with_reducible refine Calmly.gl_tt ?_ (fun _ _ => ?_) | with_reducible refine Calmly.gl_ff ?_ (fun _ _ => ?_)); (first | exact .move _ | exact .load _ _ | exact .fieldAddr _ _ _ (by kernel_rfl) | exact .assign _ | exact .binOp _ _ _ _ _ rfl | exact .indexAddr _ _ _ | exact .len _ _ (by kernel_rfl) | exact .field _ _ _ | exact .extract _ _ | exact .pick _ _ _ | exact .build _ _ | exact .slice _ _ _ _ _ | exact .unOp _ _ _ rfl | exact .index _ _ _ | exact .max _ _ _ rfl rfl | exact .min _ _ _ rfl rfl)) | with_reducible refine Calmly.gl_tf (fun _ _ => ?_) | with_reducible refine Calmly.gl_ft (fun _ _ => ?_)) | ((with_reducible refine Calmly.is_eff ?_); refine Calmly.mix_eff rfl (fun _ _ => ?_)) | ((with_reducible refine Calmly.is_gf ?_); refine Calmly.mix_gf rfl rfl rfl ?_; first | with_reducible refine Calmly.gf_tt (fun _ _ => ?_) | with_reducible refine Calmly.gf_ff (fun _ _ => ?_) | with_reducible refine Calmly.gf_tf (kept_of hk) (fun _ _ => ?_) | with_reducible refine Calmly.gf_ft (kept_of hk) (fun _ _ => ?_)) | ((with_reducible refine Calmly.is_tail ?_); first | refine Calmly.mix_tail_nil ?_ | refine Calmly.mix_tail rfl (fun _ _ => ?_)) | ((with_reducible refine Calmly.is_kept ?_); refine ⟨kept_of hk, ?_⟩) | (with_reducible refine Calmly.mix_alt ?_ ?_))
  refine (WideMul_any s2 s4 a2 a4 n2 n4 c2 c4 (p.den : Int) (q.den : Int) _ H2 H4 (by omega) (by omega)).mono ?_
  rintro e _ ⟨ds, da, dn, dc, rfl, ⟨dh, dV⟩, hs⟩
  replace hk := step_of hk hs
  replace fV := fV.keep hs
  replace X3 := blk_keep X3 hs
  replace BW := BW.trans (hs.mono BW.size)
  go_wp2_with (first | ((with_reducible refine Calmly.is_fl ?_); refine Calmly.mix_fl rfl ?_ (fun _ _ => ?_); (first | exact .move _ | exact .load _ _ | exact .fieldAddr _ _ _ (by kernel_rfl) | exact .assign _ | exact .binOp _ _ _ _ _ rfl | exact .indexAddr _ _ _ | exact .len _ _ (by kernel_rfl) | exact .field _ _ _ | exact .extract _ _ | exact .pick _ _ _ | exact .build _ _ | exact .slice _ _ _ _ _ | exact .unOp _ _ _ rfl | exact .index _ _ _ | exact .max _ _ _ rfl rfl | exact .min _ _ _ rfl rfl)) | ((with_reducible refine Calmly.is_gl ?_); refine Calmly.mix_gl rfl rfl rfl ?_; first | ((first | with_reducible refine Calmly.gl_tt ?_ (fun _ _ => ?_) | with_reducible refine Calmly.gl_ff ?_ (fun _ _ => ?_)); (first | exact .move _ | exact .load _ _ | exact .fieldAddr _ _ _ (by kernel_rfl) | exact .assign _ | exact .binOp _ _ _ _ _ rfl | exact .indexAddr _ _ _ | exact .len _ _ (by kernel_rfl) | exact .field _ _ _ | exact .extract _ _ | exact .pick _ _ _ | exact .build _ _ | exact .slice _ _ _ _ _ | exact .unOp _ _ _ rfl | exact .index _ _ _ | exact .max _ _ _ rfl rfl | exact .min _ _ _ rfl rfl)) | with_reducible refine Calmly.gl_tf (fun _ _ => ?_) | with_reducible refine Calmly.gl_ft (fun _ _ => ?_)) | ((with_reducible refine Calmly.is_eff ?_); refine Calmly.mix_eff rfl (fun _ _ => ?_)) | ((with_reducible refine Calmly.is_gf ?_); refine Calmly.mix_gf rfl rfl rfl ?_; first | with_reducible refine Calmly.gf_tt (fun _ _ => ?_) | with_reducible refine Calmly.gf_ff (fun _ _ => ?_) | with_reducible refine Calmly.gf_tf (kept_of hk) (fun _ _ => ?_) | with_reducible refine Calmly.gf_ft (kept_of hk) (fun _ _ => ?_)) | ((with_reducible refine Calmly.is_tail ?_); first | refine Calmly.mix_tail_nil ?_ | refine Calmly.mix_tail rfl (fun _ _ => ?_)) | ((with_reducible refine Calmly.is_kept ?_); refine ⟨kept_of hk, ?_⟩) | (with_reducible refine Calmly.mix_alt ?_ ?_))
  refine (RatioMake_any fs ds fa da fn dn fc dc (p.num * (q.den : Int) + q.num * (p.den : Int)) ((p.den : Int) * (q.den : Int)) _ fV dV (Int.ne_of_gt (Int.mul_pos (by have := p.den_pos; omega) (by have := q.den_pos; omega))) (by omega) (by omega)).mono ?_
  rintro e _ ⟨t, b, k, g, t', b', k', g', rfl, ⟨hk1, hk2, VR⟩, hs⟩
  replace hk := step_of hk hs
  replace X3 := blk_keep X3 hs
  replace BW := BW.trans (hs.mono BW.size)
  have hq : Rat.divInt (p.num * (q.den : Int) + q.num * (p.den : Int)) ((p.den : Int) * (q.den : Int)) = p + q := by
    rw [Rat.add_def', ← Rat.divInt_ofNat]
    simp
  rw [hq] at VR
  clear hq
  have x0 := cell_block X3 0
  have x1 := cell_block X3 1
  have x2 := cell_block X3 2
  have x3 := cell_block X3 3
  have f0 := frozen_block X3 0
  have f1 := frozen_block X3 1
  have f2 := frozen_block X3 2
  have f3 := frozen_block X3 3
  obtain ⟨X4, W1, W2⟩ := ratFin X3 VR.1 VR.2
  have r0 := cell_block X4 0
  have r1 := cell_block X4 1
  have r2 := cell_block X4 2
  have r3 := cell_block X4 3
  go_wp2_with (first | ((with_reducible refine Calmly.is_fl ?_); refine Calmly.mix_fl rfl ?_ (fun _ _ => ?_); (first | exact .move _ | exact .load _ _ | exact .fieldAddr _ _ _ (by kernel_rfl) | exact .assign _ | exact .binOp _ _ _ _ _ rfl | exact .indexAddr _ _ _ | exact .len _ _ (by kernel_rfl) | exact .field _ _ _ | exact .extract _ _ | exact .pick _ _ _ | exact .build _ _ | exact .slice _ _ _ _ _ | exact .unOp _ _ _ rfl | exact .index _ _ _ | exact .max _ _ _ rfl rfl | exact .min _ _ _ rfl rfl)) | ((with_reducible refine Calmly.is_gl ?_); refine Calmly.mix_gl rfl rfl rfl ?_; first | ((first | with_reducible refine Calmly.gl_tt ?_ (fun _ _ => ?_) | with_reducible refine Calmly.gl_ff ?_ (fun _ _ => ?_)); (first | exact .move _ | exact .load _ _ | exact .fieldAddr _ _ _ (by kernel_rfl) | exact .assign _ | exact .binOp _ _ _ _ _ rfl | exact .indexAddr _ _ _ | exact .len _ _ (by kernel_rfl) | exact .field _ _ _ | exact .extract _ _ | exact .pick _ _ _ | exact .build _ _ | exact .slice _ _ _ _ _ | exact .unOp _ _ _ rfl | exact .index _ _ _ | exact .max _ _ _ rfl rfl | exact .min _ _ _ rfl rfl)) | with_reducible refine Calmly.gl_tf (fun _ _ => ?_) | with_reducible refine Calmly.gl_ft (fun _ _ => ?_)) | ((with_reducible refine Calmly.is_eff ?_); refine Calmly.mix_eff rfl (fun _ _ => ?_)) | ((with_reducible refine Calmly.is_gf ?_); refine Calmly.mix_gf rfl rfl rfl ?_; first | with_reducible refine Calmly.gf_tt (fun _ _ => ?_) | with_reducible refine Calmly.gf_ff (fun _ _ => ?_) | with_reducible refine Calmly.gf_tf (kept_of hk) (fun _ _ => ?_) | with_reducible refine Calmly.gf_ft (kept_of hk) (fun _ _ => ?_)) | ((with_reducible refine Calmly.is_tail ?_); first | refine Calmly.mix_tail_nil ?_ | refine Calmly.mix_tail rfl (fun _ _ => ?_)) | ((with_reducible refine Calmly.is_kept ?_); refine ⟨kept_of hk, ?_⟩) | (with_reducible refine Calmly.mix_alt ?_ ?_))
  refine bodyPost_ret (v := .agg #[.int .i64 t, .slice b k g, .int .i64 t', .slice b' k' g']) (by simp [results, Tryz.results38, go_sem, r0, r1, r2, r3]) rfl ⟨⟨_, _, _, _, _, _, _, _, rfl, by omega, by omega, ?_⟩, below4 BW (by omega)⟩
  exact ⟨W1, W2⟩

set_option maxRecDepth 100000 in
set_option maxHeartbeats 2000000 in
theorem RatioSub_any (s1 : Int) (a1 : Option Addr) (n1 c1 : Nat) (s2 : Int) (a2 : Option Addr) (n2 c2 : Nat) (s3 : Int) (a3 : Option Addr) (n3 c3 : Nat) (s4 : Int) (a4 : Option Addr) (n4 c4 : Nat) (L : Nat) (p q : Rat) (w : World) (h : RatV w s1 a1 n1 c1 s2 a2 n2 c2 p) (h' : RatV w s3 a3 n3 c3 s4 a4 n4 c4 q) (hl1 : n1 ≤ L) (hl2 : n2 ≤ L) (hl3 : n3 ≤ L) (hl4 : n4 ≤ L) (hL : L ≤ 1000000000) :
    Calls Tryz.prog 46 #[.agg #[.int .i64 s1, .slice a1 n1 c1, .int .i64 s2, .slice a2 n2 c2], .agg #[.int .i64 s3, .slice a3 n3 c3, .int .i64 s4, .slice a4 n4 c4]] w fun e w' => RV (2 * L + 6) (p - q) e w' ∧ Below w.heap.size w w' := by
  have hb3 : Below w.heap.size w (((w.alloc (.cells #[.int .i64 s1, .slice a1 n1 c1, .int .i64 s2, .slice a2 n2 c2] 80)).alloc (.cells #[.int .i64 s3, .slice a3 n3 c3, .int .i64 s4, .slice a4 n4 c4] 80)).alloc (.cells #[.int .i64 0, .slice none 0 0, .int .i64 0, .slice none 0 0] 80)) := (((Below.refl _ _).alloc (Nat.le_refl _) _).alloc (by simp) _).alloc (by simp; omega) _
  obtain ⟨X1, X2, X3⟩ := box3r (w := w) (o := (.cells #[.int .i64 s1, .slice a1 n1 c1, .int .i64 s2, .slice a2 n2 c2] 80)) (o' := (.cells #[.int .i64 s3, .slice a3 n3 c3, .int .i64 s4, .slice a4 n4 c4] 80)) (o'' := (.cells #[.int .i64 0, .slice none 0 0, .int .i64 0, .slice none 0 0] 80)) (Below.refl _ (((w.alloc (.cells #[.int .i64 s1, .slice a1 n1 c1, .int .i64 s2, .slice a2 n2 c2] 80)).alloc (.cells #[.int .i64 s3, .slice a3 n3 c3, .int .i64 s4, .slice a4 n4 c4] 80)).alloc (.cells #[.int .i64 0, .slice none 0 0, .int .i64 0, .slice none 0 0] 80)).drew)
  have H1 := h.1.keep hb3.drew
  have H2 := h.2.keep hb3.drew
  have H3 := h'.1.keep hb3.drew
  have H4 := h'.2.keep hb3.drew
  have BW := hb3.drew
  clear hb3
  have sX := blk_lt X3
  go_enter Tryz.func46, Tryz.ntmps46
  go_wp2_with fail
  refine Calmly.wp_region_mix 4 (.fl 0 <| .fl 1 <| .eff 2 <| .eff 3 <| .tail [4]) (by kernel_rfl) (by kernel_rfl) ?_
  generalize World.drew (World.alloc (World.alloc (World.alloc w _) _) _) = v at X1 X2 X3 H1 H2 H3 H4 BW sX ⊢
  have y0 := cell_block X1 0
  have y1 := cell_block X1 1
  have y2 := cell_block X1 2
  have y3 := cell_block X1 3
  have u0 := cell_block X2 0
  have u1 := cell_block X2 1
  have u2 := cell_block X2 2
  have u3 := cell_block X2 3
  have hk := Below.refl v.heap.size v
  go_wp2_with (first | ((with_reducible refine Calmly.is_fl ?_); refine Calmly.mix_fl rfl ?_ (fun _ _ => ?_); (first | exact .move _ | exact .load _ _ | exact .fieldAddr _ _ _ (by kernel_rfl) | exact .assign _ | exact .binOp _ _ _ _ _ rfl | exact .indexAddr _ _ _ | exact .len _ _ (by kernel_rfl) | exact .field _ _ _ | exact .extract _ _ | exact .pick _ _ _ | exact .build _ _ | exact .slice _ _ _ _ _ | exact .unOp _ _ _ rfl | exact .index _ _ _ | exact .max _ _ _ rfl rfl | exact .min _ _ _ rfl rfl)) | ((with_reducible refine Calmly.is_gl ?_); refine Calmly.mix_gl rfl rfl rfl ?_; first | ((first | with_reducible refine Calmly.gl_tt ?_ (fun _ _ => ?_) | with_reducible refine Calmly.gl_ff ?_ (fun _ _ => ?_)); (first | exact .move _ | exact .load _ _ | exact .fieldAddr _ _ _ (by kernel_rfl) | exact .assign _ | exact .binOp _ _ _ _ _ rfl | exact .indexAddr _ _ _ | exact .len _ _ (by kernel_rfl) | exact .field _ _ _ | exact .extract _ _ | exact .pick _ _ _ | exact .build _ _ | exact .slice _ _ _ _ _ | exact .unOp _ _ _ rfl | exact .index _ _ _ | exact .max _ _ _ rfl rfl | exact .min _ _ _ rfl rfl)) | with_reducible refine Calmly.gl_tf (fun _ _ => ?_) | with_reducible refine Calmly.gl_ft (fun _ _ => ?_)) | ((with_reducible refine Calmly.is_eff ?_); refine Calmly.mix_eff rfl (fun _ _ => ?_)) | ((with_reducible refine Calmly.is_gf ?_); refine Calmly.mix_gf rfl rfl rfl ?_; first | with_reducible refine Calmly.gf_tt (fun _ _ => ?_) | with_reducible refine Calmly.gf_ff (fun _ _ => ?_) | with_reducible refine Calmly.gf_tf (kept_of hk) (fun _ _ => ?_) | with_reducible refine Calmly.gf_ft (kept_of hk) (fun _ _ => ?_)) | ((with_reducible refine Calmly.is_tail ?_); first | refine Calmly.mix_tail_nil ?_ | refine Calmly.mix_tail rfl (fun _ _ => ?_)) | ((with_reducible refine Calmly.is_kept ?_); refine ⟨kept_of hk, ?_⟩) | (with_reducible refine Calmly.mix_alt ?_ ?_))
  refine (RatioNeg_any s3 a3 n3 c3 s4 a4 n4 c4 L q _ ⟨H3, H4⟩ hl3 hl4).mono ?_
  rintro e _ ⟨⟨t, b, k, g, t', b', k', g', rfl, hk1, hk2, VR⟩, hs⟩
  replace hk := step_of hk hs
  replace H1 := H1.keep hs
  replace H2 := H2.keep hs
  replace X3 := blk_keep X3 hs
  replace BW := BW.trans (hs.mono BW.size)
  go_wp2_with (first | ((with_reducible refine Calmly.is_fl ?_); refine Calmly.mix_fl rfl ?_ (fun _ _ => ?_); (first | exact .move _ | exact .load _ _ | exact .fieldAddr _ _ _ (by kernel_rfl) | exact .assign _ | exact .binOp _ _ _ _ _ rfl | exact .indexAddr _ _ _ | exact .len _ _ (by kernel_rfl) | exact .field _ _ _ | exact .extract _ _ | exact .pick _ _ _ | exact .build _ _ | exact .slice _ _ _ _ _ | exact .unOp _ _ _ rfl | exact .index _ _ _ | exact .max _ _ _ rfl rfl | exact .min _ _ _ rfl rfl)) | ((with_reducible refine Calmly.is_gl ?_); refine Calmly.mix_gl rfl rfl rfl ?_; first | ((first | with_reducible refine Calmly.gl_tt ?_ (fun _ _ => ?_) | with_reducible refine Calmly.gl_ff ?_ (fun _ _ => ?_)); (first | exact .move _ | exact .load _ _ | exact .fieldAddr _ _ _ (by kernel_rfl) | exact .assign _ | exact .binOp _ _ _ _ _ rfl | exact .indexAddr _ _ _ | exact .len _ _ (by kernel_rfl) | exact .field _ _ _ | exact .extract _ _ | exact .pick _ _ _ | exact .build _ _ | exact .slice _ _ _ _ _ | exact .unOp _ _ _ rfl | exact .index _ _ _ | exact .max _ _ _ rfl rfl | exact .min _ _ _ rfl rfl)) | with_reducible refine Calmly.gl_tf (fun _ _ => ?_) | with_reducible refine Calmly.gl_ft (fun _ _ => ?_)) | ((with_reducible refine Calmly.is_eff ?_); refine Calmly.mix_eff rfl (fun _ _ => ?_)) | ((with_reducible refine Calmly.is_gf ?_); refine Calmly.mix_gf rfl rfl rfl ?_; first | with_reducible refine Calmly.gf_tt (fun _ _ => ?_) | with_reducible refine Calmly.gf_ff (fun _ _ => ?_) | with_reducible refine Calmly.gf_tf (kept_of hk) (fun _ _ => ?_) | with_reducible refine Calmly.gf_ft (kept_of hk) (fun _ _ => ?_)) | ((with_reducible refine Calmly.is_tail ?_); first | refine Calmly.mix_tail_nil ?_ | refine Calmly.mix_tail rfl (fun _ _ => ?_)) | ((with_reducible refine Calmly.is_kept ?_); refine ⟨kept_of hk, ?_⟩) | (with_reducible refine Calmly.mix_alt ?_ ?_))
  refine (RatioAdd_any s1 a1 n1 c1 s2 a2 n2 c2 t b k g t' b' k' g' L p (-q) _ ⟨H1, H2⟩ VR hl1 hl2 hk1 hk2 hL).mono ?_
  rintro e _ ⟨⟨x, y, z, o, x', y', z', o', rfl, hk3, hk4, VS⟩, hs⟩
  replace hk := step_of hk hs
  replace X3 := blk_keep X3 hs
  replace BW := BW.trans (hs.mono BW.size)
  rw [← Rat.sub_eq_add_neg] at VS
  have x0 := cell_block X3 0
  have x1 := cell_block X3 1
  have x2 := cell_block X3 2
  have x3 := cell_block X3 3
  have f0 := frozen_block X3 0
  have f1 := frozen_block X3 1
  have f2 := frozen_block X3 2
  have f3 := frozen_block X3 3
  obtain ⟨X4, W1, W2⟩ := ratFin X3 VS.1 VS.2
  have r0 := cell_block X4 0
  have r1 := cell_block X4 1
  have r2 := cell_block X4 2
  have r3 := cell_block X4 3
  go_wp2_with (first | ((with_reducible refine Calmly.is_fl ?_); refine Calmly.mix_fl rfl ?_ (fun _ _ => ?_); (first | exact .move _ | exact .load _ _ | exact .fieldAddr _ _ _ (by kernel_rfl) | exact .assign _ | exact .binOp _ _ _ _ _ rfl | exact .indexAddr _ _ _ | exact .len _ _ (by kernel_rfl) | exact .field _ _ _ | exact .extract _ _ | exact .pick _ _ _ | exact .build _ _ | exact .slice _ _ _ _ _ | exact .unOp _ _ _ rfl | exact .index _ _ _ | exact .max _ _ _ rfl rfl | exact .min _ _ _ rfl rfl)) | ((with_reducible refine Calmly.is_gl ?_); refine Calmly.mix_gl rfl rfl rfl ?_; first | ((first | with_reducible refine Calmly.gl_tt ?_ (fun _ _ => ?_) | with_reducible refine Calmly.gl_ff ?_ (fun _ _ => ?_)); (first | exact .move _ | exact .load _ _ | exact .fieldAddr _ _ _ (by kernel_rfl) | exact .assign _ | exact .binOp _ _ _ _ _ rfl | exact .indexAddr _ _ _ | exact .len _ _ (by kernel_rfl) | exact .field _ _ _ | exact .extract _ _ | exact .pick _ _ _ | exact .build _ _ | exact .slice _ _ _ _ _ | exact .unOp _ _ _ rfl | exact .index _ _ _ | exact .max _ _ _ rfl rfl | exact .min _ _ _ rfl rfl)) | with_reducible refine Calmly.gl_tf (fun _ _ => ?_) | with_reducible refine Calmly.gl_ft (fun _ _ => ?_)) | ((with_reducible refine Calmly.is_eff ?_); refine Calmly.mix_eff rfl (fun _ _ => ?_)) | ((with_reducible refine Calmly.is_gf ?_); refine Calmly.mix_gf rfl rfl rfl ?_; first | with_reducible refine Calmly.gf_tt (fun _ _ => ?_) | with_reducible refine Calmly.gf_ff (fun _ _ => ?_) | with_reducible refine Calmly.gf_tf (kept_of hk) (fun _ _ => ?_) | with_reducible refine Calmly.gf_ft (kept_of hk) (fun _ _ => ?_)) | ((with_reducible refine Calmly.is_tail ?_); first | refine Calmly.mix_tail_nil ?_ | refine Calmly.mix_tail rfl (fun _ _ => ?_)) | ((with_reducible refine Calmly.is_kept ?_); refine ⟨kept_of hk, ?_⟩) | (with_reducible refine Calmly.mix_alt ?_ ?_))
  refine bodyPost_ret (v := .agg #[.int .i64 x, .slice y z o, .int .i64 x', .slice y' z' o']) (by simp [results, Tryz.results46, go_sem, r0, r1, r2, r3]) rfl ⟨⟨_, _, _, _, _, _, _, _, rfl, hk3, hk4, ?_⟩, below4 BW (by omega)⟩
  exact ⟨W1, W2⟩

set_option maxRecDepth 100000 in
set_option maxHeartbeats 2000000 in
theorem RatioCmp_any (s1 : Int) (a1 : Option Addr) (n1 c1 : Nat) (s2 : Int) (a2 : Option Addr) (n2 c2 : Nat) (s3 : Int) (a3 : Option Addr) (n3 c3 : Nat) (s4 : Int) (a4 : Option Addr) (n4 c4 : Nat) (L : Nat) (p q : Rat) (w : World) (h : RatV w s1 a1 n1 c1 s2 a2 n2 c2 p) (h' : RatV w s3 a3 n3 c3 s4 a4 n4 c4 q) (hl1 : n1 ≤ L) (hl2 : n2 ≤ L) (hl3 : n3 ≤ L) (hl4 : n4 ≤ L) (hL : L ≤ 1000000000) :
    Calls Tryz.prog 48 #[.agg #[.int .i64 s1, .slice a1 n1 c1, .int .i64 s2, .slice a2 n2 c2], .agg #[.int .i64 s3, .slice a3 n3 c3, .int .i64 s4, .slice a4 n4 c4]] w fun e w' => e = .returned (.int .i64 (cmpI (p.num * (q.den : Int)) (q.num * (p.den : Int)))) ∧ Below w.heap.size w w' := by
  have hb3 : Below w.heap.size w ((w.alloc (.cells #[.int .i64 s1, .slice a1 n1 c1, .int .i64 s2, .slice a2 n2 c2] 80)).alloc (.cells #[.int .i64 s3, .slice a3 n3 c3, .int .i64 s4, .slice a4 n4 c4] 80)) := ((Below.refl _ _).alloc (Nat.le_refl _) _).alloc (by simp) _
  have X1 : ((w.alloc (.cells #[.int .i64 s1, .slice a1 n1 c1, .int .i64 s2, .slice a2 n2 c2] 80)).alloc (.cells #[.int .i64 s3, .slice a3 n3 c3, .int .i64 s4, .slice a4 n4 c4] 80)).drew.heap[w.heap.size]? = some (.cells #[.int .i64 s1, .slice a1 n1 c1, .int .i64 s2, .slice a2 n2 c2] 80) := blk_keep (alloc_new w (.cells #[.int .i64 s1, .slice a1 n1 c1, .int .i64 s2, .slice a2 n2 c2] 80)) ((Below.refl _ _).alloc (Nat.le_refl _) _).drew
  have X2 : ((w.alloc (.cells #[.int .i64 s1, .slice a1 n1 c1, .int .i64 s2, .slice a2 n2 c2] 80)).alloc (.cells #[.int .i64 s3, .slice a3 n3 c3, .int .i64 s4, .slice a4 n4 c4] 80)).drew.heap[w.heap.size + 1]? = some (.cells #[.int .i64 s3, .slice a3 n3 c3, .int .i64 s4, .slice a4 n4 c4] 80) := by
    have := alloc_new (w.alloc (.cells #[.int .i64 s1, .slice a1 n1 c1, .int .i64 s2, .slice a2 n2 c2] 80)) (.cells #[.int .i64 s3, .slice a3 n3 c3, .int .i64 s4, .slice a4 n4 c4] 80)
    simp only [World.size_alloc] at this
    exact this
  have H1 := h.1.keep hb3.drew
  have H2 := h.2.keep hb3.drew
  have H3 := h'.1.keep hb3.drew
  have H4 := h'.2.keep hb3.drew
  have BW := hb3.drew
  clear hb3
  go_enter Tryz.func48, Tryz.ntmps48
  go_wp2_with fail
  refine Calmly.wp_region_mix 11 (.fl 0 <| .fl 1 <| .fl 2 <| .fl 3 <| .fl 5 <| .fl 6 <| .fl 7 <| .fl 8 <| .eff 4 <| .eff 9 <| .eff 10 <| .tail [11]) (by kernel_rfl) (by kernel_rfl) ?_
  generalize World.drew (World.alloc (World.alloc w _) _) = v at X1 X2 H1 H2 H3 H4 BW ⊢
  have y0 := cell_block X1 0
  have y1 := cell_block X1 1
  have y2 := cell_block X1 2
  have y3 := cell_block X1 3
  have u0 := cell_block X2 0
  have u1 := cell_block X2 1
  have u2 := cell_block X2 2
  have u3 := cell_block X2 3
  have hk := Below.refl v.heap.size v
  go_wp2_with (first | ((with_reducible refine Calmly.is_fl ?_); refine Calmly.mix_fl rfl ?_ (fun _ _ => ?_); (first | exact .move _ | exact .load _ _ | exact .fieldAddr _ _ _ (by kernel_rfl) | exact .assign _ | exact .binOp _ _ _ _ _ rfl | exact .indexAddr _ _ _ | exact .len _ _ (by kernel_rfl) | exact .field _ _ _ | exact .extract _ _ | exact .pick _ _ _ | exact .build _ _ | exact .slice _ _ _ _ _ | exact .unOp _ _ _ rfl | exact .index _ _ _ | exact .max _ _ _ rfl rfl | exact .min _ _ _ rfl rfl)) | ((with_reducible refine Calmly.is_gl ?_); refine Calmly.mix_gl rfl rfl rfl ?_; first | ((first | with_reducible refine Calmly.gl_tt ?_ (fun _ _ => ?_) | with_reducible refine Calmly.gl_ff ?_ (fun _ _ => ?_)); (first | exact .move _ | exact .load _ _ | exact .fieldAddr _ _ _ (by kernel_rfl) | exact .assign _ | exact .binOp _ _ _ _ _ rfl | exact .indexAddr _ _ _ | exact .len _ _ (by kernel_rfl) | exact .field _ _ _ | exact .extract _ _ | exact .pick _ _ _ | exact .build _ _ | exact .slice _ _ _ _ _ | exact .unOp _ _ _ rfl | exact .index _ _ _ | exact .max _ _ _ rfl rfl | exact .min _ _ _ rfl rfl)) | with_reducible refine Calmly.gl_tf (fun _ _ => ?_) | with_reducible refine Calmly.gl_ft (fun _ _ => ?_)) | ((with_reducible refine Calmly.is_eff ?_); refine Calmly.mix_eff rfl (fun _ _ => ?_)) | ((with_reducible refine Calmly.is_gf ?_); refine Calmly.mix_gf rfl rfl rfl ?_; first | with_reducible refine Calmly.gf_tt (fun _ _ => ?_) | with_reducible refine Calmly.gf_ff (fun _ _ => ?_) | with_reducible refine Calmly.gf_tf (kept_of hk) (fun _ _ => ?_) | with_reducible refine Calmly.gf_ft (kept_of hk) (fun _ _ => ?_)) | ((with_reducible refine Calmly.is_tail ?_); first | refine Calmly.mix_tail_nil ?_ | refine Calmly.mix_tail rfl (fun _ _ => ?_)) | ((with_reducible refine Calmly.is_kept ?_); refine ⟨kept_of hk, ?_⟩) | (with_reducible refine Calmly.mix_alt ?_ ?_))
  refine (WideMul_any s1 s4 a1 a4 n1 n4 c1 c4 p.num (q.den : Int) _ H1 H4 (by omega) (by omega)).mono ?_
  rintro e _ ⟨gs, ga, gn, gc, rfl, ⟨gh, gV⟩, hs⟩
  replace hk := step_of hk hs
  replace H2 := H2.keep hs
  replace H3 := H3.keep hs
  replace BW := BW.trans (hs.mono BW.size)
  go_wp2_with (first | ((with_reducible refine Calmly.is_fl ?_); refine Calmly.mix_fl rfl ?_ (fun _ _ => ?_); (first | exact .move _ | exact .load _ _ | exact .fieldAddr _ _ _ (by kernel_rfl) | exact .assign _ | exact .binOp _ _ _ _ _ rfl | exact .indexAddr _ _ _ | exact .len _ _ (by kernel_rfl) | exact .field _ _ _ | exact .extract _ _ | exact .pick _ _ _ | exact .build _ _ | exact .slice _ _ _ _ _ | exact .unOp _ _ _ rfl | exact .index _ _ _ | exact .max _ _ _ rfl rfl | exact .min _ _ _ rfl rfl)) | ((with_reducible refine Calmly.is_gl ?_); refine Calmly.mix_gl rfl rfl rfl ?_; first | ((first | with_reducible refine Calmly.gl_tt ?_ (fun _ _ => ?_) | with_reducible refine Calmly.gl_ff ?_ (fun _ _ => ?_)); (first | exact .move _ | exact .load _ _ | exact .fieldAddr _ _ _ (by kernel_rfl) | exact .assign _ | exact .binOp _ _ _ _ _ rfl | exact .indexAddr _ _ _ | exact .len _ _ (by kernel_rfl) | exact .field _ _ _ | exact .extract _ _ | exact .pick _ _ _ | exact .build _ _ | exact .slice _ _ _ _ _ | exact .unOp _ _ _ rfl | exact .index _ _ _ | exact .max _ _ _ rfl rfl | exact .min _ _ _ rfl rfl)) | with_reducible refine Calmly.gl_tf (fun _ _ => ?_) | with_reducible refine Calmly.gl_ft (fun _ _ => ?_)) | ((with_reducible refine Calmly.is_eff ?_); refine Calmly.mix_eff rfl (fun _ _ => ?_)) | ((with_reducible refine Calmly.is_gf ?_); refine Calmly.mix_gf rfl rfl rfl ?_; first | with_reducible refine Calmly.gf_tt (fun _ _ => ?_) | with_reducible refine Calmly.gf_ff (fun _ _ => ?_) | with_reducible refine Calmly.gf_tf (kept_of hk) (fun _ _ => ?_) | with_reducible refine Calmly.gf_ft (kept_of hk) (fun _ _ => ?_)) | ((with_reducible refine Calmly.is_tail ?_); first | refine Calmly.mix_tail_nil ?_ | refine Calmly.mix_tail rfl (fun _ _ => ?_)) | ((with_reducible refine Calmly.is_kept ?_); refine ⟨kept_of hk, ?_⟩) | (with_reducible refine Calmly.mix_alt ?_ ?_))
  refine (WideMul_any s3 s2 a3 a2 n3 n2 c3 c2 q.num (p.den : Int) _ H3 H2 (by omega) (by omega)).mono ?_
  rintro e _ ⟨ks, ka, kn, kc, rfl, ⟨kh, kV⟩, hs⟩
  replace hk := step_of hk hs
  replace gV := gV.keep hs
  replace BW := BW.trans (hs.mono BW.size)
  go_wp2_with (first | ((with_reducible refine Calmly.is_fl ?_); refine Calmly.mix_fl rfl ?_ (fun _ _ => ?_); (first | exact .move _ | exact .load _ _ | exact .fieldAddr _ _ _ (by kernel_rfl) | exact .assign _ | exact .binOp _ _ _ _ _ rfl | exact .indexAddr _ _ _ | exact .len _ _ (by kernel_rfl) | exact .field _ _ _ | exact .extract _ _ | exact .pick _ _ _ | exact .build _ _ | exact .slice _ _ _ _ _ | exact .unOp _ _ _ rfl | exact .index _ _ _ | exact .max _ _ _ rfl rfl | exact .min _ _ _ rfl rfl)) | ((with_reducible refine Calmly.is_gl ?_); refine Calmly.mix_gl rfl rfl rfl ?_; first | ((first | with_reducible refine Calmly.gl_tt ?_ (fun _ _ => ?_) | with_reducible refine Calmly.gl_ff ?_ (fun _ _ => ?_)); (first | exact .move _ | exact .load _ _ | exact .fieldAddr _ _ _ (by kernel_rfl) | exact .assign _ | exact .binOp _ _ _ _ _ rfl | exact .indexAddr _ _ _ | exact .len _ _ (by kernel_rfl) | exact .field _ _ _ | exact .extract _ _ | exact .pick _ _ _ | exact .build _ _ | exact .slice _ _ _ _ _ | exact .unOp _ _ _ rfl | exact .index _ _ _ | exact .max _ _ _ rfl rfl | exact .min _ _ _ rfl rfl)) | with_reducible refine Calmly.gl_tf (fun _ _ => ?_) | with_reducible refine Calmly.gl_ft (fun _ _ => ?_)) | ((with_reducible refine Calmly.is_eff ?_); refine Calmly.mix_eff rfl (fun _ _ => ?_)) | ((with_reducible refine Calmly.is_gf ?_); refine Calmly.mix_gf rfl rfl rfl ?_; first | with_reducible refine Calmly.gf_tt (fun _ _ => ?_) | with_reducible refine Calmly.gf_ff (fun _ _ => ?_) | with_reducible refine Calmly.gf_tf (kept_of hk) (fun _ _ => ?_) | with_reducible refine Calmly.gf_ft (kept_of hk) (fun _ _ => ?_)) | ((with_reducible refine Calmly.is_tail ?_); first | refine Calmly.mix_tail_nil ?_ | refine Calmly.mix_tail rfl (fun _ _ => ?_)) | ((with_reducible refine Calmly.is_kept ?_); refine ⟨kept_of hk, ?_⟩) | (with_reducible refine Calmly.mix_alt ?_ ?_))
  refine (WideCmp_any gs ks ga ka gn kn gc kc (p.num * (q.den : Int)) (q.num * (p.den : Int)) _ gV kV (by omega) (by omega)).mono ?_
  rintro e _ ⟨rfl, hs⟩
  replace hk := step_of hk hs
  replace BW := BW.trans (hs.mono BW.size)
  go_wp2_with (first | ((with_reducible refine Calmly.is_fl ?_); refine Calmly.mix_fl rfl ?_ (fun _ _ => ?_); (first | exact .move _ | exact .load _ _ | exact .fieldAddr _ _ _ (by kernel_rfl) | exact .assign _ | exact .binOp _ _ _ _ _ rfl | exact .indexAddr _ _ _ | exact .len _ _ (by kernel_rfl) | exact .field _ _ _ | exact .extract _ _ | exact .pick _ _ _ | exact .build _ _ | exact .slice _ _ _ _ _ | exact .unOp _ _ _ rfl | exact .index _ _ _ | exact .max _ _ _ rfl rfl | exact .min _ _ _ rfl rfl)) | ((with_reducible refine Calmly.is_gl ?_); refine Calmly.mix_gl rfl rfl rfl ?_; first | ((first | with_reducible refine Calmly.gl_tt ?_ (fun _ _ => ?_) | with_reducible refine Calmly.gl_ff ?_ (fun _ _ => ?_)); (first | exact .move _ | exact .load _ _ | exact .fieldAddr _ _ _ (by kernel_rfl) | exact .assign _ | exact .binOp _ _ _ _ _ rfl | exact .indexAddr _ _ _ | exact .len _ _ (by kernel_rfl) | exact .field _ _ _ | exact .extract _ _ | exact .pick _ _ _ | exact .build _ _ | exact .slice _ _ _ _ _ | exact .unOp _ _ _ rfl | exact .index _ _ _ | exact .max _ _ _ rfl rfl | exact .min _ _ _ rfl rfl)) | with_reducible refine Calmly.gl_tf (fun _ _ => ?_) | with_reducible refine Calmly.gl_ft (fun _ _ => ?_)) | ((with_reducible refine Calmly.is_eff ?_); refine Calmly.mix_eff rfl (fun _ _ => ?_)) | ((with_reducible refine Calmly.is_gf ?_); refine Calmly.mix_gf rfl rfl rfl ?_; first | with_reducible refine Calmly.gf_tt (fun _ _ => ?_) | with_reducible refine Calmly.gf_ff (fun _ _ => ?_) | with_reducible refine Calmly.gf_tf (kept_of hk) (fun _ _ => ?_) | with_reducible refine Calmly.gf_ft (kept_of hk) (fun _ _ => ?_)) | ((with_reducible refine Calmly.is_tail ?_); first | refine Calmly.mix_tail_nil ?_ | refine Calmly.mix_tail rfl (fun _ _ => ?_)) | ((with_reducible refine Calmly.is_kept ?_); refine ⟨kept_of hk, ?_⟩) | (with_reducible refine Calmly.mix_alt ?_ ?_))
  go_ret
  exact ⟨rfl, BW⟩
end Go.Proofs.YtfjcfbmfpefabaaGreat
