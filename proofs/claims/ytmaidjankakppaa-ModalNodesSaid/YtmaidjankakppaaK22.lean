/- Contracts of chapter 6: what the spring below gives; numbers over their smallest common denominator. Contracts of chapter 6: numbers over their smallest common denominator. Contracts of chapter 6: the reference's errors of loads, and equal shapes. Contracts of chapter 6: whether loads are permitted. -/
import Derived.Test.YtmaidjankakppaaK21
namespace Go.Proofs.Ytmaidjankakppaa
open Go.RowKit Go.Wides
open Calmly (Kept)
attribute [local go_sem] field_wide0 field_wide1

theorem RatV.put4 {V : World} {r : Nat} {s : Int} {a : Option Addr} {m c : Nat} {s' : Int} {a' : Option Addr} {m' c' : Nat} {q : Rat} (h : RatV V s a m c s' a' m' c' q) (hT : BlkT V r 72) (x y z u : Value) :
    RatV ((((V.setCell ⟨r, 0, none⟩ x).setCell ⟨r, 1, none⟩ y).setCell ⟨r, 2, none⟩ z).setCell ⟨r, 3, none⟩ u) s a m c s' a' m' c' q :=
  ⟨(((h.1.set hT (by decide)).set (hT.set _ _) (by decide)).set ((hT.set _ _).set _ _) (by decide)).set (((hT.set _ _).set _ _).set _ _) (by decide),
    (((h.2.set hT (by decide)).set (hT.set _ _) (by decide)).set ((hT.set _ _).set _ _) (by decide)).set (((hT.set _ _).set _ _).set _ _) (by decide)⟩
theorem blk4 {V : World} {r : Nat} {e : TypeId} {u0 u1 u2 u3 : Value} (X : V.heap[r]? = some (.cells #[u0, u1, u2, u3] e)) (x y z u : Value) :
    ((((V.setCell ⟨r, 0, none⟩ x).setCell ⟨r, 1, none⟩ y).setCell ⟨r, 2, none⟩ z).setCell ⟨r, 3, none⟩ u).heap[r]? = some (.cells #[x, y, z, u] e) := blkSet (blkSet (blkSet (blkSet X 0 x) 1 y) 2 z) 3 u
theorem other4 {V : World} {r b : Nat} {o : Obj} (X : V.heap[b]? = some o) (hne : b ≠ r) (x y z u : Value) :
    ((((V.setCell ⟨r, 0, none⟩ x).setCell ⟨r, 1, none⟩ y).setCell ⟨r, 2, none⟩ z).setCell ⟨r, 3, none⟩ u).heap[b]? = some o := blk_other' (blk_other' (blk_other' (blk_other' X hne _ _) hne _ _) hne _ _) hne _ _

set_option maxRecDepth 100000 in
set_option maxHeartbeats 2000000 in
theorem rbelow_any (a b u : Option Addr) (n c m d k e' L : Nat) (ks : List Int) (qs : List Rat) (i : Nat) (B : Nat) (w : World) (h2 : SI w b m d ks) (hrow : RowQ w B u k e' L qs) (him : i < m) (hik : i < k) (hkb : 1 ≤ ks[i]?.getD 0 ∧ ks[i]?.getD 0 ≤ 20) (hL : 7 ≤ L) (hL2 : L ≤ 100000000)
    (p : Rat) (hp : ((ks[i]?.getD 0 : Int) : Rat) * (qs[i]?.getD 0 - (if i = 0 then 0 else qs[i - 1]?.getD 0)) = p) (hk9 : k ≤ 1000) :
    Calls Try.prog 126 #[.agg #[.slice a n c, .slice b m d], .slice u k e', .int .i64 (i : Int)] w fun e w' => RV (4 * L + 18) p e w' ∧ Below w.heap.size w w' := by
  have hb2 : Below w.heap.size w ((w.alloc (.cells #[.slice a n c, .slice b m d] 24)).alloc (.cells #[.int .i64 0, .slice none 0 0, .int .i64 0, .slice none 0 0] 72)) := ((Below.refl _ _).alloc (Nat.le_refl _) _).alloc (by simp) _
  have c2 := h2.cap
  have m2 := h2.max
  obtain ⟨bb, ob, rfl, hcb⟩ := h2.at_ (by omega)
  have e2 := hcb i him
  obtain ⟨kv, hkv⟩ : ∃ v, ks[i]?.getD 0 = v := ⟨_, rfl⟩
  rw [hkv] at e2 hkb hp
  clear hcb hkv
  obtain ⟨br, off, s1, a1, n1, c1, s2, a2, n2, c2', rfl, g0, g1, g2, g3, gl1, gl2, gR⟩ := hrow.at_ i hik
  obtain ⟨qi, hqi⟩ : ∃ v, qs[i]?.getD 0 = v := ⟨_, rfl⟩
  rw [hqi] at gR hp
  have hI0 : (0 : Int) ≤ (i : Int) := by omega
  have hI1 : (i : Int) < (k : Int) := by omega
  have hI2 : (i : Int) < (m : Int) := by omega
  go_enter Try.func126, Try.ntmps126
  have q0 := g0
  have q1 := g1
  have q2 := g2
  have q3 := g3
  have q4 := gR
  replace g0 := cell_keep g0 hb2
  replace g1 := cell_keep g1 hb2
  replace g2 := cell_keep g2 hb2
  replace g3 := cell_keep g3 hb2
  have BW := hb2.alloc hb2.size (.cells #[.int .i64 s1, .slice a1 n1 c1, .int .i64 s2, .slice a2 n2 c2'] 72)
  obtain ⟨X1, X2, X3⟩ := box3r (w := w) (o := .cells #[.slice a n c, .slice (some ⟨bb, ob, none⟩) m d] 24) (o' := .cells #[.int .i64 0, .slice none 0 0, .int .i64 0, .slice none 0 0] 72) (o'' := .cells #[.int .i64 s1, .slice a1 n1 c1, .int .i64 s2, .slice a2 n2 c2'] 72) (Below.refl _ (((w.alloc (.cells #[.slice a n c, .slice (some ⟨bb, ob, none⟩) m d] 24)).alloc (.cells #[.int .i64 0, .slice none 0 0, .int .i64 0, .slice none 0 0] 72)).alloc (.cells #[.int .i64 s1, .slice a1 n1 c1, .int .i64 s2, .slice a2 n2 c2'] 72)))
  have R1 := gR.keep BW
  have e20 := e2
  have hbb := cell_lt e2
  replace e2 := cell_keep e2 BW
  rcases Nat.eq_zero_or_pos i with hz | hz
  case' inl =>
    have hz1 : decide (0 < i) = false := decide_eq_false (by omega)
    have hz2 : (i : Int) ≤ 0 := by omega
    rw [if_pos hz, Rat.sub_eq_add_neg, Rat.neg_zero, Rat.add_zero] at hp
    have HZ := Lib.hid hz
    clear hz hrow
    go_wp2_with fail
    refine Calmly.wp_region_mix 8 (.fl 0 <| .fl 1 <| .fl 2 <| .fl 3 <| .fl 4 <| .fl 6 <| .eff 5 <| .eff 7 <| .tail [8]) (by kernel_rfl) (by kernel_rfl) ?_
    have hm1 : n1 ≤ 2 * L + 6 := by omega
    have hm2 : n2 ≤ 2 * L + 6 := by omega
    replace BW := BW.drew
    replace X1 := blk_keep X1 (Below.refl _ _).drew
    replace X2 := blk_keep X2 (Below.refl _ _).drew
    replace X3 := blk_keep X3 (Below.refl _ _).drew
    replace R1 := R1.keep (Below.refl _ _).drew
    replace e2 := cell_keep e2 (Below.refl _ _).drew
    clear hb2 g0 g1 g2 g3 gR
    generalize World.drew _ = v at BW X1 X2 X3 R1 e2 ⊢
    have FIN : ∃ (ts : Int) (ta : Option Addr) (tn tc : Nat) (ts' : Int) (ta' : Option Addr) (tn' tc' : Nat) (r : Rat), v.heap[w.heap.size + 1 + 1]? = some (.cells #[.int .i64 ts, .slice ta tn tc, .int .i64 ts', .slice ta' tn' tc'] 72) ∧ RatV v ts ta tn tc ts' ta' tn' tc' r ∧ (kv : Rat) * r = p ∧ tn ≤ 2 * L + 6 ∧ tn' ≤ 2 * L + 6 := ⟨_, _, _, _, _, _, _, _, _, X3, R1, hp, hm1, hm2⟩
    clear X3 R1 hm1 hm2 hp e2
  case' inr =>
    have hz1 : decide (0 < i) = true := decide_eq_true hz
    have hz2 : (0 : Int) < (i : Int) := by omega
    rw [if_neg (by omega)] at hp
    obtain ⟨br2, off2, s3, a3, n3, c3, s4, a4, n4, c4, he2, k0, k1, k2, k3, kl1, kl2, kR⟩ := hrow.at_ (i - 1) (by omega)
    cases he2
    obtain ⟨qj, hqj⟩ : ∃ v, qs[i - 1]?.getD 0 = v := ⟨_, rfl⟩
    rw [hqj] at kR hp
    clear hqj hrow
    replace k0 := cell_keep k0 BW
    replace k1 := cell_keep k1 BW
    replace k2 := cell_keep k2 BW
    replace k3 := cell_keep k3 BW
    replace kR := kR.keep BW
    have hj : ((i : Int) - 1).toNat = i - 1 := by omega
    have hj1 : (i : Int) - 1 < (k : Int) := by omega
    have hj2 : 0 ≤ (i : Int) - 1 := by omega
    replace q0 := cell_keep q0 BW
    replace q1 := cell_keep q1 BW
    replace q2 := cell_keep q2 BW
    replace q3 := cell_keep q3 BW
    go_wp2_with fail
    refine Calmly.wp_region_mix 10 (.fl 0 <| .fl 1 <| .fl 2 <| .fl 3 <| .fl 4 <| .fl 5 <| .fl 6 <| .fl 7 <| .fl 8 <| .eff 9 <| .tail [10]) (by kernel_rfl) (by kernel_rfl) ?_
    replace BW := BW.drew
    replace X1 := blk_keep X1 (Below.refl _ _).drew
    replace X2 := blk_keep X2 (Below.refl _ _).drew
    replace X3 := blk_keep X3 (Below.refl _ _).drew
    replace R1 := R1.keep (Below.refl _ _).drew
    replace kR := kR.keep (Below.refl _ _).drew
    replace e2 := cell_keep e2 (Below.refl _ _).drew
    replace q0 := cell_keep q0 (Below.refl _ _).drew
    replace q1 := cell_keep q1 (Below.refl _ _).drew
    replace q2 := cell_keep q2 (Below.refl _ _).drew
    replace q3 := cell_keep q3 (Below.refl _ _).drew
    replace k0 := cell_keep k0 (Below.refl _ _).drew
    replace k1 := cell_keep k1 (Below.refl _ _).drew
    replace k2 := cell_keep k2 (Below.refl _ _).drew
    replace k3 := cell_keep k3 (Below.refl _ _).drew
    clear hb2 g0 g1 g2 g3 gR q4
    generalize World.drew _ = V at BW X1 X2 X3 R1 e2 q0 q1 q2 q3 k0 k1 k2 k3 kR ⊢
    have hk := Below.refl V.heap.size V
    go_wp2_with (first | ((with_reducible refine Calmly.is_fl ?_); refine Calmly.mix_fl rfl ?_ (fun _ _ => ?_); (first | exact .move _ | exact .load _ _ | exact .fieldAddr _ _ _ (by kernel_rfl) | exact .assign _ | exact .binOp _ _ _ _ _ rfl | exact .indexAddr _ _ _ | exact .len _ _ (by kernel_rfl) | exact .field _ _ _ | exact .extract _ _ | exact .pick _ _ _ | exact .build _ _ | exact .slice _ _ _ _ _ | exact .unOp _ _ _ rfl | exact .index _ _ _ | exact .max _ _ _ rfl rfl | exact .min _ _ _ rfl rfl)) | ((with_reducible refine Calmly.is_gl ?_); refine Calmly.mix_gl rfl rfl rfl ?_; first | ((first | with_reducible refine Calmly.gl_tt ?_ (fun _ _ => ?_) | with_reducible refine Calmly.gl_ff ?_ (fun _ _ => ?_)); (first | exact .move _ | exact .load _ _ | exact .fieldAddr _ _ _ (by kernel_rfl) | exact .assign _ | exact .binOp _ _ _ _ _ rfl | exact .indexAddr _ _ _ | exact .len _ _ (by kernel_rfl) | exact .field _ _ _ | exact .extract _ _ | exact .pick _ _ _ | exact .build _ _ | exact .slice _ _ _ _ _ | exact .unOp _ _ _ rfl | exact .index _ _ _ | exact .max _ _ _ rfl rfl | exact .min _ _ _ rfl rfl)) | with_reducible refine Calmly.gl_tf (fun _ _ => ?_) | with_reducible refine Calmly.gl_ft (fun _ _ => ?_)) | ((with_reducible refine Calmly.is_eff ?_); refine Calmly.mix_eff rfl (fun _ _ => ?_)) | ((with_reducible refine Calmly.is_gf ?_); refine Calmly.mix_gf rfl rfl rfl ?_; first | with_reducible refine Calmly.gf_tt (fun _ _ => ?_) | with_reducible refine Calmly.gf_ff (fun _ _ => ?_) | with_reducible refine Calmly.gf_tf (kept_of hk) (fun _ _ => ?_) | with_reducible refine Calmly.gf_ft (kept_of hk) (fun _ _ => ?_)) | ((with_reducible refine Calmly.is_tail ?_); first | refine Calmly.mix_tail_nil ?_ | refine Calmly.mix_tail rfl (fun _ _ => ?_)) | ((with_reducible refine Calmly.is_kept ?_); refine ⟨kept_of hk, ?_⟩) | (with_reducible refine Calmly.mix_alt ?_ ?_))
    refine (RatioSub_any s1 a1 n1 c1 s2 a2 n2 c2' s3 a3 n3 c3 s4 a4 n4 c4 L qi qj V R1 kR gl1 gl2 kl1 kl2 (by omega)).mono ?_
    rintro e w5 ⟨⟨js, jb, jn, jc, js', jb', jn', jc', rfl, hm1, hm2, RJ⟩, hs⟩
    replace hk := step_of hk hs
    replace BW := BW.trans (hs.mono BW.size)
    replace X1 := blk_keep X1 hs
    replace X2 := blk_keep X2 hs
    replace X3 := blk_keep X3 hs
    replace e2 := cell_keep e2 hs
    have y0 := cell_block X3 0
    have y1 := cell_block X3 1
    have y2 := cell_block X3 2
    have y3 := cell_block X3 3
    have y4 := frozen_block X3 0
    have y5 := frozen_block X3 1
    have y6 := frozen_block X3 2
    have y7 := frozen_block X3 3
    clear hs q0 q1 q2 q3 k0 k1 k2 k3
    go_wp2_with (first | ((with_reducible refine Calmly.is_fl ?_); refine Calmly.mix_fl rfl ?_ (fun _ _ => ?_); (first | exact .move _ | exact .load _ _ | exact .fieldAddr _ _ _ (by kernel_rfl) | exact .assign _ | exact .binOp _ _ _ _ _ rfl | exact .indexAddr _ _ _ | exact .len _ _ (by kernel_rfl) | exact .field _ _ _ | exact .extract _ _ | exact .pick _ _ _ | exact .build _ _ | exact .slice _ _ _ _ _ | exact .unOp _ _ _ rfl | exact .index _ _ _ | exact .max _ _ _ rfl rfl | exact .min _ _ _ rfl rfl)) | ((with_reducible refine Calmly.is_gl ?_); refine Calmly.mix_gl rfl rfl rfl ?_; first | ((first | with_reducible refine Calmly.gl_tt ?_ (fun _ _ => ?_) | with_reducible refine Calmly.gl_ff ?_ (fun _ _ => ?_)); (first | exact .move _ | exact .load _ _ | exact .fieldAddr _ _ _ (by kernel_rfl) | exact .assign _ | exact .binOp _ _ _ _ _ rfl | exact .indexAddr _ _ _ | exact .len _ _ (by kernel_rfl) | exact .field _ _ _ | exact .extract _ _ | exact .pick _ _ _ | exact .build _ _ | exact .slice _ _ _ _ _ | exact .unOp _ _ _ rfl | exact .index _ _ _ | exact .max _ _ _ rfl rfl | exact .min _ _ _ rfl rfl)) | with_reducible refine Calmly.gl_tf (fun _ _ => ?_) | with_reducible refine Calmly.gl_ft (fun _ _ => ?_)) | ((with_reducible refine Calmly.is_eff ?_); refine Calmly.mix_eff rfl (fun _ _ => ?_)) | ((with_reducible refine Calmly.is_gf ?_); refine Calmly.mix_gf rfl rfl rfl ?_; first | with_reducible refine Calmly.gf_tt (fun _ _ => ?_) | with_reducible refine Calmly.gf_ff (fun _ _ => ?_) | with_reducible refine Calmly.gf_tf (kept_of hk) (fun _ _ => ?_) | with_reducible refine Calmly.gf_ft (kept_of hk) (fun _ _ => ?_)) | ((with_reducible refine Calmly.is_tail ?_); first | refine Calmly.mix_tail_nil ?_ | refine Calmly.mix_tail rfl (fun _ _ => ?_)) | ((with_reducible refine Calmly.is_kept ?_); refine ⟨kept_of hk, ?_⟩) | (with_reducible refine Calmly.mix_alt ?_ ?_))
    refine Calmly.wp_region_mix 8 (.fl 0 <| .fl 1 <| .fl 2 <| .fl 3 <| .fl 4 <| .fl 6 <| .eff 5 <| .eff 7 <| .tail [8]) (by kernel_rfl) (by kernel_rfl) ?_
    have hT : BlkT w5 (w.heap.size + 1 + 1) 72 := ⟨_, X3⟩
    have R2 := RJ.put4 hT (.int .i64 js) (.slice jb jn jc) (.int .i64 js') (.slice jb' jn' jc')
    have BW2 := below4 (x := .int .i64 js) (y := .slice jb jn jc) (z := .int .i64 js') (u := .slice jb' jn' jc') BW (show w.heap.size ≤ w.heap.size + 1 + 1 by omega)
    replace X1 := other4 X1 (show w.heap.size ≠ w.heap.size + 1 + 1 by omega) (.int .i64 js) (.slice jb jn jc) (.int .i64 js') (.slice jb' jn' jc')
    replace X2 := other4 X2 (show w.heap.size + 1 ≠ w.heap.size + 1 + 1 by omega) (.int .i64 js) (.slice jb jn jc) (.int .i64 js') (.slice jb' jn' jc')
    replace X3 := blk4 X3 (.int .i64 js) (.slice jb jn jc) (.int .i64 js') (.slice jb' jn' jc')
    clear BW
    have BW := BW2.drew
    replace X1 := blk_keep X1 (Below.refl _ _).drew
    replace X2 := blk_keep X2 (Below.refl _ _).drew
    replace X3 := blk_keep X3 (Below.refl _ _).drew
    replace R2 := R2.keep (Below.refl _ _).drew
    clear BW2 hT RJ hk kR R1 e2 y0 y1 y2 y3 y4 y5 y6 y7
    generalize World.drew _ = v at BW X1 X2 X3 R2 ⊢
    have FIN : ∃ (ts : Int) (ta : Option Addr) (tn tc : Nat) (ts' : Int) (ta' : Option Addr) (tn' tc' : Nat) (r : Rat), v.heap[w.heap.size + 1 + 1]? = some (.cells #[.int .i64 ts, .slice ta tn tc, .int .i64 ts', .slice ta' tn' tc'] 72) ∧ RatV v ts ta tn tc ts' ta' tn' tc' r ∧ (kv : Rat) * r = p ∧ tn ≤ 2 * L + 6 ∧ tn' ≤ 2 * L + 6 := ⟨_, _, _, _, _, _, _, _, _, X3, R2, hp, hm1, hm2⟩
    clear X3 R2 hm1 hm2 hp
  all_goals
    obtain ⟨ts, ta, tn, tc, ts', ta', tn', tc', r, X3, R, hp, hm1, hm2⟩ := FIN
    have e2 := (BW.cell (p := ⟨bb, ob + i, none⟩) hbb).trans e20
    have f1 := cell_block X1 1
    have y0 := cell_block X3 0
    have y1 := cell_block X3 1
    have y2 := cell_block X3 2
    have y3 := cell_block X3 3
    rename World => v
    have hk := Below.refl v.heap.size v
    go_wp2_with (first | ((with_reducible refine Calmly.is_fl ?_); refine Calmly.mix_fl rfl ?_ (fun _ _ => ?_); (first | exact .move _ | exact .load _ _ | exact .fieldAddr _ _ _ (by kernel_rfl) | exact .assign _ | exact .binOp _ _ _ _ _ rfl | exact .indexAddr _ _ _ | exact .len _ _ (by kernel_rfl) | exact .field _ _ _ | exact .extract _ _ | exact .pick _ _ _ | exact .build _ _ | exact .slice _ _ _ _ _ | exact .unOp _ _ _ rfl | exact .index _ _ _ | exact .max _ _ _ rfl rfl | exact .min _ _ _ rfl rfl)) | ((with_reducible refine Calmly.is_gl ?_); refine Calmly.mix_gl rfl rfl rfl ?_; first | ((first | with_reducible refine Calmly.gl_tt ?_ (fun _ _ => ?_) | with_reducible refine Calmly.gl_ff ?_ (fun _ _ => ?_)); (first | exact .move _ | exact .load _ _ | exact .fieldAddr _ _ _ (by kernel_rfl) | exact .assign _ | exact .binOp _ _ _ _ _ rfl | exact .indexAddr _ _ _ | exact .len _ _ (by kernel_rfl) | exact .field _ _ _ | exact .extract _ _ | exact .pick _ _ _ | exact .build _ _ | exact .slice _ _ _ _ _ | exact .unOp _ _ _ rfl | exact .index _ _ _ | exact .max _ _ _ rfl rfl | exact .min _ _ _ rfl rfl)) | with_reducible refine Calmly.gl_tf (fun _ _ => ?_) | with_reducible refine Calmly.gl_ft (fun _ _ => ?_)) | ((with_reducible refine Calmly.is_eff ?_); refine Calmly.mix_eff rfl (fun _ _ => ?_)) | ((with_reducible refine Calmly.is_gf ?_); refine Calmly.mix_gf rfl rfl rfl ?_; first | with_reducible refine Calmly.gf_tt (fun _ _ => ?_) | with_reducible refine Calmly.gf_ff (fun _ _ => ?_) | with_reducible refine Calmly.gf_tf (kept_of hk) (fun _ _ => ?_) | with_reducible refine Calmly.gf_ft (kept_of hk) (fun _ _ => ?_)) | ((with_reducible refine Calmly.is_tail ?_); first | refine Calmly.mix_tail_nil ?_ | refine Calmly.mix_tail rfl (fun _ _ => ?_)) | ((with_reducible refine Calmly.is_kept ?_); refine ⟨kept_of hk, ?_⟩) | (with_reducible refine Calmly.mix_alt ?_ ?_))
    refine (RatioInt_any kv v (by omega) (by omega)).mono ?_
    rintro e w6 ⟨⟨ps, pb, pn, pc, ps', pb', pn', pc', rfl, ph, ph', rP⟩, hs⟩
    replace hk := step_of hk hs
    replace X2 := blk_keep X2 hs
    replace R := R.keep hs
    replace BW := BW.trans (hs.mono BW.size)
    clear hs
    go_wp2_with (first | ((with_reducible refine Calmly.is_fl ?_); refine Calmly.mix_fl rfl ?_ (fun _ _ => ?_); (first | exact .move _ | exact .load _ _ | exact .fieldAddr _ _ _ (by kernel_rfl) | exact .assign _ | exact .binOp _ _ _ _ _ rfl | exact .indexAddr _ _ _ | exact .len _ _ (by kernel_rfl) | exact .field _ _ _ | exact .extract _ _ | exact .pick _ _ _ | exact .build _ _ | exact .slice _ _ _ _ _ | exact .unOp _ _ _ rfl | exact .index _ _ _ | exact .max _ _ _ rfl rfl | exact .min _ _ _ rfl rfl)) | ((with_reducible refine Calmly.is_gl ?_); refine Calmly.mix_gl rfl rfl rfl ?_; first | ((first | with_reducible refine Calmly.gl_tt ?_ (fun _ _ => ?_) | with_reducible refine Calmly.gl_ff ?_ (fun _ _ => ?_)); (first | exact .move _ | exact .load _ _ | exact .fieldAddr _ _ _ (by kernel_rfl) | exact .assign _ | exact .binOp _ _ _ _ _ rfl | exact .indexAddr _ _ _ | exact .len _ _ (by kernel_rfl) | exact .field _ _ _ | exact .extract _ _ | exact .pick _ _ _ | exact .build _ _ | exact .slice _ _ _ _ _ | exact .unOp _ _ _ rfl | exact .index _ _ _ | exact .max _ _ _ rfl rfl | exact .min _ _ _ rfl rfl)) | with_reducible refine Calmly.gl_tf (fun _ _ => ?_) | with_reducible refine Calmly.gl_ft (fun _ _ => ?_)) | ((with_reducible refine Calmly.is_eff ?_); refine Calmly.mix_eff rfl (fun _ _ => ?_)) | ((with_reducible refine Calmly.is_gf ?_); refine Calmly.mix_gf rfl rfl rfl ?_; first | with_reducible refine Calmly.gf_tt (fun _ _ => ?_) | with_reducible refine Calmly.gf_ff (fun _ _ => ?_) | with_reducible refine Calmly.gf_tf (kept_of hk) (fun _ _ => ?_) | with_reducible refine Calmly.gf_ft (kept_of hk) (fun _ _ => ?_)) | ((with_reducible refine Calmly.is_tail ?_); first | refine Calmly.mix_tail_nil ?_ | refine Calmly.mix_tail rfl (fun _ _ => ?_)) | ((with_reducible refine Calmly.is_kept ?_); refine ⟨kept_of hk, ?_⟩) | (with_reducible refine Calmly.mix_alt ?_ ?_))
    refine (RatioMul_any _ _ _ _ _ _ _ _ _ _ _ _ _ _ _ _ (2 * L + 6) _ _ w6 rP R (by omega) (by omega) hm1 hm2 (by omega)).mono ?_
    rintro e w7 ⟨⟨qs, qb, qn, qc, qs', qb', qn', qc', rfl, qh, qh', rQ⟩, hs⟩
    rw [hp] at rQ
    replace hk := step_of hk hs
    replace X2 := blk_keep X2 hs
    replace BW := BW.trans (hs.mono BW.size)
    clear hs
    have z0 := cell_block X2 0
    have z1 := cell_block X2 1
    have z2 := cell_block X2 2
    have z3 := cell_block X2 3
    have z4 := frozen_block X2 0
    have z5 := frozen_block X2 1
    have z6 := frozen_block X2 2
    have z7 := frozen_block X2 3
    go_wp2_with (first | ((with_reducible refine Calmly.is_fl ?_); refine Calmly.mix_fl rfl ?_ (fun _ _ => ?_); (first | exact .move _ | exact .load _ _ | exact .fieldAddr _ _ _ (by kernel_rfl) | exact .assign _ | exact .binOp _ _ _ _ _ rfl | exact .indexAddr _ _ _ | exact .len _ _ (by kernel_rfl) | exact .field _ _ _ | exact .extract _ _ | exact .pick _ _ _ | exact .build _ _ | exact .slice _ _ _ _ _ | exact .unOp _ _ _ rfl | exact .index _ _ _ | exact .max _ _ _ rfl rfl | exact .min _ _ _ rfl rfl)) | ((with_reducible refine Calmly.is_gl ?_); refine Calmly.mix_gl rfl rfl rfl ?_; first | ((first | with_reducible refine Calmly.gl_tt ?_ (fun _ _ => ?_) | with_reducible refine Calmly.gl_ff ?_ (fun _ _ => ?_)); (first | exact .move _ | exact .load _ _ | exact .fieldAddr _ _ _ (by kernel_rfl) | exact .assign _ | exact .binOp _ _ _ _ _ rfl | exact .indexAddr _ _ _ | exact .len _ _ (by kernel_rfl) | exact .field _ _ _ | exact .extract _ _ | exact .pick _ _ _ | exact .build _ _ | exact .slice _ _ _ _ _ | exact .unOp _ _ _ rfl | exact .index _ _ _ | exact .max _ _ _ rfl rfl | exact .min _ _ _ rfl rfl)) | with_reducible refine Calmly.gl_tf (fun _ _ => ?_) | with_reducible refine Calmly.gl_ft (fun _ _ => ?_)) | ((with_reducible refine Calmly.is_eff ?_); refine Calmly.mix_eff rfl (fun _ _ => ?_)) | ((with_reducible refine Calmly.is_gf ?_); refine Calmly.mix_gf rfl rfl rfl ?_; first | with_reducible refine Calmly.gf_tt (fun _ _ => ?_) | with_reducible refine Calmly.gf_ff (fun _ _ => ?_) | with_reducible refine Calmly.gf_tf (kept_of hk) (fun _ _ => ?_) | with_reducible refine Calmly.gf_ft (kept_of hk) (fun _ _ => ?_)) | ((with_reducible refine Calmly.is_tail ?_); first | refine Calmly.mix_tail_nil ?_ | refine Calmly.mix_tail rfl (fun _ _ => ?_)) | ((with_reducible refine Calmly.is_kept ?_); refine ⟨kept_of hk, ?_⟩) | (with_reducible refine Calmly.mix_alt ?_ ?_))
    have X4 := blk4 X2 (.int .i64 qs) (.slice qb qn qc) (.int .i64 qs') (.slice qb' qn' qc')
    have r0 := cell_block X4 0
    have r1 := cell_block X4 1
    have r2 := cell_block X4 2
    have r3 := cell_block X4 3
    have rF := rQ.put4 ⟨_, X2⟩ (.int .i64 qs) (.slice qb qn qc) (.int .i64 qs') (.slice qb' qn' qc')
    refine bodyPost_ret (v := .agg #[.int .i64 qs, .slice qb qn qc, .int .i64 qs', .slice qb' qn' qc']) (by simp [results, Try.results126, go_sem, r0, r1, r2, r3]) rfl ⟨⟨_, _, _, _, _, _, _, _, rfl, by omega, by omega, rF⟩, below4 BW (by omega)⟩
end Go.Proofs.Ytmaidjankakppaa

namespace Go.Proofs.Ytmaidjankakppaa
open Go.RowKit Go.Wides
open Calmly (Kept)
theorem field_ratio0 (x y z u : Value) (w : World) : (Instr.field 72 (.agg #[x, y, z, u]) 0).run Try.prog w = .ok (.agg #[x, y]) w := by kernel_rfl
attribute [local go_sem] field_wide0 field_wide1 field_ratio0

theorem lcm_step (a b : Nat) (ha : 0 < a) : (a : Int) * (Rat.divInt (b : Int) (a : Int)).num = (Nat.lcm a b : Int) := by
  rw [(make_two (z1 := (b : Int)) (z2 := (a : Int)) (by omega)).1]
  have : Int.gcd (b : Int) (a : Int) = Nat.gcd a b := by
    rw [Int.gcd_natCast_natCast, Nat.gcd_comm]
  rw [this, ← Int.natCast_ediv, ← Int.natCast_mul]
  congr 1
  rw [Nat.lcm, Nat.mul_div_assoc _ (Nat.gcd_dvd_right a b)]
theorem lcmQ_pos (qs : List Rat) : 0 < lcmQ qs := by
  unfold lcmQ
  suffices h : ∀ m, 0 < m → 0 < qs.foldl (fun m q => Nat.lcm m q.den) m from h 1 (by decide)
  induction qs with
  | nil => intro m hm; exact hm
  | cons q l ih => intro m hm; exact ih _ (Nat.lcm_pos hm q.den_pos)
theorem lcmQ_take_le (qs : List Rat) (k : Nat) : lcmQ (qs.take k) ≤ lcmQ qs := by
  refine Nat.le_of_dvd (lcmQ_pos qs) ?_
  rw [lcmQ_dvd]
  intro q hq
  exact (lcmQ_dvd qs _).1 (Nat.dvd_refl _) q (List.mem_of_mem_take hq)

set_option maxRecDepth 100000 in
set_option maxHeartbeats 4000000 in
theorem Common_any (a : Option Addr) (n c L B : Nat) (qs : List Rat) (w : World) (hrow : RowQ w B a n c L qs) (hn : n ≤ 4) (hL : 7 ≤ L) (hL2 : L ≤ 100000000) (N : Int) (hN : (lcmQ qs : Int) = N) (hN2 : N ≤ 100000000000000000) (xs : List Int) (hx : comQ qs = xs) (hxb : ∀ j : Nat, -100000000000000000 ≤ xs[j]?.getD 0 ∧ xs[j]?.getD 0 ≤ 100000000000000000) :
    Calls Try.prog 124 #[.slice a n c] w fun e w' => ∃ a' c' B', e = .returned (.agg #[.int .i64 N, .slice a' n c']) ∧ OwI w' B' a' n c' xs ∧ w.heap.size ≤ B' ∧ Below w.heap.size w w' := by
  have hA : Below w.heap.size w (w.alloc (.cells #[.int .i64 0, .slice none 0 0] 117)) := (Below.refl _ _).alloc (Nat.le_refl _) _
  obtain ⟨l1, l2⟩ : n ≤ qs.length ∧ qs.length ≤ n := by have := hrow.len; omega
  have HX := Lib.hid hx
  have HN := Lib.hid hN
  have HXB := Lib.hid hxb
  clear hx hN hxb
  go_enter Try.func124, Try.ntmps124
  go_wp2_with fail
  refine (WideOf_any 1 _ (by omega) (by omega)).mono ?_
  rintro e w1 ⟨gs, ga, gm, gc, rfl, ⟨gh, gV⟩, hs⟩
  have x1 := box1 (w := w) (o := .cells #[.int .i64 0, .slice none 0 0] 117) hs
  have B1 := hA.trans (hs.mono (by simp))
  have hs1 := blk_lt x1
  clear hs
  go_wp2_with fail
  have B2 := B1.alloc (by omega) (.cells #[.int .i64 gs, .slice ga gm gc] 70)
  have x2 : (w1.alloc (.cells #[.int .i64 gs, .slice ga gm gc] 70)).heap[w.heap.size]? = some (.cells #[.int .i64 0, .slice none 0 0] 117) := blk_keep x1 ((Below.refl _ _).alloc (Nat.le_refl _) _)
  have y2 := alloc_new w1 (.cells #[.int .i64 gs, .slice ga gm gc] 70)
  replace gV := gV.keep ((Below.refl _ _).alloc (Nat.le_refl _) (.cells #[.int .i64 gs, .slice ga gm gc] 70))
  obtain ⟨b3, hb3⟩ : ∃ v, w1.heap.size = v := ⟨_, rfl⟩
  rw [hb3] at y2 hs1 ⊢
  generalize hw2 : w1.alloc (.cells #[.int .i64 gs, .slice ga gm gc] 70) = w2 at B2 x2 y2 gV ⊢
  clear hw2 hb3 x1 B1 hA
  have hb3' := blk_lt y2
  go_loopw [4] (fun z wr => ∃ (k : Nat), z = .int .i64 (k : Int) ∧ k ≤ n ∧ (∃ (ds : Int) (da : Option Addr) (dm dc : Nat), wr.heap[b3]? = some (.cells #[.int .i64 ds, .slice da dm dc] 70) ∧ WideV wr ds da dm dc (lcmQ (qs.take k) : Int) ∧ dm ≤ 3 + k * (L + 5)) ∧ Below b3 w2 wr) (fun z _ => n - (intOf z).toNat)
  case atStart => exact ⟨0, rfl, by omega, ⟨gs, ga, gm, gc, y2, by simpa [lcmQ] using gV, by omega⟩, Below.refl _ _⟩
  case round =>
    obtain ⟨k, rfl, hk0, ⟨ds, da, dm, dc, yr, dV, hdm⟩, hbr⟩ := hrel
    rename World => wi
    have Bw := B2.trans (hbr.mono (by omega))
    have f0 := cell_block yr 0
    have f1 := cell_block yr 1
    have hbl := blk_lt yr
    by_cases hlt : k < n
    · obtain ⟨br, off, s1, a1, n1, c1, s2, a2, n2, c2, rfl, g0, g1, g2, g3, gl1, gl2, gR⟩ := (hrow.keep Bw).at_ k hlt
      have hls := lcmQ_take qs k (by omega)
      obtain ⟨q, hqq⟩ : ∃ v, qs[k]?.getD 0 = v := ⟨_, rfl⟩
      rw [hqq] at gR hls
      have hlp := lcmQ_pos (qs.take k)
      have hst := lcm_step (lcmQ (qs.take k)) q.den hlp
      rw [← hls] at hst
      have HST := Lib.hid hst
      obtain ⟨M, hM⟩ : ∃ v, lcmQ (qs.take k) = v := ⟨_, rfl⟩
      rw [hM] at dV hlp HST
      clear hst hls hqq hM g0 g1
      have hi : (k : Int) < (n : Int) := by omega
      have hi0 : (0 : Int) ≤ (k : Int) := by omega
      have hdm2 : dm ≤ 3 + 4 * (L + 5) := by
        have : k * (L + 5) ≤ 4 * (L + 5) := Nat.mul_le_mul_right _ (by omega)
        omega
      go_wp2_with fail
      refine Calmly.wp_region_mix 10 (.fl 0 <| .fl 1 <| .fl 2 <| .fl 3 <| .fl 4 <| .fl 5 <| .fl 6 <| .eff 7 <| .fl 8 <| .eff 9 <| .tail [10]) (by kernel_rfl) (by kernel_rfl) ?_
      replace yr := blk_keep yr (Below.refl _ _).drew
      replace g2 := cell_keep g2 (Below.refl _ _).drew
      replace g3 := cell_keep g3 (Below.refl _ _).drew
      replace gR := gR.keep (Below.refl _ _).drew
      replace dV := dV.keep (Below.refl _ _).drew
      replace hbr := hbr.drew
      clear f0 f1 hbl
      generalize wi.drew = V at *
      have f0 := cell_block yr 0
      have f1 := cell_block yr 1
      have hk := Below.refl V.heap.size V
      go_wp2_with (first | ((with_reducible refine Calmly.is_fl ?_); refine Calmly.mix_fl rfl ?_ (fun _ _ => ?_); (first | exact .move _ | exact .load _ _ | exact .fieldAddr _ _ _ (by kernel_rfl) | exact .assign _ | exact .binOp _ _ _ _ _ rfl | exact .indexAddr _ _ _ | exact .len _ _ (by kernel_rfl) | exact .field _ _ _ | exact .extract _ _ | exact .pick _ _ _ | exact .build _ _ | exact .slice _ _ _ _ _ | exact .unOp _ _ _ rfl | exact .index _ _ _ | exact .max _ _ _ rfl rfl | exact .min _ _ _ rfl rfl)) | ((with_reducible refine Calmly.is_gl ?_); refine Calmly.mix_gl rfl rfl rfl ?_; first | ((first | with_reducible refine Calmly.gl_tt ?_ (fun _ _ => ?_) | with_reducible refine Calmly.gl_ff ?_ (fun _ _ => ?_)); (first | exact .move _ | exact .load _ _ | exact .fieldAddr _ _ _ (by kernel_rfl) | exact .assign _ | exact .binOp _ _ _ _ _ rfl | exact .indexAddr _ _ _ | exact .len _ _ (by kernel_rfl) | exact .field _ _ _ | exact .extract _ _ | exact .pick _ _ _ | exact .build _ _ | exact .slice _ _ _ _ _ | exact .unOp _ _ _ rfl | exact .index _ _ _ | exact .max _ _ _ rfl rfl | exact .min _ _ _ rfl rfl)) | with_reducible refine Calmly.gl_tf (fun _ _ => ?_) | with_reducible refine Calmly.gl_ft (fun _ _ => ?_)) | ((with_reducible refine Calmly.is_eff ?_); refine Calmly.mix_eff rfl (fun _ _ => ?_)) | ((with_reducible refine Calmly.is_gf ?_); refine Calmly.mix_gf rfl rfl rfl ?_; first | with_reducible refine Calmly.gf_tt (fun _ _ => ?_) | with_reducible refine Calmly.gf_ff (fun _ _ => ?_) | with_reducible refine Calmly.gf_tf (kept_of hk) (fun _ _ => ?_) | with_reducible refine Calmly.gf_ft (kept_of hk) (fun _ _ => ?_)) | ((with_reducible refine Calmly.is_tail ?_); first | refine Calmly.mix_tail_nil ?_ | refine Calmly.mix_tail rfl (fun _ _ => ?_)) | ((with_reducible refine Calmly.is_kept ?_); refine ⟨kept_of hk, ?_⟩) | (with_reducible refine Calmly.mix_alt ?_ ?_))
      refine (RatioMake_any s2 ds a2 da n2 dm c2 dc (q.den : Int) (M : Int) V gR.2 dV (by omega) (by omega) (by omega)).mono ?_
      rintro e w5 ⟨ms, ma, mm, mc, ms', ma', mm', mc', rfl, ⟨mh, mh', rM⟩, hs⟩
      replace hk := step_of hk hs
      replace yr := blk_keep yr hs
      replace dV := dV.keep hs
      have hbr5 := hbr.trans (hs.mono (by have := blk_lt yr; have := hbr.size; omega))
      clear hs
      go_wp2_with (first | ((with_reducible refine Calmly.is_fl ?_); refine Calmly.mix_fl rfl ?_ (fun _ _ => ?_); (first | exact .move _ | exact .load _ _ | exact .fieldAddr _ _ _ (by kernel_rfl) | exact .assign _ | exact .binOp _ _ _ _ _ rfl | exact .indexAddr _ _ _ | exact .len _ _ (by kernel_rfl) | exact .field _ _ _ | exact .extract _ _ | exact .pick _ _ _ | exact .build _ _ | exact .slice _ _ _ _ _ | exact .unOp _ _ _ rfl | exact .index _ _ _ | exact .max _ _ _ rfl rfl | exact .min _ _ _ rfl rfl)) | ((with_reducible refine Calmly.is_gl ?_); refine Calmly.mix_gl rfl rfl rfl ?_; first | ((first | with_reducible refine Calmly.gl_tt ?_ (fun _ _ => ?_) | with_reducible refine Calmly.gl_ff ?_ (fun _ _ => ?_)); (first | exact .move _ | exact .load _ _ | exact .fieldAddr _ _ _ (by kernel_rfl) | exact .assign _ | exact .binOp _ _ _ _ _ rfl | exact .indexAddr _ _ _ | exact .len _ _ (by kernel_rfl) | exact .field _ _ _ | exact .extract _ _ | exact .pick _ _ _ | exact .build _ _ | exact .slice _ _ _ _ _ | exact .unOp _ _ _ rfl | exact .index _ _ _ | exact .max _ _ _ rfl rfl | exact .min _ _ _ rfl rfl)) | with_reducible refine Calmly.gl_tf (fun _ _ => ?_) | with_reducible refine Calmly.gl_ft (fun _ _ => ?_)) | ((with_reducible refine Calmly.is_eff ?_); refine Calmly.mix_eff rfl (fun _ _ => ?_)) | ((with_reducible refine Calmly.is_gf ?_); refine Calmly.mix_gf rfl rfl rfl ?_; first | with_reducible refine Calmly.gf_tt (fun _ _ => ?_) | with_reducible refine Calmly.gf_ff (fun _ _ => ?_) | with_reducible refine Calmly.gf_tf (kept_of hk) (fun _ _ => ?_) | with_reducible refine Calmly.gf_ft (kept_of hk) (fun _ _ => ?_)) | ((with_reducible refine Calmly.is_tail ?_); first | refine Calmly.mix_tail_nil ?_ | refine Calmly.mix_tail rfl (fun _ _ => ?_)) | ((with_reducible refine Calmly.is_kept ?_); refine ⟨kept_of hk, ?_⟩) | (with_reducible refine Calmly.mix_alt ?_ ?_))
      refine (WideMul_any ds ms da ma dm mm dc mc (M : Int) _ w5 dV rM.1 (by omega) (by omega)).mono ?_
      rintro e w6 ⟨ps, pa, pm, pc, rfl, ⟨ph, pV⟩, hs⟩
      rw [HST.out] at pV
      replace hk := step_of hk hs
      replace yr := blk_keep yr hs
      replace hbr5 := hbr5.trans (hs.mono (by have := hbr5.size; omega))
      clear hs f0 f1
      have f0 := cell_block yr 0
      have f1 := cell_block yr 1
      have f2 := frozen_block yr 0
      have f3 := frozen_block yr 1
      obtain ⟨X4, W4⟩ := wideFin yr pV
      have hmul : (k + 1) * (L + 5) = k * (L + 5) + (L + 5) := Nat.succ_mul _ _
      have hpm : pm ≤ 3 + (k + 1) * (L + 5) := by omega
      clear hmul
      go_wp2_with (first | ((with_reducible refine Calmly.is_fl ?_); refine Calmly.mix_fl rfl ?_ (fun _ _ => ?_); (first | exact .move _ | exact .load _ _ | exact .fieldAddr _ _ _ (by kernel_rfl) | exact .assign _ | exact .binOp _ _ _ _ _ rfl | exact .indexAddr _ _ _ | exact .len _ _ (by kernel_rfl) | exact .field _ _ _ | exact .extract _ _ | exact .pick _ _ _ | exact .build _ _ | exact .slice _ _ _ _ _ | exact .unOp _ _ _ rfl | exact .index _ _ _ | exact .max _ _ _ rfl rfl | exact .min _ _ _ rfl rfl)) | ((with_reducible refine Calmly.is_gl ?_); refine Calmly.mix_gl rfl rfl rfl ?_; first | ((first | with_reducible refine Calmly.gl_tt ?_ (fun _ _ => ?_) | with_reducible refine Calmly.gl_ff ?_ (fun _ _ => ?_)); (first | exact .move _ | exact .load _ _ | exact .fieldAddr _ _ _ (by kernel_rfl) | exact .assign _ | exact .binOp _ _ _ _ _ rfl | exact .indexAddr _ _ _ | exact .len _ _ (by kernel_rfl) | exact .field _ _ _ | exact .extract _ _ | exact .pick _ _ _ | exact .build _ _ | exact .slice _ _ _ _ _ | exact .unOp _ _ _ rfl | exact .index _ _ _ | exact .max _ _ _ rfl rfl | exact .min _ _ _ rfl rfl)) | with_reducible refine Calmly.gl_tf (fun _ _ => ?_) | with_reducible refine Calmly.gl_ft (fun _ _ => ?_)) | ((with_reducible refine Calmly.is_eff ?_); refine Calmly.mix_eff rfl (fun _ _ => ?_)) | ((with_reducible refine Calmly.is_gf ?_); refine Calmly.mix_gf rfl rfl rfl ?_; first | with_reducible refine Calmly.gf_tt (fun _ _ => ?_) | with_reducible refine Calmly.gf_ff (fun _ _ => ?_) | with_reducible refine Calmly.gf_tf (kept_of hk) (fun _ _ => ?_) | with_reducible refine Calmly.gf_ft (kept_of hk) (fun _ _ => ?_)) | ((with_reducible refine Calmly.is_tail ?_); first | refine Calmly.mix_tail_nil ?_ | refine Calmly.mix_tail rfl (fun _ _ => ?_)) | ((with_reducible refine Calmly.is_kept ?_); refine ⟨kept_of hk, ?_⟩) | (with_reducible refine Calmly.mix_alt ?_ ?_))
      go_roundw
      case rel => exact ⟨k + 1, by go_num, by omega, ⟨ps, pa, pm, pc, X4, W4, hpm⟩, below2 hbr5 (Nat.le_refl _)⟩
      case measure => simp [intOf]; omega
    · obtain rfl : k = n := by omega
      have htk : qs.take k = qs := List.take_of_length_le (by omega)
      rw [htk, HN.out] at dV
      have hNp : 1 ≤ N := by have := lcmQ_pos qs; have := HN.out; omega
      clear htk
      go_wp2_with fail
      refine (WideInt_any ds da dm dc N wi dV (by omega)).mono ?_
      rintro e w5 ⟨rfl, hs⟩
      have B5 := Bw.trans (hs.mono Bw.size)
      have x5 : w5.heap[w.heap.size]? = some (.cells #[.int .i64 0, .slice none 0 0] 117) := blk_keep ((hbr.block _ (by omega)).trans x2) hs
      have hs5 := blk_lt x5
      clear hs dV yr f0 f1 hbl hbr Bw hlt B2 x2 y2 gV hb3' hdm
      go_wp2_with fail
      have B6 := B5.alloc (by omega) (.cells #[.int .i64 N, .slice none 0 0] 117)
      have x6 : (w5.alloc (.cells #[.int .i64 N, .slice none 0 0] 117)).heap[w.heap.size]? = some (.cells #[.int .i64 0, .slice none 0 0] 117) := blk_keep x5 ((Below.refl _ _).alloc (Nat.le_refl _) _)
      have y6 := alloc_new w5 (.cells #[.int .i64 N, .slice none 0 0] 117)
      obtain ⟨b7, hb7⟩ : ∃ v, w5.heap.size = v := ⟨_, rfl⟩
      rw [hb7] at y6 hs5 ⊢
      generalize hw6 : w5.alloc (.cells #[.int .i64 N, .slice none 0 0] 117) = w6 at B6 x6 y6 ⊢
      clear hw6 hb7 x5 B5
      have hb7' := blk_lt y6
      go_loopw [8] (fun z wr => ∃ (j c' : Nat) (a' : Option Addr), z = .int .i64 (j : Int) ∧ j ≤ k ∧ wr.heap[b7]? = some (.cells #[.int .i64 N, .slice a' j c'] 117) ∧ OwI wr (b7 + 1) a' j c' (xs.take j) ∧ Below b7 w6 wr) (fun z _ => k - (intOf z).toNat)
      case atStart => exact ⟨0, 0, none, rfl, by omega, y6, OwI.nil _ _, Below.refl _ _⟩
      case round =>
        obtain ⟨j, c', a', rfl, hj0, yr, hown, hbr⟩ := hrel
        rename World => wj
        have Bw := B6.trans (hbr.mono (by omega))
        have hbl := blk_lt yr
        by_cases hjl : j < k
        · obtain ⟨br, off, s1, a1, n1, c1, s2, a2, n2, c2, rfl, g0, g1, g2, g3, gl1, gl2, gR⟩ := (hrow.keep Bw).at_ j hjl
          have hxj : xs[j]?.getD 0 = ((qs[j]?.getD 0) * (N : Rat)).num / ((((qs[j]?.getD 0) * (N : Rat)).den : Nat) : Int) := by
            rw [← HX.out, ← HN.out]
            unfold comQ
            rw [List.getElem?_map, List.getElem?_eq_getElem (by omega : j < qs.length)]
            rfl
          have hxl : j < xs.length := by rw [← HX.out]; unfold comQ; rw [List.length_map]; omega
          have htk : xs.take (j + 1) = xs.take j ++ [xs[j]?.getD 0] := by
            rw [List.take_succ_eq_append_getElem hxl, List.getElem?_eq_getElem hxl]
            rfl
          have hxb := HXB.out j
          obtain ⟨xv, hxv⟩ : ∃ v, xs[j]?.getD 0 = v := ⟨_, rfl⟩
          rw [hxv] at hxj htk hxb
          have HXJ := Lib.hid hxj
          have HTK := Lib.hid htk
          clear hxj htk hxv hxl
          obtain ⟨q, hqq⟩ : ∃ v, qs[j]?.getD 0 = v := ⟨_, rfl⟩
          rw [hqq] at gR HXJ
          clear hqq
          have hi : (j : Int) < (k : Int) := by omega
          have hi0 : (0 : Int) ≤ (j : Int) := by omega
          go_wp2_with fail
          refine Calmly.wp_region_mix 13 (.fl 0 <| .fl 1 <| .fl 2 <| .fl 3 <| .fl 4 <| .eff 5 <| .eff 6 <| .eff 7 <| .eff 8 <| .fl 9 <| .fl 10 <| .fl 11 <| .fl 12 <| .tail [13]) (by kernel_rfl) (by kernel_rfl) ?_
          replace yr := blk_keep yr (Below.refl _ _).drew
          replace g0 := cell_keep g0 (Below.refl _ _).drew
          replace g1 := cell_keep g1 (Below.refl _ _).drew
          replace g2 := cell_keep g2 (Below.refl _ _).drew
          replace g3 := cell_keep g3 (Below.refl _ _).drew
          replace gR := gR.keep (Below.refl _ _).drew
          replace hown := hown.drew
          replace hbr := hbr.drew
          clear hbl Bw
          generalize wj.drew = V at *
          have hk := Below.refl V.heap.size V
          go_wp2_with (first | ((with_reducible refine Calmly.is_fl ?_); refine Calmly.mix_fl rfl ?_ (fun _ _ => ?_); (first | exact .move _ | exact .load _ _ | exact .fieldAddr _ _ _ (by kernel_rfl) | exact .assign _ | exact .binOp _ _ _ _ _ rfl | exact .indexAddr _ _ _ | exact .len _ _ (by kernel_rfl) | exact .field _ _ _ | exact .extract _ _ | exact .pick _ _ _ | exact .build _ _ | exact .slice _ _ _ _ _ | exact .unOp _ _ _ rfl | exact .index _ _ _ | exact .max _ _ _ rfl rfl | exact .min _ _ _ rfl rfl)) | ((with_reducible refine Calmly.is_gl ?_); refine Calmly.mix_gl rfl rfl rfl ?_; first | ((first | with_reducible refine Calmly.gl_tt ?_ (fun _ _ => ?_) | with_reducible refine Calmly.gl_ff ?_ (fun _ _ => ?_)); (first | exact .move _ | exact .load _ _ | exact .fieldAddr _ _ _ (by kernel_rfl) | exact .assign _ | exact .binOp _ _ _ _ _ rfl | exact .indexAddr _ _ _ | exact .len _ _ (by kernel_rfl) | exact .field _ _ _ | exact .extract _ _ | exact .pick _ _ _ | exact .build _ _ | exact .slice _ _ _ _ _ | exact .unOp _ _ _ rfl | exact .index _ _ _ | exact .max _ _ _ rfl rfl | exact .min _ _ _ rfl rfl)) | with_reducible refine Calmly.gl_tf (fun _ _ => ?_) | with_reducible refine Calmly.gl_ft (fun _ _ => ?_)) | ((with_reducible refine Calmly.is_eff ?_); refine Calmly.mix_eff rfl (fun _ _ => ?_)) | ((with_reducible refine Calmly.is_gf ?_); refine Calmly.mix_gf rfl rfl rfl ?_; first | with_reducible refine Calmly.gf_tt (fun _ _ => ?_) | with_reducible refine Calmly.gf_ff (fun _ _ => ?_) | with_reducible refine Calmly.gf_tf (kept_of hk) (fun _ _ => ?_) | with_reducible refine Calmly.gf_ft (kept_of hk) (fun _ _ => ?_)) | ((with_reducible refine Calmly.is_tail ?_); first | refine Calmly.mix_tail_nil ?_ | refine Calmly.mix_tail rfl (fun _ _ => ?_)) | ((with_reducible refine Calmly.is_kept ?_); refine ⟨kept_of hk, ?_⟩) | (with_reducible refine Calmly.mix_alt ?_ ?_))
          refine (RatioInt_any N V (by omega) (by omega)).mono ?_
          rintro e w7 ⟨⟨ps, pb, pn, pc, ps', pb', pn', pc', rfl, ph, ph', rP⟩, hs⟩
          replace hk := step_of hk hs
          replace gR := gR.keep hs
          replace yr := blk_keep yr hs
          replace hown := hown.keep hs
          replace hbr := hbr.trans (hs.mono (by have := hbr.size; omega))
          clear hs
          go_wp2_with (first | ((with_reducible refine Calmly.is_fl ?_); refine Calmly.mix_fl rfl ?_ (fun _ _ => ?_); (first | exact .move _ | exact .load _ _ | exact .fieldAddr _ _ _ (by kernel_rfl) | exact .assign _ | exact .binOp _ _ _ _ _ rfl | exact .indexAddr _ _ _ | exact .len _ _ (by kernel_rfl) | exact .field _ _ _ | exact .extract _ _ | exact .pick _ _ _ | exact .build _ _ | exact .slice _ _ _ _ _ | exact .unOp _ _ _ rfl | exact .index _ _ _ | exact .max _ _ _ rfl rfl | exact .min _ _ _ rfl rfl)) | ((with_reducible refine Calmly.is_gl ?_); refine Calmly.mix_gl rfl rfl rfl ?_; first | ((first | with_reducible refine Calmly.gl_tt ?_ (fun _ _ => ?_) | with_reducible refine Calmly.gl_ff ?_ (fun _ _ => ?_)); (first | exact .move _ | exact .load _ _ | exact .fieldAddr _ _ _ (by kernel_rfl) | exact .assign _ | exact .binOp _ _ _ _ _ rfl | exact .indexAddr _ _ _ | exact .len _ _ (by kernel_rfl) | exact .field _ _ _ | exact .extract _ _ | exact .pick _ _ _ | exact .build _ _ | exact .slice _ _ _ _ _ | exact .unOp _ _ _ rfl | exact .index _ _ _ | exact .max _ _ _ rfl rfl | exact .min _ _ _ rfl rfl)) | with_reducible refine Calmly.gl_tf (fun _ _ => ?_) | with_reducible refine Calmly.gl_ft (fun _ _ => ?_)) | ((with_reducible refine Calmly.is_eff ?_); refine Calmly.mix_eff rfl (fun _ _ => ?_)) | ((with_reducible refine Calmly.is_gf ?_); refine Calmly.mix_gf rfl rfl rfl ?_; first | with_reducible refine Calmly.gf_tt (fun _ _ => ?_) | with_reducible refine Calmly.gf_ff (fun _ _ => ?_) | with_reducible refine Calmly.gf_tf (kept_of hk) (fun _ _ => ?_) | with_reducible refine Calmly.gf_ft (kept_of hk) (fun _ _ => ?_)) | ((with_reducible refine Calmly.is_tail ?_); first | refine Calmly.mix_tail_nil ?_ | refine Calmly.mix_tail rfl (fun _ _ => ?_)) | ((with_reducible refine Calmly.is_kept ?_); refine ⟨kept_of hk, ?_⟩) | (with_reducible refine Calmly.mix_alt ?_ ?_))
          refine (RatioMul_any _ _ _ _ _ _ _ _ _ _ _ _ _ _ _ _ L _ _ w7 gR rP gl1 gl2 (by omega) (by omega) (by omega)).mono ?_
          rintro e w8 ⟨⟨qs1, qb, qn, qc, qs', qb', qn', qc', rfl, qh, qh', rQ⟩, hs⟩
          replace hk := step_of hk hs
          replace yr := blk_keep yr hs
          replace hown := hown.keep hs
          replace hbr := hbr.trans (hs.mono (by have := hbr.size; omega))
          clear hs
          go_wp2_with (first | ((with_reducible refine Calmly.is_fl ?_); refine Calmly.mix_fl rfl ?_ (fun _ _ => ?_); (first | exact .move _ | exact .load _ _ | exact .fieldAddr _ _ _ (by kernel_rfl) | exact .assign _ | exact .binOp _ _ _ _ _ rfl | exact .indexAddr _ _ _ | exact .len _ _ (by kernel_rfl) | exact .field _ _ _ | exact .extract _ _ | exact .pick _ _ _ | exact .build _ _ | exact .slice _ _ _ _ _ | exact .unOp _ _ _ rfl | exact .index _ _ _ | exact .max _ _ _ rfl rfl | exact .min _ _ _ rfl rfl)) | ((with_reducible refine Calmly.is_gl ?_); refine Calmly.mix_gl rfl rfl rfl ?_; first | ((first | with_reducible refine Calmly.gl_tt ?_ (fun _ _ => ?_) | with_reducible refine Calmly.gl_ff ?_ (fun _ _ => ?_)); (first | exact .move _ | exact .load _ _ | exact .fieldAddr _ _ _ (by kernel_rfl) | exact .assign _ | exact .binOp _ _ _ _ _ rfl | exact .indexAddr _ _ _ | exact .len _ _ (by kernel_rfl) | exact .field _ _ _ | exact .extract _ _ | exact .pick _ _ _ | exact .build _ _ | exact .slice _ _ _ _ _ | exact .unOp _ _ _ rfl | exact .index _ _ _ | exact .max _ _ _ rfl rfl | exact .min _ _ _ rfl rfl)) | with_reducible refine Calmly.gl_tf (fun _ _ => ?_) | with_reducible refine Calmly.gl_ft (fun _ _ => ?_)) | ((with_reducible refine Calmly.is_eff ?_); refine Calmly.mix_eff rfl (fun _ _ => ?_)) | ((with_reducible refine Calmly.is_gf ?_); refine Calmly.mix_gf rfl rfl rfl ?_; first | with_reducible refine Calmly.gf_tt (fun _ _ => ?_) | with_reducible refine Calmly.gf_ff (fun _ _ => ?_) | with_reducible refine Calmly.gf_tf (kept_of hk) (fun _ _ => ?_) | with_reducible refine Calmly.gf_ft (kept_of hk) (fun _ _ => ?_)) | ((with_reducible refine Calmly.is_tail ?_); first | refine Calmly.mix_tail_nil ?_ | refine Calmly.mix_tail rfl (fun _ _ => ?_)) | ((with_reducible refine Calmly.is_kept ?_); refine ⟨kept_of hk, ?_⟩) | (with_reducible refine Calmly.mix_alt ?_ ?_))
          refine (RatioFloor_any _ _ _ _ _ _ _ _ _ w8 rQ (by omega) (by omega)).mono ?_
          rintro e w9 ⟨ts, ta, tm, tc, rfl, tV, hs⟩
          rw [← HXJ.out] at tV
          replace hk := step_of hk hs
          replace yr := blk_keep yr hs
          replace hown := hown.keep hs
          replace hbr := hbr.trans (hs.mono (by have := hbr.size; omega))
          clear hs
          go_wp2_with (first | ((with_reducible refine Calmly.is_fl ?_); refine Calmly.mix_fl rfl ?_ (fun _ _ => ?_); (first | exact .move _ | exact .load _ _ | exact .fieldAddr _ _ _ (by kernel_rfl) | exact .assign _ | exact .binOp _ _ _ _ _ rfl | exact .indexAddr _ _ _ | exact .len _ _ (by kernel_rfl) | exact .field _ _ _ | exact .extract _ _ | exact .pick _ _ _ | exact .build _ _ | exact .slice _ _ _ _ _ | exact .unOp _ _ _ rfl | exact .index _ _ _ | exact .max _ _ _ rfl rfl | exact .min _ _ _ rfl rfl)) | ((with_reducible refine Calmly.is_gl ?_); refine Calmly.mix_gl rfl rfl rfl ?_; first | ((first | with_reducible refine Calmly.gl_tt ?_ (fun _ _ => ?_) | with_reducible refine Calmly.gl_ff ?_ (fun _ _ => ?_)); (first | exact .move _ | exact .load _ _ | exact .fieldAddr _ _ _ (by kernel_rfl) | exact .assign _ | exact .binOp _ _ _ _ _ rfl | exact .indexAddr _ _ _ | exact .len _ _ (by kernel_rfl) | exact .field _ _ _ | exact .extract _ _ | exact .pick _ _ _ | exact .build _ _ | exact .slice _ _ _ _ _ | exact .unOp _ _ _ rfl | exact .index _ _ _ | exact .max _ _ _ rfl rfl | exact .min _ _ _ rfl rfl)) | with_reducible refine Calmly.gl_tf (fun _ _ => ?_) | with_reducible refine Calmly.gl_ft (fun _ _ => ?_)) | ((with_reducible refine Calmly.is_eff ?_); refine Calmly.mix_eff rfl (fun _ _ => ?_)) | ((with_reducible refine Calmly.is_gf ?_); refine Calmly.mix_gf rfl rfl rfl ?_; first | with_reducible refine Calmly.gf_tt (fun _ _ => ?_) | with_reducible refine Calmly.gf_ff (fun _ _ => ?_) | with_reducible refine Calmly.gf_tf (kept_of hk) (fun _ _ => ?_) | with_reducible refine Calmly.gf_ft (kept_of hk) (fun _ _ => ?_)) | ((with_reducible refine Calmly.is_tail ?_); first | refine Calmly.mix_tail_nil ?_ | refine Calmly.mix_tail rfl (fun _ _ => ?_)) | ((with_reducible refine Calmly.is_kept ?_); refine ⟨kept_of hk, ?_⟩) | (with_reducible refine Calmly.mix_alt ?_ ?_))
          refine (WideInt_any ts ta tm tc xv w9 tV (by omega)).mono ?_
          rintro e w10 ⟨rfl, hs⟩
          replace hk := step_of hk hs
          replace yr := blk_keep yr hs
          replace hown := hown.keep hs
          replace hbr := hbr.trans (hs.mono (by have := hbr.size; omega))
          clear hs g0 g1 g2 g3 gR rQ tV rP
          have hbl := blk_lt yr
          have f1 := cell_block yr 1
          go_wp2_with (first | ((with_reducible refine Calmly.is_fl ?_); refine Calmly.mix_fl rfl ?_ (fun _ _ => ?_); (first | exact .move _ | exact .load _ _ | exact .fieldAddr _ _ _ (by kernel_rfl) | exact .assign _ | exact .binOp _ _ _ _ _ rfl | exact .indexAddr _ _ _ | exact .len _ _ (by kernel_rfl) | exact .field _ _ _ | exact .extract _ _ | exact .pick _ _ _ | exact .build _ _ | exact .slice _ _ _ _ _ | exact .unOp _ _ _ rfl | exact .index _ _ _ | exact .max _ _ _ rfl rfl | exact .min _ _ _ rfl rfl)) | ((with_reducible refine Calmly.is_gl ?_); refine Calmly.mix_gl rfl rfl rfl ?_; first | ((first | with_reducible refine Calmly.gl_tt ?_ (fun _ _ => ?_) | with_reducible refine Calmly.gl_ff ?_ (fun _ _ => ?_)); (first | exact .move _ | exact .load _ _ | exact .fieldAddr _ _ _ (by kernel_rfl) | exact .assign _ | exact .binOp _ _ _ _ _ rfl | exact .indexAddr _ _ _ | exact .len _ _ (by kernel_rfl) | exact .field _ _ _ | exact .extract _ _ | exact .pick _ _ _ | exact .build _ _ | exact .slice _ _ _ _ _ | exact .unOp _ _ _ rfl | exact .index _ _ _ | exact .max _ _ _ rfl rfl | exact .min _ _ _ rfl rfl)) | with_reducible refine Calmly.gl_tf (fun _ _ => ?_) | with_reducible refine Calmly.gl_ft (fun _ _ => ?_)) | ((with_reducible refine Calmly.is_eff ?_); refine Calmly.mix_eff rfl (fun _ _ => ?_)) | ((with_reducible refine Calmly.is_gf ?_); refine Calmly.mix_gf rfl rfl rfl ?_; first | with_reducible refine Calmly.gf_tt (fun _ _ => ?_) | with_reducible refine Calmly.gf_ff (fun _ _ => ?_) | with_reducible refine Calmly.gf_tf (kept_of hk) (fun _ _ => ?_) | with_reducible refine Calmly.gf_ft (kept_of hk) (fun _ _ => ?_)) | ((with_reducible refine Calmly.is_tail ?_); first | refine Calmly.mix_tail_nil ?_ | refine Calmly.mix_tail rfl (fun _ _ => ?_)) | ((with_reducible refine Calmly.is_kept ?_); refine ⟨kept_of hk, ?_⟩) | (with_reducible refine Calmly.mix_alt ?_ ?_) | (at_builtin; refine appIw w10 rfl rfl _ _ rfl hown rfl rfl (by omega) (by omega) ?_; intro a2' c2' w11 ho5 hb5 hs5; have y5 := (hb5.block b7 (by omega)).trans yr; have f3 := cell_block y5 1; have f4 := frozen_block y5 1))
          go_roundw
          case rel =>
            refine ⟨j + 1, c2', a2', by go_num, by omega, blk_setAt y5 1 _, ?_, (hbr.trans (hb5.mono (by omega))).setCell (by simp) _⟩
            rw [HTK.out]
            exact ho5.under (by omega) _
          case measure => simp [intOf]; omega
        · obtain rfl : j = k := by omega
          have xr : wj.heap[w.heap.size]? = some (.cells #[.int .i64 0, .slice none 0 0] 117) := (hbr.block _ (by omega)).trans x6
          have f0 := cell_block yr 0
          have f1 := cell_block yr 1
          have t0 := cell_block xr 0
          have t1 := cell_block xr 1
          have t2 := frozen_block xr 0
          have t3 := frozen_block xr 1
          have htk : xs.take j = xs := List.take_of_length_le (by rw [← HX.out]; unfold comQ; rw [List.length_map]; omega)
          rw [htk] at hown
          clear htk
          go_wp2_with fail
          obtain ⟨s1, s2, s3, s4⟩ := set2 (x := .int .i64 N) (y := .slice a' j c') t0 t1
          refine bodyPost_ret (v := .agg #[.int .i64 N, .slice a' j c']) (by simp [results, Try.results124, go_sem, s1, s2]) rfl ⟨a', c', b7 + 1, rfl, hown.under2 (by omega) _ _, by omega, (Bw.setCell (by simp) _).setCell (by simp) _⟩
end Go.Proofs.Ytmaidjankakppaa

namespace Go.Proofs.Ytmaidjankakppaa
open Go.RowKit

/-- The error of loads. -/
def lbadE : List Int → Int
  | [] => 0
  | x :: l => if wIn x (-1000) 1000 = true then lbadE l else 2
def loadsE (n : Nat) (xs : List Int) : Int := if xs.length = n then lbadE xs else 10
theorem lbadE_drop (xs : List Int) (k : Nat) (h : k < xs.length) : lbadE (xs.drop k) = if wIn (xs[k]?.getD 0) (-1000) 1000 = true then lbadE (xs.drop (k + 1)) else 2 := by
  rw [List.drop_eq_getElem_cons h]
  simp [lbadE, h]
theorem lbadE_ok {xs : List Int} (h : lbadE xs = 0) : ∀ j : Nat, -1000 ≤ xs[j]?.getD 0 ∧ xs[j]?.getD 0 ≤ 1000 := by
  induction xs with
  | nil => intro j; simp
  | cons x l ih =>
    rw [lbadE] at h
    split at h
    · rename_i hw
      intro j
      cases j with
      | zero => exact wIn_iff.1 hw
      | succ j => simpa using ih h j
    · cases h
theorem loadsE_ok {n : Nat} {xs : List Int} (h : loadsE n xs = 0) : xs.length = n ∧ ∀ j : Nat, -1000 ≤ xs[j]?.getD 0 ∧ xs[j]?.getD 0 ≤ 1000 := by
  unfold loadsE at h
  split at h
  · rename_i hl
    exact ⟨hl, lbadE_ok h⟩
  · cases h

set_option maxRecDepth 100000 in
set_option maxHeartbeats 2000000 in
theorem LoadsErr_any (a b u : Option Addr) (n c m d k e' : Nat) (ms xs : List Int) (w : World) (h1 : SI w a n c ms) (h3 : SI w u k e' xs) :
    Calls Try.prog 81 #[.agg #[.slice a n c, .slice b m d], .slice u k e'] w fun e w' => e = .returned (.int .i64 (loadsE n xs)) ∧ Below w.heap.size w w' := by
  obtain ⟨l1, l2⟩ : n ≤ ms.length ∧ ms.length ≤ n := by have := h1.len; omega
  obtain ⟨g1, g2⟩ : k ≤ xs.length ∧ xs.length ≤ k := by have := h3.len; omega
  have m3 := h3.max
  have c3 := h3.cap
  have hb : Below w.heap.size w (w.alloc (.cells #[.slice a n c, .slice b m d] 24)) := (Below.refl _ _).alloc (Nat.le_refl _) _
  obtain ⟨E, hE⟩ : ∃ E, loadsE n xs = E := ⟨_, rfl⟩
  rw [hE]
  unfold loadsE at hE
  by_cases hl : xs.length = n
  case neg =>
    rw [if_neg hl] at hE
    subst hE
    have hne : ((k : Int) != (n : Int)) = true := by rw [bne_iff_ne]; omega
    have hne2 : ¬ k = n := by omega
    go_enter Try.func81, Try.ntmps81
    go_wp2_with fail
    all_goals first | (exfalso; omega) | skip
    all_goals
      go_ret
      exact ⟨rfl, hb⟩
  rw [if_pos hl] at hE
  obtain rfl : k = n := by omega
  have HK0 : Hid (lbadE (xs.drop 0) = E) := Lib.hid hE
  clear hE hl
  go_enter Try.func81, Try.ntmps81
  go_wp2_with fail
  go_loopw [5] (fun z wr => ∃ (i : Nat), i ≤ k ∧ z = .int .i64 (i : Int) ∧ Hid (lbadE (xs.drop i) = E) ∧ Below w.heap.size w wr) (fun z _ => k - (intOf z).toNat)
  case atStart => exact ⟨0, by omega, rfl, HK0, hb⟩
  case round =>
    obtain ⟨i, hi0, rfl, HK, hbr⟩ := hrel
    clear HK0
    by_cases hlt : i < k
    · obtain ⟨ba, oa, rfl, hca⟩ := (h3.keep hbr).at_ (by omega)
      have ea := hca i hlt
      have hK := HK.out
      rw [lbadE_drop xs i (by omega)] at hK
      obtain ⟨x, hx⟩ : ∃ v, xs[i]?.getD 0 = v := ⟨_, rfl⟩
      rw [hx] at ea hK
      obtain ⟨G, hG⟩ : ∃ v, wIn x (-1000) 1000 = v := ⟨_, rfl⟩
      rw [hG] at hK
      have HG := Lib.hid hG
      have HK2 := Lib.hid hK
      clear hca hx hK hG
      have hii : (i : Int) < (k : Int) := by omega
      have hi0' : (0 : Int) ≤ (i : Int) := by omega
      go_wp2_with fail
      refine (within_any _ _ _ _).mono ?_
      rintro e w1 ⟨rfl, rfl⟩
      rw [HG.out]
      cases G
      · obtain rfl : E = 2 := HK2.out.symm
        go_wp2_with fail
        go_ret
        exact ⟨rfl, hbr⟩
      · go_wp2_with fail
        go_roundw
        case rel => exact ⟨i + 1, by omega, by go_num, Lib.hid (by simpa using HK2.out), hbr⟩
        case measure => simp [intOf]; omega
    · have hle : (k : Int) ≤ (i : Int) := by omega
      obtain rfl : E = 0 := by
        have := HK.out
        rw [List.drop_eq_nil_of_le (by omega)] at this
        exact this.symm
      go_wp2_with fail
      go_ret
      exact ⟨rfl, hbr⟩

set_option maxRecDepth 100000 in
set_option maxHeartbeats 2000000 in
theorem SameShape_any (x y : Int) (a b : Option Addr) (n c m d : Nat) (xs ys : List Int) (w : World) (h1 : SI w a n c xs) (h2 : SI w b m d ys) :
    Calls Try.prog 82 #[.agg #[.int .i64 x, .slice a n c], .agg #[.int .i64 y, .slice b m d]] w fun e w' => e = .returned (.bool (x == y && decide (xs = ys))) ∧ Below w.heap.size w w' := by
  have hb2 : Below w.heap.size w ((w.alloc (.cells #[.int .i64 x, .slice a n c] 117)).alloc (.cells #[.int .i64 y, .slice b m d] 117)) := ((Below.refl _ _).alloc (Nat.le_refl _) _).alloc (by simp) _
  obtain ⟨Q, hQ⟩ : ∃ Q, decide (xs = ys) = Q := ⟨_, rfl⟩
  rw [hQ]
  have HQ := Lib.hid hQ
  clear hQ
  go_enter Try.func82, Try.ntmps82
  by_cases hxy : x = y
  · subst hxy
    go_wp2_with fail
    refine (ints_any a b n m c d xs ys _ (h1.keep hb2) (h2.keep hb2)).mono ?_
    rintro e w1 ⟨rfl, k, rfl⟩
    rw [HQ.out]
    cases Q
    all_goals
      go_wp2_with fail
      go_ret
      exact ⟨by simp, below_drewN hb2 k⟩
  · have hne : (x == y) = false := by rw [beq_eq_false_iff_ne]; exact hxy
    clear hxy
    go_wp2_with fail
    go_ret
    exact ⟨by simp [hne], hb2⟩
end Go.Proofs.Ytmaidjankakppaa

namespace Go.Proofs.Ytmaidjankakppaa
open Go.RowKit
open Calmly (Kept)

/-- A load that is too great. -/
def oddL (x : Int) : Bool := !wIn x (-1000) 1000
theorem lbadE_any (xs : List Int) : lbadE xs = if xs.any oddL = true then 2 else 0 := by
  induction xs with
  | nil => rfl
  | cons x l ih =>
    rw [lbadE, List.any_cons, ih]
    cases h : wIn x (-1000) 1000 <;> simp [oddL, h]

set_option maxHeartbeats 400000 in
theorem oddLoad_any (x : Int) (w : World) : Calls Try.prog 119 #[.int .i64 x] w fun e w' => e = .returned (.bool (oddL x)) ∧ w = w' := by
  go_enter Try.func119, Try.ntmps119
  go_wp2_with fail
  refine (isSized_any x 1000 _ (by omega) (by omega)).mono ?_
  rintro e w1 ⟨rfl, rfl⟩
  go_wp2_with fail
  go_ret
  exact ⟨rfl, rfl⟩

set_option maxRecDepth 100000 in
set_option maxHeartbeats 1000000 in
theorem indexLoad_any (a : Option Addr) (n c : Nat) (xs : List Int) (w : World) (h1 : SI w a n c xs) :
    Calls Try.prog 143 #[.slice a n c, .func (.func 119) #[] #[]] w fun e w' => (∃ i : Int, e = .returned (.int .i64 i) ∧ decide (0 ≤ i) = xs.any oddL) ∧ w = w' := by
  obtain ⟨l1, l2⟩ : n ≤ xs.length ∧ xs.length ≤ n := by have := h1.len; omega
  have m1 := h1.max
  have c1 := h1.cap
  go_enter Try.func143, Try.ntmps143
  go_wp2_with fail
  go_loop [8] (fun i => ∃ k : Nat, k ≤ n ∧ i = .int .i64 k ∧ ∀ j, j < k → oddL (xs[j]?.getD 0) = false) (fun i => n - (intOf i).toNat)
  case atStart => exact ⟨0, by omega, rfl, fun j hj => by omega⟩
  case round =>
    obtain ⟨k, hk, rfl, ht⟩ := hrel
    have HT := Lib.hid ht
    clear ht
    by_cases hlt : k < n
    · obtain ⟨b1, o1, rfl, hc1⟩ := h1.at_ (by omega)
      have e1 := hc1 k hlt
      clear hc1
      have hi : (k : Int) < (n : Int) := by omega
      have hi0 : (0 : Int) ≤ (k : Int) := by omega
      have hx : xs[k]? = some (xs[k]?.getD 0) := by
        have : k < xs.length := by omega
        simp [this]
      have HX := Lib.hid hx
      clear hx
      obtain ⟨x, hxx⟩ : ∃ x, xs[k]?.getD 0 = x := ⟨_, rfl⟩
      rw [hxx] at e1 HX
      have HXX := Lib.hid hxx
      clear hxx
      go_wp2_with fail
      refine (oddLoad_any _ _).mono ?_
      rintro e w1 ⟨rfl, rfl⟩
      cases ho : oddL x
      · go_wp2_with fail
        go_round
        case rel => exact ⟨k + 1, by omega, by go_num, fun j hj => if h : j = k then by subst h; rw [HXX.out]; exact ho else HT.out j (by omega)⟩
        case measure => simp [intOf]; omega
      · go_wp2_with fail
        go_ret
        refine ⟨⟨k, rfl, ?_⟩, rfl⟩
        have : xs.any oddL = true := List.any_eq_true.2 ⟨x, List.mem_of_getElem? HX.out, ho⟩
        rw [this]
        simp
    · have hle : (n : Int) ≤ (k : Int) := by omega
      go_wp2_with fail
      go_ret
      refine ⟨⟨-1, rfl, ?_⟩, rfl⟩
      have : xs.any oddL = false := by
        rw [List.any_eq_false]
        intro x hx
        obtain ⟨j, hj, rfl⟩ := List.mem_iff_getElem.1 hx
        have := HT.out j (by omega)
        simp [hj] at this
        simp [this]
      rw [this]
      rfl

set_option maxRecDepth 100000 in
set_option maxHeartbeats 1000000 in
theorem containsLoad_any (a : Option Addr) (n c : Nat) (xs : List Int) (w : World) (h1 : SI w a n c xs) :
    Calls Try.prog 118 #[.slice a n c, .func (.func 119) #[] #[]] w fun e w' => e = .returned (.bool (xs.any oddL)) ∧ w = w' := by
  go_enter Try.func118, Try.ntmps118
  go_wp2_with fail
  refine (indexLoad_any a n c xs _ h1).mono ?_
  rintro e w1 ⟨⟨i, rfl, hi⟩, rfl⟩
  have HI := Lib.hid hi
  clear hi
  go_wp2_with fail
  go_ret
  exact ⟨ret_bool HI.out, rfl⟩
end Go.Proofs.Ytmaidjankakppaa
