/- Contracts of fractions of numbers of any size: they are the rational numbers. -/
import Derived.Test.YtfjcfbmfpefabaaGreatK07
namespace Go.Proofs.YtfjcfbmfpefabaaGreat
open Go.RowKit Go.Wides
open Calmly (Kept)
attribute [local go_sem] field_wide0 field_wide1

/-- A fraction in memory is a rational number. -/
def RatV (w : World) (s : Int) (a : Option Addr) (n c : Nat) (s' : Int) (a' : Option Addr) (n' c' : Nat) (q : Rat) : Prop := WideV w s a n c q.num ∧ WideV w s' a' n' c' (q.den : Int)
theorem RatV.keep {w w' : World} {s : Int} {a : Option Addr} {n c : Nat} {s' : Int} {a' : Option Addr} {n' c' : Nat} {q : Rat} (h : RatV w s a n c s' a' n' c' q) (hb : Below w.heap.size w w') : RatV w' s a n c s' a' n' c' q := ⟨h.1.keep hb, h.2.keep hb⟩

/-- The quotient's parts: of numbers that have no divisor in common, and of others. -/
theorem make_one {z1 z2 : Int} (hz : 0 < z2) (hg : Int.gcd z1 z2 = 1) : (Rat.divInt z1 z2).num = z1 ∧ ((Rat.divInt z1 z2).den : Int) = z2 := by
  rw [Rat.num_divInt, Rat.den_divInt, if_neg (by omega), Int.gcd_comm, hg, Int.sign_eq_one_of_pos hz]
  refine ⟨by simp, ?_⟩
  simp
  omega
theorem make_two {z1 z2 : Int} (hz : 0 < z2) : (Rat.divInt z1 z2).num = z1 / (Int.gcd z1 z2 : Int) ∧ ((Rat.divInt z1 z2).den : Int) = z2 / (Int.gcd z1 z2 : Int) := by
  rw [Rat.num_divInt, Rat.den_divInt, if_neg (by omega), Int.gcd_comm, Int.sign_eq_one_of_pos hz]
  refine ⟨by simp, ?_⟩
  rw [Int.natCast_ediv, Int.natAbs_of_nonneg (by omega)]

/-- The walk stops here. -/
structure StopR (p : Prop) : Prop where
  out : p
theorem box3r {w W w1 : World} {o o' o'' : Obj} (h : Below W.heap.size W w1) (hW : W.heap = (((w.alloc o).alloc o').alloc o'').heap := by rfl) : w1.heap[w.heap.size]? = some o ∧ w1.heap[w.heap.size + 1]? = some o' ∧ w1.heap[w.heap.size + 1 + 1]? = some o'' := by
  have e1 := alloc_new w o
  have e2 := alloc_new (w.alloc o) o'
  have e3 := alloc_new ((w.alloc o).alloc o') o''
  have k2 : Below (w.alloc o).heap.size (w.alloc o) ((w.alloc o).alloc o') := (Below.refl _ _).alloc (Nat.le_refl _) _
  have k3 : Below ((w.alloc o).alloc o').heap.size ((w.alloc o).alloc o') (((w.alloc o).alloc o').alloc o'') := (Below.refl _ _).alloc (Nat.le_refl _) _
  replace e1 := blk_keep (blk_keep e1 k2) k3
  replace e2 := blk_keep e2 k3
  simp only [World.size_alloc] at e2 e3
  have hs := blk_lt e3
  refine ⟨?_, ?_, ?_⟩
  · rw [h.block _ (by rw [hW]; omega), hW]; exact e1
  · rw [h.block _ (by rw [hW]; omega), hW]; exact e2
  · rw [h.block _ (by rw [hW]; exact hs), hW]; exact e3
theorem blkOther {W : World} {b r : Nat} {o : Obj} (h : W.heap[b]? = some o) (hne : b ≠ r) (k : Nat) (v : Value) : (W.setCell ⟨r, k, none⟩ v).heap[b]? = some o := (Below.heap_setCell _ _ _ _ hne).trans h
theorem blkSet {W : World} {b : Nat} {cs : Array Value} {t : TypeId} (h : W.heap[b]? = some (.cells cs t)) (i : Nat) (v : Value) : (W.setCell ⟨b, i, none⟩ v).heap[b]? = some (.cells (cs.setIfInBounds i v) t) := by
  simp [World.setCell, Array.getElem?_modify, h]

set_option maxRecDepth 100000 in
set_option maxHeartbeats 8000000 in
/-- A quotient by a number that is not 0. -/
theorem RatioMake_any (s1 s2 : Int) (a1 a2 : Option Addr) (n1 n2 c1 c2 : Nat) (z1 z2 : Int) (w : World) (h1 : WideV w s1 a1 n1 c1 z1) (h2 : WideV w s2 a2 n2 c2 z2) (hz : z2 ≠ 0) (hn1 : n1 ≤ 137438953472) (hn2 : n2 ≤ 137438953472) :
    Calls Tryz.prog 67 #[.agg #[.int .i64 s1, .slice a1 n1 c1], .agg #[.int .i64 s2, .slice a2 n2 c2]] w fun e w' => ∃ s a m c s' a' m' c', e = .returned (.agg #[.int .i64 s, .slice a m c, .int .i64 s', .slice a' m' c']) ∧ (m ≤ n1 + 4 ∧ m' ≤ n2 + 4 ∧ RatV w' s a m c s' a' m' c' (Rat.divInt z1 z2)) ∧ Below w.heap.size w w' := by
  have hA : ∀ (A : World) (o : Obj), Below A.heap.size A (A.alloc o) := fun A o => (Below.refl _ _).alloc (Nat.le_refl _) _
  have hb : ∀ o1 o2 o3, Below w.heap.size w (((w.alloc o1).alloc o2).alloc o3) := fun o1 o2 o3 => (((Below.refl _ _).alloc (Nat.le_refl _) _).alloc (by simp) _).alloc (by simp; omega) _
  have hs2 : s2 = z2.sign := by obtain ⟨_, _, _, _, _, _, h⟩ := h2; exact h
  have hbd1 := h1.s_bd
  rcases Int.lt_or_gt_of_ne hz with hneg | hpos
  · obtain rfl : s2 = -1 := by rw [hs2]; exact Int.sign_eq_neg_one_of_neg hneg
    clear hs2
    go_enter Tryz.func67, Tryz.ntmps67
    go_wp2_with fail
    refine (WideSign_any (-1) a2 n2 c2 _).mono ?_
    rintro e w1 ⟨rfl, hbx⟩
    obtain ⟨X1, X2, X3⟩ := box3r (w := w) (o := .cells #[.int .i64 s1, .slice a1 n1 c1] 78) (o' := .cells #[.int .i64 (-1), .slice a2 n2 c2] 78) (o'' := .cells #[.int .i64 0, .slice none 0 0, .int .i64 0, .slice none 0 0] 80) hbx
    have BW := (hb (.cells #[.int .i64 s1, .slice a1 n1 c1] 78) (.cells #[.int .i64 (-1), .slice a2 n2 c2] 78) (.cells #[.int .i64 0, .slice none 0 0, .int .i64 0, .slice none 0 0] 80)).trans (hbx.mono (by simp; omega))
    have V1 := h1.keep BW
    have V2 := h2.keep BW
    clear hbx hb
    rename_i K3 hK3 K2 hK2 K1 hK1
    have hK3' := fun a w (h : StopR _) => hK3 a w h.out
    clear hK3
    have y0 := cell_block X1 0
    have y1 := cell_block X1 1
    have y2 := cell_block X2 0
    have y3 := cell_block X2 1
    have sX3 := blk_lt X3
    go_wp2_with fail
    refine Calmly.wp_region_mix 4 (.fl 0 <| .fl 2 <| .eff 1 <| .eff 3 <| .tail [4, 5]) (by kernel_rfl) (by kernel_rfl) ?_
    replace X1 : w1.drew.heap[w.heap.size]? = some (.cells #[.int .i64 s1, .slice a1 n1 c1] 78) := X1
    replace X2 : w1.drew.heap[w.heap.size + 1]? = some (.cells #[.int .i64 (-1), .slice a2 n2 c2] 78) := X2
    replace X3 : w1.drew.heap[w.heap.size + 1 + 1]? = some (.cells #[.int .i64 0, .slice none 0 0, .int .i64 0, .slice none 0 0] 80) := X3
    replace V1 := V1.keep (Below.refl _ _).drew
    replace V2 := V2.keep (Below.refl _ _).drew
    replace BW := BW.drew
    have hk := Below.refl w1.drew.heap.size w1.drew
    go_wp2_with (first | ((with_reducible refine Calmly.is_fl ?_); refine Calmly.mix_fl rfl ?_ (fun _ _ => ?_); (first | exact .move _ | exact .load _ _ | exact .fieldAddr _ _ _ (by kernel_rfl) | exact .assign _ | exact .binOp _ _ _ _ _ rfl | exact .indexAddr _ _ _ | exact .len _ _ (by kernel_rfl) | exact .field _ _ _ | exact .extract _ _ | exact .pick _ _ _ | exact .build _ _ | exact .slice _ _ _ _ _ | exact .unOp _ _ _ rfl | exact .index _ _ _ | exact .max _ _ _ rfl rfl | exact .min _ _ _ rfl rfl)) | ((with_reducible refine Calmly.is_gl ?_); refine Calmly.mix_gl rfl rfl rfl ?_; first | ((first | with_reducible refine Calmly.gl_tt ?_ (fun _ _ => ?_) | with_reducible refine Calmly.gl_ff ?_ (fun _ _ => ?_)); (first | exact .move _ | exact .load _ _ | exact .fieldAddr _ _ _ (by kernel_rfl) | exact .assign _ | exact .binOp _ _ _ _ _ rfl | exact .indexAddr _ _ _ | exact .len _ _ (by kernel_rfl) | exact .field _ _ _ | exact .extract _ _ | exact .pick _ _ _ | exact .build _ _ | exact .slice _ _ _ _ _ | exact .unOp _ _ _ rfl | exact .index _ _ _ | exact .max _ _ _ rfl rfl | exact .min _ _ _ rfl rfl)) | with_reducible refine Calmly.gl_tf (fun _ _ => ?_) | with_reducible refine Calmly.gl_ft (fun _ _ => ?_)) | ((with_reducible refine Calmly.is_eff ?_); refine Calmly.mix_eff rfl (fun _ _ => ?_)) | ((with_reducible refine Calmly.is_gf ?_); refine Calmly.mix_gf rfl rfl rfl ?_; first | with_reducible refine Calmly.gf_tt (fun _ _ => ?_) | with_reducible refine Calmly.gf_ff (fun _ _ => ?_) | with_reducible refine Calmly.gf_tf (kept_of hk) (fun _ _ => ?_) | with_reducible refine Calmly.gf_ft (kept_of hk) (fun _ _ => ?_)) | ((with_reducible refine Calmly.is_tail ?_); first | refine Calmly.mix_tail_nil ?_ | refine Calmly.mix_tail rfl (fun _ _ => ?_)) | ((with_reducible refine Calmly.is_kept ?_); refine ⟨kept_of hk, ?_⟩) | (with_reducible refine Calmly.mix_alt ?_ ?_))
    refine (WideNeg_any s1 a1 n1 c1 z1 _ V1).mono ?_
    rintro e v1 ⟨rfl, V1n, hs⟩
    replace hk := step_of hk hs
    clear hs
    go_wp2_with (first | ((with_reducible refine Calmly.is_fl ?_); refine Calmly.mix_fl rfl ?_ (fun _ _ => ?_); (first | exact .move _ | exact .load _ _ | exact .fieldAddr _ _ _ (by kernel_rfl) | exact .assign _ | exact .binOp _ _ _ _ _ rfl | exact .indexAddr _ _ _ | exact .len _ _ (by kernel_rfl) | exact .field _ _ _ | exact .extract _ _ | exact .pick _ _ _ | exact .build _ _ | exact .slice _ _ _ _ _ | exact .unOp _ _ _ rfl | exact .index _ _ _ | exact .max _ _ _ rfl rfl | exact .min _ _ _ rfl rfl)) | ((with_reducible refine Calmly.is_gl ?_); refine Calmly.mix_gl rfl rfl rfl ?_; first | ((first | with_reducible refine Calmly.gl_tt ?_ (fun _ _ => ?_) | with_reducible refine Calmly.gl_ff ?_ (fun _ _ => ?_)); (first | exact .move _ | exact .load _ _ | exact .fieldAddr _ _ _ (by kernel_rfl) | exact .assign _ | exact .binOp _ _ _ _ _ rfl | exact .indexAddr _ _ _ | exact .len _ _ (by kernel_rfl) | exact .field _ _ _ | exact .extract _ _ | exact .pick _ _ _ | exact .build _ _ | exact .slice _ _ _ _ _ | exact .unOp _ _ _ rfl | exact .index _ _ _ | exact .max _ _ _ rfl rfl | exact .min _ _ _ rfl rfl)) | with_reducible refine Calmly.gl_tf (fun _ _ => ?_) | with_reducible refine Calmly.gl_ft (fun _ _ => ?_)) | ((with_reducible refine Calmly.is_eff ?_); refine Calmly.mix_eff rfl (fun _ _ => ?_)) | ((with_reducible refine Calmly.is_gf ?_); refine Calmly.mix_gf rfl rfl rfl ?_; first | with_reducible refine Calmly.gf_tt (fun _ _ => ?_) | with_reducible refine Calmly.gf_ff (fun _ _ => ?_) | with_reducible refine Calmly.gf_tf (kept_of hk) (fun _ _ => ?_) | with_reducible refine Calmly.gf_ft (kept_of hk) (fun _ _ => ?_)) | ((with_reducible refine Calmly.is_tail ?_); first | refine Calmly.mix_tail_nil ?_ | refine Calmly.mix_tail rfl (fun _ _ => ?_)) | ((with_reducible refine Calmly.is_kept ?_); refine ⟨kept_of hk, ?_⟩) | (with_reducible refine Calmly.mix_alt ?_ ?_))
    refine (WideNeg_any (-1) a2 n2 c2 z2 _ (V2.keep hk)).mono ?_
    rintro e v2 ⟨rfl, V2n, hs⟩
    replace hk := step_of hk hs
    replace V1n := V1n.keep hs
    clear hs y0 y1 y2 y3
    replace X1 := (hk.block _ (blk_lt X1)).trans X1
    replace X2 := (hk.block _ (blk_lt X2)).trans X2
    replace X3 := (hk.block _ (blk_lt X3)).trans X3
    replace BW := BW.trans (hk.mono BW.size)
    have y0 := cell_block X1 0
    have y1 := cell_block X1 1
    have y2 := cell_block X2 0
    have y3 := cell_block X2 1
    have y4 := frozen_block X1 0
    have y5 := frozen_block X1 1
    have y6 := frozen_block X2 0
    have y7 := frozen_block X2 1
    go_wp2_with (first | ((with_reducible refine Calmly.is_fl ?_); refine Calmly.mix_fl rfl ?_ (fun _ _ => ?_); (first | exact .move _ | exact .load _ _ | exact .fieldAddr _ _ _ (by kernel_rfl) | exact .assign _ | exact .binOp _ _ _ _ _ rfl | exact .indexAddr _ _ _ | exact .len _ _ (by kernel_rfl) | exact .field _ _ _ | exact .extract _ _ | exact .pick _ _ _ | exact .build _ _ | exact .slice _ _ _ _ _ | exact .unOp _ _ _ rfl | exact .index _ _ _ | exact .max _ _ _ rfl rfl | exact .min _ _ _ rfl rfl)) | ((with_reducible refine Calmly.is_gl ?_); refine Calmly.mix_gl rfl rfl rfl ?_; first | ((first | with_reducible refine Calmly.gl_tt ?_ (fun _ _ => ?_) | with_reducible refine Calmly.gl_ff ?_ (fun _ _ => ?_)); (first | exact .move _ | exact .load _ _ | exact .fieldAddr _ _ _ (by kernel_rfl) | exact .assign _ | exact .binOp _ _ _ _ _ rfl | exact .indexAddr _ _ _ | exact .len _ _ (by kernel_rfl) | exact .field _ _ _ | exact .extract _ _ | exact .pick _ _ _ | exact .build _ _ | exact .slice _ _ _ _ _ | exact .unOp _ _ _ rfl | exact .index _ _ _ | exact .max _ _ _ rfl rfl | exact .min _ _ _ rfl rfl)) | with_reducible refine Calmly.gl_tf (fun _ _ => ?_) | with_reducible refine Calmly.gl_ft (fun _ _ => ?_)) | ((with_reducible refine Calmly.is_eff ?_); refine Calmly.mix_eff rfl (fun _ _ => ?_)) | ((with_reducible refine Calmly.is_gf ?_); refine Calmly.mix_gf rfl rfl rfl ?_; first | with_reducible refine Calmly.gf_tt (fun _ _ => ?_) | with_reducible refine Calmly.gf_ff (fun _ _ => ?_) | with_reducible refine Calmly.gf_tf (kept_of hk) (fun _ _ => ?_) | with_reducible refine Calmly.gf_ft (kept_of hk) (fun _ _ => ?_)) | ((with_reducible refine Calmly.is_tail ?_); first | refine Calmly.mix_tail_nil ?_ | refine Calmly.mix_tail rfl (fun _ _ => ?_)) | ((with_reducible refine Calmly.is_kept ?_); refine ⟨kept_of hk, ?_⟩) | (with_reducible refine Calmly.mix_alt ?_ ?_))
    refine ⟨?_⟩
    have T1 : BlkT v2 w.heap.size 78 := ⟨_, X1⟩
    have T2 : BlkT v2 (w.heap.size + 1) 78 := ⟨_, X2⟩
    have Z1 := (((V1n.set T1 (by decide) (o := 0) (v := .int .i64 (-s1))).set (T1.set _ _) (by decide) (o := 1) (v := .slice a1 n1 c1)).set ((T2.set _ _).set _ _) (by decide) (o := 0) (v := .int .i64 1)).set (((T2.set _ _).set _ _).set _ _) (by decide) (o := 1) (v := .slice a2 n2 c2)
    have Z2 : WideV _ 1 a2 n2 c2 (-z2) := (((V2n.set T1 (by decide) (o := 0) (v := .int .i64 (-s1))).set (T1.set _ _) (by decide) (o := 1) (v := .slice a1 n1 c1)).set ((T2.set _ _).set _ _) (by decide) (o := 0) (v := .int .i64 1)).set (((T2.set _ _).set _ _).set _ _) (by decide) (o := 1) (v := .slice a2 n2 c2)
    have ne1 : w.heap.size ≠ w.heap.size + 1 := by omega
    have ne2 : w.heap.size + 1 ≠ w.heap.size := by omega
    have ne3 : w.heap.size + 1 + 1 ≠ w.heap.size := by omega
    have ne4 : w.heap.size + 1 + 1 ≠ w.heap.size + 1 := by omega
    have X1' := blkOther (blkOther (blkSet (blkSet X1 0 (.int .i64 (-s1))) 1 (.slice a1 n1 c1)) ne1 0 (.int .i64 1)) ne1 1 (.slice a2 n2 c2)
    have X2' := blkSet (blkSet (blkOther (blkOther X2 ne2 0 (.int .i64 (-s1))) ne2 1 (.slice a1 n1 c1)) 0 (.int .i64 1)) 1 (.slice a2 n2 c2)
    have X3' := blkOther (blkOther (blkOther (blkOther X3 ne3 0 (.int .i64 (-s1))) ne3 1 (.slice a1 n1 c1)) ne4 0 (.int .i64 1)) ne4 1 (.slice a2 n2 c2)
    have BW' := (((BW.setCell (p := ⟨w.heap.size, 0, none⟩) (Nat.le_refl _) (.int .i64 (-s1))).setCell (p := ⟨w.heap.size, 1, none⟩) (Nat.le_refl _) (.slice a1 n1 c1)).setCell (p := ⟨w.heap.size + 1, 0, none⟩) (by simp) (.int .i64 1)).setCell (p := ⟨w.heap.size + 1, 1, none⟩) (by simp) (.slice a2 n2 c2)
    have hsb : -1 ≤ -s1 ∧ -s1 ≤ 1 := by omega
    clear X1 X2 X3 BW V1 V2 V1n V2n T1 T2 hk y0 y1 y2 y3 y4 y5 y6 y7 ne1 ne2 ne3 ne4 sX3
    generalize World.setCell (World.setCell (World.setCell (World.setCell v2 _ _) _ _) _ _) _ _ = v0 at X1' X2' X3' Z1 Z2 BW' ⊢
    have X1 : v0.heap[w.heap.size]? = some (.cells #[.int .i64 (-s1), .slice a1 n1 c1] 78) := X1'
    have X2 : v0.heap[w.heap.size + 1]? = some (.cells #[.int .i64 1, .slice a2 n2 c2] 78) := X2'
    have X3 : v0.heap[w.heap.size + 1 + 1]? = some (.cells #[.int .i64 0, .slice none 0 0, .int .i64 0, .slice none 0 0] 80) := X3'
    have V1 := Z1
    have V2 := Z2
    have BW := BW'
    clear X1' X2' X3' Z1 Z2 BW'
    have hG1 : 0 < Int.gcd (-z1) (-z2) := Int.gcd_pos_of_ne_zero_right (-z1) (by omega)
    have y0 := cell_block X1 0
    have y1 := cell_block X1 1
    have y2 := cell_block X2 0
    have y3 := cell_block X2 1
    have sX3 := blk_lt X3
    go_wp2_with fail
    refine (wideGcd_any (-s1) 1 a1 a2 n1 n2 c1 c2 (-z1) (-z2) _ V1 V2 (by omega) (by omega)).mono ?_
    rintro e v1 ⟨sg, ag, mg, cg, rfl, ⟨hmg, VG⟩, hb⟩
    replace X1 := blk_keep X1 hb
    replace X2 := blk_keep X2 hb
    replace X3 := blk_keep X3 hb
    replace V1 := V1.keep hb
    replace V2 := V2.keep hb
    replace BW := BW.trans (hb.mono BW.size)
    clear hb y0 y1 y2 y3 sX3
    have sX3 := blk_lt X3
    have X5 := alloc_new v1 (.cells #[.int .i64 sg, .slice ag mg cg] 78)
    have hb := hA v1 (.cells #[.int .i64 sg, .slice ag mg cg] 78)
    replace X1 := blk_keep X1 hb
    replace X2 := blk_keep X2 hb
    replace X3 := blk_keep X3 hb
    replace V1 := V1.keep hb
    replace V2 := V2.keep hb
    replace VG := VG.keep hb
    replace BW := BW.trans (hb.mono BW.size)
    obtain ⟨G, hG⟩ : ∃ G : Nat, Int.gcd (-z1) (-z2) = G := ⟨_, rfl⟩
    rw [hG] at VG hG1
    have HG := Lib.hid hG
    clear hb hG
    go_wp2_with fail
    refine Calmly.wp_region_mix 3 (.fl 0 <| .eff 1 <| .eff 2 <| .tail [3]) (by kernel_rfl) (by kernel_rfl) ?_
    replace X1 : (v1.alloc (.cells #[.int .i64 sg, .slice ag mg cg] 78)).drew.heap[w.heap.size]? = some (.cells #[.int .i64 (-s1), .slice a1 n1 c1] 78) := X1
    replace X2 : (v1.alloc (.cells #[.int .i64 sg, .slice ag mg cg] 78)).drew.heap[w.heap.size + 1]? = some (.cells #[.int .i64 1, .slice a2 n2 c2] 78) := X2
    replace X3 : (v1.alloc (.cells #[.int .i64 sg, .slice ag mg cg] 78)).drew.heap[w.heap.size + 1 + 1]? = some (.cells #[.int .i64 0, .slice none 0 0, .int .i64 0, .slice none 0 0] 80) := X3
    replace X5 : (v1.alloc (.cells #[.int .i64 sg, .slice ag mg cg] 78)).drew.heap[v1.heap.size]? = some (.cells #[.int .i64 sg, .slice ag mg cg] 78) := X5
    replace V1 := V1.keep (Below.refl _ _).drew
    replace V2 := V2.keep (Below.refl _ _).drew
    replace VG := VG.keep (Below.refl _ _).drew
    replace BW := BW.drew
    obtain ⟨b5, hb5⟩ : ∃ b, v1.heap.size = b := ⟨_, rfl⟩
    rw [hb5] at X5 sX3 ⊢
    clear hb5
    generalize World.drew (World.alloc v1 _) = v2 at X1 X2 X3 X5 V1 V2 VG BW ⊢
    have x50 := cell_block X5 0
    have x51 := cell_block X5 1
    have hk := Below.refl v2.heap.size v2
    go_wp2_with (first | ((with_reducible refine Calmly.is_fl ?_); refine Calmly.mix_fl rfl ?_ (fun _ _ => ?_); (first | exact .move _ | exact .load _ _ | exact .fieldAddr _ _ _ (by kernel_rfl) | exact .assign _ | exact .binOp _ _ _ _ _ rfl | exact .indexAddr _ _ _ | exact .len _ _ (by kernel_rfl) | exact .field _ _ _ | exact .extract _ _ | exact .pick _ _ _ | exact .build _ _ | exact .slice _ _ _ _ _ | exact .unOp _ _ _ rfl | exact .index _ _ _ | exact .max _ _ _ rfl rfl | exact .min _ _ _ rfl rfl)) | ((with_reducible refine Calmly.is_gl ?_); refine Calmly.mix_gl rfl rfl rfl ?_; first | ((first | with_reducible refine Calmly.gl_tt ?_ (fun _ _ => ?_) | with_reducible refine Calmly.gl_ff ?_ (fun _ _ => ?_)); (first | exact .move _ | exact .load _ _ | exact .fieldAddr _ _ _ (by kernel_rfl) | exact .assign _ | exact .binOp _ _ _ _ _ rfl | exact .indexAddr _ _ _ | exact .len _ _ (by kernel_rfl) | exact .field _ _ _ | exact .extract _ _ | exact .pick _ _ _ | exact .build _ _ | exact .slice _ _ _ _ _ | exact .unOp _ _ _ rfl | exact .index _ _ _ | exact .max _ _ _ rfl rfl | exact .min _ _ _ rfl rfl)) | with_reducible refine Calmly.gl_tf (fun _ _ => ?_) | with_reducible refine Calmly.gl_ft (fun _ _ => ?_)) | ((with_reducible refine Calmly.is_eff ?_); refine Calmly.mix_eff rfl (fun _ _ => ?_)) | ((with_reducible refine Calmly.is_gf ?_); refine Calmly.mix_gf rfl rfl rfl ?_; first | with_reducible refine Calmly.gf_tt (fun _ _ => ?_) | with_reducible refine Calmly.gf_ff (fun _ _ => ?_) | with_reducible refine Calmly.gf_tf (kept_of hk) (fun _ _ => ?_) | with_reducible refine Calmly.gf_ft (kept_of hk) (fun _ _ => ?_)) | ((with_reducible refine Calmly.is_tail ?_); first | refine Calmly.mix_tail_nil ?_ | refine Calmly.mix_tail rfl (fun _ _ => ?_)) | ((with_reducible refine Calmly.is_kept ?_); refine ⟨kept_of hk, ?_⟩) | (with_reducible refine Calmly.mix_alt ?_ ?_))
    refine (WideOf_any 1 _ (by omega) (by omega)).mono ?_
    rintro e v3 ⟨so, ao, mo, co, rfl, ⟨hmo, VO⟩, hs⟩
    replace hk := step_of hk hs
    clear hs
    go_wp2_with (first | ((with_reducible refine Calmly.is_fl ?_); refine Calmly.mix_fl rfl ?_ (fun _ _ => ?_); (first | exact .move _ | exact .load _ _ | exact .fieldAddr _ _ _ (by kernel_rfl) | exact .assign _ | exact .binOp _ _ _ _ _ rfl | exact .indexAddr _ _ _ | exact .len _ _ (by kernel_rfl) | exact .field _ _ _ | exact .extract _ _ | exact .pick _ _ _ | exact .build _ _ | exact .slice _ _ _ _ _ | exact .unOp _ _ _ rfl | exact .index _ _ _ | exact .max _ _ _ rfl rfl | exact .min _ _ _ rfl rfl)) | ((with_reducible refine Calmly.is_gl ?_); refine Calmly.mix_gl rfl rfl rfl ?_; first | ((first | with_reducible refine Calmly.gl_tt ?_ (fun _ _ => ?_) | with_reducible refine Calmly.gl_ff ?_ (fun _ _ => ?_)); (first | exact .move _ | exact .load _ _ | exact .fieldAddr _ _ _ (by kernel_rfl) | exact .assign _ | exact .binOp _ _ _ _ _ rfl | exact .indexAddr _ _ _ | exact .len _ _ (by kernel_rfl) | exact .field _ _ _ | exact .extract _ _ | exact .pick _ _ _ | exact .build _ _ | exact .slice _ _ _ _ _ | exact .unOp _ _ _ rfl | exact .index _ _ _ | exact .max _ _ _ rfl rfl | exact .min _ _ _ rfl rfl)) | with_reducible refine Calmly.gl_tf (fun _ _ => ?_) | with_reducible refine Calmly.gl_ft (fun _ _ => ?_)) | ((with_reducible refine Calmly.is_eff ?_); refine Calmly.mix_eff rfl (fun _ _ => ?_)) | ((with_reducible refine Calmly.is_gf ?_); refine Calmly.mix_gf rfl rfl rfl ?_; first | with_reducible refine Calmly.gf_tt (fun _ _ => ?_) | with_reducible refine Calmly.gf_ff (fun _ _ => ?_) | with_reducible refine Calmly.gf_tf (kept_of hk) (fun _ _ => ?_) | with_reducible refine Calmly.gf_ft (kept_of hk) (fun _ _ => ?_)) | ((with_reducible refine Calmly.is_tail ?_); first | refine Calmly.mix_tail_nil ?_ | refine Calmly.mix_tail rfl (fun _ _ => ?_)) | ((with_reducible refine Calmly.is_kept ?_); refine ⟨kept_of hk, ?_⟩) | (with_reducible refine Calmly.mix_alt ?_ ?_))
    refine (WideCmp_any sg so ag ao mg mo cg co G 1 _ (VG.keep hk) VO (by omega) (by omega)).mono ?_
    rintro e v4 ⟨rfl, hs⟩
    replace hk := step_of hk hs
    clear hs VO
    have hcmp : cmpI (G : Int) 1 = 0 ↔ G = 1 := by
      unfold cmpI
      split
      · omega
      · split <;> omega
    obtain ⟨K, hK⟩ : ∃ K, cmpI (G : Int) 1 = K := ⟨_, rfl⟩
    rw [hK] at hcmp ⊢
    clear hK
    have Y1 := (hk.block _ (blk_lt X1)).trans X1
    have Y2 := (hk.block _ (blk_lt X2)).trans X2
    have Y3 := (hk.block _ (blk_lt X3)).trans X3
    have Y5 := (hk.block _ (blk_lt X5)).trans X5
    have U1 := V1.keep hk
    have U2 := V2.keep hk
    have UG := VG.keep hk
    have BW2 := BW.trans (hk.mono BW.size)
    have y0 := cell_block Y1 0
    have y1 := cell_block Y1 1
    have y2 := cell_block Y2 0
    have y3 := cell_block Y2 1
    have q0 := cell_block Y3 0
    have q1 := cell_block Y3 1
    have q2 := cell_block Y3 2
    have q3 := cell_block Y3 3
    have p0 := frozen_block Y3 0
    have p1 := frozen_block Y3 1
    have p2 := frozen_block Y3 2
    have p3 := frozen_block Y3 3
    clear X1 X2 X3 X5 V1 V2 VG BW x50 x51
    by_cases hk0 : K = 0
    · subst hk0
      have hg1 := hcmp.1 rfl
      subst hg1
      clear hcmp
      go_wp2_with (first | ((with_reducible refine Calmly.is_fl ?_); refine Calmly.mix_fl rfl ?_ (fun _ _ => ?_); (first | exact .move _ | exact .load _ _ | exact .fieldAddr _ _ _ (by kernel_rfl) | exact .assign _ | exact .binOp _ _ _ _ _ rfl | exact .indexAddr _ _ _ | exact .len _ _ (by kernel_rfl) | exact .field _ _ _ | exact .extract _ _ | exact .pick _ _ _ | exact .build _ _ | exact .slice _ _ _ _ _ | exact .unOp _ _ _ rfl | exact .index _ _ _ | exact .max _ _ _ rfl rfl | exact .min _ _ _ rfl rfl)) | ((with_reducible refine Calmly.is_gl ?_); refine Calmly.mix_gl rfl rfl rfl ?_; first | ((first | with_reducible refine Calmly.gl_tt ?_ (fun _ _ => ?_) | with_reducible refine Calmly.gl_ff ?_ (fun _ _ => ?_)); (first | exact .move _ | exact .load _ _ | exact .fieldAddr _ _ _ (by kernel_rfl) | exact .assign _ | exact .binOp _ _ _ _ _ rfl | exact .indexAddr _ _ _ | exact .len _ _ (by kernel_rfl) | exact .field _ _ _ | exact .extract _ _ | exact .pick _ _ _ | exact .build _ _ | exact .slice _ _ _ _ _ | exact .unOp _ _ _ rfl | exact .index _ _ _ | exact .max _ _ _ rfl rfl | exact .min _ _ _ rfl rfl)) | with_reducible refine Calmly.gl_tf (fun _ _ => ?_) | with_reducible refine Calmly.gl_ft (fun _ _ => ?_)) | ((with_reducible refine Calmly.is_eff ?_); refine Calmly.mix_eff rfl (fun _ _ => ?_)) | ((with_reducible refine Calmly.is_gf ?_); refine Calmly.mix_gf rfl rfl rfl ?_; first | with_reducible refine Calmly.gf_tt (fun _ _ => ?_) | with_reducible refine Calmly.gf_ff (fun _ _ => ?_) | with_reducible refine Calmly.gf_tf (kept_of hk) (fun _ _ => ?_) | with_reducible refine Calmly.gf_ft (kept_of hk) (fun _ _ => ?_)) | ((with_reducible refine Calmly.is_tail ?_); first | refine Calmly.mix_tail_nil ?_ | refine Calmly.mix_tail rfl (fun _ _ => ?_)) | ((with_reducible refine Calmly.is_kept ?_); refine ⟨kept_of hk, ?_⟩) | (with_reducible refine Calmly.mix_alt ?_ ?_))
      have hT : BlkT v4 (w.heap.size + 1 + 1) 80 := ⟨_, Y3⟩
      have W1 := ((((U1).set hT (by decide) (o := 0) (v := .int .i64 (-s1))).set (hT.set _ _) (by decide) (o := 1) (v := .slice a1 n1 c1)).set ((hT.set _ _).set _ _) (by decide) (o := 2) (v := .int .i64 1)).set (((hT.set _ _).set _ _).set _ _) (by decide) (o := 3) (v := .slice a2 n2 c2)
      have W2 := ((((U2).set hT (by decide) (o := 0) (v := .int .i64 (-s1))).set (hT.set _ _) (by decide) (o := 1) (v := .slice a1 n1 c1)).set ((hT.set _ _).set _ _) (by decide) (o := 2) (v := .int .i64 1)).set (((hT.set _ _).set _ _).set _ _) (by decide) (o := 3) (v := .slice a2 n2 c2)
      have X4 := blkSet (blkSet (blkSet (blkSet Y3 0 (.int .i64 (-s1))) 1 (.slice a1 n1 c1)) 2 (.int .i64 1)) 3 (.slice a2 n2 c2)
      have r0 := cell_block X4 0
      have r1 := cell_block X4 1
      have r2 := cell_block X4 2
      have r3 := cell_block X4 3
      refine bodyPost_ret (v := .agg #[.int .i64 (-s1), .slice a1 n1 c1, .int .i64 1, .slice a2 n2 c2]) (by simp [results, Tryz.results67, go_sem, r0, r1, r2, r3]) rfl ⟨_, _, _, _, _, _, _, _, rfl, ⟨by omega, by omega, ?_⟩, ?_⟩
      · obtain ⟨e1, e2⟩ := make_one (z1 := (-z1)) (z2 := (-z2)) (by omega) HG.out
        unfold RatV
        rw [← Rat.neg_divInt_neg, e1, e2]
        exact ⟨W1, W2⟩
      · exact (((BW2.setCell (by simp; omega) _).setCell (by simp; omega) _).setCell (by simp; omega) _).setCell (by simp; omega) _
    · have hk1 : (K == 0) = false := by simpa using hk0
      clear hcmp hk0
      have y5 := cell_block Y5 0
      have y6 := cell_block Y5 1
      go_wp2_with (first | ((with_reducible refine Calmly.is_fl ?_); refine Calmly.mix_fl rfl ?_ (fun _ _ => ?_); (first | exact .move _ | exact .load _ _ | exact .fieldAddr _ _ _ (by kernel_rfl) | exact .assign _ | exact .binOp _ _ _ _ _ rfl | exact .indexAddr _ _ _ | exact .len _ _ (by kernel_rfl) | exact .field _ _ _ | exact .extract _ _ | exact .pick _ _ _ | exact .build _ _ | exact .slice _ _ _ _ _ | exact .unOp _ _ _ rfl | exact .index _ _ _ | exact .max _ _ _ rfl rfl | exact .min _ _ _ rfl rfl)) | ((with_reducible refine Calmly.is_gl ?_); refine Calmly.mix_gl rfl rfl rfl ?_; first | ((first | with_reducible refine Calmly.gl_tt ?_ (fun _ _ => ?_) | with_reducible refine Calmly.gl_ff ?_ (fun _ _ => ?_)); (first | exact .move _ | exact .load _ _ | exact .fieldAddr _ _ _ (by kernel_rfl) | exact .assign _ | exact .binOp _ _ _ _ _ rfl | exact .indexAddr _ _ _ | exact .len _ _ (by kernel_rfl) | exact .field _ _ _ | exact .extract _ _ | exact .pick _ _ _ | exact .build _ _ | exact .slice _ _ _ _ _ | exact .unOp _ _ _ rfl | exact .index _ _ _ | exact .max _ _ _ rfl rfl | exact .min _ _ _ rfl rfl)) | with_reducible refine Calmly.gl_tf (fun _ _ => ?_) | with_reducible refine Calmly.gl_ft (fun _ _ => ?_)) | ((with_reducible refine Calmly.is_eff ?_); refine Calmly.mix_eff rfl (fun _ _ => ?_)) | ((with_reducible refine Calmly.is_gf ?_); refine Calmly.mix_gf rfl rfl rfl ?_; first | with_reducible refine Calmly.gf_tt (fun _ _ => ?_) | with_reducible refine Calmly.gf_ff (fun _ _ => ?_) | with_reducible refine Calmly.gf_tf (kept_of hk) (fun _ _ => ?_) | with_reducible refine Calmly.gf_ft (kept_of hk) (fun _ _ => ?_)) | ((with_reducible refine Calmly.is_tail ?_); first | refine Calmly.mix_tail_nil ?_ | refine Calmly.mix_tail rfl (fun _ _ => ?_)) | ((with_reducible refine Calmly.is_kept ?_); refine ⟨kept_of hk, ?_⟩) | (with_reducible refine Calmly.mix_alt ?_ ?_))
      refine Calmly.wp_region_mix 6 (.fl 0 <| .fl 1 <| .fl 3 <| .fl 4 <| .eff 2 <| .eff 5 <| .tail [6, 7]) (by kernel_rfl) (by kernel_rfl) ?_
      replace hk := Below.refl v4.drew.heap.size v4.drew
      go_wp2_with (first | ((with_reducible refine Calmly.is_fl ?_); refine Calmly.mix_fl rfl ?_ (fun _ _ => ?_); (first | exact .move _ | exact .load _ _ | exact .fieldAddr _ _ _ (by kernel_rfl) | exact .assign _ | exact .binOp _ _ _ _ _ rfl | exact .indexAddr _ _ _ | exact .len _ _ (by kernel_rfl) | exact .field _ _ _ | exact .extract _ _ | exact .pick _ _ _ | exact .build _ _ | exact .slice _ _ _ _ _ | exact .unOp _ _ _ rfl | exact .index _ _ _ | exact .max _ _ _ rfl rfl | exact .min _ _ _ rfl rfl)) | ((with_reducible refine Calmly.is_gl ?_); refine Calmly.mix_gl rfl rfl rfl ?_; first | ((first | with_reducible refine Calmly.gl_tt ?_ (fun _ _ => ?_) | with_reducible refine Calmly.gl_ff ?_ (fun _ _ => ?_)); (first | exact .move _ | exact .load _ _ | exact .fieldAddr _ _ _ (by kernel_rfl) | exact .assign _ | exact .binOp _ _ _ _ _ rfl | exact .indexAddr _ _ _ | exact .len _ _ (by kernel_rfl) | exact .field _ _ _ | exact .extract _ _ | exact .pick _ _ _ | exact .build _ _ | exact .slice _ _ _ _ _ | exact .unOp _ _ _ rfl | exact .index _ _ _ | exact .max _ _ _ rfl rfl | exact .min _ _ _ rfl rfl)) | with_reducible refine Calmly.gl_tf (fun _ _ => ?_) | with_reducible refine Calmly.gl_ft (fun _ _ => ?_)) | ((with_reducible refine Calmly.is_eff ?_); refine Calmly.mix_eff rfl (fun _ _ => ?_)) | ((with_reducible refine Calmly.is_gf ?_); refine Calmly.mix_gf rfl rfl rfl ?_; first | with_reducible refine Calmly.gf_tt (fun _ _ => ?_) | with_reducible refine Calmly.gf_ff (fun _ _ => ?_) | with_reducible refine Calmly.gf_tf (kept_of hk) (fun _ _ => ?_) | with_reducible refine Calmly.gf_ft (kept_of hk) (fun _ _ => ?_)) | ((with_reducible refine Calmly.is_tail ?_); first | refine Calmly.mix_tail_nil ?_ | refine Calmly.mix_tail rfl (fun _ _ => ?_)) | ((with_reducible refine Calmly.is_kept ?_); refine ⟨kept_of hk, ?_⟩) | (with_reducible refine Calmly.mix_alt ?_ ?_))
      refine (WideFloor_any (-s1) sg a1 ag n1 mg c1 cg (-z1) G _ (U1.keep (Below.refl _ _).drew) (UG.keep (Below.refl _ _).drew) (by omega) (by omega) (by omega)).mono ?_
      rintro e v5 ⟨sp, ap, mp, cp, rfl, ⟨hmp, VP⟩, hs⟩
      replace hk := step_of hk hs
      clear hs
      go_wp2_with (first | ((with_reducible refine Calmly.is_fl ?_); refine Calmly.mix_fl rfl ?_ (fun _ _ => ?_); (first | exact .move _ | exact .load _ _ | exact .fieldAddr _ _ _ (by kernel_rfl) | exact .assign _ | exact .binOp _ _ _ _ _ rfl | exact .indexAddr _ _ _ | exact .len _ _ (by kernel_rfl) | exact .field _ _ _ | exact .extract _ _ | exact .pick _ _ _ | exact .build _ _ | exact .slice _ _ _ _ _ | exact .unOp _ _ _ rfl | exact .index _ _ _ | exact .max _ _ _ rfl rfl | exact .min _ _ _ rfl rfl)) | ((with_reducible refine Calmly.is_gl ?_); refine Calmly.mix_gl rfl rfl rfl ?_; first | ((first | with_reducible refine Calmly.gl_tt ?_ (fun _ _ => ?_) | with_reducible refine Calmly.gl_ff ?_ (fun _ _ => ?_)); (first | exact .move _ | exact .load _ _ | exact .fieldAddr _ _ _ (by kernel_rfl) | exact .assign _ | exact .binOp _ _ _ _ _ rfl | exact .indexAddr _ _ _ | exact .len _ _ (by kernel_rfl) | exact .field _ _ _ | exact .extract _ _ | exact .pick _ _ _ | exact .build _ _ | exact .slice _ _ _ _ _ | exact .unOp _ _ _ rfl | exact .index _ _ _ | exact .max _ _ _ rfl rfl | exact .min _ _ _ rfl rfl)) | with_reducible refine Calmly.gl_tf (fun _ _ => ?_) | with_reducible refine Calmly.gl_ft (fun _ _ => ?_)) | ((with_reducible refine Calmly.is_eff ?_); refine Calmly.mix_eff rfl (fun _ _ => ?_)) | ((with_reducible refine Calmly.is_gf ?_); refine Calmly.mix_gf rfl rfl rfl ?_; first | with_reducible refine Calmly.gf_tt (fun _ _ => ?_) | with_reducible refine Calmly.gf_ff (fun _ _ => ?_) | with_reducible refine Calmly.gf_tf (kept_of hk) (fun _ _ => ?_) | with_reducible refine Calmly.gf_ft (kept_of hk) (fun _ _ => ?_)) | ((with_reducible refine Calmly.is_tail ?_); first | refine Calmly.mix_tail_nil ?_ | refine Calmly.mix_tail rfl (fun _ _ => ?_)) | ((with_reducible refine Calmly.is_kept ?_); refine ⟨kept_of hk, ?_⟩) | (with_reducible refine Calmly.mix_alt ?_ ?_))
      refine (WideFloor_any 1 sg a2 ag n2 mg c2 cg (-z2) G _ ((U2.keep (Below.refl _ _).drew).keep hk) ((UG.keep (Below.refl _ _).drew).keep hk) (by omega) (by omega) (by omega)).mono ?_
      rintro e v6 ⟨sq, aq, mq, cq, rfl, ⟨hmq, VQ⟩, hs⟩
      replace hk := step_of hk hs
      replace VP := VP.keep hs
      clear hs y0 y1 y2 y3 y5 y6 q0 q1 q2 q3 p0 p1 p2 p3
      replace Y3 := (hk.block _ (show _ < v4.drew.heap.size from blk_lt Y3)).trans Y3
      replace BW2 := BW2.drew.trans (hk.mono BW2.size)
      have q0 := cell_block Y3 0
      have q1 := cell_block Y3 1
      have q2 := cell_block Y3 2
      have q3 := cell_block Y3 3
      have p0 := frozen_block Y3 0
      have p1 := frozen_block Y3 1
      have p2 := frozen_block Y3 2
      have p3 := frozen_block Y3 3
      go_wp2_with (first | ((with_reducible refine Calmly.is_fl ?_); refine Calmly.mix_fl rfl ?_ (fun _ _ => ?_); (first | exact .move _ | exact .load _ _ | exact .fieldAddr _ _ _ (by kernel_rfl) | exact .assign _ | exact .binOp _ _ _ _ _ rfl | exact .indexAddr _ _ _ | exact .len _ _ (by kernel_rfl) | exact .field _ _ _ | exact .extract _ _ | exact .pick _ _ _ | exact .build _ _ | exact .slice _ _ _ _ _ | exact .unOp _ _ _ rfl | exact .index _ _ _ | exact .max _ _ _ rfl rfl | exact .min _ _ _ rfl rfl)) | ((with_reducible refine Calmly.is_gl ?_); refine Calmly.mix_gl rfl rfl rfl ?_; first | ((first | with_reducible refine Calmly.gl_tt ?_ (fun _ _ => ?_) | with_reducible refine Calmly.gl_ff ?_ (fun _ _ => ?_)); (first | exact .move _ | exact .load _ _ | exact .fieldAddr _ _ _ (by kernel_rfl) | exact .assign _ | exact .binOp _ _ _ _ _ rfl | exact .indexAddr _ _ _ | exact .len _ _ (by kernel_rfl) | exact .field _ _ _ | exact .extract _ _ | exact .pick _ _ _ | exact .build _ _ | exact .slice _ _ _ _ _ | exact .unOp _ _ _ rfl | exact .index _ _ _ | exact .max _ _ _ rfl rfl | exact .min _ _ _ rfl rfl)) | with_reducible refine Calmly.gl_tf (fun _ _ => ?_) | with_reducible refine Calmly.gl_ft (fun _ _ => ?_)) | ((with_reducible refine Calmly.is_eff ?_); refine Calmly.mix_eff rfl (fun _ _ => ?_)) | ((with_reducible refine Calmly.is_gf ?_); refine Calmly.mix_gf rfl rfl rfl ?_; first | with_reducible refine Calmly.gf_tt (fun _ _ => ?_) | with_reducible refine Calmly.gf_ff (fun _ _ => ?_) | with_reducible refine Calmly.gf_tf (kept_of hk) (fun _ _ => ?_) | with_reducible refine Calmly.gf_ft (kept_of hk) (fun _ _ => ?_)) | ((with_reducible refine Calmly.is_tail ?_); first | refine Calmly.mix_tail_nil ?_ | refine Calmly.mix_tail rfl (fun _ _ => ?_)) | ((with_reducible refine Calmly.is_kept ?_); refine ⟨kept_of hk, ?_⟩) | (with_reducible refine Calmly.mix_alt ?_ ?_))
      have hT : BlkT v6 (w.heap.size + 1 + 1) 80 := ⟨_, Y3⟩
      have W1 := ((((VP).set hT (by decide) (o := 0) (v := .int .i64 sp)).set (hT.set _ _) (by decide) (o := 1) (v := .slice ap mp cp)).set ((hT.set _ _).set _ _) (by decide) (o := 2) (v := .int .i64 sq)).set (((hT.set _ _).set _ _).set _ _) (by decide) (o := 3) (v := .slice aq mq cq)
      have W2 := ((((VQ).set hT (by decide) (o := 0) (v := .int .i64 sp)).set (hT.set _ _) (by decide) (o := 1) (v := .slice ap mp cp)).set ((hT.set _ _).set _ _) (by decide) (o := 2) (v := .int .i64 sq)).set (((hT.set _ _).set _ _).set _ _) (by decide) (o := 3) (v := .slice aq mq cq)
      have X4 := blkSet (blkSet (blkSet (blkSet Y3 0 (.int .i64 sp)) 1 (.slice ap mp cp)) 2 (.int .i64 sq)) 3 (.slice aq mq cq)
      have r0 := cell_block X4 0
      have r1 := cell_block X4 1
      have r2 := cell_block X4 2
      have r3 := cell_block X4 3
      refine bodyPost_ret (v := .agg #[.int .i64 sp, .slice ap mp cp, .int .i64 sq, .slice aq mq cq]) (by simp [results, Tryz.results67, go_sem, r0, r1, r2, r3]) rfl ⟨_, _, _, _, _, _, _, _, rfl, ⟨by omega, by omega, ?_⟩, ?_⟩
      · obtain ⟨e1, e2⟩ := (by have := make_two (z1 := (-z1)) (z2 := (-z2)) (by omega); rwa [HG.out] at this : (Rat.divInt (-z1) (-z2)).num = (-z1) / (G : Int) ∧ ((Rat.divInt (-z1) (-z2)).den : Int) = (-z2) / (G : Int))
        unfold RatV
        rw [← Rat.neg_divInt_neg, e1, e2]
        exact ⟨W1, W2⟩
      · exact (((BW2.setCell (by simp; omega) _).setCell (by simp; omega) _).setCell (by simp; omega) _).setCell (by simp; omega) _
  · obtain rfl : s2 = 1 := by rw [hs2]; exact Int.sign_eq_one_of_pos hpos
    clear hs2
    go_enter Tryz.func67, Tryz.ntmps67
    go_wp2_with fail
    refine (WideSign_any 1 a2 n2 c2 _).mono ?_
    rintro e w1 ⟨rfl, hbx⟩
    obtain ⟨X1, X2, X3⟩ := box3r (w := w) (o := .cells #[.int .i64 s1, .slice a1 n1 c1] 78) (o' := .cells #[.int .i64 1, .slice a2 n2 c2] 78) (o'' := .cells #[.int .i64 0, .slice none 0 0, .int .i64 0, .slice none 0 0] 80) hbx
    have BW := (hb (.cells #[.int .i64 s1, .slice a1 n1 c1] 78) (.cells #[.int .i64 1, .slice a2 n2 c2] 78) (.cells #[.int .i64 0, .slice none 0 0, .int .i64 0, .slice none 0 0] 80)).trans (hbx.mono (by simp; omega))
    have V1 := h1.keep BW
    have V2 := h2.keep BW
    clear hbx hb
    have hG1 : 0 < Int.gcd z1 z2 := Int.gcd_pos_of_ne_zero_right z1 (by omega)
    have y0 := cell_block X1 0
    have y1 := cell_block X1 1
    have y2 := cell_block X2 0
    have y3 := cell_block X2 1
    have sX3 := blk_lt X3
    go_wp2_with fail
    refine (wideGcd_any s1 1 a1 a2 n1 n2 c1 c2 z1 z2 _ V1 V2 (by omega) (by omega)).mono ?_
    rintro e v1 ⟨sg, ag, mg, cg, rfl, ⟨hmg, VG⟩, hb⟩
    replace X1 := blk_keep X1 hb
    replace X2 := blk_keep X2 hb
    replace X3 := blk_keep X3 hb
    replace V1 := V1.keep hb
    replace V2 := V2.keep hb
    replace BW := BW.trans (hb.mono BW.size)
    clear hb y0 y1 y2 y3 sX3
    have sX3 := blk_lt X3
    have X5 := alloc_new v1 (.cells #[.int .i64 sg, .slice ag mg cg] 78)
    have hb := hA v1 (.cells #[.int .i64 sg, .slice ag mg cg] 78)
    replace X1 := blk_keep X1 hb
    replace X2 := blk_keep X2 hb
    replace X3 := blk_keep X3 hb
    replace V1 := V1.keep hb
    replace V2 := V2.keep hb
    replace VG := VG.keep hb
    replace BW := BW.trans (hb.mono BW.size)
    obtain ⟨G, hG⟩ : ∃ G : Nat, Int.gcd z1 z2 = G := ⟨_, rfl⟩
    rw [hG] at VG hG1
    have HG := Lib.hid hG
    clear hb hG
    go_wp2_with fail
    refine Calmly.wp_region_mix 3 (.fl 0 <| .eff 1 <| .eff 2 <| .tail [3]) (by kernel_rfl) (by kernel_rfl) ?_
    replace X1 : (v1.alloc (.cells #[.int .i64 sg, .slice ag mg cg] 78)).drew.heap[w.heap.size]? = some (.cells #[.int .i64 s1, .slice a1 n1 c1] 78) := X1
    replace X2 : (v1.alloc (.cells #[.int .i64 sg, .slice ag mg cg] 78)).drew.heap[w.heap.size + 1]? = some (.cells #[.int .i64 1, .slice a2 n2 c2] 78) := X2
    replace X3 : (v1.alloc (.cells #[.int .i64 sg, .slice ag mg cg] 78)).drew.heap[w.heap.size + 1 + 1]? = some (.cells #[.int .i64 0, .slice none 0 0, .int .i64 0, .slice none 0 0] 80) := X3
    replace X5 : (v1.alloc (.cells #[.int .i64 sg, .slice ag mg cg] 78)).drew.heap[v1.heap.size]? = some (.cells #[.int .i64 sg, .slice ag mg cg] 78) := X5
    replace V1 := V1.keep (Below.refl _ _).drew
    replace V2 := V2.keep (Below.refl _ _).drew
    replace VG := VG.keep (Below.refl _ _).drew
    replace BW := BW.drew
    obtain ⟨b5, hb5⟩ : ∃ b, v1.heap.size = b := ⟨_, rfl⟩
    rw [hb5] at X5 sX3 ⊢
    clear hb5
    generalize World.drew (World.alloc v1 _) = v2 at X1 X2 X3 X5 V1 V2 VG BW ⊢
    have x50 := cell_block X5 0
    have x51 := cell_block X5 1
    have hk := Below.refl v2.heap.size v2
    go_wp2_with (first | ((with_reducible refine Calmly.is_fl ?_); refine Calmly.mix_fl rfl ?_ (fun _ _ => ?_); (first | exact .move _ | exact .load _ _ | exact .fieldAddr _ _ _ (by kernel_rfl) | exact .assign _ | exact .binOp _ _ _ _ _ rfl | exact .indexAddr _ _ _ | exact .len _ _ (by kernel_rfl) | exact .field _ _ _ | exact .extract _ _ | exact .pick _ _ _ | exact .build _ _ | exact .slice _ _ _ _ _ | exact .unOp _ _ _ rfl | exact .index _ _ _ | exact .max _ _ _ rfl rfl | exact .min _ _ _ rfl rfl)) | ((with_reducible refine Calmly.is_gl ?_); refine Calmly.mix_gl rfl rfl rfl ?_; first | ((first | with_reducible refine Calmly.gl_tt ?_ (fun _ _ => ?_) | with_reducible refine Calmly.gl_ff ?_ (fun _ _ => ?_)); (first | exact .move _ | exact .load _ _ | exact .fieldAddr _ _ _ (by kernel_rfl) | exact .assign _ | exact .binOp _ _ _ _ _ rfl | exact .indexAddr _ _ _ | exact .len _ _ (by kernel_rfl) | exact .field _ _ _ | exact .extract _ _ | exact .pick _ _ _ | exact .build _ _ | exact .slice _ _ _ _ _ | exact .unOp _ _ _ rfl | exact .index _ _ _ | exact .max _ _ _ rfl rfl | exact .min _ _ _ rfl rfl)) | with_reducible refine Calmly.gl_tf (fun _ _ => ?_) | with_reducible refine Calmly.gl_ft (fun _ _ => ?_)) | ((with_reducible refine Calmly.is_eff ?_); refine Calmly.mix_eff rfl (fun _ _ => ?_)) | ((with_reducible refine Calmly.is_gf ?_); refine Calmly.mix_gf rfl rfl rfl ?_; first | with_reducible refine Calmly.gf_tt (fun _ _ => ?_) | with_reducible refine Calmly.gf_ff (fun _ _ => ?_) | with_reducible refine Calmly.gf_tf (kept_of hk) (fun _ _ => ?_) | with_reducible refine Calmly.gf_ft (kept_of hk) (fun _ _ => ?_)) | ((with_reducible refine Calmly.is_tail ?_); first | refine Calmly.mix_tail_nil ?_ | refine Calmly.mix_tail rfl (fun _ _ => ?_)) | ((with_reducible refine Calmly.is_kept ?_); refine ⟨kept_of hk, ?_⟩) | (with_reducible refine Calmly.mix_alt ?_ ?_))
    refine (WideOf_any 1 _ (by omega) (by omega)).mono ?_
    rintro e v3 ⟨so, ao, mo, co, rfl, ⟨hmo, VO⟩, hs⟩
    replace hk := step_of hk hs
    clear hs
    go_wp2_with (first | ((with_reducible refine Calmly.is_fl ?_); refine Calmly.mix_fl rfl ?_ (fun _ _ => ?_); (first | exact .move _ | exact .load _ _ | exact .fieldAddr _ _ _ (by kernel_rfl) | exact .assign _ | exact .binOp _ _ _ _ _ rfl | exact .indexAddr _ _ _ | exact .len _ _ (by kernel_rfl) | exact .field _ _ _ | exact .extract _ _ | exact .pick _ _ _ | exact .build _ _ | exact .slice _ _ _ _ _ | exact .unOp _ _ _ rfl | exact .index _ _ _ | exact .max _ _ _ rfl rfl | exact .min _ _ _ rfl rfl)) | ((with_reducible refine Calmly.is_gl ?_); refine Calmly.mix_gl rfl rfl rfl ?_; first | ((first | with_reducible refine Calmly.gl_tt ?_ (fun _ _ => ?_) | with_reducible refine Calmly.gl_ff ?_ (fun _ _ => ?_)); (first | exact .move _ | exact .load _ _ | exact .fieldAddr _ _ _ (by kernel_rfl) | exact .assign _ | exact .binOp _ _ _ _ _ rfl | exact .indexAddr _ _ _ | exact .len _ _ (by kernel_rfl) | exact .field _ _ _ | exact .extract _ _ | exact .pick _ _ _ | exact .build _ _ | exact .slice _ _ _ _ _ | exact .unOp _ _ _ rfl | exact .index _ _ _ | exact .max _ _ _ rfl rfl | exact .min _ _ _ rfl rfl)) | with_reducible refine Calmly.gl_tf (fun _ _ => ?_) | with_reducible refine Calmly.gl_ft (fun _ _ => ?_)) | ((with_reducible refine Calmly.is_eff ?_); refine Calmly.mix_eff rfl (fun _ _ => ?_)) | ((with_reducible refine Calmly.is_gf ?_); refine Calmly.mix_gf rfl rfl rfl ?_; first | with_reducible refine Calmly.gf_tt (fun _ _ => ?_) | with_reducible refine Calmly.gf_ff (fun _ _ => ?_) | with_reducible refine Calmly.gf_tf (kept_of hk) (fun _ _ => ?_) | with_reducible refine Calmly.gf_ft (kept_of hk) (fun _ _ => ?_)) | ((with_reducible refine Calmly.is_tail ?_); first | refine Calmly.mix_tail_nil ?_ | refine Calmly.mix_tail rfl (fun _ _ => ?_)) | ((with_reducible refine Calmly.is_kept ?_); refine ⟨kept_of hk, ?_⟩) | (with_reducible refine Calmly.mix_alt ?_ ?_))
    refine (WideCmp_any sg so ag ao mg mo cg co G 1 _ (VG.keep hk) VO (by omega) (by omega)).mono ?_
    rintro e v4 ⟨rfl, hs⟩
    replace hk := step_of hk hs
    clear hs VO
    have hcmp : cmpI (G : Int) 1 = 0 ↔ G = 1 := by
      unfold cmpI
      split
      · omega
      · split <;> omega
    obtain ⟨K, hK⟩ : ∃ K, cmpI (G : Int) 1 = K := ⟨_, rfl⟩
    rw [hK] at hcmp ⊢
    clear hK
    have Y1 := (hk.block _ (blk_lt X1)).trans X1
    have Y2 := (hk.block _ (blk_lt X2)).trans X2
    have Y3 := (hk.block _ (blk_lt X3)).trans X3
    have Y5 := (hk.block _ (blk_lt X5)).trans X5
    have U1 := V1.keep hk
    have U2 := V2.keep hk
    have UG := VG.keep hk
    have BW2 := BW.trans (hk.mono BW.size)
    have y0 := cell_block Y1 0
    have y1 := cell_block Y1 1
    have y2 := cell_block Y2 0
    have y3 := cell_block Y2 1
    have q0 := cell_block Y3 0
    have q1 := cell_block Y3 1
    have q2 := cell_block Y3 2
    have q3 := cell_block Y3 3
    have p0 := frozen_block Y3 0
    have p1 := frozen_block Y3 1
    have p2 := frozen_block Y3 2
    have p3 := frozen_block Y3 3
    clear X1 X2 X3 X5 V1 V2 VG BW x50 x51
    by_cases hk0 : K = 0
    · subst hk0
      have hg1 := hcmp.1 rfl
      subst hg1
      clear hcmp
      go_wp2_with (first | ((with_reducible refine Calmly.is_fl ?_); refine Calmly.mix_fl rfl ?_ (fun _ _ => ?_); (first | exact .move _ | exact .load _ _ | exact .fieldAddr _ _ _ (by kernel_rfl) | exact .assign _ | exact .binOp _ _ _ _ _ rfl | exact .indexAddr _ _ _ | exact .len _ _ (by kernel_rfl) | exact .field _ _ _ | exact .extract _ _ | exact .pick _ _ _ | exact .build _ _ | exact .slice _ _ _ _ _ | exact .unOp _ _ _ rfl | exact .index _ _ _ | exact .max _ _ _ rfl rfl | exact .min _ _ _ rfl rfl)) | ((with_reducible refine Calmly.is_gl ?_); refine Calmly.mix_gl rfl rfl rfl ?_; first | ((first | with_reducible refine Calmly.gl_tt ?_ (fun _ _ => ?_) | with_reducible refine Calmly.gl_ff ?_ (fun _ _ => ?_)); (first | exact .move _ | exact .load _ _ | exact .fieldAddr _ _ _ (by kernel_rfl) | exact .assign _ | exact .binOp _ _ _ _ _ rfl | exact .indexAddr _ _ _ | exact .len _ _ (by kernel_rfl) | exact .field _ _ _ | exact .extract _ _ | exact .pick _ _ _ | exact .build _ _ | exact .slice _ _ _ _ _ | exact .unOp _ _ _ rfl | exact .index _ _ _ | exact .max _ _ _ rfl rfl | exact .min _ _ _ rfl rfl)) | with_reducible refine Calmly.gl_tf (fun _ _ => ?_) | with_reducible refine Calmly.gl_ft (fun _ _ => ?_)) | ((with_reducible refine Calmly.is_eff ?_); refine Calmly.mix_eff rfl (fun _ _ => ?_)) | ((with_reducible refine Calmly.is_gf ?_); refine Calmly.mix_gf rfl rfl rfl ?_; first | with_reducible refine Calmly.gf_tt (fun _ _ => ?_) | with_reducible refine Calmly.gf_ff (fun _ _ => ?_) | with_reducible refine Calmly.gf_tf (kept_of hk) (fun _ _ => ?_) | with_reducible refine Calmly.gf_ft (kept_of hk) (fun _ _ => ?_)) | ((with_reducible refine Calmly.is_tail ?_); first | refine Calmly.mix_tail_nil ?_ | refine Calmly.mix_tail rfl (fun _ _ => ?_)) | ((with_reducible refine Calmly.is_kept ?_); refine ⟨kept_of hk, ?_⟩) | (with_reducible refine Calmly.mix_alt ?_ ?_))
      have hT : BlkT v4 (w.heap.size + 1 + 1) 80 := ⟨_, Y3⟩
      have W1 := ((((U1).set hT (by decide) (o := 0) (v := .int .i64 s1)).set (hT.set _ _) (by decide) (o := 1) (v := .slice a1 n1 c1)).set ((hT.set _ _).set _ _) (by decide) (o := 2) (v := .int .i64 1)).set (((hT.set _ _).set _ _).set _ _) (by decide) (o := 3) (v := .slice a2 n2 c2)
      have W2 := ((((U2).set hT (by decide) (o := 0) (v := .int .i64 s1)).set (hT.set _ _) (by decide) (o := 1) (v := .slice a1 n1 c1)).set ((hT.set _ _).set _ _) (by decide) (o := 2) (v := .int .i64 1)).set (((hT.set _ _).set _ _).set _ _) (by decide) (o := 3) (v := .slice a2 n2 c2)
      have X4 := blkSet (blkSet (blkSet (blkSet Y3 0 (.int .i64 s1)) 1 (.slice a1 n1 c1)) 2 (.int .i64 1)) 3 (.slice a2 n2 c2)
      have r0 := cell_block X4 0
      have r1 := cell_block X4 1
      have r2 := cell_block X4 2
      have r3 := cell_block X4 3
      refine bodyPost_ret (v := .agg #[.int .i64 s1, .slice a1 n1 c1, .int .i64 1, .slice a2 n2 c2]) (by simp [results, Tryz.results67, go_sem, r0, r1, r2, r3]) rfl ⟨_, _, _, _, _, _, _, _, rfl, ⟨by omega, by omega, ?_⟩, ?_⟩
      · obtain ⟨e1, e2⟩ := make_one (z1 := z1) (z2 := z2) (by omega) HG.out
        unfold RatV
        rw [e1, e2]
        exact ⟨W1, W2⟩
      · exact (((BW2.setCell (by simp; omega) _).setCell (by simp; omega) _).setCell (by simp; omega) _).setCell (by simp; omega) _
    · have hk1 : (K == 0) = false := by simpa using hk0
      clear hcmp hk0
      have y5 := cell_block Y5 0
      have y6 := cell_block Y5 1
      go_wp2_with (first | ((with_reducible refine Calmly.is_fl ?_); refine Calmly.mix_fl rfl ?_ (fun _ _ => ?_); (first | exact .move _ | exact .load _ _ | exact .fieldAddr _ _ _ (by kernel_rfl) | exact .assign _ | exact .binOp _ _ _ _ _ rfl | exact .indexAddr _ _ _ | exact .len _ _ (by kernel_rfl) | exact .field _ _ _ | exact .extract _ _ | exact .pick _ _ _ | exact .build _ _ | exact .slice _ _ _ _ _ | exact .unOp _ _ _ rfl | exact .index _ _ _ | exact .max _ _ _ rfl rfl | exact .min _ _ _ rfl rfl)) | ((with_reducible refine Calmly.is_gl ?_); refine Calmly.mix_gl rfl rfl rfl ?_; first | ((first | with_reducible refine Calmly.gl_tt ?_ (fun _ _ => ?_) | with_reducible refine Calmly.gl_ff ?_ (fun _ _ => ?_)); (first | exact .move _ | exact .load _ _ | exact .fieldAddr _ _ _ (by kernel_rfl) | exact .assign _ | exact .binOp _ _ _ _ _ rfl | exact .indexAddr _ _ _ | exact .len _ _ (by kernel_rfl) | exact .field _ _ _ | exact .extract _ _ | exact .pick _ _ _ | exact .build _ _ | exact .slice _ _ _ _ _ | exact .unOp _ _ _ rfl | exact .index _ _ _ | exact .max _ _ _ rfl rfl | exact .min _ _ _ rfl rfl)) | with_reducible refine Calmly.gl_tf (fun _ _ => ?_) | with_reducible refine Calmly.gl_ft (fun _ _ => ?_)) | ((with_reducible refine Calmly.is_eff ?_); refine Calmly.mix_eff rfl (fun _ _ => ?_)) | ((with_reducible refine Calmly.is_gf ?_); refine Calmly.mix_gf rfl rfl rfl ?_; first | with_reducible refine Calmly.gf_tt (fun _ _ => ?_) | with_reducible refine Calmly.gf_ff (fun _ _ => ?_) | with_reducible refine Calmly.gf_tf (kept_of hk) (fun _ _ => ?_) | with_reducible refine Calmly.gf_ft (kept_of hk) (fun _ _ => ?_)) | ((with_reducible refine Calmly.is_tail ?_); first | refine Calmly.mix_tail_nil ?_ | refine Calmly.mix_tail rfl (fun _ _ => ?_)) | ((with_reducible refine Calmly.is_kept ?_); refine ⟨kept_of hk, ?_⟩) | (with_reducible refine Calmly.mix_alt ?_ ?_))
      refine Calmly.wp_region_mix 6 (.fl 0 <| .fl 1 <| .fl 3 <| .fl 4 <| .eff 2 <| .eff 5 <| .tail [6, 7]) (by kernel_rfl) (by kernel_rfl) ?_
      replace hk := Below.refl v4.drew.heap.size v4.drew
      go_wp2_with (first | ((with_reducible refine Calmly.is_fl ?_); refine Calmly.mix_fl rfl ?_ (fun _ _ => ?_); (first | exact .move _ | exact .load _ _ | exact .fieldAddr _ _ _ (by kernel_rfl) | exact .assign _ | exact .binOp _ _ _ _ _ rfl | exact .indexAddr _ _ _ | exact .len _ _ (by kernel_rfl) | exact .field _ _ _ | exact .extract _ _ | exact .pick _ _ _ | exact .build _ _ | exact .slice _ _ _ _ _ | exact .unOp _ _ _ rfl | exact .index _ _ _ | exact .max _ _ _ rfl rfl | exact .min _ _ _ rfl rfl)) | ((with_reducible refine Calmly.is_gl ?_); refine Calmly.mix_gl rfl rfl rfl ?_; first | ((first | with_reducible refine Calmly.gl_tt ?_ (fun _ _ => ?_) | with_reducible refine Calmly.gl_ff ?_ (fun _ _ => ?_)); (first | exact .move _ | exact .load _ _ | exact .fieldAddr _ _ _ (by kernel_rfl) | exact .assign _ | exact .binOp _ _ _ _ _ rfl | exact .indexAddr _ _ _ | exact .len _ _ (by kernel_rfl) | exact .field _ _ _ | exact .extract _ _ | exact .pick _ _ _ | exact .build _ _ | exact .slice _ _ _ _ _ | exact .unOp _ _ _ rfl | exact .index _ _ _ | exact .max _ _ _ rfl rfl | exact .min _ _ _ rfl rfl)) | with_reducible refine Calmly.gl_tf (fun _ _ => ?_) | with_reducible refine Calmly.gl_ft (fun _ _ => ?_)) | ((with_reducible refine Calmly.is_eff ?_); refine Calmly.mix_eff rfl (fun _ _ => ?_)) | ((with_reducible refine Calmly.is_gf ?_); refine Calmly.mix_gf rfl rfl rfl ?_; first | with_reducible refine Calmly.gf_tt (fun _ _ => ?_) | with_reducible refine Calmly.gf_ff (fun _ _ => ?_) | with_reducible refine Calmly.gf_tf (kept_of hk) (fun _ _ => ?_) | with_reducible refine Calmly.gf_ft (kept_of hk) (fun _ _ => ?_)) | ((with_reducible refine Calmly.is_tail ?_); first | refine Calmly.mix_tail_nil ?_ | refine Calmly.mix_tail rfl (fun _ _ => ?_)) | ((with_reducible refine Calmly.is_kept ?_); refine ⟨kept_of hk, ?_⟩) | (with_reducible refine Calmly.mix_alt ?_ ?_))
      refine (WideFloor_any s1 sg a1 ag n1 mg c1 cg z1 G _ (U1.keep (Below.refl _ _).drew) (UG.keep (Below.refl _ _).drew) (by omega) (by omega) (by omega)).mono ?_
      rintro e v5 ⟨sp, ap, mp, cp, rfl, ⟨hmp, VP⟩, hs⟩
      replace hk := step_of hk hs
      clear hs
      go_wp2_with (first | ((with_reducible refine Calmly.is_fl ?_); refine Calmly.mix_fl rfl ?_ (fun _ _ => ?_); (first | exact .move _ | exact .load _ _ | exact .fieldAddr _ _ _ (by kernel_rfl) | exact .assign _ | exact .binOp _ _ _ _ _ rfl | exact .indexAddr _ _ _ | exact .len _ _ (by kernel_rfl) | exact .field _ _ _ | exact .extract _ _ | exact .pick _ _ _ | exact .build _ _ | exact .slice _ _ _ _ _ | exact .unOp _ _ _ rfl | exact .index _ _ _ | exact .max _ _ _ rfl rfl | exact .min _ _ _ rfl rfl)) | ((with_reducible refine Calmly.is_gl ?_); refine Calmly.mix_gl rfl rfl rfl ?_; first | ((first | with_reducible refine Calmly.gl_tt ?_ (fun _ _ => ?_) | with_reducible refine Calmly.gl_ff ?_ (fun _ _ => ?_)); (first | exact .move _ | exact .load _ _ | exact .fieldAddr _ _ _ (by kernel_rfl) | exact .assign _ | exact .binOp _ _ _ _ _ rfl | exact .indexAddr _ _ _ | exact .len _ _ (by kernel_rfl) | exact .field _ _ _ | exact .extract _ _ | exact .pick _ _ _ | exact .build _ _ | exact .slice _ _ _ _ _ | exact .unOp _ _ _ rfl | exact .index _ _ _ | exact .max _ _ _ rfl rfl | exact .min _ _ _ rfl rfl)) | with_reducible refine Calmly.gl_tf (fun _ _ => ?_) | with_reducible refine Calmly.gl_ft (fun _ _ => ?_)) | ((with_reducible refine Calmly.is_eff ?_); refine Calmly.mix_eff rfl (fun _ _ => ?_)) | ((with_reducible refine Calmly.is_gf ?_); refine Calmly.mix_gf rfl rfl rfl ?_; first | with_reducible refine Calmly.gf_tt (fun _ _ => ?_) | with_reducible refine Calmly.gf_ff (fun _ _ => ?_) | with_reducible refine Calmly.gf_tf (kept_of hk) (fun _ _ => ?_) | with_reducible refine Calmly.gf_ft (kept_of hk) (fun _ _ => ?_)) | ((with_reducible refine Calmly.is_tail ?_); first | refine Calmly.mix_tail_nil ?_ | refine Calmly.mix_tail rfl (fun _ _ => ?_)) | ((with_reducible refine Calmly.is_kept ?_); refine ⟨kept_of hk, ?_⟩) | (with_reducible refine Calmly.mix_alt ?_ ?_))
      refine (WideFloor_any 1 sg a2 ag n2 mg c2 cg z2 G _ ((U2.keep (Below.refl _ _).drew).keep hk) ((UG.keep (Below.refl _ _).drew).keep hk) (by omega) (by omega) (by omega)).mono ?_
      rintro e v6 ⟨sq, aq, mq, cq, rfl, ⟨hmq, VQ⟩, hs⟩
      replace hk := step_of hk hs
      replace VP := VP.keep hs
      clear hs y0 y1 y2 y3 y5 y6 q0 q1 q2 q3 p0 p1 p2 p3
      replace Y3 := (hk.block _ (show _ < v4.drew.heap.size from blk_lt Y3)).trans Y3
      replace BW2 := BW2.drew.trans (hk.mono BW2.size)
      have q0 := cell_block Y3 0
      have q1 := cell_block Y3 1
      have q2 := cell_block Y3 2
      have q3 := cell_block Y3 3
      have p0 := frozen_block Y3 0
      have p1 := frozen_block Y3 1
      have p2 := frozen_block Y3 2
      have p3 := frozen_block Y3 3
      go_wp2_with (first | ((with_reducible refine Calmly.is_fl ?_); refine Calmly.mix_fl rfl ?_ (fun _ _ => ?_); (first | exact .move _ | exact .load _ _ | exact .fieldAddr _ _ _ (by kernel_rfl) | exact .assign _ | exact .binOp _ _ _ _ _ rfl | exact .indexAddr _ _ _ | exact .len _ _ (by kernel_rfl) | exact .field _ _ _ | exact .extract _ _ | exact .pick _ _ _ | exact .build _ _ | exact .slice _ _ _ _ _ | exact .unOp _ _ _ rfl | exact .index _ _ _ | exact .max _ _ _ rfl rfl | exact .min _ _ _ rfl rfl)) | ((with_reducible refine Calmly.is_gl ?_); refine Calmly.mix_gl rfl rfl rfl ?_; first | ((first | with_reducible refine Calmly.gl_tt ?_ (fun _ _ => ?_) | with_reducible refine Calmly.gl_ff ?_ (fun _ _ => ?_)); (first | exact .move _ | exact .load _ _ | exact .fieldAddr _ _ _ (by kernel_rfl) | exact .assign _ | exact .binOp _ _ _ _ _ rfl | exact .indexAddr _ _ _ | exact .len _ _ (by kernel_rfl) | exact .field _ _ _ | exact .extract _ _ | exact .pick _ _ _ | exact .build _ _ | exact .slice _ _ _ _ _ | exact .unOp _ _ _ rfl | exact .index _ _ _ | exact .max _ _ _ rfl rfl | exact .min _ _ _ rfl rfl)) | with_reducible refine Calmly.gl_tf (fun _ _ => ?_) | with_reducible refine Calmly.gl_ft (fun _ _ => ?_)) | ((with_reducible refine Calmly.is_eff ?_); refine Calmly.mix_eff rfl (fun _ _ => ?_)) | ((with_reducible refine Calmly.is_gf ?_); refine Calmly.mix_gf rfl rfl rfl ?_; first | with_reducible refine Calmly.gf_tt (fun _ _ => ?_) | with_reducible refine Calmly.gf_ff (fun _ _ => ?_) | with_reducible refine Calmly.gf_tf (kept_of hk) (fun _ _ => ?_) | with_reducible refine Calmly.gf_ft (kept_of hk) (fun _ _ => ?_)) | ((with_reducible refine Calmly.is_tail ?_); first | refine Calmly.mix_tail_nil ?_ | refine Calmly.mix_tail rfl (fun _ _ => ?_)) | ((with_reducible refine Calmly.is_kept ?_); refine ⟨kept_of hk, ?_⟩) | (with_reducible refine Calmly.mix_alt ?_ ?_))
      have hT : BlkT v6 (w.heap.size + 1 + 1) 80 := ⟨_, Y3⟩
      have W1 := ((((VP).set hT (by decide) (o := 0) (v := .int .i64 sp)).set (hT.set _ _) (by decide) (o := 1) (v := .slice ap mp cp)).set ((hT.set _ _).set _ _) (by decide) (o := 2) (v := .int .i64 sq)).set (((hT.set _ _).set _ _).set _ _) (by decide) (o := 3) (v := .slice aq mq cq)
      have W2 := ((((VQ).set hT (by decide) (o := 0) (v := .int .i64 sp)).set (hT.set _ _) (by decide) (o := 1) (v := .slice ap mp cp)).set ((hT.set _ _).set _ _) (by decide) (o := 2) (v := .int .i64 sq)).set (((hT.set _ _).set _ _).set _ _) (by decide) (o := 3) (v := .slice aq mq cq)
      have X4 := blkSet (blkSet (blkSet (blkSet Y3 0 (.int .i64 sp)) 1 (.slice ap mp cp)) 2 (.int .i64 sq)) 3 (.slice aq mq cq)
      have r0 := cell_block X4 0
      have r1 := cell_block X4 1
      have r2 := cell_block X4 2
      have r3 := cell_block X4 3
      refine bodyPost_ret (v := .agg #[.int .i64 sp, .slice ap mp cp, .int .i64 sq, .slice aq mq cq]) (by simp [results, Tryz.results67, go_sem, r0, r1, r2, r3]) rfl ⟨_, _, _, _, _, _, _, _, rfl, ⟨by omega, by omega, ?_⟩, ?_⟩
      · obtain ⟨e1, e2⟩ := (by have := make_two (z1 := z1) (z2 := z2) (by omega); rwa [HG.out] at this : (Rat.divInt z1 z2).num = z1 / (G : Int) ∧ ((Rat.divInt z1 z2).den : Int) = z2 / (G : Int))
        unfold RatV
        rw [e1, e2]
        exact ⟨W1, W2⟩
      · exact (((BW2.setCell (by simp; omega) _).setCell (by simp; omega) _).setCell (by simp; omega) _).setCell (by simp; omega) _
end Go.Proofs.YtfjcfbmfpefabaaGreat
