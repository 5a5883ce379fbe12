/- A move of an element. 'each' of chapter 5's package: printed by gen_m5.py. -/
import Derived.Test.YtaiikekgckjdeaaGreatK03
namespace Go.Proofs.YtaiikekgckjdeaaGreat
open Go.RowKit
open Calmly (Kept)

theorem kept_st2M {W w : World} {r : Nat} {x y u0 u1 : Value} {t : TypeId} {G : Prop} (h : Below W.heap.size W w) (hr : W.heap.size ≤ r) (p : w.heap[r]? = some (.cells #[u0, u1] t))
    (k : Below W.heap.size W ((w.setCell ⟨r, 0, none⟩ x).setCell ⟨r, 1, none⟩ y) → (∀ b, b ≠ r → ((w.setCell ⟨r, 0, none⟩ x).setCell ⟨r, 1, none⟩ y).heap[b]? = w.heap[b]?) →
      ((w.setCell ⟨r, 0, none⟩ x).setCell ⟨r, 1, none⟩ y).heap[r]? = some (.cells #[x, y] t) → G) : Kept W ((w.setCell ⟨r, 0, none⟩ x).setCell ⟨r, 1, none⟩ y) ∧ G := by
  have h1 := (h.setCell (p := ⟨r, 0, none⟩) hr x).setCell (p := ⟨r, 1, none⟩) hr y
  refine ⟨kept_of h1, k h1 (fun b hb => ?_) ?_⟩
  · rw [Below.heap_setCell _ _ _ _ hb, Below.heap_setCell _ _ _ _ hb]
  · have := setBlk (setBlk p 0 x) 1 y
    simpa using this
theorem kept_st6 {W w : World} {r : Nat} {x0 x1 x2 x3 x4 x5 u0 u1 u2 u3 u4 u5 : Value} {t : TypeId} {G : Prop} (h : Below W.heap.size W w) (hr : W.heap.size ≤ r) (p : w.heap[r]? = some (.cells #[u0, u1, u2, u3, u4, u5] t))
    (k : Below W.heap.size W ((((((w.setCell ⟨r, 0, none⟩ x0).setCell ⟨r, 1, none⟩ x1).setCell ⟨r, 2, none⟩ x2).setCell ⟨r, 3, none⟩ x3).setCell ⟨r, 4, none⟩ x4).setCell ⟨r, 5, none⟩ x5) → (∀ b, b ≠ r → ((((((w.setCell ⟨r, 0, none⟩ x0).setCell ⟨r, 1, none⟩ x1).setCell ⟨r, 2, none⟩ x2).setCell ⟨r, 3, none⟩ x3).setCell ⟨r, 4, none⟩ x4).setCell ⟨r, 5, none⟩ x5).heap[b]? = w.heap[b]?) →
      ((((((w.setCell ⟨r, 0, none⟩ x0).setCell ⟨r, 1, none⟩ x1).setCell ⟨r, 2, none⟩ x2).setCell ⟨r, 3, none⟩ x3).setCell ⟨r, 4, none⟩ x4).setCell ⟨r, 5, none⟩ x5).heap[r]? = some (.cells #[x0, x1, x2, x3, x4, x5] t) → G) : Kept W ((((((w.setCell ⟨r, 0, none⟩ x0).setCell ⟨r, 1, none⟩ x1).setCell ⟨r, 2, none⟩ x2).setCell ⟨r, 3, none⟩ x3).setCell ⟨r, 4, none⟩ x4).setCell ⟨r, 5, none⟩ x5) ∧ G := by
  have h1 := (((((h.setCell (p := ⟨r, 0, none⟩) hr x0).setCell (p := ⟨r, 1, none⟩) hr x1).setCell (p := ⟨r, 2, none⟩) hr x2).setCell (p := ⟨r, 3, none⟩) hr x3).setCell (p := ⟨r, 4, none⟩) hr x4).setCell (p := ⟨r, 5, none⟩) hr x5
  refine ⟨kept_of h1, k h1 (fun b hb => ?_) ?_⟩
  · rw [Below.heap_setCell _ _ _ _ hb, Below.heap_setCell _ _ _ _ hb, Below.heap_setCell _ _ _ _ hb, Below.heap_setCell _ _ _ _ hb, Below.heap_setCell _ _ _ _ hb, Below.heap_setCell _ _ _ _ hb]
  · have := setBlk (setBlk (setBlk (setBlk (setBlk (setBlk p 0 x0) 1 x1) 2 x2) 3 x3) 4 x4) 5 x5
    simpa using this
/-- A store of one cell into a block that is not an old one. -/
theorem set_own {w W : World} {b i : Nat} {v : Value} {cs : Array Value} {t : TypeId} (hb : Below w.heap.size w W) (hr : w.heap.size ≤ b) (p : W.heap[b]? = some (.cells cs t)) :
    Below w.heap.size w (W.setCell ⟨b, i, none⟩ v) ∧ (∀ c, c ≠ b → (W.setCell ⟨b, i, none⟩ v).heap[c]? = W.heap[c]?) ∧ (W.setCell ⟨b, i, none⟩ v).heap[b]? = some (.cells (cs.setIfInBounds i v) t) :=
  ⟨hb.setCell (p := ⟨b, i, none⟩) hr v, fun _ hc => Below.heap_setCell _ _ _ _ hc, setBlk p i v⟩
/-- How far beyond its yield an element is moved, and what a move does. -/
def ovr (y d : Int) : Int := max 0 (max d (-d) - y)
def mvSlip (y : Int) (b : Bool) (s : Int) (br : Bool) (at2 : Int) : Int := if br then s else if ovr y (at2 - s) = 0 then s else if b then 0 else if at2 - s < 0 then s - ovr y (at2 - s) else s + ovr y (at2 - s)
def mvBr (y : Int) (b : Bool) (s : Int) (br : Bool) (at2 : Int) : Bool := br || (b && !decide (ovr y (at2 - s) = 0))
def mvWork (k y : Int) (b : Bool) (s : Int) (br : Bool) (at1 at2 : Int) : Int := if br then 0 else k * min ((at2 - s) * (at2 - s)) (y * y) - k * (at1 - s) * (at1 - s) + if b then 0 else 2 * k * y * ovr y (at2 - s)
def mvLoss (k y : Int) (b : Bool) (s : Int) (br : Bool) (at2 : Int) : Int := if br then 0 else if ovr y (at2 - s) = 0 then 0 else if b then k * y * y else 2 * k * y * ovr y (at2 - s)

set_option maxRecDepth 100000 in
set_option maxHeartbeats 800000 in
theorem moved_broken (k y : Int) (b : Bool) (s at' at2 : Int) (w : World) :
    Calls Tryz.prog 77 #[elV k y b s true at', .int .i64 at2] w fun e w' => e = .returned (.tuple #[elV k y b s true at2, .agg #[.int .i64 0, .int .i64 0]]) ∧ Below w.heap.size w w' := by
  have B3 : Below w.heap.size w (((w.alloc (.cells #[.int .i64 k, .int .i64 y, .bool b, .int .i64 s, .bool true, .int .i64 at'] 138)).alloc (.cells #[.int .i64 0, .int .i64 0, .bool false, .int .i64 0, .bool false, .int .i64 0] 138)).alloc (.cells #[.int .i64 0, .int .i64 0] 64)) := (((Below.refl _ _).alloc (Nat.le_refl _) _).alloc (by simp) _).alloc (by simp; omega) _
  unfold elV
  go_enter Tryz.func77, Tryz.ntmps77
  go_wp2
  refine bodyPost_ret (v := .tuple #[.agg #[.int .i64 k, .int .i64 y, .bool b, .int .i64 s, .bool true, .int .i64 at2], .agg #[.int .i64 0, .int .i64 0]]) (by simp [results, Tryz.results77, go_sem]) rfl ⟨rfl, ?_⟩
  exact (((Below.refl _ _).alloc (Nat.le_refl _) _).alloc (by simp) _).alloc (by simp; omega) _

structure MvR (y d s ov P1 P3 P6 P8 : Int) (b : Bool) (s2 : Int) (br2 : Bool) (wk ls : Int) : Prop where
  s2 : s2 = (if ov = 0 then s else if b then 0 else if d < 0 then s - ov else s + ov)
  br2 : br2 = (b && !decide (ov = 0))
  wk : wk = (P1 - P3) + (if b || decide (ov = 0) then 0 else P6)
  ls : ls = (if ov = 0 then 0 else if b then P8 else P6)
set_option maxRecDepth 100000 in
set_option maxHeartbeats 8000000 in
theorem moved_whole (k y : Int) (b : Bool) (s at' at2 d sz ov D2 Y2 mn P1 P2 P3 K2 P5 P6 P7 P8 : Int) (w : World) (h : ElB k y s at') (h2 : ElB k y s at2) (e0 : at2 - s = d) (e1 : (if d < -d then -d else d) = sz) (e2 : (if 0 < sz - y then sz - y else 0) = ov) (q1 : d * d = D2) (q2 : y * y = Y2) (e3 : (if Y2 < D2 then Y2 else D2) = mn)
    (p1 : k * mn = P1) (p2 : k * (at' - s) = P2) (p3 : P2 * (at' - s) = P3) (p4 : 2 * k = K2) (p5 : K2 * y = P5) (p6 : P5 * (sz - y) = P6 ∨ sz ≤ y) (p7 : k * y = P7) (p8 : P7 * y = P8)
    (bd : 0 ≤ D2 ∧ D2 ≤ 2500000000 ∧ 0 ≤ Y2 ∧ Y2 ≤ 1000000 ∧ 0 ≤ P1 ∧ P1 ≤ 1000000000 ∧ -50000000 ≤ P2 ∧ P2 ≤ 50000000 ∧ -2500000000000 ≤ P3 ∧ P3 ≤ 2500000000000 ∧ 0 ≤ P5 ∧ P5 ≤ 2000000 ∧ 0 ≤ P6 ∧ P6 ≤ 100000000000 ∧ 0 ≤ P7 ∧ P7 ≤ 1000000 ∧ 0 ≤ P8 ∧ P8 ≤ 1000000000) :
    Calls Tryz.prog 77 #[elV k y b s false at', .int .i64 at2] w fun e w' => ∃ s2 br2 wk ls, e = .returned (.tuple #[elV k y b s2 br2 at2, .agg #[.int .i64 wk, .int .i64 ls]]) ∧ MvR y d s ov P1 P3 P6 P8 b s2 br2 wk ls ∧ Below w.heap.size w w' := by
  have hov : ov = if 0 < sz - y then sz - y else 0 := e2.symm
  have B3 : Below w.heap.size w (((w.alloc (.cells #[.int .i64 k, .int .i64 y, .bool b, .int .i64 s, .bool false, .int .i64 at'] 138)).alloc (.cells #[.int .i64 0, .int .i64 0, .bool false, .int .i64 0, .bool false, .int .i64 0] 138)).alloc (.cells #[.int .i64 0, .int .i64 0] 64)) := (((Below.refl _ _).alloc (Nat.le_refl _) _).alloc (by simp) _).alloc (by simp; omega) _
  have y2 := alloc_new ((w.alloc (.cells #[.int .i64 k, .int .i64 y, .bool b, .int .i64 s, .bool false, .int .i64 at'] 138)).alloc (.cells #[.int .i64 0, .int .i64 0, .bool false, .int .i64 0, .bool false, .int .i64 0] 138)) (.cells #[.int .i64 0, .int .i64 0] 64)
  have y1 := blk_keep (alloc_new (w.alloc (.cells #[.int .i64 k, .int .i64 y, .bool b, .int .i64 s, .bool false, .int .i64 at'] 138)) (.cells #[.int .i64 0, .int .i64 0, .bool false, .int .i64 0, .bool false, .int .i64 0] 138)) ((Below.refl _ _).alloc (Nat.le_refl _) (.cells #[.int .i64 0, .int .i64 0] 64))
  have y0 := blk_keep (blk_keep (alloc_new w (.cells #[.int .i64 k, .int .i64 y, .bool b, .int .i64 s, .bool false, .int .i64 at'] 138)) ((Below.refl _ _).alloc (Nat.le_refl _) (.cells #[.int .i64 0, .int .i64 0, .bool false, .int .i64 0, .bool false, .int .i64 0] 138))) ((Below.refl _ _).alloc (Nat.le_refl _) (.cells #[.int .i64 0, .int .i64 0] 64))
  simp only [World.size_alloc] at y1 y2
  have E1 := Lib.hid e1
  have E2 := Lib.hid e2
  have E3 := Lib.hid e3
  have Q1 := Lib.hid q1
  have Q2 := Lib.hid q2
  have HP := Lib.hid (And.intro p1 (And.intro p2 (And.intro p3 (And.intro p4 (And.intro p5 (And.intro p6 (And.intro p7 p8)))))))
  have E0 := Lib.hid e0
  have hky := h.k
  have hyy := h.y
  have hs1 := h.s
  have ha1 := h.a
  have ha2 := h2.a
  clear e0 e1 e2 e3 q1 q2 p1 p2 p3 p4 p5 p6 p7 p8
  unfold elV
  go_enter Tryz.func77, Tryz.ntmps77
  go_wp2_with fail
  generalize (((w.alloc (.cells #[.int .i64 k, .int .i64 y, .bool b, .int .i64 s, .bool false, .int .i64 at'] 138)).alloc (.cells #[.int .i64 0, .int .i64 0, .bool false, .int .i64 0, .bool false, .int .i64 0] 138)).alloc (.cells #[.int .i64 0, .int .i64 0] 64)) = W at B3 y0 y1 y2 ⊢
  refine Calmly.wp_region_mix 9 (.fl 0 <| .fl 1 <| .fl 2 <| .fl 3 <| .fl 4 <| .fl 5 <| .fl 6 <| .eff 7 <| .fl 8 <| .tail [9, 10]) (by kernel_rfl) (by kernel_rfl) ?_
  replace y0 := blk_keep y0 (Below.refl _ _).drew
  replace y1 := blk_keep y1 (Below.refl _ _).drew
  replace y2 := blk_keep y2 (Below.refl _ _).drew
  replace B3 := B3.drew
  generalize W.drew = V at *
  have c0 := cell_block y0 0
  have c1 := cell_block y0 1
  have c2 := cell_block y0 2
  have c3 := cell_block y0 3
  have c4 := cell_block y0 4
  have c5 := cell_block y0 5
  have hk := Below.refl V.heap.size V
  go_wp2_with (first | ((with_reducible refine Calmly.is_fl ?_); refine Calmly.mix_fl rfl ?_ (fun _ _ => ?_); (first | exact .move _ | exact .load _ _ | exact .fieldAddr _ _ _ (by kernel_rfl) | exact .assign _ | exact .binOp _ _ _ _ _ rfl | exact .indexAddr _ _ _ | exact .len _ _ (by kernel_rfl) | exact .field _ _ _ | exact .extract _ _ | exact .pick _ _ _ | exact .build _ _ | exact .slice _ _ _ _ _ | exact .unOp _ _ _ rfl | exact .index _ _ _ | exact .max _ _ _ rfl rfl | exact .min _ _ _ rfl rfl | exact .nilCheck _ _ rfl)) | ((with_reducible refine Calmly.is_gl ?_); refine Calmly.mix_gl rfl rfl rfl ?_; first | ((first | with_reducible refine Calmly.gl_tt ?_ (fun _ _ => ?_) | with_reducible refine Calmly.gl_ff ?_ (fun _ _ => ?_)); (first | exact .move _ | exact .load _ _ | exact .fieldAddr _ _ _ (by kernel_rfl) | exact .assign _ | exact .binOp _ _ _ _ _ rfl | exact .indexAddr _ _ _ | exact .len _ _ (by kernel_rfl) | exact .field _ _ _ | exact .extract _ _ | exact .pick _ _ _ | exact .build _ _ | exact .slice _ _ _ _ _ | exact .unOp _ _ _ rfl | exact .index _ _ _ | exact .max _ _ _ rfl rfl | exact .min _ _ _ rfl rfl | exact .nilCheck _ _ rfl)) | with_reducible refine Calmly.gl_tf (fun _ _ => ?_) | with_reducible refine Calmly.gl_ft (fun _ _ => ?_)) | ((with_reducible refine Calmly.is_eff ?_); refine Calmly.mix_eff rfl (fun _ _ => ?_)) | ((with_reducible refine Calmly.is_gf ?_); refine Calmly.mix_gf rfl rfl rfl ?_; first | with_reducible refine Calmly.gf_tt (fun _ _ => ?_) | with_reducible refine Calmly.gf_ff (fun _ _ => ?_) | with_reducible refine Calmly.gf_tf (kept_of hk) (fun _ _ => ?_) | with_reducible refine Calmly.gf_ft (kept_of hk) (fun _ _ => ?_)) | ((with_reducible refine Calmly.is_tail ?_); first | refine Calmly.mix_tail_nil ?_ | refine Calmly.mix_tail rfl (fun _ _ => ?_)) | ((with_reducible refine Calmly.is_kept ?_); refine ⟨kept_of hk, ?_⟩) | (with_reducible refine Calmly.mix_alt ?_ ?_))
  refine (stretch_any k y b s false at' _ h).mono ?_
  rintro e u1 ⟨rfl, hs⟩
  replace hk := step_of hk hs
  clear hs
  replace y0 := blk_keep y0 hk
  replace y1 := blk_keep y1 hk
  replace y2 := blk_keep y2 hk
  replace B3 := B3.trans (hk.mono B3.size)
  have d0 := cell_block y0 0
  have d1 := cell_block y0 1
  have d2 := cell_block y0 2
  have d3 := cell_block y0 3
  have d4 := cell_block y0 4
  have d5 := cell_block y0 5
  have g0 := frozen_block y0 0
  have g1 := frozen_block y0 1
  have g2 := frozen_block y0 2
  have g3 := frozen_block y0 3
  have g4 := frozen_block y0 4
  have g5 := frozen_block y0 5
  go_wp2_with (first | ((with_reducible refine Calmly.is_fl ?_); refine Calmly.mix_fl rfl ?_ (fun _ _ => ?_); (first | exact .move _ | exact .load _ _ | exact .fieldAddr _ _ _ (by kernel_rfl) | exact .assign _ | exact .binOp _ _ _ _ _ rfl | exact .indexAddr _ _ _ | exact .len _ _ (by kernel_rfl) | exact .field _ _ _ | exact .extract _ _ | exact .pick _ _ _ | exact .build _ _ | exact .slice _ _ _ _ _ | exact .unOp _ _ _ rfl | exact .index _ _ _ | exact .max _ _ _ rfl rfl | exact .min _ _ _ rfl rfl | exact .nilCheck _ _ rfl)) | ((with_reducible refine Calmly.is_gl ?_); refine Calmly.mix_gl rfl rfl rfl ?_; first | ((first | with_reducible refine Calmly.gl_tt ?_ (fun _ _ => ?_) | with_reducible refine Calmly.gl_ff ?_ (fun _ _ => ?_)); (first | exact .move _ | exact .load _ _ | exact .fieldAddr _ _ _ (by kernel_rfl) | exact .assign _ | exact .binOp _ _ _ _ _ rfl | exact .indexAddr _ _ _ | exact .len _ _ (by kernel_rfl) | exact .field _ _ _ | exact .extract _ _ | exact .pick _ _ _ | exact .build _ _ | exact .slice _ _ _ _ _ | exact .unOp _ _ _ rfl | exact .index _ _ _ | exact .max _ _ _ rfl rfl | exact .min _ _ _ rfl rfl | exact .nilCheck _ _ rfl)) | with_reducible refine Calmly.gl_tf (fun _ _ => ?_) | with_reducible refine Calmly.gl_ft (fun _ _ => ?_)) | ((with_reducible refine Calmly.is_eff ?_); refine Calmly.mix_eff rfl (fun _ _ => ?_)) | ((with_reducible refine Calmly.is_gf ?_); refine Calmly.mix_gf rfl rfl rfl ?_; first | with_reducible refine Calmly.gf_tt (fun _ _ => ?_) | with_reducible refine Calmly.gf_ff (fun _ _ => ?_) | with_reducible refine Calmly.gf_tf (kept_of hk) (fun _ _ => ?_) | with_reducible refine Calmly.gf_ft (kept_of hk) (fun _ _ => ?_)) | ((with_reducible refine Calmly.is_tail ?_); first | refine Calmly.mix_tail_nil ?_ | refine Calmly.mix_tail rfl (fun _ _ => ?_)) | ((with_reducible refine Calmly.is_kept ?_); refine ⟨kept_of hk, ?_⟩) | (with_reducible refine Calmly.mix_alt ?_ ?_))
  have hk0 : w.heap.size < u1.heap.size := blk_lt y0
  replace B3 := B3.setCell (p := ⟨w.heap.size, 5, none⟩) (Nat.le_refl _) (.int .i64 at2)
  replace y1 := (Below.heap_setCell u1 ⟨w.heap.size, 5, none⟩ (.int .i64 at2) (w.heap.size + 1) (by simp)).trans y1
  replace y2 := (Below.heap_setCell u1 ⟨w.heap.size, 5, none⟩ (.int .i64 at2) (w.heap.size + 1 + 1) (by simp; omega)).trans y2
  replace y0 := setBlk y0 5 (.int .i64 at2)
  simp at y0
  generalize u1.setCell ⟨w.heap.size, 5, none⟩ (.int .i64 at2) = X at *
  clear c0 c1 c2 c3 c4 c5 d0 d1 d2 d3 d4 d5 g0 g1 g2 g3 g4 g5 hk
  refine (stretch_any k y b s false at2 _ h2).mono ?_
  rintro e u2 ⟨rfl, hs⟩
  replace y0 := blk_keep y0 hs
  replace y1 := blk_keep y1 hs
  replace y2 := blk_keep y2 hs
  replace B3 := B3.trans (hs.mono B3.size)
  clear hs hk0
  have e0 := E0.out
  obtain ⟨p1, p2, p3, p4, p5, p6', p7, p8⟩ := HP.out
  have e1 := E1.out
  have e3 := E3.out
  have q1 := Q1.out
  have q2 := Q2.out
  have y3 := alloc_new u2 (.cells #[.int .i64 (P1 - P3), .int .i64 0] 64)
  have Y0 := blk_keep y0 ((Below.refl _ _).alloc (Nat.le_refl _) (.cells #[.int .i64 (P1 - P3), .int .i64 0] 64))
  have Y1 := blk_keep y1 ((Below.refl _ _).alloc (Nat.le_refl _) (.cells #[.int .i64 (P1 - P3), .int .i64 0] 64))
  have Y2' := blk_keep y2 ((Below.refl _ _).alloc (Nat.le_refl _) (.cells #[.int .i64 (P1 - P3), .int .i64 0] 64))
  have hlt := blk_lt y2
  have c0 := cell_block Y0 0
  have c1 := cell_block Y0 1
  have c2 := cell_block Y0 2
  have c3 := cell_block Y0 3
  have c4 := cell_block Y0 4
  have c5 := cell_block Y0 5
  have g3 := frozen_block Y0 3
  have g4 := frozen_block Y0 4
  replace B3 := B3.alloc B3.size (.cells #[.int .i64 (P1 - P3), .int .i64 0] 64)
  have HOV := Lib.hid hov
  have h0b := h.k
  clear hov
  have hsz : d ≤ sz ∧ -d ≤ sz := by
    have := E1.out
    split at this <;> omega
  rcases (show sz ≤ y ∨ (y < sz ∧ b = true) ∨ (y < sz ∧ b = false ∧ d < 0) ∨ (y < sz ∧ b = false ∧ 0 ≤ d) by
    cases b <;> simp <;> omega) with hle | ⟨hgt, rfl⟩ | ⟨hgt, rfl, hd⟩ | ⟨hgt, rfl, hd⟩
  --LEAVES
  · clear y0 y1 y2
    go_wp2_with fail
    all_goals first | (exfalso; omega) | skip
    generalize u2.alloc (.cells #[.int .i64 (P1 - P3), .int .i64 0] 64) = X0 at *
    clear c0 c1 c2 c3 c4 c5 g3 g4 e0 e1 e3 q1 q2 p1 p2 p3 p4 p5 p6' p7 p8 E0 E1 E2 E3 HP Q1 Q2
    have hc1 : ov = 0 := by rw [HOV.out]; rw [if_neg (by omega)]
    have hc0 : ov = 0 := by omega
    clear HOV
    have hc0 := Lib.hid hc0
    have hc1 := Lib.hid hc1
    refine Calmly.wp_region_mix_at w (kept_of B3) 3 (.alt 0 (.alt 1 (.eff 2 <| .tail [3]) (.eff 2 (.eff 1 <| .tail [3]))) (.eff 1 (.eff 0 <| .eff 2 <| .tail [3]))) (by kernel_rfl) (by kernel_rfl) ?_
    replace Y0 := blk_keep Y0 (Below.refl _ _).drew
    replace Y1 := blk_keep Y1 (Below.refl _ _).drew
    replace Y2' := blk_keep Y2' (Below.refl _ _).drew
    replace y3 := blk_keep y3 (Below.refl _ _).drew
    have hk := B3.drew
    clear B3
    generalize X0.drew = Z at *
    have hr1 : w.heap.size ≤ w.heap.size + 1 := by omega
    have c0 := cell_block Y0 0
    have c1 := cell_block Y0 1
    have c2 := cell_block Y0 2
    have c3 := cell_block Y0 3
    have c4 := cell_block Y0 4
    have c5 := cell_block Y0 5
    have k0 := cell_block y3 0
    have k1 := cell_block y3 1
    have m0 := cell_block Y1 0
    have f0 := frozen_block Y1 0
    have m1 := cell_block Y1 1
    have f1 := frozen_block Y1 1
    have m2 := cell_block Y1 2
    have f2 := frozen_block Y1 2
    have m3 := cell_block Y1 3
    have f3 := frozen_block Y1 3
    have m4 := cell_block Y1 4
    have f4 := frozen_block Y1 4
    have m5 := cell_block Y1 5
    have f5 := frozen_block Y1 5
    go_wp2_with (first | (with_reducible refine kept_st6 hk hr1 Y1 (fun hk' ho hn0 => ?_); generalize World.setCell (World.setCell (World.setCell (World.setCell (World.setCell (World.setCell Z _ _) _ _) _ _) _ _) _ _) _ _ = Z2 at *; replace hk := hk'; clear hk'; replace c0 := (sameCell (ho w.heap.size (by omega)) _).trans c0; replace c1 := (sameCell (ho w.heap.size (by omega)) _).trans c1; replace c2 := (sameCell (ho w.heap.size (by omega)) _).trans c2; replace c3 := (sameCell (ho w.heap.size (by omega)) _).trans c3; replace c4 := (sameCell (ho w.heap.size (by omega)) _).trans c4; replace c5 := (sameCell (ho w.heap.size (by omega)) _).trans c5; replace k0 := (sameCell (ho u2.heap.size (by omega)) _).trans k0; replace k1 := (sameCell (ho u2.heap.size (by omega)) _).trans k1; replace Y2' := (ho (w.heap.size + 1 + 1) (by omega)).trans Y2'; clear m0 m1 m2 m3 m4 m5 f0 f1 f2 f3 f4 f5 ho; have m0 := cell_block Y2' 0; have m1 := cell_block Y2' 1; have f0 := frozen_block Y2' 0; have f1 := frozen_block Y2' 1) | ((with_reducible refine Calmly.is_fl ?_); refine Calmly.mix_fl rfl ?_ (fun _ _ => ?_); (first | exact .move _ | exact .load _ _ | exact .fieldAddr _ _ _ (by kernel_rfl) | exact .assign _ | exact .binOp _ _ _ _ _ rfl | exact .indexAddr _ _ _ | exact .len _ _ (by kernel_rfl) | exact .field _ _ _ | exact .extract _ _ | exact .pick _ _ _ | exact .build _ _ | exact .slice _ _ _ _ _ | exact .unOp _ _ _ rfl | exact .index _ _ _ | exact .max _ _ _ rfl rfl | exact .min _ _ _ rfl rfl | exact .nilCheck _ _ rfl)) | ((with_reducible refine Calmly.is_gl ?_); refine Calmly.mix_gl rfl rfl rfl ?_; first | ((first | with_reducible refine Calmly.gl_tt ?_ (fun _ _ => ?_) | with_reducible refine Calmly.gl_ff ?_ (fun _ _ => ?_)); (first | exact .move _ | exact .load _ _ | exact .fieldAddr _ _ _ (by kernel_rfl) | exact .assign _ | exact .binOp _ _ _ _ _ rfl | exact .indexAddr _ _ _ | exact .len _ _ (by kernel_rfl) | exact .field _ _ _ | exact .extract _ _ | exact .pick _ _ _ | exact .build _ _ | exact .slice _ _ _ _ _ | exact .unOp _ _ _ rfl | exact .index _ _ _ | exact .max _ _ _ rfl rfl | exact .min _ _ _ rfl rfl | exact .nilCheck _ _ rfl)) | with_reducible refine Calmly.gl_tf (fun _ _ => ?_) | with_reducible refine Calmly.gl_ft (fun _ _ => ?_)) | ((with_reducible refine Calmly.is_eff ?_); refine Calmly.mix_eff rfl (fun _ _ => ?_)) | ((with_reducible refine Calmly.is_gf ?_); refine Calmly.mix_gf rfl rfl rfl ?_; first | with_reducible refine Calmly.gf_tt (fun _ _ => ?_) | with_reducible refine Calmly.gf_ff (fun _ _ => ?_) | with_reducible refine Calmly.gf_tf (kept_of hk) (fun _ _ => ?_) | with_reducible refine Calmly.gf_ft (kept_of hk) (fun _ _ => ?_)) | ((with_reducible refine Calmly.is_tail ?_); first | refine Calmly.mix_tail_nil ?_ | refine Calmly.mix_tail rfl (fun _ _ => ?_)) | ((with_reducible refine Calmly.is_kept ?_); refine ⟨kept_of hk, ?_⟩) | (with_reducible refine Calmly.mix_alt ?_ ?_))
    all_goals
      obtain ⟨_, h3⟩ := kept_st2M (G := _ ∧ _ ∧ _) (x := .int .i64 (P1 - P3)) (y := .int .i64 (0)) hk (show w.heap.size ≤ w.heap.size + 1 + 1 by omega) Y2' (fun h1 h2 h3 => ⟨h1, h2, h3⟩)
      generalize World.setCell (World.setCell Z2 _ _) _ _ = Z3 at *
      obtain ⟨hk3, ho3, hn1⟩ := h3
      have q0 := (ho3 (w.heap.size + 1) (by omega)).trans hn0
      have e0 := cell_block q0 0
      have e1 := cell_block q0 1
      have e2 := cell_block q0 2
      have e3 := cell_block q0 3
      have e4 := cell_block q0 4
      have e5 := cell_block q0 5
      have r0 := cell_block hn1 0
      have r1 := cell_block hn1 1
      refine bodyPost_ret (v := .tuple #[.agg #[.int .i64 k, .int .i64 y, .bool b, .int .i64 s, .bool false, .int .i64 at2], .agg #[.int .i64 (P1 - P3), .int .i64 (0)]]) (by simp [results, Tryz.results77, go_sem, e0, e1, e2, e3, e4, e5, r0, r1]) rfl ⟨_, _, _, _, rfl, ⟨by simp [hc0.out], by simp [hc0.out], by simp [hc0.out], by simp [hc0.out]⟩, hk3⟩
  · clear y0 y1 y2
    go_wp2_with fail
    all_goals first | (exfalso; omega) | skip
    generalize u2.alloc (.cells #[.int .i64 (P1 - P3), .int .i64 0] 64) = X0 at *
    clear c0 c1 c2 c3 c4 c5 g3 g4 e0 e1 e3 q1 q2 p1 p2 p3 p4 p5 p6' p7 p8 E0 E1 E2 E3 HP Q1 Q2
    have hc1 : ov = sz - y := by rw [HOV.out]; rw [if_pos (by omega)]
    have hc0 : ¬ ov = 0 := by omega
    clear HOV
    have hc0 := Lib.hid hc0
    have hc1 := Lib.hid hc1
    obtain ⟨B, ho, hn⟩ := set_own (i := 3) (v := .int .i64 0) B3 (by omega) Y0
    replace Y1 := (ho _ (by omega)).trans Y1
    replace Y2' := (ho _ (by omega)).trans Y2'
    replace y3 := (ho _ (by omega)).trans y3
    replace Y0 := hn
    replace B3 := B
    simp at Y0
    clear B ho hn
    generalize World.setCell X0 ⟨w.heap.size, 3, none⟩ (.int .i64 0) = X1 at *
    obtain ⟨B, ho, hn⟩ := set_own (i := 4) (v := .bool true) B3 (by omega) Y0
    replace Y1 := (ho _ (by omega)).trans Y1
    replace Y2' := (ho _ (by omega)).trans Y2'
    replace y3 := (ho _ (by omega)).trans y3
    replace Y0 := hn
    replace B3 := B
    simp at Y0
    clear B ho hn
    generalize World.setCell X1 ⟨w.heap.size, 4, none⟩ (.bool true) = X2 at *
    obtain ⟨B, ho, hn⟩ := set_own (i := 1) (v := .int .i64 P8) B3 (by omega) y3
    replace Y0 := (ho _ (by omega)).trans Y0
    replace Y1 := (ho _ (by omega)).trans Y1
    replace Y2' := (ho _ (by omega)).trans Y2'
    replace y3 := hn
    replace B3 := B
    simp at y3
    clear B ho hn
    generalize World.setCell X2 ⟨u2.heap.size, 1, none⟩ (.int .i64 P8) = X3 at *
    refine Calmly.wp_region_mix_at w (kept_of B3) 3 (.alt 0 (.alt 1 (.eff 2 <| .tail [3]) (.eff 2 (.eff 1 <| .tail [3]))) (.eff 1 (.eff 0 <| .eff 2 <| .tail [3]))) (by kernel_rfl) (by kernel_rfl) ?_
    replace Y0 := blk_keep Y0 (Below.refl _ _).drew
    replace Y1 := blk_keep Y1 (Below.refl _ _).drew
    replace Y2' := blk_keep Y2' (Below.refl _ _).drew
    replace y3 := blk_keep y3 (Below.refl _ _).drew
    have hk := B3.drew
    clear B3
    generalize X3.drew = Z at *
    have hr1 : w.heap.size ≤ w.heap.size + 1 := by omega
    have c0 := cell_block Y0 0
    have c1 := cell_block Y0 1
    have c2 := cell_block Y0 2
    have c3 := cell_block Y0 3
    have c4 := cell_block Y0 4
    have c5 := cell_block Y0 5
    have k0 := cell_block y3 0
    have k1 := cell_block y3 1
    have m0 := cell_block Y1 0
    have f0 := frozen_block Y1 0
    have m1 := cell_block Y1 1
    have f1 := frozen_block Y1 1
    have m2 := cell_block Y1 2
    have f2 := frozen_block Y1 2
    have m3 := cell_block Y1 3
    have f3 := frozen_block Y1 3
    have m4 := cell_block Y1 4
    have f4 := frozen_block Y1 4
    have m5 := cell_block Y1 5
    have f5 := frozen_block Y1 5
    go_wp2_with (first | (with_reducible refine kept_st6 hk hr1 Y1 (fun hk' ho hn0 => ?_); generalize World.setCell (World.setCell (World.setCell (World.setCell (World.setCell (World.setCell Z _ _) _ _) _ _) _ _) _ _) _ _ = Z2 at *; replace hk := hk'; clear hk'; replace c0 := (sameCell (ho w.heap.size (by omega)) _).trans c0; replace c1 := (sameCell (ho w.heap.size (by omega)) _).trans c1; replace c2 := (sameCell (ho w.heap.size (by omega)) _).trans c2; replace c3 := (sameCell (ho w.heap.size (by omega)) _).trans c3; replace c4 := (sameCell (ho w.heap.size (by omega)) _).trans c4; replace c5 := (sameCell (ho w.heap.size (by omega)) _).trans c5; replace k0 := (sameCell (ho u2.heap.size (by omega)) _).trans k0; replace k1 := (sameCell (ho u2.heap.size (by omega)) _).trans k1; replace Y2' := (ho (w.heap.size + 1 + 1) (by omega)).trans Y2'; clear m0 m1 m2 m3 m4 m5 f0 f1 f2 f3 f4 f5 ho; have m0 := cell_block Y2' 0; have m1 := cell_block Y2' 1; have f0 := frozen_block Y2' 0; have f1 := frozen_block Y2' 1) | ((with_reducible refine Calmly.is_fl ?_); refine Calmly.mix_fl rfl ?_ (fun _ _ => ?_); (first | exact .move _ | exact .load _ _ | exact .fieldAddr _ _ _ (by kernel_rfl) | exact .assign _ | exact .binOp _ _ _ _ _ rfl | exact .indexAddr _ _ _ | exact .len _ _ (by kernel_rfl) | exact .field _ _ _ | exact .extract _ _ | exact .pick _ _ _ | exact .build _ _ | exact .slice _ _ _ _ _ | exact .unOp _ _ _ rfl | exact .index _ _ _ | exact .max _ _ _ rfl rfl | exact .min _ _ _ rfl rfl | exact .nilCheck _ _ rfl)) | ((with_reducible refine Calmly.is_gl ?_); refine Calmly.mix_gl rfl rfl rfl ?_; first | ((first | with_reducible refine Calmly.gl_tt ?_ (fun _ _ => ?_) | with_reducible refine Calmly.gl_ff ?_ (fun _ _ => ?_)); (first | exact .move _ | exact .load _ _ | exact .fieldAddr _ _ _ (by kernel_rfl) | exact .assign _ | exact .binOp _ _ _ _ _ rfl | exact .indexAddr _ _ _ | exact .len _ _ (by kernel_rfl) | exact .field _ _ _ | exact .extract _ _ | exact .pick _ _ _ | exact .build _ _ | exact .slice _ _ _ _ _ | exact .unOp _ _ _ rfl | exact .index _ _ _ | exact .max _ _ _ rfl rfl | exact .min _ _ _ rfl rfl | exact .nilCheck _ _ rfl)) | with_reducible refine Calmly.gl_tf (fun _ _ => ?_) | with_reducible refine Calmly.gl_ft (fun _ _ => ?_)) | ((with_reducible refine Calmly.is_eff ?_); refine Calmly.mix_eff rfl (fun _ _ => ?_)) | ((with_reducible refine Calmly.is_gf ?_); refine Calmly.mix_gf rfl rfl rfl ?_; first | with_reducible refine Calmly.gf_tt (fun _ _ => ?_) | with_reducible refine Calmly.gf_ff (fun _ _ => ?_) | with_reducible refine Calmly.gf_tf (kept_of hk) (fun _ _ => ?_) | with_reducible refine Calmly.gf_ft (kept_of hk) (fun _ _ => ?_)) | ((with_reducible refine Calmly.is_tail ?_); first | refine Calmly.mix_tail_nil ?_ | refine Calmly.mix_tail rfl (fun _ _ => ?_)) | ((with_reducible refine Calmly.is_kept ?_); refine ⟨kept_of hk, ?_⟩) | (with_reducible refine Calmly.mix_alt ?_ ?_))
    all_goals
      obtain ⟨_, h3⟩ := kept_st2M (G := _ ∧ _ ∧ _) (x := .int .i64 (P1 - P3)) (y := .int .i64 (P8)) hk (show w.heap.size ≤ w.heap.size + 1 + 1 by omega) Y2' (fun h1 h2 h3 => ⟨h1, h2, h3⟩)
      generalize World.setCell (World.setCell Z2 _ _) _ _ = Z3 at *
      obtain ⟨hk3, ho3, hn1⟩ := h3
      have q0 := (ho3 (w.heap.size + 1) (by omega)).trans hn0
      have e0 := cell_block q0 0
      have e1 := cell_block q0 1
      have e2 := cell_block q0 2
      have e3 := cell_block q0 3
      have e4 := cell_block q0 4
      have e5 := cell_block q0 5
      have r0 := cell_block hn1 0
      have r1 := cell_block hn1 1
      refine bodyPost_ret (v := .tuple #[.agg #[.int .i64 k, .int .i64 y, .bool true, .int .i64 0, .bool true, .int .i64 at2], .agg #[.int .i64 (P1 - P3), .int .i64 (P8)]]) (by simp [results, Tryz.results77, go_sem, e0, e1, e2, e3, e4, e5, r0, r1]) rfl ⟨_, _, _, _, rfl, ⟨by simp [hc0.out], by simp [hc0.out], by simp [hc0.out], by simp [hc0.out]⟩, hk3⟩
  · clear y0 y1 y2
    have hsd : -d = sz := by rw [if_pos (by omega)] at e1; exact e1
    subst hsd
    have p6 : P5 * (-d - y) = P6 := by omega
    clear p6'
    go_wp2_with fail
    all_goals first | (exfalso; omega) | skip
    generalize u2.alloc (.cells #[.int .i64 (P1 - P3), .int .i64 0] 64) = X0 at *
    clear c0 c1 c2 c3 c4 c5 g3 g4 e0 e1 e3 q1 q2 p1 p2 p3 p4 p5 p6 p7 p8 E0 E1 E2 E3 HP Q1 Q2
    have hc1 : ov = -d - y := by rw [HOV.out]; rw [if_pos (by omega)]
    have hc0 : ¬ ov = 0 := by omega
    clear HOV
    have hc0 := Lib.hid hc0
    have hc1 := Lib.hid hc1
    obtain ⟨B, ho, hn⟩ := set_own (i := 3) (v := .int .i64 (s - (-d - y))) B3 (by omega) Y0
    replace Y1 := (ho _ (by omega)).trans Y1
    replace Y2' := (ho _ (by omega)).trans Y2'
    replace y3 := (ho _ (by omega)).trans y3
    replace Y0 := hn
    replace B3 := B
    simp at Y0
    clear B ho hn
    generalize World.setCell X0 ⟨w.heap.size, 3, none⟩ (.int .i64 (s - (-d - y))) = X1 at *
    obtain ⟨B, ho, hn⟩ := set_own (i := 0) (v := .int .i64 (P1 - P3 + P6)) B3 (by omega) y3
    replace Y0 := (ho _ (by omega)).trans Y0
    replace Y1 := (ho _ (by omega)).trans Y1
    replace Y2' := (ho _ (by omega)).trans Y2'
    replace y3 := hn
    replace B3 := B
    simp at y3
    clear B ho hn
    generalize World.setCell X1 ⟨u2.heap.size, 0, none⟩ (.int .i64 (P1 - P3 + P6)) = X2 at *
    obtain ⟨B, ho, hn⟩ := set_own (i := 1) (v := .int .i64 P6) B3 (by omega) y3
    replace Y0 := (ho _ (by omega)).trans Y0
    replace Y1 := (ho _ (by omega)).trans Y1
    replace Y2' := (ho _ (by omega)).trans Y2'
    replace y3 := hn
    replace B3 := B
    simp at y3
    clear B ho hn
    generalize World.setCell X2 ⟨u2.heap.size, 1, none⟩ (.int .i64 P6) = X3 at *
    refine Calmly.wp_region_mix_at w (kept_of B3) 3 (.alt 0 (.alt 1 (.eff 2 <| .tail [3]) (.eff 2 (.eff 1 <| .tail [3]))) (.eff 1 (.eff 0 <| .eff 2 <| .tail [3]))) (by kernel_rfl) (by kernel_rfl) ?_
    replace Y0 := blk_keep Y0 (Below.refl _ _).drew
    replace Y1 := blk_keep Y1 (Below.refl _ _).drew
    replace Y2' := blk_keep Y2' (Below.refl _ _).drew
    replace y3 := blk_keep y3 (Below.refl _ _).drew
    have hk := B3.drew
    clear B3
    generalize X3.drew = Z at *
    have hr1 : w.heap.size ≤ w.heap.size + 1 := by omega
    have c0 := cell_block Y0 0
    have c1 := cell_block Y0 1
    have c2 := cell_block Y0 2
    have c3 := cell_block Y0 3
    have c4 := cell_block Y0 4
    have c5 := cell_block Y0 5
    have k0 := cell_block y3 0
    have k1 := cell_block y3 1
    have m0 := cell_block Y1 0
    have f0 := frozen_block Y1 0
    have m1 := cell_block Y1 1
    have f1 := frozen_block Y1 1
    have m2 := cell_block Y1 2
    have f2 := frozen_block Y1 2
    have m3 := cell_block Y1 3
    have f3 := frozen_block Y1 3
    have m4 := cell_block Y1 4
    have f4 := frozen_block Y1 4
    have m5 := cell_block Y1 5
    have f5 := frozen_block Y1 5
    go_wp2_with (first | (with_reducible refine kept_st6 hk hr1 Y1 (fun hk' ho hn0 => ?_); generalize World.setCell (World.setCell (World.setCell (World.setCell (World.setCell (World.setCell Z _ _) _ _) _ _) _ _) _ _) _ _ = Z2 at *; replace hk := hk'; clear hk'; replace c0 := (sameCell (ho w.heap.size (by omega)) _).trans c0; replace c1 := (sameCell (ho w.heap.size (by omega)) _).trans c1; replace c2 := (sameCell (ho w.heap.size (by omega)) _).trans c2; replace c3 := (sameCell (ho w.heap.size (by omega)) _).trans c3; replace c4 := (sameCell (ho w.heap.size (by omega)) _).trans c4; replace c5 := (sameCell (ho w.heap.size (by omega)) _).trans c5; replace k0 := (sameCell (ho u2.heap.size (by omega)) _).trans k0; replace k1 := (sameCell (ho u2.heap.size (by omega)) _).trans k1; replace Y2' := (ho (w.heap.size + 1 + 1) (by omega)).trans Y2'; clear m0 m1 m2 m3 m4 m5 f0 f1 f2 f3 f4 f5 ho; have m0 := cell_block Y2' 0; have m1 := cell_block Y2' 1; have f0 := frozen_block Y2' 0; have f1 := frozen_block Y2' 1) | ((with_reducible refine Calmly.is_fl ?_); refine Calmly.mix_fl rfl ?_ (fun _ _ => ?_); (first | exact .move _ | exact .load _ _ | exact .fieldAddr _ _ _ (by kernel_rfl) | exact .assign _ | exact .binOp _ _ _ _ _ rfl | exact .indexAddr _ _ _ | exact .len _ _ (by kernel_rfl) | exact .field _ _ _ | exact .extract _ _ | exact .pick _ _ _ | exact .build _ _ | exact .slice _ _ _ _ _ | exact .unOp _ _ _ rfl | exact .index _ _ _ | exact .max _ _ _ rfl rfl | exact .min _ _ _ rfl rfl | exact .nilCheck _ _ rfl)) | ((with_reducible refine Calmly.is_gl ?_); refine Calmly.mix_gl rfl rfl rfl ?_; first | ((first | with_reducible refine Calmly.gl_tt ?_ (fun _ _ => ?_) | with_reducible refine Calmly.gl_ff ?_ (fun _ _ => ?_)); (first | exact .move _ | exact .load _ _ | exact .fieldAddr _ _ _ (by kernel_rfl) | exact .assign _ | exact .binOp _ _ _ _ _ rfl | exact .indexAddr _ _ _ | exact .len _ _ (by kernel_rfl) | exact .field _ _ _ | exact .extract _ _ | exact .pick _ _ _ | exact .build _ _ | exact .slice _ _ _ _ _ | exact .unOp _ _ _ rfl | exact .index _ _ _ | exact .max _ _ _ rfl rfl | exact .min _ _ _ rfl rfl | exact .nilCheck _ _ rfl)) | with_reducible refine Calmly.gl_tf (fun _ _ => ?_) | with_reducible refine Calmly.gl_ft (fun _ _ => ?_)) | ((with_reducible refine Calmly.is_eff ?_); refine Calmly.mix_eff rfl (fun _ _ => ?_)) | ((with_reducible refine Calmly.is_gf ?_); refine Calmly.mix_gf rfl rfl rfl ?_; first | with_reducible refine Calmly.gf_tt (fun _ _ => ?_) | with_reducible refine Calmly.gf_ff (fun _ _ => ?_) | with_reducible refine Calmly.gf_tf (kept_of hk) (fun _ _ => ?_) | with_reducible refine Calmly.gf_ft (kept_of hk) (fun _ _ => ?_)) | ((with_reducible refine Calmly.is_tail ?_); first | refine Calmly.mix_tail_nil ?_ | refine Calmly.mix_tail rfl (fun _ _ => ?_)) | ((with_reducible refine Calmly.is_kept ?_); refine ⟨kept_of hk, ?_⟩) | (with_reducible refine Calmly.mix_alt ?_ ?_))
    all_goals
      obtain ⟨_, h3⟩ := kept_st2M (G := _ ∧ _ ∧ _) (x := .int .i64 (P1 - P3 + P6)) (y := .int .i64 (P6)) hk (show w.heap.size ≤ w.heap.size + 1 + 1 by omega) Y2' (fun h1 h2 h3 => ⟨h1, h2, h3⟩)
      generalize World.setCell (World.setCell Z2 _ _) _ _ = Z3 at *
      obtain ⟨hk3, ho3, hn1⟩ := h3
      have q0 := (ho3 (w.heap.size + 1) (by omega)).trans hn0
      have e0 := cell_block q0 0
      have e1 := cell_block q0 1
      have e2 := cell_block q0 2
      have e3 := cell_block q0 3
      have e4 := cell_block q0 4
      have e5 := cell_block q0 5
      have r0 := cell_block hn1 0
      have r1 := cell_block hn1 1
      refine bodyPost_ret (v := .tuple #[.agg #[.int .i64 k, .int .i64 y, .bool false, .int .i64 (s - (-d - y)), .bool false, .int .i64 at2], .agg #[.int .i64 (P1 - P3 + P6), .int .i64 (P6)]]) (by simp [results, Tryz.results77, go_sem, e0, e1, e2, e3, e4, e5, r0, r1]) rfl ⟨_, _, _, _, rfl, ⟨by have h1 := hc1.out; have h2 := hc0.out; rw [if_neg h2, if_neg (by simp)]; first | (rw [if_pos hd]; omega) | (rw [if_neg (by omega)]; omega), by simp [hc0.out], by simp [hc0.out], by simp [hc0.out]⟩, hk3⟩
  · clear y0 y1 y2
    have hsd : d = sz := by rw [if_neg (by omega)] at e1; exact e1
    subst hsd
    have p6 : P5 * (d - y) = P6 := by omega
    clear p6'
    go_wp2_with fail
    all_goals first | (exfalso; omega) | skip
    generalize u2.alloc (.cells #[.int .i64 (P1 - P3), .int .i64 0] 64) = X0 at *
    clear c0 c1 c2 c3 c4 c5 g3 g4 e0 e1 e3 q1 q2 p1 p2 p3 p4 p5 p6 p7 p8 E0 E1 E2 E3 HP Q1 Q2
    have hc1 : ov = d - y := by rw [HOV.out]; rw [if_pos (by omega)]
    have hc0 : ¬ ov = 0 := by omega
    clear HOV
    have hc0 := Lib.hid hc0
    have hc1 := Lib.hid hc1
    obtain ⟨B, ho, hn⟩ := set_own (i := 3) (v := .int .i64 (s + (d - y))) B3 (by omega) Y0
    replace Y1 := (ho _ (by omega)).trans Y1
    replace Y2' := (ho _ (by omega)).trans Y2'
    replace y3 := (ho _ (by omega)).trans y3
    replace Y0 := hn
    replace B3 := B
    simp at Y0
    clear B ho hn
    generalize World.setCell X0 ⟨w.heap.size, 3, none⟩ (.int .i64 (s + (d - y))) = X1 at *
    obtain ⟨B, ho, hn⟩ := set_own (i := 0) (v := .int .i64 (P1 - P3 + P6)) B3 (by omega) y3
    replace Y0 := (ho _ (by omega)).trans Y0
    replace Y1 := (ho _ (by omega)).trans Y1
    replace Y2' := (ho _ (by omega)).trans Y2'
    replace y3 := hn
    replace B3 := B
    simp at y3
    clear B ho hn
    generalize World.setCell X1 ⟨u2.heap.size, 0, none⟩ (.int .i64 (P1 - P3 + P6)) = X2 at *
    obtain ⟨B, ho, hn⟩ := set_own (i := 1) (v := .int .i64 P6) B3 (by omega) y3
    replace Y0 := (ho _ (by omega)).trans Y0
    replace Y1 := (ho _ (by omega)).trans Y1
    replace Y2' := (ho _ (by omega)).trans Y2'
    replace y3 := hn
    replace B3 := B
    simp at y3
    clear B ho hn
    generalize World.setCell X2 ⟨u2.heap.size, 1, none⟩ (.int .i64 P6) = X3 at *
    refine Calmly.wp_region_mix_at w (kept_of B3) 3 (.alt 0 (.alt 1 (.eff 2 <| .tail [3]) (.eff 2 (.eff 1 <| .tail [3]))) (.eff 1 (.eff 0 <| .eff 2 <| .tail [3]))) (by kernel_rfl) (by kernel_rfl) ?_
    replace Y0 := blk_keep Y0 (Below.refl _ _).drew
    replace Y1 := blk_keep Y1 (Below.refl _ _).drew
    replace Y2' := blk_keep Y2' (Below.refl _ _).drew
    replace y3 := blk_keep y3 (Below.refl _ _).drew
    have hk := B3.drew
    clear B3
    generalize X3.drew = Z at *
    have hr1 : w.heap.size ≤ w.heap.size + 1 := by omega
    have c0 := cell_block Y0 0
    have c1 := cell_block Y0 1
    have c2 := cell_block Y0 2
    have c3 := cell_block Y0 3
    have c4 := cell_block Y0 4
    have c5 := cell_block Y0 5
    have k0 := cell_block y3 0
    have k1 := cell_block y3 1
    have m0 := cell_block Y1 0
    have f0 := frozen_block Y1 0
    have m1 := cell_block Y1 1
    have f1 := frozen_block Y1 1
    have m2 := cell_block Y1 2
    have f2 := frozen_block Y1 2
    have m3 := cell_block Y1 3
    have f3 := frozen_block Y1 3
    have m4 := cell_block Y1 4
    have f4 := frozen_block Y1 4
    have m5 := cell_block Y1 5
    have f5 := frozen_block Y1 5
    go_wp2_with (first | (with_reducible refine kept_st6 hk hr1 Y1 (fun hk' ho hn0 => ?_); generalize World.setCell (World.setCell (World.setCell (World.setCell (World.setCell (World.setCell Z _ _) _ _) _ _) _ _) _ _) _ _ = Z2 at *; replace hk := hk'; clear hk'; replace c0 := (sameCell (ho w.heap.size (by omega)) _).trans c0; replace c1 := (sameCell (ho w.heap.size (by omega)) _).trans c1; replace c2 := (sameCell (ho w.heap.size (by omega)) _).trans c2; replace c3 := (sameCell (ho w.heap.size (by omega)) _).trans c3; replace c4 := (sameCell (ho w.heap.size (by omega)) _).trans c4; replace c5 := (sameCell (ho w.heap.size (by omega)) _).trans c5; replace k0 := (sameCell (ho u2.heap.size (by omega)) _).trans k0; replace k1 := (sameCell (ho u2.heap.size (by omega)) _).trans k1; replace Y2' := (ho (w.heap.size + 1 + 1) (by omega)).trans Y2'; clear m0 m1 m2 m3 m4 m5 f0 f1 f2 f3 f4 f5 ho; have m0 := cell_block Y2' 0; have m1 := cell_block Y2' 1; have f0 := frozen_block Y2' 0; have f1 := frozen_block Y2' 1) | ((with_reducible refine Calmly.is_fl ?_); refine Calmly.mix_fl rfl ?_ (fun _ _ => ?_); (first | exact .move _ | exact .load _ _ | exact .fieldAddr _ _ _ (by kernel_rfl) | exact .assign _ | exact .binOp _ _ _ _ _ rfl | exact .indexAddr _ _ _ | exact .len _ _ (by kernel_rfl) | exact .field _ _ _ | exact .extract _ _ | exact .pick _ _ _ | exact .build _ _ | exact .slice _ _ _ _ _ | exact .unOp _ _ _ rfl | exact .index _ _ _ | exact .max _ _ _ rfl rfl | exact .min _ _ _ rfl rfl | exact .nilCheck _ _ rfl)) | ((with_reducible refine Calmly.is_gl ?_); refine Calmly.mix_gl rfl rfl rfl ?_; first | ((first | with_reducible refine Calmly.gl_tt ?_ (fun _ _ => ?_) | with_reducible refine Calmly.gl_ff ?_ (fun _ _ => ?_)); (first | exact .move _ | exact .load _ _ | exact .fieldAddr _ _ _ (by kernel_rfl) | exact .assign _ | exact .binOp _ _ _ _ _ rfl | exact .indexAddr _ _ _ | exact .len _ _ (by kernel_rfl) | exact .field _ _ _ | exact .extract _ _ | exact .pick _ _ _ | exact .build _ _ | exact .slice _ _ _ _ _ | exact .unOp _ _ _ rfl | exact .index _ _ _ | exact .max _ _ _ rfl rfl | exact .min _ _ _ rfl rfl | exact .nilCheck _ _ rfl)) | with_reducible refine Calmly.gl_tf (fun _ _ => ?_) | with_reducible refine Calmly.gl_ft (fun _ _ => ?_)) | ((with_reducible refine Calmly.is_eff ?_); refine Calmly.mix_eff rfl (fun _ _ => ?_)) | ((with_reducible refine Calmly.is_gf ?_); refine Calmly.mix_gf rfl rfl rfl ?_; first | with_reducible refine Calmly.gf_tt (fun _ _ => ?_) | with_reducible refine Calmly.gf_ff (fun _ _ => ?_) | with_reducible refine Calmly.gf_tf (kept_of hk) (fun _ _ => ?_) | with_reducible refine Calmly.gf_ft (kept_of hk) (fun _ _ => ?_)) | ((with_reducible refine Calmly.is_tail ?_); first | refine Calmly.mix_tail_nil ?_ | refine Calmly.mix_tail rfl (fun _ _ => ?_)) | ((with_reducible refine Calmly.is_kept ?_); refine ⟨kept_of hk, ?_⟩) | (with_reducible refine Calmly.mix_alt ?_ ?_))
    all_goals
      obtain ⟨_, h3⟩ := kept_st2M (G := _ ∧ _ ∧ _) (x := .int .i64 (P1 - P3 + P6)) (y := .int .i64 (P6)) hk (show w.heap.size ≤ w.heap.size + 1 + 1 by omega) Y2' (fun h1 h2 h3 => ⟨h1, h2, h3⟩)
      generalize World.setCell (World.setCell Z2 _ _) _ _ = Z3 at *
      obtain ⟨hk3, ho3, hn1⟩ := h3
      have q0 := (ho3 (w.heap.size + 1) (by omega)).trans hn0
      have e0 := cell_block q0 0
      have e1 := cell_block q0 1
      have e2 := cell_block q0 2
      have e3 := cell_block q0 3
      have e4 := cell_block q0 4
      have e5 := cell_block q0 5
      have r0 := cell_block hn1 0
      have r1 := cell_block hn1 1
      refine bodyPost_ret (v := .tuple #[.agg #[.int .i64 k, .int .i64 y, .bool false, .int .i64 (s + (d - y)), .bool false, .int .i64 at2], .agg #[.int .i64 (P1 - P3 + P6), .int .i64 (P6)]]) (by simp [results, Tryz.results77, go_sem, e0, e1, e2, e3, e4, e5, r0, r1]) rfl ⟨_, _, _, _, rfl, ⟨by have h1 := hc1.out; have h2 := hc0.out; rw [if_neg h2, if_neg (by simp)]; first | (rw [if_pos hd]; omega) | (rw [if_neg (by omega)]; omega), by simp [hc0.out], by simp [hc0.out], by simp [hc0.out]⟩, hk3⟩

/-- A move of an element, with its work and its loss. -/
theorem moved_any (k y : Int) (b : Bool) (s : Int) (br : Bool) (at' at2 : Int) (w : World) (h : ElB k y s at') (h2 : ElB k y s at2) :
    Calls Tryz.prog 77 #[elV k y b s br at', .int .i64 at2] w fun e w' => e = .returned (.tuple #[elV k y b (mvSlip y b s br at2) (mvBr y b s br at2) at2, .agg #[.int .i64 (mvWork k y b s br at' at2), .int .i64 (mvLoss k y b s br at2)]]) ∧ Below w.heap.size w w' := by
  cases br
  · have hk := h.k
    have hy := h.y
    have hs := h.s
    have ha := h.a
    have ha2 := h2.a
    have d1 := mul_abs (a := at2 - s) (x := at2 - s) (A := 50000) (C := 50000) (by omega) (by omega) (by omega) (by omega)
    have d2 : 0 ≤ (at2 - s) * (at2 - s) := by
      rcases Int.le_total 0 (at2 - s) with h0 | h0
      · exact Int.mul_nonneg h0 h0
      · exact Int.mul_nonneg_of_nonpos_of_nonpos h0 h0
    have v1 := mul_abs (a := y) (x := y) (A := 1000) (C := 1000) (by omega) (by omega) (by omega) (by omega)
    have v2 : 0 ≤ y * y := Int.mul_nonneg (by omega) (by omega)
    obtain ⟨mn, hmn⟩ : ∃ v, min ((at2 - s) * (at2 - s)) (y * y) = v := ⟨_, rfl⟩
    have p1 := mul_abs (a := k) (x := mn) (A := 1000) (C := 1000000) (by omega) (by omega) (by omega) (by omega)
    have p1' : 0 ≤ k * mn := Int.mul_nonneg (by omega) (by omega)
    have p2 := mul_abs (a := k) (x := at' - s) (A := 1000) (C := 50000) (by omega) (by omega) (by omega) (by omega)
    have p3 := mul_abs (a := k * (at' - s)) (x := at' - s) (A := 50000000) (C := 50000) (by omega) (by omega) (by omega) (by omega)
    have p5 := mul_abs (a := 2 * k) (x := y) (A := 2000) (C := 1000) (by omega) (by omega) (by omega) (by omega)
    have p5' : 0 ≤ 2 * k * y := Int.mul_nonneg (by omega) (by omega)
    obtain ⟨ov, hov⟩ : ∃ v, ovr y (at2 - s) = v := ⟨_, rfl⟩
    have hob : 0 ≤ ov ∧ ov ≤ 50000 := by unfold ovr at hov; omega
    have p6 := mul_abs (a := 2 * k * y) (x := ov) (A := 2000000) (C := 50000) (by omega) (by omega) (by omega) (by omega)
    have p6' : 0 ≤ 2 * k * y * ov := Int.mul_nonneg (by omega) (by omega)
    have p7 := mul_abs (a := k) (x := y) (A := 1000) (C := 1000) (by omega) (by omega) (by omega) (by omega)
    have p7' : 0 ≤ k * y := Int.mul_nonneg (by omega) (by omega)
    have p8 := mul_abs (a := k * y) (x := y) (A := 1000000) (C := 1000) (by omega) (by omega) (by omega) (by omega)
    have p8' : 0 ≤ k * y * y := Int.mul_nonneg (by omega) (by omega)
    refine (moved_whole k y b s at' at2 (at2 - s) (if (at2 - s) < -(at2 - s) then -(at2 - s) else (at2 - s)) ov ((at2 - s) * (at2 - s)) (y * y) mn (k * mn) (k * (at' - s)) (k * (at' - s) * (at' - s)) (2 * k) (2 * k * y) (2 * k * y * ov) (k * y) (k * y * y) w h h2 rfl rfl (by unfold ovr at hov; split <;> split <;> omega) rfl rfl (by split <;> omega) rfl rfl rfl rfl rfl
      (by
        by_cases hc : (if (at2 - s) < -(at2 - s) then -(at2 - s) else (at2 - s)) ≤ y
        · exact .inr hc
        · refine .inl (congrArg _ ?_)
          unfold ovr at hov
          split at hc <;> rename_i hd <;> simp only [hd, if_true, if_false] <;> omega) rfl rfl (by omega)).mono ?_
    rintro e w1 ⟨s2, br2, wk, ls, rfl, hM, hs⟩
    refine ⟨?_, hs⟩
    have e1 : s2 = mvSlip y b s false at2 := by rw [hM.s2, mvSlip, hov]; simp
    have e2 : br2 = mvBr y b s false at2 := by rw [hM.br2, mvBr, hov]; simp
    have e3 : wk = mvWork k y b s false at' at2 := by
      rw [hM.wk, mvWork, hov, hmn]
      cases b
      · by_cases h0 : ov = 0 <;> simp [h0]
      · simp
    have e4 : ls = mvLoss k y b s false at2 := by rw [hM.ls, mvLoss, hov]; simp
    rw [e1, e2, e3, e4]
  · refine (moved_broken k y b s at' at2 w).mono ?_
    rintro e w1 ⟨rfl, hs⟩
    exact ⟨by simp [mvSlip, mvBr, mvWork, mvLoss], hs⟩
end Go.Proofs.YtaiikekgckjdeaaGreat

namespace Go.Proofs.YtaiikekgckjdeaaGreat
open Go.RowKit
open Calmly (Kept)

/-- The first index with an error, and the error. -/
def eaF (err : Nat → Int) : Nat → Nat → Int × Int
  | _, 0 => (0, 0)
  | k, m + 1 => if err k = 0 then eaF err (k + 1) m else ((k : Int), err k)
theorem eaF_ok {err : Nat → Int} {k n : Nat} (h : k < n) (he : err k = 0) : eaF err k (n - k) = eaF err (k + 1) (n - (k + 1)) := by
  obtain ⟨m, hm⟩ : ∃ m, n - k = m + 1 := ⟨n - k - 1, by omega⟩
  rw [hm, eaF, if_pos he, show n - (k + 1) = m by omega]
theorem eaF_bad {err : Nat → Int} {k n : Nat} (h : k < n) (he : err k ≠ 0) : eaF err k (n - k) = ((k : Int), err k) := by
  obtain ⟨m, hm⟩ : ∃ m, n - k = m + 1 := ⟨n - k - 1, by omega⟩
  rw [hm, eaF, if_neg he]
theorem eaF_end {err : Nat → Int} {k n : Nat} (h : n ≤ k) : eaF err k (n - k) = (0, 0) := by
  rw [show n - k = 0 by omega, eaF]

set_option maxRecDepth 100000 in
set_option maxHeartbeats 1000000 in
theorem eachSpring_any (a : Option Addr) (n c : Nat) (l : List El) (w0 w : World) (err : Nat → Int) (Inv : Nat → World → Prop) (h1 : SEl w0 a n c l) (h0 : Below w0.heap.size w0 w) (hI : Inv 0 w)
    (hst : ∀ i W W', Inv i W → Below W.heap.size W W' → Inv i W')
    (hcl : ∀ (i : Nat) (W : World), i < n → Inv i W → Below w0.heap.size w0 W → Calls Tryz.prog 102 #[.int .i64 (i : Int), .agg #[.int .i64 (l[i]?.getD el0).1, .int .i64 (l[i]?.getD el0).2.1, .bool (l[i]?.getD el0).2.2]] W fun e w' => e = .returned (.int .i64 (err i)) ∧ Inv (i + 1) w' ∧ Below w0.heap.size W w') :
    Calls Tryz.prog 101 #[.slice a n c, .func (.func 102) #[] #[]] w fun e w' => e = .returned (.tuple #[.int .i64 (eaF err 0 n).1, .int .i64 (eaF err 0 n).2]) ∧ Below w0.heap.size w w' := by
  have l1 : n ≤ l.length ∧ l.length ≤ n := by have := h1.len; omega
  have m1 := h1.max
  have c1 := h1.cap
  obtain ⟨I, E, hR⟩ : ∃ I E, eaF err 0 n = (I, E) := ⟨_, _, rfl⟩
  rw [hR]
  dsimp only
  have HR := Lib.hid hR
  clear hR
  have hw := h0.size
  go_enter Tryz.func101, Tryz.ntmps101
  go_wp2_with fail
  go_loopw [11] (fun i wr => ∃ k : Nat, k ≤ n ∧ i = .int .i64 k ∧ eaF err k (n - k) = (I, E) ∧ Inv k wr ∧ Below w0.heap.size w wr) (fun i _ => n - (intOf i).toNat)
  case atStart => exact ⟨0, by omega, rfl, HR.out, hI, Below.refl _ _⟩
  case round =>
    obtain ⟨k, hk, rfl, ht, hi, hbr⟩ := hrel
    have HT := Lib.hid ht
    clear ht
    have hb0 := h0.trans hbr
    have hrs := hb0.size
    by_cases hlt : k < n
    · obtain ⟨cb, co, rfl, hcc⟩ := h1.at_ (by omega)
      obtain ⟨y0, y1, y2⟩ := hcc k hlt
      replace y0 := cell_keep y0 hb0
      replace y1 := cell_keep y1 hb0
      replace y2 := cell_keep y2 hb0
      clear hcc
      have hc := hcl k
      obtain ⟨rr, hrr⟩ : ∃ rr, l[k]?.getD el0 = rr := ⟨_, rfl⟩
      obtain ⟨x0, x1, x2⟩ := rr
      rw [hrr] at y0 y1 y2 hc
      clear hrr
      try dsimp only at y0 y1 y2 hc
      have HC := Lib.hid hc
      clear hc
      have hi1 : (k : Int) < (n : Int) := by omega
      have hi0 : (0 : Int) ≤ (k : Int) := by omega
      obtain ⟨R, hE⟩ : ∃ R, err k = R := ⟨_, rfl⟩
      have HE := Lib.hid hE
      clear hE
      have hi9 := Lib.hid hi
      clear hi
      go_wp2_with fail
      refine (HC.out _ hlt (hst k _ _ hi9.out ((Below.refl _ _).alloc (Nat.le_refl _) (.cells #[.int .i64 x0, .int .i64 x1, .bool x2] 110))) (hb0.alloc hrs (.cells #[.int .i64 x0, .int .i64 x1, .bool x2] 110))).mono ?_
      rintro e w1 ⟨rfl, hi2, hs⟩
      rw [HE.out]
      have hbn := (hbr.alloc hrs (.cells #[.int .i64 x0, .int .i64 x1, .bool x2] 110)).trans hs
      have hI2 := Lib.hid hi2
      clear hi2
      by_cases hz : R = 0
      · subst hz
        have hE0 : ((0 : Int) != 0) = false := rfl
        go_wp2_with fail
        go_roundw
        case rel => exact ⟨k + 1, by omega, by go_num, (eaF_ok hlt HE.out).symm.trans HT.out, hI2.out, hbn⟩
        case measure => simp [intOf]; omega
      · have b1 : (R != 0) = true := by simpa using hz
        have hRE : (I, E) = ((k : Int), R) := by rw [← HT.out, eaF_bad hlt (by rw [HE.out]; exact hz), HE.out]
        injection hRE with e1 e2
        have E1 := Lib.hid e1
        have E2 := Lib.hid e2
        clear e1 e2 hz
        go_wp2_with fail
        refine bodyPost_ret (v := .tuple #[.int .i64 (k : Int), .int .i64 R]) (by simp [results, Tryz.results101]) rfl ⟨by rw [E1.out, E2.out], hbn⟩
    · have hle : (n : Int) ≤ (k : Int) := by omega
      have hR0 : (I, E) = (0, 0) := by rw [← HT.out, eaF_end (by omega)]
      injection hR0 with e1 e2
      subst e1 e2
      go_wp2_with fail
      refine bodyPost_ret (v := .tuple #[.int .i64 0, .int .i64 0]) (by simp [results, Tryz.results101]) rfl ⟨rfl, hbr⟩

set_option maxRecDepth 100000 in
set_option maxHeartbeats 1000000 in
theorem eachHold_any (p1 p2 : Nat) (a : Option Addr) (n c : Nat) (l : List Sp) (w0 w : World) (err : Nat → Int) (Inv : Nat → World → Prop) (h1 : SSp w0 a n c l) (h0 : Below w0.heap.size w0 w) (hI : Inv 0 w)
    (hst : ∀ i W W', Inv i W → Below W.heap.size W W' → Inv i W')
    (hcl : ∀ (i : Nat) (W : World), i < n → Inv i W → Below w0.heap.size w0 W → Calls Tryz.prog 104 #[.int .i64 (i : Int), .agg #[.int .i64 (l[i]?.getD sp0).1, .bool (l[i]?.getD sp0).2], .pointer (some ⟨p1, 0, none⟩), .pointer (some ⟨p2, 0, none⟩)] W fun e w' => e = .returned (.int .i64 (err i)) ∧ Inv (i + 1) w' ∧ Below w0.heap.size W w') :
    Calls Tryz.prog 103 #[.slice a n c, .func (.func 104) #[] #[.pointer (some ⟨p1, 0, none⟩), .pointer (some ⟨p2, 0, none⟩)]] w fun e w' => e = .returned (.tuple #[.int .i64 (eaF err 0 n).1, .int .i64 (eaF err 0 n).2]) ∧ Below w0.heap.size w w' := by
  have l1 : n ≤ l.length ∧ l.length ≤ n := by have := h1.len; omega
  have m1 := h1.max
  have c1 := h1.cap
  obtain ⟨I, E, hR⟩ : ∃ I E, eaF err 0 n = (I, E) := ⟨_, _, rfl⟩
  rw [hR]
  dsimp only
  have HR := Lib.hid hR
  clear hR
  have hw := h0.size
  go_enter Tryz.func103, Tryz.ntmps103
  go_wp2_with fail
  go_loopw [11] (fun i wr => ∃ k : Nat, k ≤ n ∧ i = .int .i64 k ∧ eaF err k (n - k) = (I, E) ∧ Inv k wr ∧ Below w0.heap.size w wr) (fun i _ => n - (intOf i).toNat)
  case atStart => exact ⟨0, by omega, rfl, HR.out, hI, Below.refl _ _⟩
  case round =>
    obtain ⟨k, hk, rfl, ht, hi, hbr⟩ := hrel
    have HT := Lib.hid ht
    clear ht
    have hb0 := h0.trans hbr
    have hrs := hb0.size
    by_cases hlt : k < n
    · obtain ⟨cb, co, rfl, hcc⟩ := h1.at_ (by omega)
      obtain ⟨y0, y1⟩ := hcc k hlt
      replace y0 := cell_keep y0 hb0
      replace y1 := cell_keep y1 hb0
      clear hcc
      have hc := hcl k
      obtain ⟨rr, hrr⟩ : ∃ rr, l[k]?.getD sp0 = rr := ⟨_, rfl⟩
      obtain ⟨x0, x1⟩ := rr
      rw [hrr] at y0 y1 hc
      clear hrr
      try dsimp only at y0 y1 hc
      have HC := Lib.hid hc
      clear hc
      have hi1 : (k : Int) < (n : Int) := by omega
      have hi0 : (0 : Int) ≤ (k : Int) := by omega
      obtain ⟨R, hE⟩ : ∃ R, err k = R := ⟨_, rfl⟩
      have HE := Lib.hid hE
      clear hE
      have hi9 := Lib.hid hi
      clear hi
      go_wp2_with fail
      refine (HC.out _ hlt (hst k _ _ hi9.out ((Below.refl _ _).alloc (Nat.le_refl _) (.cells #[.int .i64 x0, .bool x1] 75))) (hb0.alloc hrs (.cells #[.int .i64 x0, .bool x1] 75))).mono ?_
      rintro e w1 ⟨rfl, hi2, hs⟩
      rw [HE.out]
      have hbn := (hbr.alloc hrs (.cells #[.int .i64 x0, .bool x1] 75)).trans hs
      have hI2 := Lib.hid hi2
      clear hi2
      by_cases hz : R = 0
      · subst hz
        have hE0 : ((0 : Int) != 0) = false := rfl
        go_wp2_with fail
        go_roundw
        case rel => exact ⟨k + 1, by omega, by go_num, (eaF_ok hlt HE.out).symm.trans HT.out, hI2.out, hbn⟩
        case measure => simp [intOf]; omega
      · have b1 : (R != 0) = true := by simpa using hz
        have hRE : (I, E) = ((k : Int), R) := by rw [← HT.out, eaF_bad hlt (by rw [HE.out]; exact hz), HE.out]
        injection hRE with e1 e2
        have E1 := Lib.hid e1
        have E2 := Lib.hid e2
        clear e1 e2 hz
        go_wp2_with fail
        refine bodyPost_ret (v := .tuple #[.int .i64 (k : Int), .int .i64 R]) (by simp [results, Tryz.results103]) rfl ⟨by rw [E1.out, E2.out], hbn⟩
    · have hle : (n : Int) ≤ (k : Int) := by omega
      have hR0 : (I, E) = (0, 0) := by rw [← HT.out, eaF_end (by omega)]
      injection hR0 with e1 e2
      subst e1 e2
      go_wp2_with fail
      refine bodyPost_ret (v := .tuple #[.int .i64 0, .int .i64 0]) (by simp [results, Tryz.results103]) rfl ⟨rfl, hbr⟩

set_option maxRecDepth 100000 in
set_option maxHeartbeats 1000000 in
theorem eachRun_any (a : Option Addr) (n c : Nat) (l : List Int) (w0 w : World) (err : Nat → Int) (Inv : Nat → World → Prop) (h1 : SI w0 a n c l) (h0 : Below w0.heap.size w0 w) (hI : Inv 0 w)
    (_ : ∀ i W W', Inv i W → Below W.heap.size W W' → Inv i W')
    (hcl : ∀ (i : Nat) (W : World), i < n → Inv i W → Below w0.heap.size w0 W → Calls Tryz.prog 79 #[.int .i64 (i : Int), .int .i64 (l[i]?.getD 0)] W fun e w' => e = .returned (.int .i64 (err i)) ∧ Inv (i + 1) w' ∧ Below w0.heap.size W w') :
    Calls Tryz.prog 45 #[.slice a n c, .func (.func 79) #[] #[]] w fun e w' => e = .returned (.tuple #[.int .i64 (eaF err 0 n).1, .int .i64 (eaF err 0 n).2]) ∧ Below w0.heap.size w w' := by
  have l1 : n ≤ l.length ∧ l.length ≤ n := by have := h1.len; omega
  have m1 := h1.max
  have c1 := h1.cap
  obtain ⟨I, E, hR⟩ : ∃ I E, eaF err 0 n = (I, E) := ⟨_, _, rfl⟩
  rw [hR]
  dsimp only
  have HR := Lib.hid hR
  clear hR
  have hw := h0.size
  go_enter Tryz.func45, Tryz.ntmps45
  go_wp2_with fail
  go_loopw [11] (fun i wr => ∃ k : Nat, k ≤ n ∧ i = .int .i64 k ∧ eaF err k (n - k) = (I, E) ∧ Inv k wr ∧ Below w0.heap.size w wr) (fun i _ => n - (intOf i).toNat)
  case atStart => exact ⟨0, by omega, rfl, HR.out, hI, Below.refl _ _⟩
  case round =>
    obtain ⟨k, hk, rfl, ht, hi, hbr⟩ := hrel
    have HT := Lib.hid ht
    clear ht
    have hb0 := h0.trans hbr
    have hrs := hb0.size
    by_cases hlt : k < n
    · obtain ⟨cb, co, rfl, hcc⟩ := h1.at_ (by omega)
      have y0 := hcc k hlt
      replace y0 := cell_keep y0 hb0
      clear hcc
      have hc := hcl k
      obtain ⟨rr, hrr⟩ : ∃ rr, l[k]?.getD 0 = rr := ⟨_, rfl⟩
      rw [hrr] at y0 hc
      clear hrr
      try dsimp only at y0 hc
      have HC := Lib.hid hc
      clear hc
      have hi1 : (k : Int) < (n : Int) := by omega
      have hi0 : (0 : Int) ≤ (k : Int) := by omega
      obtain ⟨R, hE⟩ : ∃ R, err k = R := ⟨_, rfl⟩
      have HE := Lib.hid hE
      clear hE
      have hi9 := Lib.hid hi
      clear hi
      go_wp2_with fail
      refine (HC.out _ hlt hi9.out hb0).mono ?_
      rintro e w1 ⟨rfl, hi2, hs⟩
      rw [HE.out]
      have hbn := hbr.trans hs
      have hI2 := Lib.hid hi2
      clear hi2
      by_cases hz : R = 0
      · subst hz
        have hE0 : ((0 : Int) != 0) = false := rfl
        go_wp2_with fail
        go_roundw
        case rel => exact ⟨k + 1, by omega, by go_num, (eaF_ok hlt HE.out).symm.trans HT.out, hI2.out, hbn⟩
        case measure => simp [intOf]; omega
      · have b1 : (R != 0) = true := by simpa using hz
        have hRE : (I, E) = ((k : Int), R) := by rw [← HT.out, eaF_bad hlt (by rw [HE.out]; exact hz), HE.out]
        injection hRE with e1 e2
        have E1 := Lib.hid e1
        have E2 := Lib.hid e2
        clear e1 e2 hz
        go_wp2_with fail
        refine bodyPost_ret (v := .tuple #[.int .i64 (k : Int), .int .i64 R]) (by simp [results, Tryz.results45]) rfl ⟨by rw [E1.out, E2.out], hbn⟩
    · have hle : (n : Int) ≤ (k : Int) := by omega
      have hR0 : (I, E) = (0, 0) := by rw [← HT.out, eaF_end (by omega)]
      injection hR0 with e1 e2
      subst e1 e2
      go_wp2_with fail
      refine bodyPost_ret (v := .tuple #[.int .i64 0, .int .i64 0]) (by simp [results, Tryz.results45]) rfl ⟨rfl, hbr⟩

end Go.Proofs.YtaiikekgckjdeaaGreat
