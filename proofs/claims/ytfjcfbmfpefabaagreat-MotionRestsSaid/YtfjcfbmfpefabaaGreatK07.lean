/- Contracts of numbers of any size: the size, the greatest common divisor. -/
import Derived.Test.YtfjcfbmfpefabaaGreatK06
namespace Go.Proofs.YtfjcfbmfpefabaaGreat
open Go.RowKit Go.Wides
open Calmly (Kept)
attribute [local go_sem] field_wide0 field_wide1

/-- The smaller number has no more digits. -/
theorem WideV.len_le {w w' : World} {s s' : Int} {a a' : Option Addr} {n c n' c' : Nat} {z z' : Int} (h : WideV w s a n c z) (h' : WideV w' s' a' n' c' z') (hle : z.natAbs ≤ z'.natAbs) : n ≤ n' := by
  obtain ⟨ds, h1, _, h3, h4, h5, _⟩ := h
  obtain ⟨es, k1, _, k3, k4, k5, _⟩ := h'
  exact len_le_of_dv k3 h3 h4 h1.len k1.len (by omega)

set_option maxRecDepth 100000 in
set_option maxHeartbeats 400000 in
theorem wideSize_any (s : Int) (a : Option Addr) (n c : Nat) (z : Int) (w : World) (h : WideV w s a n c z) :
    Calls Tryz.prog 104 #[.agg #[.int .i64 s, .slice a n c]] w fun e w' => ∃ s', e = .returned (.agg #[.int .i64 s', .slice a n c]) ∧ WideV w' s' a n c z.natAbs ∧ Below w.heap.size w w' := by
  have hb : ∀ o1 o2, Below w.heap.size w ((w.alloc o1).alloc o2) := fun o1 o2 => ((Below.refl _ _).alloc (Nat.le_refl _) _).alloc (by simp) _
  have hs := h.s_bd
  have r := sign_cases z
  have hg : s = z.sign := by obtain ⟨_, _, _, _, _, _, h⟩ := h; exact h
  rw [← hg] at r
  have R := Lib.hid r
  clear r hg
  by_cases h0 : s < 0
  · go_enter Tryz.func104, Tryz.ntmps104
    go_wp2_with fail
    refine (WideNeg_any s a n c z _ (h.keep (hb _ _))).mono ?_
    rintro e w1 ⟨rfl, hv, hb1⟩
    have hT := (BlkT.new (w.alloc (.cells #[.int .i64 s, .slice a n c] 78)) #[.int .i64 0, .slice none 0 0] 78).keep hb1
    simp only [World.size_alloc] at hT
    obtain ⟨hkc, hkf⟩ := cells_of hb1
    go_wp2_with fail
    refine bodyPost_ret (v := .agg #[.int .i64 (-s), .slice a n c]) (by simp [results, Tryz.results104, go_sem, hkc]) rfl ⟨-s, rfl, ?_, ?_⟩
    · have : (z.natAbs : Int) = -z := by have := R.out; omega
      rw [this]
      exact (hv.set hT (by decide)).set (hT.set _ _) (by decide)
    · exact (((hb _ _).trans (hb1.mono (by simp; omega))).setCell (by simp) _).setCell (by simp) _
  · go_enter Tryz.func104, Tryz.ntmps104
    go_wp2_with fail
    refine bodyPost_ret (v := .agg #[.int .i64 s, .slice a n c]) (by simp [results, Tryz.results104, go_sem]) rfl ⟨s, rfl, ?_, hb _ _⟩
    have : (z.natAbs : Int) = z := by have := R.out; omega
    rw [this]
    exact h.keep (hb _ _)

theorem gcd_emod' (p q : Int) : Int.gcd q (p - p / q * q) = Int.gcd p q := by
  rw [Int.gcd_sub_mul_right_right, Int.gcd_comm]

/-- What the loop of the greatest common divisor holds. -/
def GcdRel (w wr : World) (N : Nat) (G : Nat) (p q s : Int) (a : Option Addr) (n c : Nat) (s' : Int) (a' : Option Addr) (n' c' : Nat) : Prop :=
  wr.cell? ⟨w.heap.size, 0, none⟩ = some (.int .i64 s) ∧ wr.cell? ⟨w.heap.size, 1, none⟩ = some (.slice a n c) ∧
  wr.cell? ⟨w.heap.size + 1, 0, none⟩ = some (.int .i64 s') ∧ wr.cell? ⟨w.heap.size + 1, 1, none⟩ = some (.slice a' n' c') ∧
  WideV wr s a n c p ∧ WideV wr s' a' n' c' q ∧ 0 ≤ p ∧ 0 ≤ q ∧ Hid (Int.gcd p q = G) ∧ n ≤ N ∧ n' ≤ N ∧ Below w.heap.size w wr ∧
  BlkT wr w.heap.size 78 ∧ BlkT wr (w.heap.size + 1) 78 ∧ wr.heap[w.heap.size + 1 + 1]? = some (.cells #[.int .i64 0, .slice none 0 0] 78)

/-- What is known ahead of the exchange at a round's end. -/
def XF (w X : World) (q s' : Int) (a' : Option Addr) (n' c' : Nat) (t s7 : Int) (a7 : Option Addr) (m7 c7 : Nat) : Prop :=
  (∃ u, X.cell? ⟨w.heap.size, 0, none⟩ = some u) ∧ (∃ u, X.cell? ⟨w.heap.size, 1, none⟩ = some u) ∧ X.cell? ⟨w.heap.size + 1, 0, none⟩ = some (.int .i64 s') ∧ X.cell? ⟨w.heap.size + 1, 1, none⟩ = some (.slice a' n' c') ∧
  BlkT X w.heap.size 78 ∧ BlkT X (w.heap.size + 1) 78 ∧ X.heap[w.heap.size + 1 + 1]? = some (.cells #[.int .i64 0, .slice none 0 0] 78) ∧
  WideV X s' a' n' c' q ∧ WideV X s7 a7 m7 c7 t ∧ Below w.heap.size w X
theorem XF.keep {w X X' : World} {q s' : Int} {a' : Option Addr} {n' c' : Nat} {t s7 : Int} {a7 : Option Addr} {m7 c7 : Nat} (h : XF w X q s' a' n' c' t s7 a7 m7 c7) (hb : Below X.heap.size X X') : XF w X' q s' a' n' c' t s7 a7 m7 c7 := by
  obtain ⟨⟨u, h1⟩, ⟨v, h2⟩, h3, h4, h5, h6, h7, h8, h9, h10⟩ := h
  exact ⟨⟨u, cell_keep h1 hb⟩, ⟨v, cell_keep h2 hb⟩, cell_keep h3 hb, cell_keep h4 hb, h5.keep hb, h6.keep hb, blk_keep h7 hb, h8.keep hb, h9.keep hb, h10.trans (hb.mono h10.size)⟩
theorem XF.set {w X : World} {q s' : Int} {a' : Option Addr} {n' c' : Nat} {t s7 : Int} {a7 : Option Addr} {m7 c7 : Nat} {b o : Nat} {x : Value} (h : XF w X q s' a' n' c' t s7 a7 m7 c7) (hb : BlkT X b 78) (hge : w.heap.size + 1 + 1 < b) : XF w (X.setCell ⟨b, o, none⟩ x) q s' a' n' c' t s7 a7 m7 c7 := by
  obtain ⟨⟨u, h1⟩, ⟨v, h2⟩, h3, h4, h5, h6, h7, h8, h9, h10⟩ := h
  refine ⟨⟨u, ?_⟩, ⟨v, ?_⟩, ?_, ?_, h5.set _ _, h6.set _ _, ?_, h8.set hb (by decide), h9.set hb (by decide), h10.setCell (by simp; omega) _⟩
  · rw [cell_set_ne (by omega)]; exact h1
  · rw [cell_set_ne (by omega)]; exact h2
  · rw [cell_set_ne (by omega)]; exact h3
  · rw [cell_set_ne (by omega)]; exact h4
  · rw [Below.heap_setCell _ _ _ _ (by simp; omega)]; exact h7
theorem XF.drew {w X : World} {q s' : Int} {a' : Option Addr} {n' c' : Nat} {t s7 : Int} {a7 : Option Addr} {m7 c7 : Nat} (h : XF w X q s' a' n' c' t s7 a7 m7 c7) : XF w X.drew q s' a' n' c' t s7 a7 m7 c7 := h.keep (Below.drew (Below.refl _ _))
theorem GcdRel.next {w X : World} {N G : Nat} {q s' : Int} {a' : Option Addr} {n' c' : Nat} {t s7 : Int} {a7 : Option Addr} {m7 c7 : Nat} (h : XF w X q s' a' n' c' t s7 a7 m7 c7) (hq : 0 ≤ q) (ht : 0 ≤ t) (hG : Int.gcd q t = G) (hn : n' ≤ N) (hm : m7 ≤ N) :
    GcdRel w ((((X.setCell ⟨w.heap.size, 0, none⟩ (.int .i64 s')).setCell ⟨w.heap.size, 1, none⟩ (.slice a' n' c')).setCell ⟨w.heap.size + 1, 0, none⟩ (.int .i64 s7)).setCell ⟨w.heap.size + 1, 1, none⟩ (.slice a7 m7 c7)) N G q t s' a' n' c' s7 a7 m7 c7 := by
  obtain ⟨⟨u, h1⟩, ⟨v, h2⟩, h3, h4, h5, h6, h7, h8, h9, h10⟩ := h
  have hne : w.heap.size + 1 ≠ w.heap.size := by omega
  obtain ⟨A1, A2, A3, _⟩ := set2 (x := .int .i64 s') (y := .slice a' n' c') h1 h2
  obtain ⟨B1, B2, B3, _⟩ := set2 (v := (X.setCell ⟨w.heap.size, 0, none⟩ (.int .i64 s')).setCell ⟨w.heap.size, 1, none⟩ (.slice a' n' c')) (r := w.heap.size + 1) (x := .int .i64 s7) (y := .slice a7 m7 c7) (by rw [A3 _ _ hne]; exact h3) (by rw [A3 _ _ hne]; exact h4)
  refine ⟨by rw [B3 _ _ hne.symm]; exact A1, by rw [B3 _ _ hne.symm]; exact A2, B1, B2, ?_, ?_, hq, ht, hG, hn, hm, ?_, ?_, ?_, ?_⟩
  · exact (((h8.set h5 (by decide)).set (h5.set _ _) (by decide)).set ((h6.set _ _).set _ _) (by decide)).set (((h6.set _ _).set _ _).set _ _) (by decide)
  · exact (((h9.set h5 (by decide)).set (h5.set _ _) (by decide)).set ((h6.set _ _).set _ _) (by decide)).set (((h6.set _ _).set _ _).set _ _) (by decide)
  · exact (((h10.setCell (by simp) _).setCell (by simp) _).setCell (by simp) _).setCell (by simp) _
  · exact (((h5.set _ _).set _ _).set _ _).set _ _
  · exact (((h6.set _ _).set _ _).set _ _).set _ _
  · rw [Below.heap_setCell _ _ _ _ (by simp), Below.heap_setCell _ _ _ _ (by simp), Below.heap_setCell _ _ _ _ (by simp; omega), Below.heap_setCell _ _ _ _ (by simp; omega)]
    exact h7

set_option maxRecDepth 100000 in
set_option maxHeartbeats 4000000 in
theorem wideGcd_any (s1 s2 : Int) (a1 a2 : Option Addr) (n1 n2 c1 c2 : Nat) (z1 z2 : Int) (w : World) (h1 : WideV w s1 a1 n1 c1 z1) (h2 : WideV w s2 a2 n2 c2 z2) (hn1 : n1 ≤ 274877906944) (hn2 : n2 ≤ 274877906944) :
    Calls Tryz.prog 92 #[.agg #[.int .i64 s1, .slice a1 n1 c1], .agg #[.int .i64 s2, .slice a2 n2 c2]] w fun e w' => ∃ s a m c, e = .returned (.agg #[.int .i64 s, .slice a m c]) ∧ (m ≤ max n1 n2 ∧ WideV w' s a m c (Int.gcd z1 z2)) ∧ Below w.heap.size w w' := by
  have hb : ∀ o1 o2 o3, Below w.heap.size w (((w.alloc o1).alloc o2).alloc o3) := fun o1 o2 o3 => (((Below.refl _ _).alloc (Nat.le_refl _) _).alloc (by simp) _).alloc (by simp; omega) _
  go_enter Tryz.func92, Tryz.ntmps92
  go_wp2_with fail
  refine Calmly.wp_region_mix 4 (.fl 0 <| .fl 2 <| .eff 1 <| .eff 3 <| .tail [4, 5]) (by kernel_rfl) (by kernel_rfl) ?_
  obtain ⟨W, hW⟩ : ∃ W, W = ((((w.alloc (.cells #[.int .i64 s1, .slice a1 n1 c1] 78)).alloc (.cells #[.int .i64 s2, .slice a2 n2 c2] 78)).alloc (.cells #[.int .i64 0, .slice none 0 0] 78))).drew := ⟨_, rfl⟩
  have hB : Below w.heap.size w W := by rw [hW]; exact (hb _ _ _).drew
  have hT1 : BlkT W w.heap.size 78 := by rw [hW]; exact (((BlkT.new w _ _).alloc _).alloc _).drew
  have hT2 : BlkT W (w.heap.size + 1) 78 := by rw [hW]; have := (((BlkT.new (w.alloc (.cells #[.int .i64 s1, .slice a1 n1 c1] 78)) #[.int .i64 s2, .slice a2 n2 c2] 78)).alloc (.cells #[.int .i64 0, .slice none 0 0] 78)).drew; simpa using this
  have hT3 : W.heap[w.heap.size + 1 + 1]? = some (.cells #[.int .i64 0, .slice none 0 0] 78) := by rw [hW]; have := alloc_new ((w.alloc (.cells #[.int .i64 s1, .slice a1 n1 c1] 78)).alloc (.cells #[.int .i64 s2, .slice a2 n2 c2] 78)) (.cells #[.int .i64 0, .slice none 0 0] 78); simp only [World.size_alloc] at this; exact this
  have hS : W.heap.size = w.heap.size + 1 + 1 + 1 := by rw [hW]; simp
  have HS := Lib.hid hS
  clear hS
  have hk : Below W.heap.size W W := Below.refl _ W
  have k1 := h1.keep hB
  have k2 := h2.keep hB
  subst hW
  go_wp2_with (first | ((with_reducible refine Calmly.is_fl ?_); refine Calmly.mix_fl rfl ?_ (fun _ _ => ?_); (first | exact .move _ | exact .load _ _ | exact .fieldAddr _ _ _ (by kernel_rfl) | exact .assign _ | exact .binOp _ _ _ _ _ rfl | exact .indexAddr _ _ _ | exact .len _ _ (by kernel_rfl) | exact .field _ _ _ | exact .extract _ _ | exact .pick _ _ _ | exact .build _ _ | exact .slice _ _ _ _ _ | exact .unOp _ _ _ rfl | exact .index _ _ _ | exact .max _ _ _ rfl rfl | exact .min _ _ _ rfl rfl)) | ((with_reducible refine Calmly.is_gl ?_); refine Calmly.mix_gl rfl rfl rfl ?_; first | ((first | with_reducible refine Calmly.gl_tt ?_ (fun _ _ => ?_) | with_reducible refine Calmly.gl_ff ?_ (fun _ _ => ?_)); (first | exact .move _ | exact .load _ _ | exact .fieldAddr _ _ _ (by kernel_rfl) | exact .assign _ | exact .binOp _ _ _ _ _ rfl | exact .indexAddr _ _ _ | exact .len _ _ (by kernel_rfl) | exact .field _ _ _ | exact .extract _ _ | exact .pick _ _ _ | exact .build _ _ | exact .slice _ _ _ _ _ | exact .unOp _ _ _ rfl | exact .index _ _ _ | exact .max _ _ _ rfl rfl | exact .min _ _ _ rfl rfl)) | with_reducible refine Calmly.gl_tf (fun _ _ => ?_) | with_reducible refine Calmly.gl_ft (fun _ _ => ?_)) | ((with_reducible refine Calmly.is_eff ?_); refine Calmly.mix_eff rfl (fun _ _ => ?_)) | ((with_reducible refine Calmly.is_gf ?_); refine Calmly.mix_gf rfl rfl rfl ?_; first | with_reducible refine Calmly.gf_tt (fun _ _ => ?_) | with_reducible refine Calmly.gf_ff (fun _ _ => ?_) | with_reducible refine Calmly.gf_tf (kept_of hk) (fun _ _ => ?_) | with_reducible refine Calmly.gf_ft (kept_of hk) (fun _ _ => ?_)) | ((with_reducible refine Calmly.is_tail ?_); first | refine Calmly.mix_tail_nil ?_ | refine Calmly.mix_tail rfl (fun _ _ => ?_)) | ((with_reducible refine Calmly.is_kept ?_); refine ⟨kept_of hk, ?_⟩) | (with_reducible refine Calmly.mix_alt ?_ ?_))
  refine (wideSize_any s1 a1 n1 c1 z1 _ k1).mono ?_
  rintro e w1 ⟨t1, rfl, hv1, hb1⟩
  replace hk := step_of hk hb1
  replace k2 := k2.keep hb1
  go_wp2_with (first | ((with_reducible refine Calmly.is_fl ?_); refine Calmly.mix_fl rfl ?_ (fun _ _ => ?_); (first | exact .move _ | exact .load _ _ | exact .fieldAddr _ _ _ (by kernel_rfl) | exact .assign _ | exact .binOp _ _ _ _ _ rfl | exact .indexAddr _ _ _ | exact .len _ _ (by kernel_rfl) | exact .field _ _ _ | exact .extract _ _ | exact .pick _ _ _ | exact .build _ _ | exact .slice _ _ _ _ _ | exact .unOp _ _ _ rfl | exact .index _ _ _ | exact .max _ _ _ rfl rfl | exact .min _ _ _ rfl rfl)) | ((with_reducible refine Calmly.is_gl ?_); refine Calmly.mix_gl rfl rfl rfl ?_; first | ((first | with_reducible refine Calmly.gl_tt ?_ (fun _ _ => ?_) | with_reducible refine Calmly.gl_ff ?_ (fun _ _ => ?_)); (first | exact .move _ | exact .load _ _ | exact .fieldAddr _ _ _ (by kernel_rfl) | exact .assign _ | exact .binOp _ _ _ _ _ rfl | exact .indexAddr _ _ _ | exact .len _ _ (by kernel_rfl) | exact .field _ _ _ | exact .extract _ _ | exact .pick _ _ _ | exact .build _ _ | exact .slice _ _ _ _ _ | exact .unOp _ _ _ rfl | exact .index _ _ _ | exact .max _ _ _ rfl rfl | exact .min _ _ _ rfl rfl)) | with_reducible refine Calmly.gl_tf (fun _ _ => ?_) | with_reducible refine Calmly.gl_ft (fun _ _ => ?_)) | ((with_reducible refine Calmly.is_eff ?_); refine Calmly.mix_eff rfl (fun _ _ => ?_)) | ((with_reducible refine Calmly.is_gf ?_); refine Calmly.mix_gf rfl rfl rfl ?_; first | with_reducible refine Calmly.gf_tt (fun _ _ => ?_) | with_reducible refine Calmly.gf_ff (fun _ _ => ?_) | with_reducible refine Calmly.gf_tf (kept_of hk) (fun _ _ => ?_) | with_reducible refine Calmly.gf_ft (kept_of hk) (fun _ _ => ?_)) | ((with_reducible refine Calmly.is_tail ?_); first | refine Calmly.mix_tail_nil ?_ | refine Calmly.mix_tail rfl (fun _ _ => ?_)) | ((with_reducible refine Calmly.is_kept ?_); refine ⟨kept_of hk, ?_⟩) | (with_reducible refine Calmly.mix_alt ?_ ?_))
  refine (wideSize_any s2 a2 n2 c2 z2 _ k2).mono ?_
  rintro e w2 ⟨t2, rfl, hv2, hb2⟩
  replace hk := step_of hk hb2
  replace hv1 := hv1.keep hb2
  obtain ⟨hkc, hkf⟩ := cells_of hk
  have hT1' := hT1.keep hk
  have hT2' := hT2.keep hk
  have hT3' := (hk.block _ (by rw [HS.out]; omega)).trans hT3
  go_wp2_with (first | ((with_reducible refine Calmly.is_fl ?_); refine Calmly.mix_fl rfl ?_ (fun _ _ => ?_); (first | exact .move _ | exact .load _ _ | exact .fieldAddr _ _ _ (by kernel_rfl) | exact .assign _ | exact .binOp _ _ _ _ _ rfl | exact .indexAddr _ _ _ | exact .len _ _ (by kernel_rfl) | exact .field _ _ _ | exact .extract _ _ | exact .pick _ _ _ | exact .build _ _ | exact .slice _ _ _ _ _ | exact .unOp _ _ _ rfl | exact .index _ _ _ | exact .max _ _ _ rfl rfl | exact .min _ _ _ rfl rfl)) | ((with_reducible refine Calmly.is_gl ?_); refine Calmly.mix_gl rfl rfl rfl ?_; first | ((first | with_reducible refine Calmly.gl_tt ?_ (fun _ _ => ?_) | with_reducible refine Calmly.gl_ff ?_ (fun _ _ => ?_)); (first | exact .move _ | exact .load _ _ | exact .fieldAddr _ _ _ (by kernel_rfl) | exact .assign _ | exact .binOp _ _ _ _ _ rfl | exact .indexAddr _ _ _ | exact .len _ _ (by kernel_rfl) | exact .field _ _ _ | exact .extract _ _ | exact .pick _ _ _ | exact .build _ _ | exact .slice _ _ _ _ _ | exact .unOp _ _ _ rfl | exact .index _ _ _ | exact .max _ _ _ rfl rfl | exact .min _ _ _ rfl rfl)) | with_reducible refine Calmly.gl_tf (fun _ _ => ?_) | with_reducible refine Calmly.gl_ft (fun _ _ => ?_)) | ((with_reducible refine Calmly.is_eff ?_); refine Calmly.mix_eff rfl (fun _ _ => ?_)) | ((with_reducible refine Calmly.is_gf ?_); refine Calmly.mix_gf rfl rfl rfl ?_; first | with_reducible refine Calmly.gf_tt (fun _ _ => ?_) | with_reducible refine Calmly.gf_ff (fun _ _ => ?_) | with_reducible refine Calmly.gf_tf (kept_of hk) (fun _ _ => ?_) | with_reducible refine Calmly.gf_ft (kept_of hk) (fun _ _ => ?_)) | ((with_reducible refine Calmly.is_tail ?_); first | refine Calmly.mix_tail_nil ?_ | refine Calmly.mix_tail rfl (fun _ _ => ?_)) | ((with_reducible refine Calmly.is_kept ?_); refine ⟨kept_of hk, ?_⟩) | (with_reducible refine Calmly.mix_alt ?_ ?_))
  obtain ⟨A1, A2, A3, A4⟩ := set2 (v := w2) (r := w.heap.size) (x := .int .i64 t1) (y := .slice a1 n1 c1) (u := .int .i64 s1) (u' := .slice a1 n1 c1) (by rw [hkc _ _ (by simp; omega)]; simp [go_sem]) (by rw [hkc _ _ (by simp; omega)]; simp [go_sem])
  have hne : w.heap.size + 1 ≠ w.heap.size := by omega
  obtain ⟨B1, B2, B3, B4⟩ := set2 (v := (w2.setCell ⟨w.heap.size, 0, none⟩ (.int .i64 t1)).setCell ⟨w.heap.size, 1, none⟩ (.slice a1 n1 c1)) (r := w.heap.size + 1) (x := .int .i64 t2) (y := .slice a2 n2 c2) (u := .int .i64 s2) (u' := .slice a2 n2 c2) (by rw [A3 _ _ hne, hkc _ _ (by simp)]; simp [go_sem]) (by rw [A3 _ _ hne, hkc _ _ (by simp)]; simp [go_sem])
  have hrel : GcdRel w ((((w2.setCell ⟨w.heap.size, 0, none⟩ (.int .i64 t1)).setCell ⟨w.heap.size, 1, none⟩ (.slice a1 n1 c1)).setCell ⟨w.heap.size + 1, 0, none⟩ (.int .i64 t2)).setCell ⟨w.heap.size + 1, 1, none⟩ (.slice a2 n2 c2)) (max n1 n2) (Int.gcd z1 z2) z1.natAbs z2.natAbs t1 a1 n1 c1 t2 a2 n2 c2 := by
    refine ⟨by rw [B3 _ _ hne.symm]; exact A1, by rw [B3 _ _ hne.symm]; exact A2, B1, B2, ?_, ?_, by omega, by omega, ?_, by omega, by omega, ?_, ?_, ?_, ?_⟩
    · exact (((hv1.set hT1' (by decide)).set (hT1'.set _ _) (by decide)).set ((hT2'.set _ _).set _ _) (by decide)).set (((hT2'.set _ _).set _ _).set _ _) (by decide)
    · exact (((hv2.set hT1' (by decide)).set (hT1'.set _ _) (by decide)).set ((hT2'.set _ _).set _ _) (by decide)).set (((hT2'.set _ _).set _ _).set _ _) (by decide)
    · show Int.gcd _ _ = _
      simp [Int.gcd]
    · exact ((((hB.trans (hk.mono (by rw [HS.out]; omega))).setCell (by simp) _).setCell (by simp) _).setCell (by simp) _).setCell (by simp) _
    · exact (((hT1'.set _ _).set _ _).set _ _).set _ _
    · exact (((hT2'.set _ _).set _ _).set _ _).set _ _
    · rw [Below.heap_setCell _ _ _ _ (by simp), Below.heap_setCell _ _ _ _ (by simp), Below.heap_setCell _ _ _ _ (by simp; omega), Below.heap_setCell _ _ _ _ (by simp; omega)]
      exact hT3'
  have HREL := Lib.hid hrel
  clear hrel A1 A2 A3 A4 B1 B2 B3 B4
  go_loopg [5] z2.natAbs (fun k _ wr => ∃ (p q s : Int) (a : Option Addr) (n c : Nat) (s' : Int) (a' : Option Addr) (n' c' : Nat), GcdRel w wr (max n1 n2) (Int.gcd z1 z2) p q s a n c s' a' n' c' ∧ q.natAbs ≤ k)
  case atStart => exact ⟨_, _, _, _, _, _, _, _, _, _, HREL.out, by omega⟩
  case round =>
    obtain ⟨p, q, s, a, n, c, s', a', n', c', ⟨e1, e2, e3, e4, hp, hq, hp0, hq0, hG, hnN, hnN', hbel, hb1T, hb2T, hb3T⟩, hgk⟩ := hrel
    clear hk hkc hkf hT1 hT2 hT3 hT1' hT2' hT3' k1 k2 hv1 hv2 hB h1 h2 hb1 hb2
    have f1 := hb1T.free
    have f2 := hb2T.free
    have hsz := hbel.size
    have hlt1 := hb2T.lt
    have hz0 := hq.z0
    by_cases h0 : q = 0
    · have hs0 := hz0.2 h0
      subst hs0
      have H0 := Lib.hid h0
      clear h0 hz0
      go_wp2_with fail
      refine (WideSign_any 0 a' n' c' _).mono ?_
      rintro e w3 ⟨rfl, hb3⟩
      have hbt := hbel.trans (hb3.mono hsz)
      obtain ⟨hkc, hkf⟩ := cells_of hb3
      have hT3 := (hb3.block _ (Array.getElem?_eq_some_iff.1 hb3T).1).trans hb3T
      have q0 := cell_block hT3
      have q1 := frozen_block hT3
      have hv := hp.keep hb3
      have hlt3 := hb3.size
      have hlt4 : w.heap.size < wr.heap.size := by omega
      go_wp2_with fail
      refine bodyPost_ret (v := .agg #[.int .i64 s, .slice a n c]) (by simp [results, Tryz.results92, go_sem, q0]) rfl ⟨s, a, n, c, rfl, ⟨hnN, ?_⟩, ?_⟩
      · have := hG.out
        rw [H0.out] at this
        simp at this
        rw [← this, show (p.natAbs : Int) = p from by omega]
        have hT : BlkT w3 (w.heap.size + 1 + 1) 78 := ⟨_, hT3⟩
        exact (hv.set hT (by decide)).set (hT.set _ _) (by decide)
      · exact (hbt.setCell (by simp; omega) _).setCell (by simp; omega) _
    · have hs0 : (s' != 0) = true := by rw [bne_iff_ne]; exact fun hc => h0 (hz0.1 hc)
      clear hz0
      have hqp : 0 < q := by omega
      go_wp2_with fail
      refine (WideSign_any s' a' n' c' _).mono ?_
      rintro e w3 ⟨rfl, hb3⟩
      have hbt := hbel.trans (hb3.mono hsz)
      obtain ⟨hkc, hkf⟩ := cells_of hb3
      have kp := hp.keep hb3
      have kq := hq.keep hb3
      have hlt4 : w.heap.size < wr.heap.size := by omega
      go_wp2_with fail
      have hpos : 0 ≤ p - p / q * q ∧ p - p / q * q < q := by
        have e := Int.emod_def p q
        have := Int.emod_nonneg p h0
        have := Int.emod_lt_of_pos p hqp
        rw [Int.mul_comm] at e
        omega
      have hGn : Hid (Int.gcd q (p - p / q * q) = Int.gcd z1 z2) := by
        show _ = _
        rw [gcd_emod']; exact hG.out
      obtain ⟨hpos1, hpos2⟩ := hpos
      refine Calmly.wp_region_mix 8 (.fl 0 <| .fl 1 <| .fl 2 <| .fl 4 <| .alt 3 (.alt 5 (.alt 6 (.eff 7 <| .tail [8]) (.eff 7 (.eff 6 <| .tail [8]))) (.eff 7 (.eff 5 <| .eff 6 <| .tail [8]))) (.eff 7 (.eff 3 <| .eff 5 <| .eff 6 <| .tail [8]))) (by kernel_rfl) (by kernel_rfl) ?_
      have g1 : w3.drew.cell? _ = _ := cell_keep e1 hb3.drew
      have g2 : w3.drew.cell? _ = _ := cell_keep e2 hb3.drew
      have g3 : w3.drew.cell? _ = _ := cell_keep e3 hb3.drew
      have g4 : w3.drew.cell? _ = _ := cell_keep e4 hb3.drew
      have gT1 := (hb1T.keep hb3).drew
      have gT2 := (hb2T.keep hb3).drew
      have gT3 : w3.drew.heap[w.heap.size + 1 + 1]? = _ := blk_keep hb3T hb3.drew
      have gB := hbt.drew
      have gs : w.heap.size + 1 + 1 < w3.drew.heap.size := blk_lt gT3
      replace kp : WideV w3.drew s a n c p := kp.keep (Below.drew (Below.refl _ _))
      replace kq : WideV w3.drew s' a' n' c' q := kq.keep (Below.drew (Below.refl _ _))
      clear e1 e2 e3 e4 hb1T hb2T hb3T hbt hkc hkf hb3 hlt4 hlt1 hsz hbel hp hq f1 f2
      generalize w3.drew = W0 at *
      have hk : Below W0.heap.size W0 W0 := Below.refl _ _
      go_wp2_with (first | ((with_reducible refine Calmly.is_fl ?_); refine Calmly.mix_fl rfl ?_ (fun _ _ => ?_); (first | exact .move _ | exact .load _ _ | exact .fieldAddr _ _ _ (by kernel_rfl) | exact .assign _ | exact .binOp _ _ _ _ _ rfl | exact .indexAddr _ _ _ | exact .len _ _ (by kernel_rfl) | exact .field _ _ _ | exact .extract _ _ | exact .pick _ _ _ | exact .build _ _ | exact .slice _ _ _ _ _ | exact .unOp _ _ _ rfl | exact .index _ _ _ | exact .max _ _ _ rfl rfl | exact .min _ _ _ rfl rfl)) | ((with_reducible refine Calmly.is_gl ?_); refine Calmly.mix_gl rfl rfl rfl ?_; first | ((first | with_reducible refine Calmly.gl_tt ?_ (fun _ _ => ?_) | with_reducible refine Calmly.gl_ff ?_ (fun _ _ => ?_)); (first | exact .move _ | exact .load _ _ | exact .fieldAddr _ _ _ (by kernel_rfl) | exact .assign _ | exact .binOp _ _ _ _ _ rfl | exact .indexAddr _ _ _ | exact .len _ _ (by kernel_rfl) | exact .field _ _ _ | exact .extract _ _ | exact .pick _ _ _ | exact .build _ _ | exact .slice _ _ _ _ _ | exact .unOp _ _ _ rfl | exact .index _ _ _ | exact .max _ _ _ rfl rfl | exact .min _ _ _ rfl rfl)) | with_reducible refine Calmly.gl_tf (fun _ _ => ?_) | with_reducible refine Calmly.gl_ft (fun _ _ => ?_)) | ((with_reducible refine Calmly.is_eff ?_); refine Calmly.mix_eff rfl (fun _ _ => ?_)) | ((with_reducible refine Calmly.is_gf ?_); refine Calmly.mix_gf rfl rfl rfl ?_; first | with_reducible refine Calmly.gf_tt (fun _ _ => ?_) | with_reducible refine Calmly.gf_ff (fun _ _ => ?_) | with_reducible refine Calmly.gf_tf (kept_of hk) (fun _ _ => ?_) | with_reducible refine Calmly.gf_ft (kept_of hk) (fun _ _ => ?_)) | ((with_reducible refine Calmly.is_kept ?_); refine ⟨kept_of hk, ?_⟩) | (with_reducible refine Calmly.mix_alt ?_ ?_) | (refine kept_alloc hk (fun hk' hblk hge => ?_); replace hk := hk'; clear hk') | (go_at_call 93; refine (WideFloor_any s s' a a' n n' c c' p q _ (kp.keep hk) (kq.keep hk) hqp (by omega) (by omega)).mono ?_; rintro e w5 ⟨s5, a5, m5, c5, rfl, ⟨hm5, hv5⟩, hb5⟩; replace hk := step_of hk hb5; try (replace hblk := blk_keep hblk hb5)) | (go_at_call 69; refine (WideMul_any s5 s' a5 a' m5 n' c5 c' (p / q) q _ (by first | exact hv5 | exact hv5.keep ((Below.refl _ _).alloc (Nat.le_refl _) _)) (kq.keep hk) (by omega) (by omega)).mono ?_; rintro e w6 ⟨s6, a6, m6, c6, rfl, ⟨hm6, hv6⟩, hb6⟩; replace hk := step_of hk hb6; try (replace hblk := blk_keep hblk hb6)) | (go_at_call 98; refine (WideSub_any s s6 a a6 n m6 c c6 p (p / q * q) _ (kp.keep hk) (by first | exact hv6 | exact hv6.keep ((Below.refl _ _).alloc (Nat.le_refl _) _)) (by omega) (by omega)).mono ?_; rintro e w7 ⟨s7, a7, m7, c7, rfl, ⟨hm7, hv7⟩, hb7⟩; replace hk := step_of hk hb7; try (replace hblk := blk_keep hblk hb7)))
      · have xf7 : XF w w7 q s' a' n' c' (p - p / q * q) s7 a7 m7 c7 := by
          have hk : Below W0.heap.size W0 w7 := step_of (step_of (step_of (Below.refl _ _) hb5) hb6) hb7
          exact ⟨⟨_, cell_keep g1 hk⟩, ⟨_, cell_keep g2 hk⟩, cell_keep g3 hk, cell_keep g4 hk, gT1.keep hk, gT2.keep hk, blk_keep gT3 hk, kq.keep hk, hv7, gB.trans (hk.mono gB.size)⟩
        have q0 := cell_block hblk
        have q1 := frozen_block hblk
        go_wp2_with (first | ((with_reducible refine Calmly.is_fl ?_); refine Calmly.mix_fl rfl ?_ (fun _ _ => ?_); (first | exact .move _ | exact .load _ _ | exact .fieldAddr _ _ _ (by kernel_rfl) | exact .assign _ | exact .binOp _ _ _ _ _ rfl | exact .indexAddr _ _ _ | exact .len _ _ (by kernel_rfl) | exact .field _ _ _ | exact .extract _ _ | exact .pick _ _ _ | exact .build _ _ | exact .slice _ _ _ _ _ | exact .unOp _ _ _ rfl | exact .index _ _ _ | exact .max _ _ _ rfl rfl | exact .min _ _ _ rfl rfl)) | ((with_reducible refine Calmly.is_gl ?_); refine Calmly.mix_gl rfl rfl rfl ?_; first | ((first | with_reducible refine Calmly.gl_tt ?_ (fun _ _ => ?_) | with_reducible refine Calmly.gl_ff ?_ (fun _ _ => ?_)); (first | exact .move _ | exact .load _ _ | exact .fieldAddr _ _ _ (by kernel_rfl) | exact .assign _ | exact .binOp _ _ _ _ _ rfl | exact .indexAddr _ _ _ | exact .len _ _ (by kernel_rfl) | exact .field _ _ _ | exact .extract _ _ | exact .pick _ _ _ | exact .build _ _ | exact .slice _ _ _ _ _ | exact .unOp _ _ _ rfl | exact .index _ _ _ | exact .max _ _ _ rfl rfl | exact .min _ _ _ rfl rfl)) | with_reducible refine Calmly.gl_tf (fun _ _ => ?_) | with_reducible refine Calmly.gl_ft (fun _ _ => ?_)) | ((with_reducible refine Calmly.is_eff ?_); refine Calmly.mix_eff rfl (fun _ _ => ?_)) | ((with_reducible refine Calmly.is_gf ?_); refine Calmly.mix_gf rfl rfl rfl ?_; first | with_reducible refine Calmly.gf_tt (fun _ _ => ?_) | with_reducible refine Calmly.gf_ff (fun _ _ => ?_) | with_reducible refine Calmly.gf_tf (kept_of hk) (fun _ _ => ?_) | with_reducible refine Calmly.gf_ft (kept_of hk) (fun _ _ => ?_)) | ((with_reducible refine Calmly.is_tail ?_); first | refine Calmly.mix_tail_nil ?_ | refine Calmly.mix_tail rfl (fun _ _ => ?_)) | ((with_reducible refine Calmly.is_kept ?_); refine ⟨kept_of hk, ?_⟩) | (with_reducible refine Calmly.mix_alt ?_ ?_))
        have hm7' : m7 ≤ max n1 n2 := by
          have := hv7.len_le kq (by omega)
          omega
        have xf : XF w (w7.alloc (.cells #[.int .i64 s7, .slice a7 m7 c7] 78)) q s' a' n' c' (p - p / q * q) s7 a7 m7 c7 := xf7.keep ((Below.refl _ _).alloc (Nat.le_refl _) _)
        have xb := cell_block (alloc_new w7 (.cells #[.int .i64 s7, .slice a7 m7 c7] 78))
        have x0 := xb 0
        have x1 := xb 1
        refine wp_gen (fun v => XF w v q s' a' n' c' (p - p / q * q) s7 a7 m7 c7 ∧ v.cell? ⟨w7.heap.size, 0, none⟩ = some (.int .i64 s7) ∧ v.cell? ⟨w7.heap.size, 1, none⟩ = some (.slice a7 m7 c7)) ⟨xf, x0, x1⟩ ?_
        rintro v ⟨xv, y0, y1⟩
        have XV := Lib.hid xv
        obtain ⟨⟨u0, z0⟩, ⟨u1, z1'⟩, z3, z4, zT1, zT2, _, _, _, _⟩ := xv
        have f1 := zT1.free
        have f2 := zT2.free
        go_region
        go_wp2_with fail
        go_roundg (q.natAbs - 1)
        case measure => omega
        case rel => exact ⟨_, _, _, _, _, _, _, _, _, _, GcdRel.next XV.out.drew (by omega) (by omega) hGn.out (by omega) (by omega), by omega⟩
      · have xf7 : XF w w7 q s' a' n' c' (p - p / q * q) s7 a7 m7 c7 := by
          exact ⟨⟨_, cell_keep g1 hk⟩, ⟨_, cell_keep g2 hk⟩, cell_keep g3 hk, cell_keep g4 hk, gT1.keep hk, gT2.keep hk, blk_keep gT3 hk, kq.keep hk, hv7, gB.trans (hk.mono gB.size)⟩
        have q0 := cell_block hblk
        have q1 := frozen_block hblk
        go_wp2_with (first | ((with_reducible refine Calmly.is_fl ?_); refine Calmly.mix_fl rfl ?_ (fun _ _ => ?_); (first | exact .move _ | exact .load _ _ | exact .fieldAddr _ _ _ (by kernel_rfl) | exact .assign _ | exact .binOp _ _ _ _ _ rfl | exact .indexAddr _ _ _ | exact .len _ _ (by kernel_rfl) | exact .field _ _ _ | exact .extract _ _ | exact .pick _ _ _ | exact .build _ _ | exact .slice _ _ _ _ _ | exact .unOp _ _ _ rfl | exact .index _ _ _ | exact .max _ _ _ rfl rfl | exact .min _ _ _ rfl rfl)) | ((with_reducible refine Calmly.is_gl ?_); refine Calmly.mix_gl rfl rfl rfl ?_; first | ((first | with_reducible refine Calmly.gl_tt ?_ (fun _ _ => ?_) | with_reducible refine Calmly.gl_ff ?_ (fun _ _ => ?_)); (first | exact .move _ | exact .load _ _ | exact .fieldAddr _ _ _ (by kernel_rfl) | exact .assign _ | exact .binOp _ _ _ _ _ rfl | exact .indexAddr _ _ _ | exact .len _ _ (by kernel_rfl) | exact .field _ _ _ | exact .extract _ _ | exact .pick _ _ _ | exact .build _ _ | exact .slice _ _ _ _ _ | exact .unOp _ _ _ rfl | exact .index _ _ _ | exact .max _ _ _ rfl rfl | exact .min _ _ _ rfl rfl)) | with_reducible refine Calmly.gl_tf (fun _ _ => ?_) | with_reducible refine Calmly.gl_ft (fun _ _ => ?_)) | ((with_reducible refine Calmly.is_eff ?_); refine Calmly.mix_eff rfl (fun _ _ => ?_)) | ((with_reducible refine Calmly.is_gf ?_); refine Calmly.mix_gf rfl rfl rfl ?_; first | with_reducible refine Calmly.gf_tt (fun _ _ => ?_) | with_reducible refine Calmly.gf_ff (fun _ _ => ?_) | with_reducible refine Calmly.gf_tf (kept_of hk) (fun _ _ => ?_) | with_reducible refine Calmly.gf_ft (kept_of hk) (fun _ _ => ?_)) | ((with_reducible refine Calmly.is_tail ?_); first | refine Calmly.mix_tail_nil ?_ | refine Calmly.mix_tail rfl (fun _ _ => ?_)) | ((with_reducible refine Calmly.is_kept ?_); refine ⟨kept_of hk, ?_⟩) | (with_reducible refine Calmly.mix_alt ?_ ?_))
        have hm7' : m7 ≤ max n1 n2 := by
          have := hv7.len_le kq (by omega)
          omega
        have hT : BlkT w7 (w6.heap.size) 78 := ⟨_, hblk⟩
        have xf := (xf7.set (o := 0) (x := .int .i64 s7) hT (by omega)).set (o := 1) (x := .slice a7 m7 c7) (hT.set _ _) (by omega)
        obtain ⟨x0, x1, _, _⟩ := set2 (x := .int .i64 s7) (y := .slice a7 m7 c7) (q0 0) (q0 1)
        refine wp_gen (fun v => XF w v q s' a' n' c' (p - p / q * q) s7 a7 m7 c7 ∧ v.cell? ⟨w6.heap.size, 0, none⟩ = some (.int .i64 s7) ∧ v.cell? ⟨w6.heap.size, 1, none⟩ = some (.slice a7 m7 c7)) ⟨xf, x0, x1⟩ ?_
        rintro v ⟨xv, y0, y1⟩
        have XV := Lib.hid xv
        obtain ⟨⟨u0, z0⟩, ⟨u1, z1'⟩, z3, z4, zT1, zT2, _, _, _, _⟩ := xv
        have f1 := zT1.free
        have f2 := zT2.free
        go_region
        go_wp2_with fail
        go_roundg (q.natAbs - 1)
        case measure => omega
        case rel => exact ⟨_, _, _, _, _, _, _, _, _, _, GcdRel.next XV.out.drew (by omega) (by omega) hGn.out (by omega) (by omega), by omega⟩
      · have xf7 : XF w w7 q s' a' n' c' (p - p / q * q) s7 a7 m7 c7 := by
          exact ⟨⟨_, cell_keep g1 hk⟩, ⟨_, cell_keep g2 hk⟩, cell_keep g3 hk, cell_keep g4 hk, gT1.keep hk, gT2.keep hk, blk_keep gT3 hk, kq.keep hk, hv7, gB.trans (hk.mono gB.size)⟩
        have q0 := cell_block hblk
        have q1 := frozen_block hblk
        go_wp2_with (first | ((with_reducible refine Calmly.is_fl ?_); refine Calmly.mix_fl rfl ?_ (fun _ _ => ?_); (first | exact .move _ | exact .load _ _ | exact .fieldAddr _ _ _ (by kernel_rfl) | exact .assign _ | exact .binOp _ _ _ _ _ rfl | exact .indexAddr _ _ _ | exact .len _ _ (by kernel_rfl) | exact .field _ _ _ | exact .extract _ _ | exact .pick _ _ _ | exact .build _ _ | exact .slice _ _ _ _ _ | exact .unOp _ _ _ rfl | exact .index _ _ _ | exact .max _ _ _ rfl rfl | exact .min _ _ _ rfl rfl)) | ((with_reducible refine Calmly.is_gl ?_); refine Calmly.mix_gl rfl rfl rfl ?_; first | ((first | with_reducible refine Calmly.gl_tt ?_ (fun _ _ => ?_) | with_reducible refine Calmly.gl_ff ?_ (fun _ _ => ?_)); (first | exact .move _ | exact .load _ _ | exact .fieldAddr _ _ _ (by kernel_rfl) | exact .assign _ | exact .binOp _ _ _ _ _ rfl | exact .indexAddr _ _ _ | exact .len _ _ (by kernel_rfl) | exact .field _ _ _ | exact .extract _ _ | exact .pick _ _ _ | exact .build _ _ | exact .slice _ _ _ _ _ | exact .unOp _ _ _ rfl | exact .index _ _ _ | exact .max _ _ _ rfl rfl | exact .min _ _ _ rfl rfl)) | with_reducible refine Calmly.gl_tf (fun _ _ => ?_) | with_reducible refine Calmly.gl_ft (fun _ _ => ?_)) | ((with_reducible refine Calmly.is_eff ?_); refine Calmly.mix_eff rfl (fun _ _ => ?_)) | ((with_reducible refine Calmly.is_gf ?_); refine Calmly.mix_gf rfl rfl rfl ?_; first | with_reducible refine Calmly.gf_tt (fun _ _ => ?_) | with_reducible refine Calmly.gf_ff (fun _ _ => ?_) | with_reducible refine Calmly.gf_tf (kept_of hk) (fun _ _ => ?_) | with_reducible refine Calmly.gf_ft (kept_of hk) (fun _ _ => ?_)) | ((with_reducible refine Calmly.is_tail ?_); first | refine Calmly.mix_tail_nil ?_ | refine Calmly.mix_tail rfl (fun _ _ => ?_)) | ((with_reducible refine Calmly.is_kept ?_); refine ⟨kept_of hk, ?_⟩) | (with_reducible refine Calmly.mix_alt ?_ ?_))
        have hm7' : m7 ≤ max n1 n2 := by
          have := hv7.len_le kq (by omega)
          omega
        have hT : BlkT w7 (w5.heap.size) 78 := ⟨_, hblk⟩
        have xf := (xf7.set (o := 0) (x := .int .i64 s7) hT (by omega)).set (o := 1) (x := .slice a7 m7 c7) (hT.set _ _) (by omega)
        obtain ⟨x0, x1, _, _⟩ := set2 (x := .int .i64 s7) (y := .slice a7 m7 c7) (q0 0) (q0 1)
        refine wp_gen (fun v => XF w v q s' a' n' c' (p - p / q * q) s7 a7 m7 c7 ∧ v.cell? ⟨w5.heap.size, 0, none⟩ = some (.int .i64 s7) ∧ v.cell? ⟨w5.heap.size, 1, none⟩ = some (.slice a7 m7 c7)) ⟨xf, x0, x1⟩ ?_
        rintro v ⟨xv, y0, y1⟩
        have XV := Lib.hid xv
        obtain ⟨⟨u0, z0⟩, ⟨u1, z1'⟩, z3, z4, zT1, zT2, _, _, _, _⟩ := xv
        have f1 := zT1.free
        have f2 := zT2.free
        go_region
        go_wp2_with fail
        go_roundg (q.natAbs - 1)
        case measure => omega
        case rel => exact ⟨_, _, _, _, _, _, _, _, _, _, GcdRel.next XV.out.drew (by omega) (by omega) hGn.out (by omega) (by omega), by omega⟩
      · have xf7 : XF w w7 q s' a' n' c' (p - p / q * q) s7 a7 m7 c7 := by
          exact ⟨⟨_, cell_keep g1 hk⟩, ⟨_, cell_keep g2 hk⟩, cell_keep g3 hk, cell_keep g4 hk, gT1.keep hk, gT2.keep hk, blk_keep gT3 hk, kq.keep hk, hv7, gB.trans (hk.mono gB.size)⟩
        have q0 := cell_block hblk
        have q1 := frozen_block hblk
        go_wp2_with (first | ((with_reducible refine Calmly.is_fl ?_); refine Calmly.mix_fl rfl ?_ (fun _ _ => ?_); (first | exact .move _ | exact .load _ _ | exact .fieldAddr _ _ _ (by kernel_rfl) | exact .assign _ | exact .binOp _ _ _ _ _ rfl | exact .indexAddr _ _ _ | exact .len _ _ (by kernel_rfl) | exact .field _ _ _ | exact .extract _ _ | exact .pick _ _ _ | exact .build _ _ | exact .slice _ _ _ _ _ | exact .unOp _ _ _ rfl | exact .index _ _ _ | exact .max _ _ _ rfl rfl | exact .min _ _ _ rfl rfl)) | ((with_reducible refine Calmly.is_gl ?_); refine Calmly.mix_gl rfl rfl rfl ?_; first | ((first | with_reducible refine Calmly.gl_tt ?_ (fun _ _ => ?_) | with_reducible refine Calmly.gl_ff ?_ (fun _ _ => ?_)); (first | exact .move _ | exact .load _ _ | exact .fieldAddr _ _ _ (by kernel_rfl) | exact .assign _ | exact .binOp _ _ _ _ _ rfl | exact .indexAddr _ _ _ | exact .len _ _ (by kernel_rfl) | exact .field _ _ _ | exact .extract _ _ | exact .pick _ _ _ | exact .build _ _ | exact .slice _ _ _ _ _ | exact .unOp _ _ _ rfl | exact .index _ _ _ | exact .max _ _ _ rfl rfl | exact .min _ _ _ rfl rfl)) | with_reducible refine Calmly.gl_tf (fun _ _ => ?_) | with_reducible refine Calmly.gl_ft (fun _ _ => ?_)) | ((with_reducible refine Calmly.is_eff ?_); refine Calmly.mix_eff rfl (fun _ _ => ?_)) | ((with_reducible refine Calmly.is_gf ?_); refine Calmly.mix_gf rfl rfl rfl ?_; first | with_reducible refine Calmly.gf_tt (fun _ _ => ?_) | with_reducible refine Calmly.gf_ff (fun _ _ => ?_) | with_reducible refine Calmly.gf_tf (kept_of hk) (fun _ _ => ?_) | with_reducible refine Calmly.gf_ft (kept_of hk) (fun _ _ => ?_)) | ((with_reducible refine Calmly.is_tail ?_); first | refine Calmly.mix_tail_nil ?_ | refine Calmly.mix_tail rfl (fun _ _ => ?_)) | ((with_reducible refine Calmly.is_kept ?_); refine ⟨kept_of hk, ?_⟩) | (with_reducible refine Calmly.mix_alt ?_ ?_))
        have hm7' : m7 ≤ max n1 n2 := by
          have := hv7.len_le kq (by omega)
          omega
        have hT : BlkT w7 (W0.heap.size) 78 := ⟨_, hblk⟩
        have xf := (xf7.set (o := 0) (x := .int .i64 s7) hT (by omega)).set (o := 1) (x := .slice a7 m7 c7) (hT.set _ _) (by omega)
        obtain ⟨x0, x1, _, _⟩ := set2 (x := .int .i64 s7) (y := .slice a7 m7 c7) (q0 0) (q0 1)
        refine wp_gen (fun v => XF w v q s' a' n' c' (p - p / q * q) s7 a7 m7 c7 ∧ v.cell? ⟨W0.heap.size, 0, none⟩ = some (.int .i64 s7) ∧ v.cell? ⟨W0.heap.size, 1, none⟩ = some (.slice a7 m7 c7)) ⟨xf, x0, x1⟩ ?_
        rintro v ⟨xv, y0, y1⟩
        have XV := Lib.hid xv
        obtain ⟨⟨u0, z0⟩, ⟨u1, z1'⟩, z3, z4, zT1, zT2, _, _, _, _⟩ := xv
        have f1 := zT1.free
        have f2 := zT2.free
        go_region
        go_wp2_with fail
        go_roundg (q.natAbs - 1)
        case measure => omega
        case rel => exact ⟨_, _, _, _, _, _, _, _, _, _, GcdRel.next XV.out.drew (by omega) (by omega) hGn.out (by omega) (by omega), by omega⟩
end Go.Proofs.YtfjcfbmfpefabaaGreat
