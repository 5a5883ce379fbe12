/- Contracts of chapter 6: the errors of a damage that is checked. -/
import Derived.Test.YtmaidjankakppaaVc
namespace Go.Proofs.Ytmaidjankakppaa
open Go.RowKit
open Calmly (Kept)

set_option maxRecDepth 100000 in
set_option maxHeartbeats 4000000 in
theorem CheckDamage_err1 (a b sa : Option Addr) (n m c d sn sc : Nat) (ms ks : List Int) (sq : List (Int × Int)) (den : Int) (st : Int) (left : Int) (w : World) (h1 : SI w a n c ms) (h2 : SI w b m d ks) (h3 : SR w sa sn sc sq) (hsn : sn ≤ 1000000000) (hnn : n ≤ 1000000000)
    (E G : Int) (hE : afterE ms ks den sq = E) (hG : firstE [E, unlessE (wIn st 0 ((n : Int) - 1)) 6] = G) (hz : G ≠ 0) :
    Calls Try.prog 27 #[.agg #[.slice a n c, .slice b m d], .agg #[.int .i64 den, .slice sa sn sc], .agg #[.int .i64 st, .int .i64 left]] w fun e w' => e = .returned (.tuple #[.int .i64 0, .int .i64 G]) ∧ Below w.heap.size w w' := by
  have hA : ∀ (A : World) (o : Obj), Below A.heap.size A (A.alloc o) := fun A o => (Below.refl _ _).alloc (Nat.le_refl _) _
  have hb3 : Below w.heap.size w (((w.alloc (.cells #[.slice a n c, .slice b m d] 24)).alloc (.cells #[.int .i64 den, .slice sa sn sc] 44)).alloc (.cells #[.int .i64 st, .int .i64 left] 46)) := (((Below.refl _ _).alloc (Nat.le_refl _) _).alloc (by simp) _).alloc (by simp; omega) _
  have hz1 : (G != 0) = true := by simpa using hz
  have HE := Lib.hid hE
  have HG := Lib.hid hG
  clear hE hG hz
  go_enter Try.func27, Try.ntmps27
  go_wp2_with fail
  refine (openAfter_any a b sa n c m d sn sc ms ks sq den _ (h1.keep hb3) (h2.keep hb3) (h3.keep hb3) E HE.out hsn hnn).mono ?_
  rintro e w1 ⟨rfl, hb1⟩
  obtain ⟨x1, x2, x3⟩ := box3 (w := w) (o := .cells #[.slice a n c, .slice b m d] 24) (o' := .cells #[.int .i64 den, .slice sa sn sc] 44) (o'' := .cells #[.int .i64 st, .int .i64 left] 46) hb1
  have BW := hb3.trans (hb1.mono hb3.size)
  have hb4 := hA w1 (.cells #[.slice a n c, .slice b m d] 141)
  replace x1 := blk_keep x1 hb4
  replace x3 := blk_keep x3 hb4
  replace BW := BW.trans (hb4.mono BW.size)
  have hs3 := blk_lt x3
  rename_i K1 hK1 K2 hK2
  have hK1' := fun a w (h : Stop _) => hK1 a w h.out
  clear hK1 hb1 hb3 hb4 x2
  go_wp2_with fail
  refine ⟨?_⟩
  generalize World.alloc w1 _ = wx at x1 x3 BW hs3 ⊢
  have f0 : wx.cell? ⟨w.heap.size, 0, none⟩ = some (.slice a n c) := cell_block x1 0
  have f4 : wx.cell? ⟨w.heap.size + 1 + 1, 0, none⟩ = some (.int .i64 st) := cell_block x3 0
  go_wp2_with fail
  refine (mWithin_any st 0 ((n : Int) - 1) _).mono ?_
  rintro e w' ⟨rfl, rfl⟩
  obtain ⟨W, hW⟩ : ∃ W, wIn st 0 ((n : Int) - 1) = W := ⟨_, rfl⟩
  have hG := HG.out
  rw [hW] at hG ⊢
  have HG2 := Lib.hid hG
  clear hW hG HG
  go_wp2_with fail
  refine (unless_any _ _ _).mono ?_
  rintro e w' ⟨rfl, rfl⟩
  go_wp2_with fail
  refine (first_any _ 2 2 _ _ (SI.two _ _ _ _ (by simp))).mono ?_
  rintro e w' ⟨rfl, rfl⟩
  rw [HG2.out]
  have hb4 := hA wx (.cells #[.int .i64 E, .int .i64 (unlessE W 6)] 27)
  replace BW := BW.trans (hb4.mono BW.size)
  go_wp2_with fail
  exact bodyPost_ret (v := .tuple #[.int .i64 0, .int .i64 G]) (by simp [results, Try.results27, go_sem]) rfl ⟨rfl, BW⟩

set_option maxRecDepth 100000 in
set_option maxHeartbeats 4000000 in
theorem CheckDamage_err2 (a b sa : Option Addr) (m c d sn sc : Nat) (ms ks : List Int) (sq : List (Int × Int)) (den : Int) (st : Nat) (left : Int) (w : World) (h1 : SI w a m c ms) (h2 : SI w b m d ks) (h3 : SR w sa sn sc sq) (hE : afterE ms ks den sq = 0) (he : (checkF ms ks).2 = 0) (hsn : sn ≤ 100)
    (hst : st < m) (hl2 : wIn left 1 (ks[st]?.getD 0) = false) :
    Calls Try.prog 27 #[.agg #[.slice a m c, .slice b m d], .agg #[.int .i64 den, .slice sa sn sc], .agg #[.int .i64 st, .int .i64 left]] w fun e w' => e = .returned (.tuple #[.int .i64 0, .int .i64 2]) ∧ Below w.heap.size w w' := by
  have hA : ∀ (A : World) (o : Obj), Below A.heap.size A (A.alloc o) := fun A o => (Below.refl _ _).alloc (Nat.le_refl _) _
  have hb3 : Below w.heap.size w (((w.alloc (.cells #[.slice a m c, .slice b m d] 24)).alloc (.cells #[.int .i64 den, .slice sa sn sc] 44)).alloc (.cells #[.int .i64 st, .int .i64 left] 46)) := (((Below.refl _ _).alloc (Nat.le_refl _) _).alloc (by simp) _).alloc (by simp; omega) _
  have fr := fr_of he
  obtain ⟨l1, l2⟩ : m ≤ ms.length ∧ ms.length ≤ m := by have := h1.len; omega
  have hm4 : m ≤ 4 := by have := fr.few; omega
  have hkb := fr.k st (by omega)
  have HE := Lib.hid hE
  have HC := Lib.hid he
  clear hE he fr
  go_enter Try.func27, Try.ntmps27
  go_wp2_with fail
  refine (openAfter_any a b sa m c m d sn sc ms ks sq den _ (h1.keep hb3) (h2.keep hb3) (h3.keep hb3) 0 HE.out (by omega) (by omega)).mono ?_
  rintro e w1 ⟨rfl, hb1⟩
  obtain ⟨x1, x2, x3⟩ := box3 (w := w) (o := .cells #[.slice a m c, .slice b m d] 24) (o' := .cells #[.int .i64 den, .slice sa sn sc] 44) (o'' := .cells #[.int .i64 st, .int .i64 left] 46) hb1
  have BW := hb3.trans (hb1.mono hb3.size)
  have hb4 := hA w1 (.cells #[.slice a m c, .slice b m d] 141)
  have y1 := alloc_new w1 (.cells #[.slice a m c, .slice b m d] 141)
  replace x1 := blk_keep x1 hb4
  replace x2 := blk_keep x2 hb4
  replace x3 := blk_keep x3 hb4
  replace BW := BW.trans (hb4.mono BW.size)
  obtain ⟨b8, hb8⟩ : ∃ b8, w1.heap.size = b8 := ⟨_, rfl⟩
  have hs3 := blk_lt x3
  rename_i K1 hK1 K2 hK2
  have hK1' := fun a w (h : Stop _) => hK1 a w h.out
  clear hK1 hb1 hb3 hb4
  go_wp2_with fail
  refine ⟨?_⟩
  rw [hb8] at y1
  clear hb8
  generalize World.alloc w1 _ = wx at x1 x2 x3 y1 BW hs3 ⊢
  have f0 : wx.cell? ⟨w.heap.size, 0, none⟩ = some (.slice a m c) := cell_block x1 0
  have f4 : wx.cell? ⟨w.heap.size + 1 + 1, 0, none⟩ = some (.int .i64 st) := cell_block x3 0
  have hW1 : ∀ w, Calls Try.prog 93 #[.int .i64 st, .int .i64 0, .int .i64 ((m : Int) - 1)] w fun e w' => e = .returned (.bool true) ∧ w = w' := fun w => by
    have := mWithin_any st 0 ((m : Int) - 1) w
    rwa [show wIn (st : Int) 0 ((m : Int) - 1) = true by simp [wIn]; omega] at this
  have HW1 := Lib.hid hW1
  clear hW1
  go_wp2_with fail
  refine (HW1.out _).mono ?_
  rintro e w' ⟨rfl, rfl⟩
  go_wp2_with fail
  refine (unless_any _ _ _).mono ?_
  rintro e w' ⟨rfl, rfl⟩
  go_wp2_with fail
  refine (first_any _ 2 2 _ _ (SI.two _ _ _ _ (by simp))).mono ?_
  rintro e w' ⟨rfl, rfl⟩
  rw [show firstE [0, unlessE true 6] = 0 from rfl]
  have hb4 := hA wx (.cells #[.int .i64 0, .int .i64 (unlessE true 6)] 27)
  replace x1 := blk_keep x1 hb4
  replace x2 := blk_keep x2 hb4
  replace x3 := blk_keep x3 hb4
  replace y1 := blk_keep y1 hb4
  replace BW := BW.trans (hb4.mono BW.size)
  generalize World.alloc wx _ = wy at x1 x2 x3 y1 BW ⊢
  clear f0 f4 hb4 hs3
  have hs3 := blk_lt x3
  have f4 : wy.cell? ⟨w.heap.size + 1 + 1, 0, none⟩ = some (.int .i64 st) := cell_block x3 0
  have f5 : wy.cell? ⟨w.heap.size + 1 + 1, 1, none⟩ = some (.int .i64 left) := cell_block x3 1
  have f8 : wy.cell? ⟨b8, 0, none⟩ = some (.slice a m c) := cell_block y1 0
  have f9 : wy.cell? ⟨b8, 1, none⟩ = some (.slice b m d) := cell_block y1 1
  have f2 : wy.cell? ⟨w.heap.size + 1, 0, none⟩ = some (.int .i64 den) := cell_block x2 0
  have f3 : wy.cell? ⟨w.heap.size + 1, 1, none⟩ = some (.slice sa sn sc) := cell_block x2 1
  obtain ⟨b1, o1, hbb, hc⟩ := h2.at_ (by omega)
  have e1 := cell_keep (hc st hst) BW
  clear hc
  obtain ⟨k, hk⟩ : ∃ k, ks[st]?.getD 0 = k := ⟨_, rfl⟩
  rw [hk] at e1 hl2 hkb
  clear hk
  subst hbb
  have hW2 : ∀ w, Calls Try.prog 93 #[.int .i64 left, .int .i64 1, .int .i64 k] w fun e w' => e = .returned (.bool false) ∧ w = w' := fun w => by
    have := mWithin_any left 1 k w
    rwa [hl2] at this
  have HW2 := Lib.hid hW2
  clear hW2 hl2
  have hs1 : (st : Int) < (m : Int) := by omega
  have hs0 : (0 : Int) ≤ (st : Int) := by omega
  go_wp2_with fail
  refine Calmly.wp_region_mix 9 (.fl 0 <| .fl 1 <| .fl 2 <| .fl 3 <| .fl 4 <| .fl 5 <| .fl 6 <| .fl 7 <| .eff 8 <| .tail [9]) (by kernel_rfl) (by kernel_rfl) ?_
  have hk := Below.refl wy.drew.heap.size wy.drew
  go_wp2_with (first | ((with_reducible refine Calmly.is_fl ?_); refine Calmly.mix_fl rfl ?_ (fun _ _ => ?_); (first | exact .move _ | exact .load _ _ | exact .fieldAddr _ _ _ (by kernel_rfl) | exact .assign _ | exact .binOp _ _ _ _ _ rfl | exact .indexAddr _ _ _ | exact .len _ _ (by kernel_rfl) | exact .field _ _ _ | exact .extract _ _ | exact .pick _ _ _ | exact .build _ _ | exact .slice _ _ _ _ _ | exact .unOp _ _ _ rfl | exact .index _ _ _ | exact .max _ _ _ rfl rfl | exact .min _ _ _ rfl rfl)) | ((with_reducible refine Calmly.is_gl ?_); refine Calmly.mix_gl rfl rfl rfl ?_; first | ((first | with_reducible refine Calmly.gl_tt ?_ (fun _ _ => ?_) | with_reducible refine Calmly.gl_ff ?_ (fun _ _ => ?_)); (first | exact .move _ | exact .load _ _ | exact .fieldAddr _ _ _ (by kernel_rfl) | exact .assign _ | exact .binOp _ _ _ _ _ rfl | exact .indexAddr _ _ _ | exact .len _ _ (by kernel_rfl) | exact .field _ _ _ | exact .extract _ _ | exact .pick _ _ _ | exact .build _ _ | exact .slice _ _ _ _ _ | exact .unOp _ _ _ rfl | exact .index _ _ _ | exact .max _ _ _ rfl rfl | exact .min _ _ _ rfl rfl)) | with_reducible refine Calmly.gl_tf (fun _ _ => ?_) | with_reducible refine Calmly.gl_ft (fun _ _ => ?_)) | ((with_reducible refine Calmly.is_eff ?_); refine Calmly.mix_eff rfl (fun _ _ => ?_)) | ((with_reducible refine Calmly.is_gf ?_); refine Calmly.mix_gf rfl rfl rfl ?_; first | with_reducible refine Calmly.gf_tt (fun _ _ => ?_) | with_reducible refine Calmly.gf_ff (fun _ _ => ?_) | with_reducible refine Calmly.gf_tf (kept_of hk) (fun _ _ => ?_) | with_reducible refine Calmly.gf_ft (kept_of hk) (fun _ _ => ?_)) | ((with_reducible refine Calmly.is_tail ?_); first | refine Calmly.mix_tail_nil ?_ | refine Calmly.mix_tail rfl (fun _ _ => ?_)) | ((with_reducible refine Calmly.is_kept ?_); refine ⟨kept_of hk, ?_⟩) | (with_reducible refine Calmly.mix_alt ?_ ?_) | (go_at_call 93; refine (HW2.out _).mono ?_; rintro e w' ⟨rfl, rfl⟩))
  exact bodyPost_ret (v := .tuple #[.int .i64 0, .int .i64 2]) (by simp [results, Try.results27, go_sem]) rfl ⟨rfl, BW.drew⟩
end Go.Proofs.Ytmaidjankakppaa
