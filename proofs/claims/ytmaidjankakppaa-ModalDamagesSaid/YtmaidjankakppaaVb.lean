/- Contracts of chapter 6: damages (their errors, the frame with one, whether one is accepted), copies of squares after a run. -/
import Derived.Test.YtmaidjankakppaaEc
import Derived.Test.YtmaidjankakppaaGe
import Derived.Test.YtmaidjankakppaaSd
namespace Go.Proofs.Ytmaidjankakppaa
open Go.RowKit
open Calmly (Kept)

/-- The error of a damage. -/
def damageE (ks : List Int) (st left : Int) : Int := if wIn st 0 ((ks.length : Int) - 1) = true then (if wIn left 1 (ks[st.toNat]?.getD 0) = true then 0 else 2) else 6
theorem damageE_ok {ks : List Int} {st left : Int} (h : damageE ks st left = 0) : 0 ≤ st ∧ st < ks.length ∧ 1 ≤ left ∧ left ≤ ks[st.toNat]?.getD 0 := by
  unfold damageE at h
  split at h
  · split at h
    · rename_i h1 h2
      simp only [wIn, Bool.and_eq_true, decide_eq_true_eq] at h1 h2
      omega
    · cases h
  · cases h

set_option maxRecDepth 100000 in
set_option maxHeartbeats 1000000 in
theorem DamageErr_any (a b : Option Addr) (n c m d : Nat) (ms ks : List Int) (st left : Int) (w : World) (h1 : SI w a n c ms) (h2 : SI w b m d ks) (E : Int) (hE : damageE ks st left = E) :
    Calls Try.prog 31 #[.agg #[.slice a n c, .slice b m d], .agg #[.int .i64 st, .int .i64 left]] w fun e w' => e = .returned (.int .i64 E) ∧ Below w.heap.size w w' := by
  subst hE
  have hb2 : Below w.heap.size w ((w.alloc (.cells #[.slice a n c, .slice b m d] 24)).alloc (.cells #[.int .i64 st, .int .i64 left] 46)) := ((Below.refl _ _).alloc (Nat.le_refl _) _).alloc (by simp) _
  obtain ⟨k1, k2⟩ : m ≤ ks.length ∧ ks.length ≤ m := by have := h2.len; omega
  have m2 := h2.max
  have c2 := h2.cap
  unfold damageE
  rw [show (ks.length : Int) = (m : Int) by omega]
  cases hw : wIn st 0 ((m : Int) - 1)
  · have hW : ∀ w, Calls Try.prog 44 #[.int .i64 st, .int .i64 0, .int .i64 ((m : Int) - 1)] w fun e w' => e = .returned (.bool false) ∧ w = w' := fun w => by
      have := within_any st 0 ((m : Int) - 1) w
      rwa [hw] at this
    have HW := Lib.hid hW
    clear hW hw
    go_enter Try.func31, Try.ntmps31
    go_wp2_with fail
    refine (HW.out _).mono ?_
    rintro e w' ⟨rfl, rfl⟩
    go_wp2_with fail
    go_ret
    exact ⟨rfl, hb2⟩
  · have hW : ∀ w, Calls Try.prog 44 #[.int .i64 st, .int .i64 0, .int .i64 ((m : Int) - 1)] w fun e w' => e = .returned (.bool true) ∧ w = w' := fun w => by
      have := within_any st 0 ((m : Int) - 1) w
      rwa [hw] at this
    simp only [wIn, Bool.and_eq_true, decide_eq_true_eq] at hw
    obtain ⟨s, rfl⟩ : ∃ s : Nat, st = s := ⟨st.toNat, by omega⟩
    obtain ⟨hw1, hw2⟩ := hw
    have hs : (s : Int) < (m : Int) := by omega
    obtain ⟨b1, o1, rfl, hc⟩ := h2.at_ (by omega)
    have e1 := cell_keep (hc s (by omega)) hb2
    clear hc
    rw [Int.toNat_natCast]
    obtain ⟨k, hk⟩ : ∃ k, ks[s]?.getD 0 = k := ⟨_, rfl⟩
    rw [hk] at e1 ⊢
    clear hk
    obtain ⟨B, hB⟩ : ∃ B, wIn left 1 k = B := ⟨_, rfl⟩
    have hW2 : ∀ w, Calls Try.prog 44 #[.int .i64 left, .int .i64 1, .int .i64 k] w fun e w' => e = .returned (.bool B) ∧ w = w' := fun w => by
      have := within_any left 1 k w
      rwa [hB] at this
    have HW := Lib.hid hW
    have HW2 := Lib.hid hW2
    rw [hB]
    clear hW hW2 hB
    cases B
    all_goals
      go_enter Try.func31, Try.ntmps31
      go_wp2_with fail
      refine (HW.out _).mono ?_
      rintro e w' ⟨rfl, rfl⟩
      go_wp2_with fail
      refine Calmly.wp_region_mix 9 (.fl 0 <| .fl 1 <| .fl 2 <| .fl 3 <| .fl 4 <| .fl 5 <| .fl 6 <| .fl 7 <| .eff 8 <| .tail [9]) (by kernel_rfl) (by kernel_rfl) ?_
      have hk := Below.refl ((w.alloc (.cells #[.slice a n c, .slice (some ⟨b1, o1, none⟩) m d] 24)).alloc (.cells #[.int .i64 s, .int .i64 left] 46)).drew.heap.size ((w.alloc (.cells #[.slice a n c, .slice (some ⟨b1, o1, none⟩) m d] 24)).alloc (.cells #[.int .i64 s, .int .i64 left] 46)).drew
      go_wp2_with (first | ((with_reducible refine Calmly.is_fl ?_); refine Calmly.mix_fl rfl ?_ (fun _ _ => ?_); (first | exact .move _ | exact .load _ _ | exact .fieldAddr _ _ _ (by kernel_rfl) | exact .assign _ | exact .binOp _ _ _ _ _ rfl | exact .indexAddr _ _ _ | exact .len _ _ (by kernel_rfl) | exact .field _ _ _ | exact .extract _ _ | exact .pick _ _ _ | exact .build _ _ | exact .slice _ _ _ _ _ | exact .unOp _ _ _ rfl | exact .index _ _ _ | exact .max _ _ _ rfl rfl | exact .min _ _ _ rfl rfl)) | ((with_reducible refine Calmly.is_gl ?_); refine Calmly.mix_gl rfl rfl rfl ?_; first | ((first | with_reducible refine Calmly.gl_tt ?_ (fun _ _ => ?_) | with_reducible refine Calmly.gl_ff ?_ (fun _ _ => ?_)); (first | exact .move _ | exact .load _ _ | exact .fieldAddr _ _ _ (by kernel_rfl) | exact .assign _ | exact .binOp _ _ _ _ _ rfl | exact .indexAddr _ _ _ | exact .len _ _ (by kernel_rfl) | exact .field _ _ _ | exact .extract _ _ | exact .pick _ _ _ | exact .build _ _ | exact .slice _ _ _ _ _ | exact .unOp _ _ _ rfl | exact .index _ _ _ | exact .max _ _ _ rfl rfl | exact .min _ _ _ rfl rfl)) | with_reducible refine Calmly.gl_tf (fun _ _ => ?_) | with_reducible refine Calmly.gl_ft (fun _ _ => ?_)) | ((with_reducible refine Calmly.is_eff ?_); refine Calmly.mix_eff rfl (fun _ _ => ?_)) | ((with_reducible refine Calmly.is_gf ?_); refine Calmly.mix_gf rfl rfl rfl ?_; first | with_reducible refine Calmly.gf_tt (fun _ _ => ?_) | with_reducible refine Calmly.gf_ff (fun _ _ => ?_) | with_reducible refine Calmly.gf_tf (kept_of hk) (fun _ _ => ?_) | with_reducible refine Calmly.gf_ft (kept_of hk) (fun _ _ => ?_)) | ((with_reducible refine Calmly.is_tail ?_); first | refine Calmly.mix_tail_nil ?_ | refine Calmly.mix_tail rfl (fun _ _ => ?_)) | ((with_reducible refine Calmly.is_kept ?_); refine ⟨kept_of hk, ?_⟩) | (with_reducible refine Calmly.mix_alt ?_ ?_) | (go_at_call 44; refine (HW2.out _).mono ?_; rintro e w' ⟨rfl, rfl⟩))
      go_ret
      exact ⟨rfl, hb2.drew⟩

set_option maxRecDepth 100000 in
set_option maxHeartbeats 2000000 in
theorem With_any (a b : Option Addr) (n c m d : Nat) (ms ks : List Int) (s : Nat) (left : Int) (w : World) (h1 : SI w a n c ms) (h2 : SI w b m d ks) (hs : s < m) (hn0 : 0 < n) (hn : n ≤ 1099511627776) (hm : m ≤ 1099511627776) :
    Calls Try.prog 33 #[.agg #[.slice a n c, .slice b m d], .agg #[.int .i64 s, .int .i64 left]] w fun e w' => ∃ a' c' b' d', e = .returned (.agg #[.slice a' n c', .slice b' m d']) ∧ SI w' a' n c' ms ∧ SI w' b' m d' (ks.set s left) ∧ Below w.heap.size w w' := by
  have hA : ∀ (A : World) (o : Obj), Below A.heap.size A (A.alloc o) := fun A o => (Below.refl _ _).alloc (Nat.le_refl _) _
  have hb3 : Below w.heap.size w (((w.alloc (.cells #[.slice a n c, .slice b m d] 24)).alloc (.cells #[.int .i64 s, .int .i64 left] 46)).alloc (.cells #[.slice none 0 0, .slice none 0 0] 24)) := (((Below.refl _ _).alloc (Nat.le_refl _) _).alloc (by simp) _).alloc (by simp; omega) _
  go_enter Try.func33, Try.ntmps33
  go_wp2_with fail
  refine (Copy_any a b n c m d ms ks _ (h1.keep hb3) (h2.keep hb3) hn hm).mono ?_
  rintro e w1 ⟨a', c', b', d', B, rfl, o1, o2, hB1, hB2, hb1⟩
  obtain ⟨x1, x2, x3⟩ := box3 (w := w) (o := .cells #[.slice a n c, .slice b m d] 24) (o' := .cells #[.int .i64 s, .int .i64 left] 46) (o'' := .cells #[.slice none 0 0, .slice none 0 0] 24) hb1
  have hsz := hb1.size
  simp only [World.size_alloc] at hsz hB1
  have BW := hb3.trans (hb1.mono hb3.size)
  obtain ⟨g, rfl, hg1, hg2⟩ := o2.at_ (by omega)
  have hb4 := hA w1 (.cells #[.slice a' n c', .slice (some ⟨g, 0, none⟩) m d'] 24)
  have y1 := alloc_new w1 (.cells #[.slice a' n c', .slice (some ⟨g, 0, none⟩) m d'] 24)
  replace x2 := blk_keep x2 hb4
  replace x3 := blk_keep x3 hb4
  replace o1 := o1.keep hb4
  replace o2 := o2.keep hb4
  replace BW := BW.trans (hb4.mono BW.size)
  have hg3 : w.heap.size + 1 + 1 + 1 ≤ g := by omega
  obtain ⟨g', rfl, hg4, hg'⟩ := o1.at_ hn0
  simp only [World.size_alloc] at hg4
  have hgg := hB2 _ rfl
  have hgv : g < w1.heap.size := hg2
  clear hB2 hb1 x1
  rename_i K1 hK1 K2 hK2
  have hK1' := fun a w (h : Stop _) => hK1 a w h.out
  clear hK1
  go_wp2_with fail
  refine ⟨?_⟩
  obtain ⟨b5, hb5⟩ : ∃ b5, w1.heap.size = b5 := ⟨_, rfl⟩
  rw [hb5] at y1 hgv ⊢
  clear hb5 hb4
  generalize World.alloc w1 _ = wx at x2 x3 o1 o2 y1 BW ⊢
  have f0 : wx.cell? ⟨w.heap.size + 1, 0, none⟩ = some (.int .i64 s) := cell_block x2 0
  have f1 : wx.cell? ⟨w.heap.size + 1, 1, none⟩ = some (.int .i64 left) := cell_block x2 1
  have y01 : wx.cell? ⟨b5, 1, none⟩ = some (.slice (some ⟨g, 0, none⟩) m d') := cell_block y1 1
  have oC := o2.cell s hs
  have oF := o2.free s
  obtain ⟨ost, hbs⟩ := o2.stored s left
  have y1' := blk_other' y1 (show b5 ≠ g by omega) s (.int .i64 left)
  have x3' := blk_other' x3 (show w.heap.size + 1 + 1 ≠ g by omega) s (.int .i64 left)
  have o1' := o1.other (show g ≠ g' by omega) (o := s) (.int .i64 left)
  have y10 := cell_block y1' 0
  have y11 := cell_block y1' 1
  have x30 := cell_block x3' 0
  have x31 := cell_block x3' 1
  have x32 := frozen_block x3' 0
  have x33 := frozen_block x3' 1
  obtain ⟨s0, s1, _, _⟩ := set2 (x := .slice (some ⟨g', 0, none⟩) n c') (y := .slice (some ⟨g, 0, none⟩) m d') x30 x31
  have hs1 : (s : Int) < (m : Int) := by omega
  have hs0 : (0 : Int) ≤ (s : Int) := by omega
  have hBS := (BW.trans (hbs.mono (by omega)))
  go_wp2_with fail
  refine bodyPost_ret (v := .agg #[.slice (some ⟨g', 0, none⟩) n c', .slice (some ⟨g, 0, none⟩) m d']) (by simp [results, Try.results33, go_sem, s0, s1]) rfl ⟨_, c', _, d', rfl, ?_, ?_, ?_⟩
  · exact ((o1'.other (by omega) _).other (by omega) _).si
  · exact ((ost.other (by omega) _).other (by omega) _).si
  · exact (hBS.setCell (by show _ ≤ w.heap.size + 1 + 1; omega) _).setCell (by show _ ≤ w.heap.size + 1 + 1; omega) _

set_option maxRecDepth 100000 in
set_option maxHeartbeats 2000000 in
theorem CopyAfter_any (sa : Option Addr) (sn sc : Nat) (sq : List (Int × Int)) (den : Int) (w : World) (h3 : SR w sa sn sc sq) (hn : sn ≤ 1099511627776) :
    Calls Try.prog 26 #[.agg #[.int .i64 den, .slice sa sn sc]] w fun e w' => ∃ a' c', e = .returned (.agg #[.int .i64 den, .slice a' sn c']) ∧ SR w' a' sn c' sq ∧ Below w.heap.size w w' := by
  have hb : ∀ o o', Below w.heap.size w ((w.alloc o).alloc o') := fun o o' => ((Below.refl _ _).alloc (Nat.le_refl _) _).alloc (by simp) _
  go_enter Try.func26, Try.ntmps26
  go_wp2_with fail
  refine (copyRanges_any sa sn sc sq _ (h3.keep (hb _ _)) hn).mono ?_
  rintro e w1 ⟨a', c', rfl, ho1, hb1⟩
  obtain ⟨x1, x2⟩ := box2 (w := w) (o := .cells #[.int .i64 den, .slice sa sn sc] 44) (o' := .cells #[.int .i64 0, .slice none 0 0] 44) hb1
  have hs1 := blk_lt x2
  have f0 : w1.cell? ⟨w.heap.size, 0, none⟩ = some (.int .i64 den) := cell_block x1 0
  have f1 : w1.cell? ⟨w.heap.size, 1, none⟩ = some (.slice sa sn sc) := cell_block x1 1
  have r0 := frozen_block x1 0
  have r1 := frozen_block x1 1
  have g0 : w1.cell? ⟨w.heap.size + 1, 0, none⟩ = some (.int .i64 0) := cell_block x2 0
  have g1 : w1.cell? ⟨w.heap.size + 1, 1, none⟩ = some (.slice none 0 0) := cell_block x2 1
  have g2 := frozen_block x2 0
  have g3 := frozen_block x2 1
  have hsz := hb1.size
  have hsz2 : w.heap.size + 2 ≤ ((w.alloc (.cells #[.int .i64 den, .slice sa sn sc] 44)).alloc (.cells #[.int .i64 0, .slice none 0 0] 44)).heap.size := by simp
  have q0 : (w1.setCell ⟨w.heap.size, 1, none⟩ (.slice a' sn c')).cell? ⟨w.heap.size + 1, 0, none⟩ = some (.int .i64 0) := by rw [World.cell?_setCell_other _ _ _ _ (by simp)]; exact g0
  have q1 : (w1.setCell ⟨w.heap.size, 1, none⟩ (.slice a' sn c')).cell? ⟨w.heap.size + 1, 1, none⟩ = some (.slice none 0 0) := by rw [World.cell?_setCell_other _ _ _ _ (by simp)]; exact g1
  obtain ⟨s0, s1, _, _⟩ := set2 (x := .int .i64 den) (y := .slice a' sn c') q0 q1
  have hbw := (hb (.cells #[.int .i64 den, .slice sa sn sc] 44) (.cells #[.int .i64 0, .slice none 0 0] 44)).trans (hb1.mono (by omega))
  go_wp2_with fail
  refine bodyPost_ret (v := .agg #[.int .i64 den, .slice a' sn c']) (by simp [results, Try.results26, go_sem, s0, s1]) rfl ⟨a', c', rfl, ?_, ?_⟩
  · exact (((ho1.under (by omega) _).under (by omega) _).under (by omega) _).sr
  · exact ((hbw.setCell (by simp) _).setCell (by simp) _).setCell (by simp) _
end Go.Proofs.Ytmaidjankakppaa
