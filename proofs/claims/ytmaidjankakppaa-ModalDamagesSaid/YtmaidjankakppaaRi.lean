/- Contracts of the reference's counts. -/
import Derived.Test.YtmaidjankakppaaRh
namespace Go.Proofs.Ytmaidjankakppaa
open Go.RowKit Go.Wides
open Calmly (Kept)

set_option maxRecDepth 100000 in
set_option maxHeartbeats 2000000 in
theorem rBelow_any (a b : Option Addr) (n c m d : Nat) (ms ks : List Int) (s1 : Int) (a1 : Option Addr) (n1 c1 : Nat) (s2 : Int) (a2 : Option Addr) (n2 c2 : Nat) (q : Rat) (w : World) (h1 : SI w a n c ms) (h2 : SI w b m d ks) (hf : Fr ms ks)
    (h : RatV w s1 a1 n1 c1 s2 a2 n2 c2 q) (hl1 : n1 ≤ 7) (hl2 : n2 ≤ 7) :
    Calls Try.prog 41 #[.agg #[.slice a n c, .slice b m d], .agg #[.int .i64 s1, .slice a1 n1 c1, .int .i64 s2, .slice a2 n2 c2]] w fun e w' => e = .returned (.int .i64 (belowQ ms ks q ms.length).1) ∧ Below w.heap.size w w' := by
  have hb2 : Below w.heap.size w ((w.alloc (.cells #[.slice a n c, .slice b m d] 24)).alloc (.cells #[.int .i64 s1, .slice a1 n1 c1, .int .i64 s2, .slice a2 n2 c2] 72)) := ((Below.refl _ _).alloc (Nat.le_refl _) _).alloc (by simp) _
  obtain ⟨l1, l2⟩ : n ≤ ms.length ∧ ms.length ≤ n := by have := h1.len; omega
  obtain ⟨l5, l6⟩ : 0 < n ∧ n ≤ 4 := by have := hf.pos; have := hf.few; omega
  have hL : ms.length = n := by omega
  have HL := Lib.hid hL
  clear hL
  go_enter Try.func41, Try.ntmps41
  go_wp2_with fail
  refine (Determinants_any a b n c m d ms ks s1 a1 n1 c1 s2 a2 n2 c2 q _ (h1.keep hb2) (h2.keep hb2) hf (h.keep hb2) hl1 hl2).mono ?_
  rintro e w1 ⟨a', c', B, rfl, R1, hs⟩
  have B1 := hb2.trans (hs.mono hb2.size)
  clear hs hb2
  go_wp2_with fail
  go_loopw [6, 7, 8] (fun x y i wr => ∃ k : Nat, k ≤ n ∧ i = .int .i64 ((k + 1 : Nat) : Int) ∧ x = .int .i64 (belowQ ms ks q k).1 ∧ y = .int .i64 (belowQ ms ks q k).2 ∧ RowQ wr B a' (n + 1) c' 20000 (dQs ms ks q n) ∧ Below w.heap.size w wr) (fun _ _ i _ => n + 1 - (intOf i).toNat)
  case atStart => exact ⟨0, by omega, rfl, rfl, rfl, R1, B1⟩
  case round =>
    obtain ⟨k, hk, rfl, rfl, rfl, hrow, hbel⟩ := hrel
    by_cases hlt : k < n
    · have hi : ((k + 1 : Nat) : Int) < ((n + 1 : Nat) : Int) := by omega
      have hi0 : (0 : Int) ≤ ((k + 1 : Nat) : Int) := by omega
      obtain ⟨br, off, gs1, ga1, gn1, gc1, gs2, ga2, gn2, gc2, rfl, g0, g1, g2, g3, gl1, gl2, gR⟩ := hrow.at_ (k + 1) (by omega)
      rw [dQs_get _ _ _ _ _ (by omega)] at gR
      have glt := cell_lt g0
      have hbd := belowQ_bd ms ks q k
      have hst := belowQ_succ ms ks q k
      obtain ⟨P, hP⟩ : ∃ P, belowQ ms ks q k = P := ⟨_, rfl⟩
      rw [hP] at hst hbd ⊢
      clear hP
      obtain ⟨cc, sg⟩ := P
      dsimp only at hbd hst ⊢
      have HST := Lib.hid hst
      clear hst
      have hjt : ((k + 1 : Nat) : Int).toNat = k + 1 := rfl
      go_wp2_with fail
      refine (RatioSign_any gs1 ga1 gn1 gc1 gs2 ga2 gn2 gc2 _ _ gR).mono ?_
      rintro e w' ⟨rfl, hs⟩
      have hbel' := hbel.trans (hs.mono hbel.size)
      have hrow' := hrow.keep hs
      clear hs g0 g1 g2 g3 gR hrow hbel
      obtain ⟨own, hown⟩ : ∃ x, (dQ ms ks q (k + 1)).2.num.sign = x := ⟨_, rfl⟩
      rw [hown] at HST ⊢
      clear hown
      by_cases h0 : own = 0
      · have h01 : (own != 0) = false := by simp [h0]
        replace HST := HST.out
        rw [if_neg (fun h => h.1 h0)] at HST
        replace HST := Lib.hid HST
        clear h0
        go_wp2_with fail
        go_roundw
        case rel => exact ⟨k + 1, by omega, by go_num, by rw [HST.out], by rw [HST.out], hrow', hbel'⟩
        case measure => simp [intOf]; omega
      · have h01 : (own != 0) = true := by simpa using h0
        by_cases h3 : own = sg
        · have h02 : (own != sg) = false := by simp [h3]
          replace HST := HST.out
          rw [if_neg (fun h => h.2 h3)] at HST
          replace HST := Lib.hid HST
          have H3 := Lib.hid h3
          clear h0 h3
          go_wp2_with fail
          go_roundw
          case rel => exact ⟨k + 1, by omega, by go_num, by rw [HST.out], by rw [HST.out, H3.out], hrow', hbel'⟩
          case measure => simp [intOf]; omega
        · have h02 : (own != sg) = true := by simpa using h3
          replace HST := HST.out
          rw [if_pos ⟨h0, h3⟩] at HST
          replace HST := Lib.hid HST
          clear h0 h3
          go_wp2_with fail
          go_roundw
          case rel => exact ⟨k + 1, by omega, by go_num, by rw [HST.out], by rw [HST.out], hrow', hbel'⟩
          case measure => simp [intOf]; omega
    · have hle : ((n + 1 : Nat) : Int) ≤ ((k + 1 : Nat) : Int) := by omega
      obtain rfl : k = n := by omega
      go_wp2_with fail
      go_ret
      exact ⟨ret_int (by rw [HL.out]), hbel⟩

set_option maxRecDepth 100000 in
set_option maxHeartbeats 2000000 in
theorem rIsMode_any (a b : Option Addr) (n c m d : Nat) (ms ks : List Int) (s1 : Int) (a1 : Option Addr) (n1 c1 : Nat) (s2 : Int) (a2 : Option Addr) (n2 c2 : Nat) (q : Rat) (w : World) (h1 : SI w a n c ms) (h2 : SI w b m d ks) (hf : Fr ms ks)
    (h : RatV w s1 a1 n1 c1 s2 a2 n2 c2 q) (hl1 : n1 ≤ 7) (hl2 : n2 ≤ 7) :
    Calls Try.prog 42 #[.agg #[.slice a n c, .slice b m d], .agg #[.int .i64 s1, .slice a1 n1 c1, .int .i64 s2, .slice a2 n2 c2]] w fun e w' => e = .returned (.bool ((dQ ms ks q ms.length).2.num.sign == 0)) ∧ Below w.heap.size w w' := by
  have hb2 : Below w.heap.size w ((w.alloc (.cells #[.slice a n c, .slice b m d] 24)).alloc (.cells #[.int .i64 s1, .slice a1 n1 c1, .int .i64 s2, .slice a2 n2 c2] 72)) := ((Below.refl _ _).alloc (Nat.le_refl _) _).alloc (by simp) _
  obtain ⟨l1, l2⟩ : n ≤ ms.length ∧ ms.length ≤ n := by have := h1.len; omega
  obtain ⟨l5, l6⟩ : 0 < n ∧ n ≤ 4 := by have := hf.pos; have := hf.few; omega
  have hL : ms.length = n := by omega
  have HL := Lib.hid hL
  clear hL
  rw [HL.out]
  go_enter Try.func42, Try.ntmps42
  go_wp2_with fail
  refine (Determinants_any a b n c m d ms ks s1 a1 n1 c1 s2 a2 n2 c2 q _ (h1.keep hb2) (h2.keep hb2) hf (h.keep hb2) hl1 hl2).mono ?_
  rintro e w1 ⟨a', c', B, rfl, R1, hs⟩
  have B1 := hb2.trans (hs.mono hb2.size)
  clear hs hb2
  obtain ⟨br, off, gs1, ga1, gn1, gc1, gs2, ga2, gn2, gc2, rfl, g0, g1, g2, g3, gl1, gl2, gR⟩ := R1.at_ n (by omega)
  rw [dQs_get _ _ _ _ _ (by omega)] at gR
  have glt := cell_lt g0
  have hi : (n : Int) < ((n + 1 : Nat) : Int) := by omega
  have hi0 : (0 : Int) ≤ (n : Int) := by omega
  have hj : ((n + 1 : Nat) : Int) - 1 = (n : Int) := by omega
  have hj2 : (n : Int) + 1 - 1 = (n : Int) := by omega
  clear l1 l2
  go_wp2_with fail
  refine (RatioSign_any gs1 ga1 gn1 gc1 gs2 ga2 gn2 gc2 _ _ gR).mono ?_
  rintro e w' ⟨rfl, hs⟩
  go_wp2_with fail
  go_ret
  exact ⟨rfl, B1.trans (hs.mono B1.size)⟩

set_option maxRecDepth 100000 in
set_option maxHeartbeats 4000000 in
theorem rEnclosure_any (a b : Option Addr) (m c d : Nat) (ms ks : List Int) (mode den : Int) (w : World) (h1 : SI w a m c ms) (h2 : SI w b m d ks) (he : (checkF ms ks).2 = 0) (hd1 : 1 ≤ den) (hd2 : den ≤ 50) (hm0 : 0 ≤ mode) (hm1 : mode < ms.length) :
    Calls Try.prog 45 #[.agg #[.slice a m c, .slice b m d], .int .i64 mode, .int .i64 den] w fun e w' => e = .returned (.agg #[.int .i64 (encF ms ks mode den).1, .int .i64 (encF ms ks mode den).2]) ∧ Below w.heap.size w w' := by
  have hf := fr_of he
  have hb2 : Below w.heap.size w ((w.alloc (.cells #[.slice a m c, .slice b m d] 24)).alloc (.cells #[.int .i64 0, .int .i64 0] 63)) := ((Below.refl _ _).alloc (Nat.le_refl _) _).alloc (by simp) _
  go_enter Try.func45, Try.ntmps45
  go_wp2_with fail
  refine wp_gen (fun v => Below w.heap.size w v ∧ v.heap[w.heap.size]? = some (.cells #[.slice a m c, .slice b m d] 24) ∧ v.heap[w.heap.size + 1]? = some (.cells #[.int .i64 0, .int .i64 0] 63)) ⟨hb2, box2 (Below.refl _ _)⟩ ?_
  clear hb2
  rintro v ⟨hbv, hx, hy⟩
  have hz := below_zero hf (num := 0) (den := den) (by omega) (Int.le_refl 0)
  obtain ⟨j1, j2, j3, j4⟩ := encLo_ok hf (mode := mode) (den := den) (by omega) hd2 hm0 hm1
  have J3 := Lib.hid j3
  have J4 := Lib.hid j4
  clear j3 j4
  go_loopw [7, 8] (fun x y wr => ∃ (lo hi : Int), x = .int .i64 lo ∧ y = .int .i64 hi ∧ 0 ≤ lo ∧ lo < hi ∧ hi ≤ 80 * den + 1 ∧ Hid (belowF ms ks lo den ≤ mode) ∧ Hid (mode < belowF ms ks hi den) ∧ Below (w.heap.size + 2) v wr) (fun x y _ => (intOf y - intOf x).toNat)
  case atStart => exact ⟨0, 80 * den + 1, rfl, rfl, by omega, by omega, by omega, Lib.hid (by omega), Lib.hid (J4.out _ (by omega)), Below.refl _ _⟩
  case round =>
    obtain ⟨lo, hi, rfl, rfl, i1, i2, i3, I4, I5, hbr⟩ := hrel
    have hsz := blk_lt hy
    have hsr := hbr.size
    have hbw := hbv.trans (hbr.mono (by omega))
    have hx' : wr.heap[w.heap.size]? = some (.cells #[.slice a m c, .slice b m d] 24) := (hbr.block _ (by omega)).trans hx
    have hy' : wr.heap[w.heap.size + 1]? = some (.cells #[.int .i64 0, .int .i64 0] 63) := (hbr.block _ (by omega)).trans hy
    have f0 : wr.cell? ⟨w.heap.size, 0, none⟩ = some (.slice a m c) := cell_block hx' 0
    have f1 : wr.cell? ⟨w.heap.size, 1, none⟩ = some (.slice b m d) := cell_block hx' 1
    by_cases hlt : 1 < hi - lo
    · go_wp2_with fail
      refine Calmly.wp_region_mix 6 (.fl 0 <| .fl 1 <| .fl 2 <| .fl 5 <| .eff 3 <| .eff 4 <| .tail [6]) (by kernel_rfl) (by kernel_rfl) ?_
      replace hbr := hbr.drew
      replace hbw := hbw.drew
      have g0 : wr.drew.cell? ⟨w.heap.size, 0, none⟩ = some (.slice a m c) := f0
      have g1 : wr.drew.cell? ⟨w.heap.size, 1, none⟩ = some (.slice b m d) := f1
      clear f0 f1 hx' hy'
      have hk := Below.refl wr.drew.heap.size wr.drew
      go_wp2_with (first | ((with_reducible refine Calmly.is_fl ?_); refine Calmly.mix_fl rfl ?_ (fun _ _ => ?_); (first | exact .move _ | exact .load _ _ | exact .fieldAddr _ _ _ (by kernel_rfl) | exact .assign _ | exact .binOp _ _ _ _ _ rfl | exact .indexAddr _ _ _ | exact .len _ _ (by kernel_rfl) | exact .field _ _ _ | exact .extract _ _ | exact .pick _ _ _ | exact .build _ _ | exact .slice _ _ _ _ _ | exact .unOp _ _ _ rfl | exact .index _ _ _ | exact .max _ _ _ rfl rfl | exact .min _ _ _ rfl rfl)) | ((with_reducible refine Calmly.is_gl ?_); refine Calmly.mix_gl rfl rfl rfl ?_; first | ((first | with_reducible refine Calmly.gl_tt ?_ (fun _ _ => ?_) | with_reducible refine Calmly.gl_ff ?_ (fun _ _ => ?_)); (first | exact .move _ | exact .load _ _ | exact .fieldAddr _ _ _ (by kernel_rfl) | exact .assign _ | exact .binOp _ _ _ _ _ rfl | exact .indexAddr _ _ _ | exact .len _ _ (by kernel_rfl) | exact .field _ _ _ | exact .extract _ _ | exact .pick _ _ _ | exact .build _ _ | exact .slice _ _ _ _ _ | exact .unOp _ _ _ rfl | exact .index _ _ _ | exact .max _ _ _ rfl rfl | exact .min _ _ _ rfl rfl)) | with_reducible refine Calmly.gl_tf (fun _ _ => ?_) | with_reducible refine Calmly.gl_ft (fun _ _ => ?_)) | ((with_reducible refine Calmly.is_eff ?_); refine Calmly.mix_eff rfl (fun _ _ => ?_)) | ((with_reducible refine Calmly.is_gf ?_); refine Calmly.mix_gf rfl rfl rfl ?_; first | with_reducible refine Calmly.gf_tt (fun _ _ => ?_) | with_reducible refine Calmly.gf_ff (fun _ _ => ?_) | with_reducible refine Calmly.gf_tf (kept_of hk) (fun _ _ => ?_) | with_reducible refine Calmly.gf_ft (kept_of hk) (fun _ _ => ?_)) | ((with_reducible refine Calmly.is_tail ?_); first | refine Calmly.mix_tail_nil ?_ | refine Calmly.mix_tail rfl (fun _ _ => ?_)) | ((with_reducible refine Calmly.is_kept ?_); refine ⟨kept_of hk, ?_⟩) | (with_reducible refine Calmly.mix_alt ?_ ?_) | (go_at_call 86; refine (RatioOf_any _ _ _ (by omega) (by omega) (by omega) (by omega) (by omega)).mono ?_; rintro e w5 ⟨⟨gs, ga, gn, gc, gs', ga', gn', gc', rfl, gh, gh', gV⟩, hs⟩; replace hk := step_of hk hs; clear hs) | (go_at_call 41; refine (rBelow_any a b m c m d ms ks _ _ _ _ _ _ _ _ _ _ ((h1.keep hbw).keep hk) ((h2.keep hbw).keep hk) hf gV gh gh').mono ?_; rintro e w6 ⟨rfl, hs⟩; rw [belowQ_F _ _ _ _ (by omega)]; replace hk := step_of hk hs; clear hs))
      all_goals have hbr6 := hbr.trans (hk.mono (show w.heap.size + 2 ≤ wr.drew.heap.size by have := hbr.size; omega))
      · refine ⟨⟨(lo + hi) / 2, hi, rfl, rfl, by omega, by omega, by omega, Lib.hid (by assumption), I5, hbr6⟩, ?_⟩
        simp only [intOf]
        omega
      · refine ⟨⟨lo, (lo + hi) / 2, rfl, rfl, by omega, by omega, by omega, I4, Lib.hid (by assumption), hbr6⟩, ?_⟩
        simp only [intOf]
        omega
    · have h1' : hi - lo ≤ 1 := by omega
      have hlo : lo = encLo ms ks mode den := by
        rcases Int.lt_trichotomy lo (encLo ms ks mode den) with h4 | h4 | h4
        · have h5 := below_mono hf (num := hi) (num' := encLo ms ks mode den) (show 0 < den by omega) (show 0 < den by omega) (Int.mul_le_mul_of_nonneg_right (by omega) (by omega))
          have := I5.out
          have := J3.out
          omega
        · exact h4
        · have := J4.out lo h4
          have := I4.out
          omega
      subst hlo
      go_wp2_with fail
      refine (RatioOf_any _ _ _ (by omega) (by omega) (by omega) (by omega) (by omega)).mono ?_
      rintro e w5 ⟨⟨gs, ga, gn, gc, gs', ga', gn', gc', rfl, gh, gh', gV⟩, hs⟩
      have hbw5 := hbw.trans (hs.mono hbw.size)
      have hx5 := blk_keep hx' hs
      have hy5 := blk_keep hy' hs
      clear f0 f1 hs hx' hy' hbr hbw
      have hA : Below w5.heap.size w5 (w5.alloc (.cells #[.int .i64 gs, .slice ga gn gc, .int .i64 gs', .slice ga' gn' gc'] 72)) := (Below.refl _ _).alloc (Nat.le_refl _) _
      have X1 := blk_keep hx5 hA
      have X2 := blk_keep hy5 hA
      have X3 := alloc_new w5 (.cells #[.int .i64 gs, .slice ga gn gc, .int .i64 gs', .slice ga' gn' gc'] 72)
      have hbw6 := hbw5.trans (hA.mono hbw5.size)
      have gV6 := gV.keep hA
      have z0 := cell_block X1 0
      have z1 := cell_block X1 1
      have z2 := cell_block X3 0
      have z3 := cell_block X3 1
      have z4 := cell_block X3 2
      have z5 := cell_block X3 3
      clear hA hx5 hy5 gV hbw5
      have hlt5 : w.heap.size < w5.heap.size + 1 := by have := blk_lt X1; simpa using this
      go_wp2_with fail
      refine (rIsMode_any a b m c m d ms ks _ _ _ _ _ _ _ _ _ _ (h1.keep hbw6) (h2.keep hbw6) hf gV6 gh gh').mono ?_
      rintro e w7 ⟨rfl, hs⟩
      rw [modeQ_F hf _ _ (by omega)]
      replace X1 := blk_keep X1 hs
      replace X2 := blk_keep X2 hs
      replace X3 := blk_keep X3 hs
      replace hbw6 := hbw6.trans (hs.mono hbw6.size)
      replace gV6 := gV6.keep hs
      clear z0 z1 z2 z3 z4 z5 hs hlt5
      have z0 := cell_block X1 0
      have z1 := cell_block X1 1
      have z2 := cell_block X3 0
      have z3 := cell_block X3 1
      have z4 := cell_block X3 2
      have z5 := cell_block X3 3
      cases hm : modeF ms ks (encLo ms ks mode den) den
      · have hr : encF ms ks mode den = (encLo ms ks mode den, encLo ms ks mode den + 1) := by
          unfold encF
          rw [if_neg (fun h => by rw [hm] at h; cases h.1)]
        have HR := Lib.hid hr
        clear hr hm
        have g0 := cell_block X2 0
        have g1 := cell_block X2 1
        have g2 := frozen_block X2 0
        have g3 := frozen_block X2 1
        obtain ⟨s1, s2, s3, s4⟩ := set2 (x := .int .i64 (encLo ms ks mode den)) (y := .int .i64 (encLo ms ks mode den + 1)) g0 g1
        go_wp2_with fail
        refine bodyPost_ret (v := .agg #[.int .i64 (encLo ms ks mode den), .int .i64 (encLo ms ks mode den + 1)]) (by simp [results, Try.results45, go_sem, s1, s2]) rfl ⟨by rw [HR.out], below2 hbw6 (by omega)⟩
      · go_wp2_with fail
        refine (rBelow_any a b m c m d ms ks _ _ _ _ _ _ _ _ _ _ (h1.keep hbw6) (h2.keep hbw6) hf gV6 gh gh').mono ?_
        rintro e w8 ⟨rfl, hs⟩
        rw [belowQ_F _ _ _ _ (by omega)]
        replace X2 := blk_keep X2 hs
        replace hbw6 := hbw6.trans (hs.mono hbw6.size)
        clear z0 z1 z2 z3 z4 z5 hs X1 X3 gV6
        have g0 := cell_block X2 0
        have g1 := cell_block X2 1
        have g2 := frozen_block X2 0
        have g3 := frozen_block X2 1
        obtain ⟨B, hB⟩ : ∃ B, belowF ms ks (encLo ms ks mode den) den = B := ⟨_, rfl⟩
        rw [hB]
        by_cases hc : B = mode
        · have hc1 : (B == mode) = true := by simp [hc]
          have hr : encF ms ks mode den = (encLo ms ks mode den, encLo ms ks mode den) := by
            unfold encF
            rw [if_pos ⟨hm, hB.trans hc⟩]
          have HR := Lib.hid hr
          clear hc hr hm hB
          obtain ⟨s1, s2, s3, s4⟩ := set2 (x := .int .i64 (encLo ms ks mode den)) (y := .int .i64 (encLo ms ks mode den)) g0 g1
          go_wp2_with fail
          refine bodyPost_ret (v := .agg #[.int .i64 (encLo ms ks mode den), .int .i64 (encLo ms ks mode den)]) (by simp [results, Try.results45, go_sem, s1, s2]) rfl ⟨by rw [HR.out], below2 hbw6 (by omega)⟩
        · have hc1 : (B == mode) = false := by simp [hc]
          have hr : encF ms ks mode den = (encLo ms ks mode den, encLo ms ks mode den + 1) := by
            unfold encF
            rw [if_neg (fun h => hc (hB.symm.trans h.2))]
          have HR := Lib.hid hr
          clear hc hr hm hB
          obtain ⟨s1, s2, s3, s4⟩ := set2 (x := .int .i64 (encLo ms ks mode den)) (y := .int .i64 (encLo ms ks mode den + 1)) g0 g1
          go_wp2_with fail
          refine bodyPost_ret (v := .agg #[.int .i64 (encLo ms ks mode den), .int .i64 (encLo ms ks mode den + 1)]) (by simp [results, Try.results45, go_sem, s1, s2]) rfl ⟨by rw [HR.out], below2 hbw6 (by omega)⟩

set_option maxHeartbeats 400000 in
theorem lawBoth_any (x y : Int) (w : World) :
    Calls Try.prog 39 #[.int .i64 x, .int .i64 y] w fun e w' => e = .returned (.int .i64 (if x = 0 then y else x)) ∧ w = w' := by
  by_cases h : x = 0
  · have h1 : (x != 0) = false := by simp [h]
    rw [if_pos h]
    clear h
    go_enter Try.func39, Try.ntmps39
    go_wp2_with fail
    go_ret
    exact ⟨rfl, rfl⟩
  · have h1 : (x != 0) = true := by simpa using h
    rw [if_neg h]
    clear h
    go_enter Try.func39, Try.ntmps39
    go_wp2_with fail
    go_ret
    exact ⟨rfl, rfl⟩

set_option maxHeartbeats 400000 in
theorem lawIsMode_any (a b : Option Addr) (n c m d : Nat) (i : Int) (w : World) (hn : n ≤ 1099511627776) :
    Calls Try.prog 43 #[.agg #[.slice a n c, .slice b m d], .int .i64 i] w fun e w' => e = .returned (.bool (wIn i 0 ((n : Int) - 1))) ∧ Below w.heap.size w w' := by
  have hb : ∀ o, Below w.heap.size w (w.alloc o) := fun o => (Below.refl _ _).alloc (Nat.le_refl _) _
  go_enter Try.func43, Try.ntmps43
  go_wp2_with fail
  refine (within_any _ _ _ _).mono ?_
  rintro e w1 ⟨rfl, rfl⟩
  go_wp2_with fail
  go_ret
  exact ⟨rfl, hb _⟩
end Go.Proofs.Ytmaidjankakppaa
