/- The law ModalExplained, walked. -/
import Derived.Test.YtmaidjankakppaaVd
namespace Go.Proofs.Ytmaidjankakppaa
open Go.RowKit
open Calmly (Kept)

theorem odd_first {ms ks : List Int} {den : Int} (k : Nat) (l : List (Int × Int)) (h : (oddF ms ks den k l).2 = false) : oddF ms ks den k l = (0, false) := by
  induction l generalizing k with
  | nil => rfl
  | cons r l ih =>
    unfold oddF at h ⊢
    split
    · rename_i h1
      rw [if_pos h1] at h
      exact ih (k + 1) h
    · rename_i h1
      rw [if_neg h1] at h
      cases h
theorem kept_setS {W w : World} {b : Nat} {x y u0 u1 : Value} {t : TypeId} {G : Prop} (h : Below W.heap.size W w) (hb : W.heap.size ≤ b) (p : w.heap[b]? = some (.cells #[u0, u1] t))
    (k : Below W.heap.size W ((w.setCell ⟨b, 0, none⟩ x).setCell ⟨b, 1, none⟩ y) → ((w.setCell ⟨b, 0, none⟩ x).setCell ⟨b, 1, none⟩ y).heap[b]? = some (.cells #[x, y] t) → G) :
    Kept W ((w.setCell ⟨b, 0, none⟩ x).setCell ⟨b, 1, none⟩ y) ∧ G := by
  have h2 := (h.setCell (p := ⟨b, 0, none⟩) hb x).setCell (p := ⟨b, 1, none⟩) hb y
  exact ⟨kept_of h2, k h2 (blk_setAt (blk_setAt p 0 _) 1 _)⟩

set_option maxRecDepth 100000 in
set_option maxHeartbeats 40000000 in
theorem ModalExplained_walk (a b : Option Addr) (n c m d : Nat) (ms ks : List Int) (st left den wd : Int) (w : World) (h1 : SI w a n c ms) (h2 : SI w b m d ks) :
    Calls Try.prog 9 #[.agg #[.slice a n c, .slice b m d], .agg #[.int .i64 st, .int .i64 left], .agg #[.int .i64 den, .int .i64 wd]] w fun e w' => e = .returned (.bool true) ∧ Below w.heap.size w w' := by
  have m1 := h1.max
  have c1 := h1.cap
  have hA : ∀ (A : World) (o : Obj), Below A.heap.size A (A.alloc o) := fun A o => (Below.refl _ _).alloc (Nat.le_refl _) _
  have hb3 : Below w.heap.size w (((w.alloc (.cells #[.slice a n c, .slice b m d] 24)).alloc (.cells #[.int .i64 st, .int .i64 left] 46)).alloc (.cells #[.int .i64 den, .int .i64 wd] 58)) := (((Below.refl _ _).alloc (Nat.le_refl _) _).alloc (by simp) _).alloc (by simp; omega) _
  obtain ⟨C, hC⟩ : ∃ C, (checkF ms ks).2 = C := ⟨_, rfl⟩
  obtain ⟨D, hD⟩ : ∃ D, damageE ks st left = D := ⟨_, rfl⟩
  obtain ⟨G1, hG1⟩ : ∃ B, wIn den 1 20 = B := ⟨_, rfl⟩
  obtain ⟨G2, hG2⟩ : ∃ B, wIn wd 0 5 = B := ⟨_, rfl⟩
  have hW1 : ∀ w, Calls Try.prog 44 #[.int .i64 den, .int .i64 1, .int .i64 20] w fun e w' => e = .returned (.bool G1) ∧ w = w' := fun w => by
    have := within_any den 1 20 w
    rwa [hG1] at this
  have hW2 : ∀ w, Calls Try.prog 44 #[.int .i64 wd, .int .i64 0, .int .i64 5] w fun e w' => e = .returned (.bool G2) ∧ w = w' := fun w => by
    have := within_any wd 0 5 w
    rwa [hG2] at this
  have HW1 := Lib.hid hW1
  have HW2 := Lib.hid hW2
  have HC := Lib.hid hC
  have HD := Lib.hid hD
  have HG1 := Lib.hid hG1
  have HG2 := Lib.hid hG2
  clear hC hD hW1 hW2 hG1 hG2
  go_enter Try.func9, Try.ntmps9
  go_wp2_with fail
  refine (awake_any _).mono ?_
  rintro e w0 ⟨rfl, hb1⟩
  obtain ⟨x1, x2, x3⟩ := box3 (w := w) (o := .cells #[.slice a n c, .slice b m d] 24) (o' := .cells #[.int .i64 st, .int .i64 left] 46) (o'' := .cells #[.int .i64 den, .int .i64 wd] 58) hb1
  have B0 := hb3.trans (hb1.mono hb3.size)
  have s3 := blk_lt x3
  have f0 : w0.cell? ⟨w.heap.size, 0, none⟩ = some (.slice a n c) := cell_block x1 0
  have f1 : w0.cell? ⟨w.heap.size, 1, none⟩ = some (.slice b m d) := cell_block x1 1
  have f2 : w0.cell? ⟨w.heap.size + 1 + 1, 0, none⟩ = some (.int .i64 den) := cell_block x3 0
  have f3 : w0.cell? ⟨w.heap.size + 1 + 1, 1, none⟩ = some (.int .i64 wd) := cell_block x3 1
  clear hb1 hb3
  go_wp2_with fail
  refine Calmly.wp_region_mix 5 (.fl 0 <| .fl 1 <| .fl 2 <| .fl 3 <| .fl 4 <| .tail [5]) (by kernel_rfl) (by kernel_rfl) ?_
  go_wp2_with (first | ((with_reducible refine Calmly.is_fl ?_); refine Calmly.mix_fl rfl ?_ (fun _ _ => ?_); (first | exact .move _ | exact .load _ _ | exact .fieldAddr _ _ _ (by kernel_rfl) | exact .assign _ | exact .binOp _ _ _ _ _ rfl | exact .indexAddr _ _ _ | exact .len _ _ (by kernel_rfl) | exact .field _ _ _ | exact .extract _ _ | exact .pick _ _ _ | exact .build _ _ | exact .slice _ _ _ _ _ | exact .unOp _ _ _ rfl | exact .index _ _ _ | exact .max _ _ _ rfl rfl | exact .min _ _ _ rfl rfl)) | ((with_reducible refine Calmly.is_gl ?_); refine Calmly.mix_gl rfl rfl rfl ?_; first | ((first | with_reducible refine Calmly.gl_tt ?_ (fun _ _ => ?_) | with_reducible refine Calmly.gl_ff ?_ (fun _ _ => ?_)); (first | exact .move _ | exact .load _ _ | exact .fieldAddr _ _ _ (by kernel_rfl) | exact .assign _ | exact .binOp _ _ _ _ _ rfl | exact .indexAddr _ _ _ | exact .len _ _ (by kernel_rfl) | exact .field _ _ _ | exact .extract _ _ | exact .pick _ _ _ | exact .build _ _ | exact .slice _ _ _ _ _ | exact .unOp _ _ _ rfl | exact .index _ _ _ | exact .max _ _ _ rfl rfl | exact .min _ _ _ rfl rfl)) | with_reducible refine Calmly.gl_tf (fun _ _ => ?_) | with_reducible refine Calmly.gl_ft (fun _ _ => ?_)) | ((with_reducible refine Calmly.is_eff ?_); refine Calmly.mix_eff rfl (fun _ _ => ?_)) | ((with_reducible refine Calmly.is_gf ?_); refine Calmly.mix_gf rfl rfl rfl ?_; first | with_reducible refine Calmly.gf_tt (fun _ _ => ?_) | with_reducible refine Calmly.gf_ff (fun _ _ => ?_) | with_reducible refine Calmly.gf_tf (kept_of hk) (fun _ _ => ?_) | with_reducible refine Calmly.gf_ft (kept_of hk) (fun _ _ => ?_)) | ((with_reducible refine Calmly.is_tail ?_); first | refine Calmly.mix_tail_nil ?_ | refine Calmly.mix_tail rfl (fun _ _ => ?_)) | ((with_reducible refine Calmly.is_kept ?_); refine ⟨kept_of hk, ?_⟩) | (with_reducible refine Calmly.mix_alt ?_ ?_))
  replace B0 : Below w.heap.size w w0.drew := B0.drew
  replace x1 : w0.drew.heap[w.heap.size]? = some (.cells #[.slice a n c, .slice b m d] 24) := x1
  replace x2 : w0.drew.heap[w.heap.size + 1]? = some (.cells #[.int .i64 st, .int .i64 left] 46) := x2
  clear f0 f1 f2 f3 x3 s3
  generalize w0.drew = w1 at B0 x1 x2 ⊢
  have s2 := blk_lt x2
  have f0 : w1.cell? ⟨w.heap.size, 0, none⟩ = some (.slice a n c) := cell_block x1 0
  have f1 : w1.cell? ⟨w.heap.size, 1, none⟩ = some (.slice b m d) := cell_block x1 1
  by_cases hz : C = 0
  case neg =>
    have hz1 : (C != 0) = true := by simpa using hz
    clear hz
    refine (FrameErr_any a b n c m d ms ks _ (h1.keep B0) (h2.keep B0)).mono ?_
    rintro e w2 ⟨rfl, hb2⟩
    rw [HC.out]
    go_wp2_with fail
    go_ret
    exact ⟨rfl, B0.trans (hb2.mono B0.size)⟩
  subst hz
  refine (FrameErr_any a b n c m d ms ks _ (h1.keep B0) (h2.keep B0)).mono ?_
  rintro e w2 ⟨rfl, hb2⟩
  rw [HC.out]
  replace x1 := blk_keep x1 hb2
  replace x2 := blk_keep x2 hb2
  have B2 := B0.trans (hb2.mono B0.size)
  clear B0 f0 f1 s2 hb2
  have s2 := blk_lt x2
  have fr := fr_of HC.out
  obtain ⟨l1, l2⟩ : n ≤ ms.length ∧ ms.length ≤ n := by have := h1.len; omega
  obtain ⟨l3, l4⟩ : m ≤ n ∧ n ≤ m := by have := h2.len; have := fr.len; omega
  obtain ⟨l5, l6⟩ : 0 < n ∧ n ≤ 4 := by have := fr.pos; have := fr.few; omega
  obtain rfl : n = m := by omega
  have FR := Lib.hid fr
  clear fr
  have f0 : w2.cell? ⟨w.heap.size, 0, none⟩ = some (.slice a n c) := cell_block x1 0
  have f1 : w2.cell? ⟨w.heap.size, 1, none⟩ = some (.slice b n d) := cell_block x1 1
  have f2 : w2.cell? ⟨w.heap.size + 1, 0, none⟩ = some (.int .i64 st) := cell_block x2 0
  have f3 : w2.cell? ⟨w.heap.size + 1, 1, none⟩ = some (.int .i64 left) := cell_block x2 1
  by_cases h3 : 3 < n
  · have h3' : (3 : Int) < (n : Int) := by omega
    go_wp2_with fail
    go_ret
    exact ⟨rfl, B2⟩
  have h3' : (n : Int) ≤ 3 := by omega
  by_cases hz : D = 0
  case neg =>
    have hz1 : (D != 0) = true := by simpa using hz
    clear hz
    go_wp2_with fail
    refine (DamageErr_any a b n c n d ms ks st left _ (h1.keep B2) (h2.keep B2) D HD.out).mono ?_
    rintro e w3 ⟨rfl, hb2⟩
    go_wp2_with fail
    go_ret
    exact ⟨rfl, B2.trans (hb2.mono B2.size)⟩
  subst hz
  go_wp2_with fail
  refine (DamageErr_any a b n c n d ms ks st left _ (h1.keep B2) (h2.keep B2) 0 HD.out).mono ?_
  rintro e w3 ⟨rfl, hb2⟩
  replace x1 := blk_keep x1 hb2
  replace x2 := blk_keep x2 hb2
  have B3 := B2.trans (hb2.mono B2.size)
  clear B2 f0 f1 f2 f3 s2 hb2
  have s2 := blk_lt x2
  cases G1
  · go_wp2_with fail
    refine (HW1.out _).mono ?_
    rintro e w' ⟨rfl, rfl⟩
    go_wp2_with fail
    go_ret
    exact ⟨rfl, B3⟩
  cases G2
  · go_wp2_with fail
    refine (HW1.out _).mono ?_
    rintro e w' ⟨rfl, rfl⟩
    go_wp2_with fail
    refine (HW2.out _).mono ?_
    rintro e w' ⟨rfl, rfl⟩
    go_wp2_with fail
    go_ret
    exact ⟨rfl, B3⟩
  have f0 : w3.cell? ⟨w.heap.size, 0, none⟩ = some (.slice a n c) := cell_block x1 0
  have f1 : w3.cell? ⟨w.heap.size, 1, none⟩ = some (.slice b n d) := cell_block x1 1
  have f2 : w3.cell? ⟨w.heap.size + 1, 0, none⟩ = some (.int .i64 st) := cell_block x2 0
  have f3 : w3.cell? ⟨w.heap.size + 1, 1, none⟩ = some (.int .i64 left) := cell_block x2 1
  obtain ⟨g1, g2⟩ : 1 ≤ den ∧ den ≤ 20 := by have := HG1.out; simpa [wIn] using this
  obtain ⟨g3, g4⟩ : 0 ≤ wd ∧ wd ≤ 5 := by have := HG2.out; simpa [wIn] using this
  obtain ⟨g5, g6, g7, g8⟩ := damageE_ok HD.out
  obtain ⟨s, rfl⟩ : ∃ s : Nat, st = s := ⟨st.toNat, by omega⟩
  rw [Int.toNat_natCast] at g8
  have g9 : s < n := by have := FR.out.len; omega
  have g10 := (FR.out.k s (by omega)).2
  clear g5 g6
  go_wp2_with fail
  refine (HW1.out _).mono ?_
  rintro e w' ⟨rfl, rfl⟩
  go_wp2_with fail
  refine (HW2.out _).mono ?_
  rintro e w' ⟨rfl, rfl⟩
  go_wp2_with fail
  refine (With_any a b n c n d ms ks s left _ (h1.keep B3) (h2.keep B3) (by omega) l5 (by omega) (by omega)).mono ?_
  rintro e w4 ⟨a9, c9, b9, d9, rfl, z1, z2, hb⟩
  replace x1 := blk_keep x1 hb
  replace x2 := blk_keep x2 hb
  have B4 := B3.trans (hb.mono B3.size)
  clear B3 f0 f1 f2 f3 s2 hb HW1 HW2 HG1 HG2
  go_wp2_with fail
  obtain ⟨y9, y10, y11⟩ := box3 (w := w4) (o := .cells #[.slice a9 n c9, .slice b9 n d9] 24) (o' := .cells #[.int .i64 den, .slice none 0 0] 44) (o'' := .cells #[.int .i64 den, .slice none 0 0] 44) (Below.refl _ (((w4.alloc (.cells #[.slice a9 n c9, .slice b9 n d9] 24)).alloc (.cells #[.int .i64 den, .slice none 0 0] 44)).alloc (.cells #[.int .i64 den, .slice none 0 0] 44)))
  have hb5 : Below w4.heap.size w4 (((w4.alloc (.cells #[.slice a9 n c9, .slice b9 n d9] 24)).alloc (.cells #[.int .i64 den, .slice none 0 0] 44)).alloc (.cells #[.int .i64 den, .slice none 0 0] 44)) := (((Below.refl _ _).alloc (Nat.le_refl _) _).alloc (by simp) _).alloc (by simp; omega) _
  generalize World.alloc (World.alloc (World.alloc w4 _) _) _ = v5 at y9 y10 y11 hb5 ⊢
  obtain ⟨b10, hb10⟩ : ∃ b, w4.heap.size + 1 = b := ⟨_, rfl⟩
  obtain ⟨b11, hb11⟩ : ∃ b, w4.heap.size + 1 + 1 = b := ⟨_, rfl⟩
  have hb45 : w4.heap.size < b10 ∧ b10 < b11 := by omega
  rw [hb11] at y11 ⊢
  rw [hb10] at y10 ⊢
  clear hb10 hb11
  have s2 := blk_lt x2
  have y11s := blk_lt y11
  have hcw := checkF_set HC.out s left g7 (by omega)
  have frw := fr_of hcw
  have HE0 : Hid (∀ (ks' : List Int) (k : Nat), (checkF ms ks').2 = 0 → k < n → encErr ms ks' (k : Int) den = 0) := Lib.hid fun ks' k h hk => by
    unfold encErr
    rw [h, firstE_three, if_pos rfl]
    have e1 : wIn (k : Int) 0 ((ms.length : Int) - 1) = true := by simp [wIn]; omega
    have e2 : wIn den 1 50 = true := by simp [wIn]; omega
    rw [e1, e2]
    rfl
  have HCW := Lib.hid hcw
  have FRW := Lib.hid frw
  clear hcw frw
  go_loopw [12, 13, 14, 15, 16, 17] (fun x12 x13 _ _ _ _ v => ∃ (k cE c10 c11 : Nat) (aE a10 a11 : Option Addr), k ≤ n ∧ x12 = .slice aE k cE ∧ x13 = .int .i64 k ∧ Rows3 v5 b10 b11 aE a10 a11 k k k cE c10 c11 den (encL ms ks den k) (wideL ms ks den wd k) (wideL ms (ks.set s left) den wd k) v) (fun _ x13 _ _ _ _ _ => n - (intOf x13).toNat)
  case atStart => exact ⟨0, 0, 0, 0, none, none, none, by omega, rfl, rfl, ⟨Below.refl _ _, ⟨hb45.2, y11s⟩, y10, y11, OwR.nil _ _, OwR.nil _ _, OwR.nil _ _, fun g h => (nomatch h), fun g h => (nomatch h), fun g h => (nomatch h)⟩⟩
  case round =>
    obtain ⟨k, cE, c10, c11, aE, a10, a11, hk, rfl, rfl, hrow⟩ := hrel
    obtain ⟨vr, hvr⟩ : ∃ x, x = wr := ⟨_, rfl⟩
    subst hvr
    have R4 : Below w4.heap.size w4 vr := hb5.trans (hrow.bel.mono (by omega))
    have x1r := blk_keep x1 R4
    have y9r := (hrow.bel.block _ hb45.1).trans y9
    by_cases hlt : k < n
    · as_aux_lemma =>
      have hgE := fun g hg => (own_lt hrow.oE g hg).2
      have hg10 := fun g hg => (own_lt hrow.o10 g hg).2
      have hg11 := fun g hg => (own_lt hrow.o11 g hg).2
      have vs := hrow.lt
      obtain ⟨e1, e2, e3, e4⟩ := enc_bd FR.out (den := den) (i := k) (by omega) (by omega) (by omega)
      obtain ⟨e5, e6, e7, e8⟩ := enc_bd FRW.out (den := den) (i := k) (by omega) (by omega) (by omega)
      have hE1 := HE0.out ks k HC.out hlt
      have hE2 := HE0.out (ks.set s left) k HCW.out hlt
      have hS1 := encL_succ ms ks den k
      have hS2 := wideL_succ ms ks den wd k
      have hS3 := wideL_succ ms (ks.set s left) den wd k
      have hw1 : wide1 ms ks den wd k = (max 0 ((encF ms ks k den).1 - wd), (encF ms ks k den).2 + wd) := rfl
      have hw2 : wide1 ms (ks.set s left) den wd k = (max 0 ((encF ms (ks.set s left) k den).1 - wd), (encF ms (ks.set s left) k den).2 + wd) := rfl
      rw [hw1] at hS2
      rw [hw2] at hS3
      obtain ⟨⟨r1, r2⟩, hr⟩ : ∃ x, encF ms ks (k : Int) den = x := ⟨_, rfl⟩
      obtain ⟨⟨p1, p2⟩, hp⟩ : ∃ x, encF ms (ks.set s left) (k : Int) den = x := ⟨_, rfl⟩
      rw [hr] at e1 e2 e3 e4 hS1 hS2
      rw [hp] at e5 e6 e7 e8 hS3
      dsimp only at e1 e2 e3 e4 e5 e6 e7 e8 hS2 hS3
      have hM1 : (if wd < r1 then r1 - wd else 0) = max 0 (r1 - wd) := by split <;> omega
      have hM2 : (if wd < p1 then p1 - wd else 0) = max 0 (p1 - wd) := by split <;> omega
      have hM3 : (if 0 < r1 - wd then r1 - wd else 0) = max 0 (r1 - wd) := by split <;> omega
      have hM4 : (if 0 < p1 - wd then p1 - wd else 0) = max 0 (p1 - wd) := by split <;> omega
      obtain ⟨M1, hMM1⟩ : ∃ M, max 0 (r1 - wd) = M := ⟨_, rfl⟩
      obtain ⟨M2, hMM2⟩ : ∃ M, max 0 (p1 - wd) = M := ⟨_, rfl⟩
      rw [hMM1] at hM1 hM3 hS2
      rw [hMM2] at hM2 hM4 hS3
      have hB1 : 0 ≤ M1 ∧ M1 ≤ 10000 := by omega
      have hB2 : 0 ≤ M2 ∧ M2 ≤ 10000 := by omega
      have HR := Lib.hid hr
      have HP := Lib.hid hp
      have HE1 := Lib.hid hE1
      have HE2 := Lib.hid hE2
      have HS1 := Lib.hid hS1
      have HS2 := Lib.hid hS2
      have HS3 := Lib.hid hS3
      clear hr hp hE1 hE2 hS1 hS2 hS3 hw1 hw2 hMM1 hMM2
      have k1 : (k : Int) < (n : Int) := by omega
      have k0 : (0 : Int) ≤ (k : Int) := by omega
      have f0 : vr.cell? ⟨w.heap.size, 0, none⟩ = some (.slice a n c) := cell_block x1r 0
      have f1 : vr.cell? ⟨w.heap.size, 1, none⟩ = some (.slice b n d) := cell_block x1r 1
      go_wp2_with fail
      refine (Copy_any a b n c n d ms ks _ ((h1.keep B4).keep R4) ((h2.keep B4).keep R4) (by omega) (by omega)).mono ?_
      rintro e v1 ⟨aN, cN, bN, dN, BN, rfl, oN1, oN2, _, _, hb⟩
      replace hrow := hrow.keep hb
      replace R4 := R4.trans (hb.mono R4.size)
      replace y9r := blk_keep y9r hb
      have sz1 := hb.size
      clear hb f0 f1
      go_wp2_with fail
      refine (EnclosureOf_any aN bN n cN n dN ms ks k den _ oN1.si oN2.si 0 r1 r2 HE1.out (fun _ => HR.out) (fun h => absurd rfl h)).mono ?_
      rintro e v2 ⟨rfl, hb⟩
      replace hrow := hrow.keep hb
      replace R4 := R4.trans (hb.mono R4.size)
      replace y9r := blk_keep y9r hb
      have sz2 := hb.size
      clear hb oN1 oN2
      have u1 := alloc_new v2 (.cells #[.int .i64 r1, .int .i64 r2] 63)
      have hb := hA v2 (.cells #[.int .i64 r1, .int .i64 r2] 63)
      replace hrow := hrow.keep hb
      replace R4 := R4.trans (hb.mono R4.size)
      replace y9r := blk_keep y9r hb
      have e9 := blk_lt y9r
      simp only [World.size_alloc] at e9
      clear hb
      have f0 := cell_block y9r 0
      have f1 := cell_block y9r 1
      go_wp2_with fail
      refine (Copy_any a9 b9 n c9 n d9 ms (ks.set s left) _ (z1.keep R4) (z2.keep R4) (by omega) (by omega)).mono ?_
      rintro e v3 ⟨aN, cN, bN, dN, BN, rfl, oN1, oN2, _, _, hb⟩
      replace hrow := hrow.keep hb
      replace R4 := R4.trans (hb.mono R4.size)
      replace u1 := blk_keep u1 hb
      have sz3 := hb.size
      simp only [World.size_alloc] at sz3
      clear hb f0 f1
      go_wp2_with fail
      refine (EnclosureOf_any aN bN n cN n dN ms (ks.set s left) k den _ oN1.si oN2.si 0 p1 p2 HE2.out (fun _ => HP.out) (fun h => absurd rfl h)).mono ?_
      rintro e v4 ⟨rfl, hb⟩
      replace hrow := hrow.keep hb
      replace u1 := blk_keep u1 hb
      have sz4 := hb.size
      clear hb oN1 oN2
      have u2 := alloc_new v4 (.cells #[.int .i64 p1, .int .i64 p2] 63)
      have hb := hA v4 (.cells #[.int .i64 p1, .int .i64 p2] 63)
      replace hrow := hrow.keep hb
      replace u1 := blk_keep u1 hb
      clear hb
      have e10 := blk_lt u1
      have e11 := blk_lt u2
      have f2 := cell_block u1 0
      have hW1 : ∀ w, Calls Try.prog 44 #[.int .i64 r1, .int .i64 0, .int .i64 10000] w fun e w' => e = .returned (.bool true) ∧ w = w' := fun w => by
        have := within_any r1 0 10000 w
        rwa [show wIn r1 0 10000 = true by simp [wIn]; omega] at this
      have hW2 : ∀ w, Calls Try.prog 44 #[.int .i64 p1, .int .i64 0, .int .i64 10000] w fun e w' => e = .returned (.bool true) ∧ w = w' := fun w => by
        have := within_any p1 0 10000 w
        rwa [show wIn p1 0 10000 = true by simp [wIn]; omega] at this
      have HW1 := Lib.hid hW1
      have HW2 := Lib.hid hW2
      clear hW1 hW2
      go_wp2_with fail
      refine (HW1.out _).mono ?_
      rintro e w' ⟨rfl, rfl⟩
      have f3 := cell_block u2 0
      generalize World.alloc v4 _ = v6 at hrow u1 u2 e10 e11 f2 f3 ⊢
      go_wp2_with fail
      refine (HW2.out _).mono ?_
      rintro e w' ⟨rfl, rfl⟩
      have f4 := cell_block u1 1
      have f5 := cell_block u2 1
      go_wp2_with (first | (refine appRx v6 (l := encL ms ks den k) rfl rfl _ _ rfl hrow.oE rfl rfl (by omega) (by have := hrow.lt; omega) ?_; intro aE' cE' w6 q1 q2 q3 q4 q5; have hrow6 := hrow.grewE q1 q2 q4 q5; have u16 := (q4 _ (blk_lt u1) (fun g hg he => by have := hgE g hg; omega)).trans u1; have u26 := (q4 _ (blk_lt u2) (fun g hg he => by have := hgE g hg; omega)).trans u2; have t1 := cell_block hrow6.p10 1; have t2 := cell_block u16 0; have t3 := cell_block u16 1) | (refine appRx w6 (l := wideL ms ks den wd k) rfl rfl _ _ rfl hrow6.o10 rfl rfl (by omega) (by have := hrow6.lt; omega) ?_; intro a10' c10' w7 q1' q2' q3' q4' q5'; have hrow7 := hrow6.grew10 q1' q2' q4' q5'; have p7 := (q2'.block b10 (by have := hrow6.lt; omega)).trans hrow6.p10; have t4 := cell_block p7 1; have t5 := frozen_block p7 1; have u27 := (q4' _ (blk_lt u26) (fun g hg he => by have := hg10 g hg; omega)).trans u26; have u28 := blk_other' u27 (by have := hrow.lt; omega : v4.heap.size ≠ b10) 1 (.slice a10' (k + 1) c10'); have t6 := cell_block hrow7.p11 1; have t7 := cell_block u28 0; have t8 := cell_block u28 1) | (refine appRx (w7.setCell ⟨b10, 1, none⟩ (.slice a10' (k + 1) c10')) (l := wideL ms (ks.set s left) den wd k) rfl rfl _ _ rfl hrow7.o11 rfl (by rw [World.size_setCell]; rfl) (by omega) (by have := hrow7.lt; omega) ?_; intro a11' c11' w8 q1'' q2'' q3'' q4'' q5''; have hrow8 := hrow7.grew11 q1'' q2'' q4'' q5''; have p8 := (q2''.block b11 (by have := hrow7.lt; omega)).trans hrow7.p11; have t9 := cell_block p8 1; have t10 := frozen_block p8 1))
      go_roundw
      case rel =>
        refine ⟨k + 1, cE', c10', c11', aE', a10', a11', by omega, rfl, by go_num, ?_⟩
        rw [HS1.out, HS2.out, HS3.out]
        exact hrow8
      case measure => simp [intOf]; omega
    · as_aux_lemma =>
      obtain rfl : n = k := by omega
      have hkn : (n : Int) ≤ (n : Int) := Int.le_refl _
      have vs := hrow.lt
      obtain ⟨l7, l8⟩ : n ≤ ms.length ∧ ms.length ≤ n := ⟨l1, l2⟩
      have hml : ms.length = n := by omega
      -- what was measured before
      have hbr : ∀ j, j < (wideL ms ks den wd n).length → 0 ≤ ((wideL ms ks den wd n)[j]?.getD (0, 0)).1 ∧ ((wideL ms ks den wd n)[j]?.getD (0, 0)).1 ≤ ((wideL ms ks den wd n)[j]?.getD (0, 0)).2 ∧ ((wideL ms ks den wd n)[j]?.getD (0, 0)).2 ≤ 10000 := fun j hj => by
        rw [wideL_len] at hj
        rw [wideL_at _ _ _ _ _ _ hj]
        exact wide_right FR.out (by omega) (by omega) g3 g4 (by omega)
      have har : ∀ j, j < (wideL ms (ks.set s left) den wd n).length → 0 ≤ ((wideL ms (ks.set s left) den wd n)[j]?.getD (0, 0)).1 ∧ ((wideL ms (ks.set s left) den wd n)[j]?.getD (0, 0)).1 ≤ ((wideL ms (ks.set s left) den wd n)[j]?.getD (0, 0)).2 ∧ ((wideL ms (ks.set s left) den wd n)[j]?.getD (0, 0)).2 ≤ 10000 := fun j hj => by
        rw [wideL_len] at hj
        rw [wideL_at _ _ _ _ _ _ hj]
        exact wide_right FRW.out (by omega) (by omega) g3 g4 (by omega)
      have her : ∀ j, j < (encL ms ks den n).length → 0 ≤ ((encL ms ks den n)[j]?.getD (0, 0)).1 ∧ ((encL ms ks den n)[j]?.getD (0, 0)).1 ≤ ((encL ms ks den n)[j]?.getD (0, 0)).2 ∧ ((encL ms ks den n)[j]?.getD (0, 0)).2 ≤ 10000 := fun j hj => by
        rw [encL_len] at hj
        rw [encL_at _ _ _ _ _ hj]
        have := enc_bd FR.out (den := den) (i := j) (by omega) (by omega) (by omega)
        omega
      have hafE : ∀ l : List (Int × Int), l.length = n → (∀ j, j < l.length → 0 ≤ (l[j]?.getD (0, 0)).1 ∧ (l[j]?.getD (0, 0)).1 ≤ (l[j]?.getD (0, 0)).2 ∧ (l[j]?.getD (0, 0)).2 ≤ 10000) → afterE ms ks den l = 0 := fun l hl h => by
        unfold afterE
        have e2 : wIn den 1 50 = true := by simp [wIn]; omega
        have e3 : ((l.length : Int) == (ms.length : Int)) = true := by simp; omega
        rw [HC.out, e2, e3]
        have := after_right h 0 (by omega)
        rwa [List.drop_zero] at this
      have hA1 := hafE _ (wideL_len _ _ _ _ _) hbr
      have hA2 := hafE _ (wideL_len _ _ _ _ _) har
      have hodd1 : oddF ms ks den 0 (wideL ms ks den wd n) = (0, false) := by
        have := odd_none FR.out (den := den) (wd := wd) (by omega) (by omega) g3 0 (by omega)
        rwa [List.drop_zero, hml] at this
      have hodd2 : oddF ms (ks.set s left) den 0 (wideL ms (ks.set s left) den wd n) = (0, false) := by
        have := odd_none FRW.out (den := den) (wd := wd) (by omega) (by omega) g3 0 (by omega)
        rwa [List.drop_zero, hml] at this
      have hex1 := ex_own FR.out (den := den) (sq := wideL ms ks den wd n) (by rw [hodd1])
      obtain ⟨hx1, hx2, hx3⟩ := ex_found FR.out (den := den) (sq := wideL ms (ks.set s left) den wd n) (st := s) (by omega) g7 g8 (by rw [hodd2])
      obtain ⟨⟨⟨ys, yl⟩, yb⟩, hy⟩ : ∃ y, exF ms ks den (wideL ms (ks.set s left) den wd n) = y := ⟨_, rfl⟩
      rw [hy] at hx1 hx2 hx3
      dsimp only at hx1 hx2 hx3
      obtain rfl := hx1
      obtain ⟨y1, y2, y3, y4, y5⟩ := hx2
      dsimp only at y1 y2 y3 y4 y5
      obtain ⟨t, rfl⟩ : ∃ t : Nat, ys = t := ⟨ys.toNat, by omega⟩
      rw [Int.toNat_natCast] at y4 y5 hx3
      have hdmg : damageE ks t yl = 0 := by
        unfold damageE
        have e1 : wIn (t : Int) 0 ((ks.length : Int) - 1) = true := by have := FR.out.len; simp [wIn]; omega
        rw [e1, Int.toNat_natCast]
        have e2 : wIn yl 1 (ks[t]?.getD 0) = true := by simp [wIn]; omega
        rw [e2]
        rfl
      have hodd3 : oddF ms (ks.set t yl) den 0 (wideL ms (ks.set s left) den wd n) = (0, false) := odd_first _ _ y5
      have hdm : dmE (encL ms ks den n) (wideL ms ks den wd n) = 0 := by
        unfold dmE
        rw [rg_right (by rw [encL_len]; omega) (by rw [encL_len]; omega) her, rg_right (by rw [wideL_len]; omega) (by rw [wideL_len]; omega) hbr, encL_len, wideL_len, firstE_three, if_pos rfl, if_pos rfl]
        simp [unlessE]
      have hdl : dmTo (encL ms ks den n) (wideL ms ks den wd n) n = [] := dm_none n fun j hj => by
        rw [encL_at _ _ _ _ _ hj, wideL_at _ _ _ _ _ _ hj]
        exact wide_agree FR.out (by omega) (by omega) g3 (by omega)
      have hrg1 := rg_right (l := encL ms ks den n) (by rw [encL_len]; omega) (by rw [encL_len]; omega) her
      have hrg2 := rg_right (l := wideL ms ks den wd n) (by rw [wideL_len]; omega) (by rw [wideL_len]; omega) hbr
      have HA1 := Lib.hid hA1
      have HA2 := Lib.hid hA2
      have HX1 := Lib.hid hex1
      have HY := Lib.hid hy
      have HDM := Lib.hid hdmg
      have HO3 := Lib.hid hodd3
      have HDE := Lib.hid hdm
      have HDL := Lib.hid hdl
      have HRG1 := Lib.hid hrg1
      have HRG2 := Lib.hid hrg2
      have htn : t < n := by omega
      have htb := (FR.out.k t (by omega))
      have hsb := (FR.out.k s (by omega))
      clear hrg1 hrg2 HDE
      have hcmp : 0 ≤ cmpQ (yl * ks[s]?.getD 0) (left * ks[t]?.getD 0) := by
        unfold cmpQ
        rw [if_neg (by omega)]
        split <;> decide
      have hCP := fun w => compare_any yl (ks[t]?.getD 0) left (ks[s]?.getD 0) w (by omega) (by omega) (by omega) (by omega) (by omega) (by omega) (by omega) (by omega)
      obtain ⟨K, hK⟩ : ∃ K, cmpQ (yl * ks[s]?.getD 0) (left * ks[t]?.getD 0) = K := ⟨_, rfl⟩
      rw [hK] at hcmp
      simp only [hK] at hCP
      have HCP := Lib.hid hCP
      clear hK hCP hbr har her hafE hA1 hA2 hodd1 hodd2 hex1 hy hdmg hodd3 hdm hdl hml y5 hx3
      have f0 : vr.cell? ⟨w.heap.size, 0, none⟩ = some (.slice a n c) := cell_block x1r 0
      have f1 : vr.cell? ⟨w.heap.size, 1, none⟩ = some (.slice b n d) := cell_block x1r 1
      have f2 := cell_block hrow.p10 0
      have f3 := cell_block hrow.p10 1
      go_wp2_with fail
      refine Calmly.wp_region_mix 10 (.fl 0 <| .fl 2 <| .alt 1 (.alt 3 (.alt 4 (.fl 5 <| .fl 6 <| .fl 7 <| .eff 8 <| .eff 9 <| .tail [10]) (.eff 8 (.eff 4 <| .fl 5 <| .fl 6 <| .fl 7 <| .eff 9 <| .tail [10]))) (.eff 8 (.eff 3 <| .eff 4 <| .fl 5 <| .fl 6 <| .fl 7 <| .eff 9 <| .tail [10]))) (.eff 8 (.eff 1 <| .eff 3 <| .eff 4 <| .fl 5 <| .fl 6 <| .fl 7 <| .eff 9 <| .tail [10]))) (by kernel_rfl) (by kernel_rfl) ?_
      have hS1 : SI vr.drew a n c ms := ((h1.keep B4).keep R4).drew
      have hS2 : SI vr.drew b n d ks := ((h2.keep B4).keep R4).drew
      have hR1 : SR vr.drew a10 n c10 (wideL ms ks den wd n) := hrow.o10.sr.drew
      replace f0 : vr.drew.cell? ⟨w.heap.size, 0, none⟩ = some (.slice a n c) := f0
      replace f1 : vr.drew.cell? ⟨w.heap.size, 1, none⟩ = some (.slice b n d) := f1
      replace f2 : vr.drew.cell? ⟨b10, 0, none⟩ = some (.int .i64 den) := f2
      replace f3 : vr.drew.cell? ⟨b10, 1, none⟩ = some (.slice a10 n c10) := f3
      replace x1r : vr.drew.heap[w.heap.size]? = some (.cells #[.slice a n c, .slice b n d] 24) := x1r
      have x10 : vr.drew.heap[b10]? = some (.cells #[.int .i64 den, .slice a10 n c10] 44) := hrow.p10
      have x11 : vr.drew.heap[b11]? = some (.cells #[.int .i64 den, .slice a11 n c11] 44) := hrow.p11
      have hRE : SR vr.drew aE n cE (encL ms ks den n) := hrow.oE.sr.drew
      have hR2 : SR vr.drew a11 n c11 (wideL ms (ks.set s left) den wd n) := hrow.o11.sr.drew
      have BR : Below w.heap.size w vr.drew := (B4.trans (R4.mono B4.size)).drew
      have x2r : vr.drew.heap[w.heap.size + 1]? = some (.cells #[.int .i64 s, .int .i64 left] 46) := (blk_keep x2 R4 : vr.heap[w.heap.size + 1]? = _)
      clear hrow R4 y9r x1 x2 B4 y9 y10 y11 hb5
      generalize vr.drew = w5 at hS1 hS2 hR1 f0 f1 f2 f3 x1r x10 x11 hRE hR2 BR x2r ⊢
      have hk := Below.refl w5.heap.size w5
      go_wp2_with (first | ((with_reducible refine Calmly.is_fl ?_); refine Calmly.mix_fl rfl ?_ (fun _ _ => ?_); (first | exact .move _ | exact .load _ _ | exact .fieldAddr _ _ _ (by kernel_rfl) | exact .assign _ | exact .binOp _ _ _ _ _ rfl | exact .indexAddr _ _ _ | exact .len _ _ (by kernel_rfl) | exact .field _ _ _ | exact .extract _ _ | exact .pick _ _ _ | exact .build _ _ | exact .slice _ _ _ _ _ | exact .unOp _ _ _ rfl | exact .index _ _ _ | exact .max _ _ _ rfl rfl | exact .min _ _ _ rfl rfl)) | ((with_reducible refine Calmly.is_gl ?_); refine Calmly.mix_gl rfl rfl rfl ?_; first | ((first | with_reducible refine Calmly.gl_tt ?_ (fun _ _ => ?_) | with_reducible refine Calmly.gl_ff ?_ (fun _ _ => ?_)); (first | exact .move _ | exact .load _ _ | exact .fieldAddr _ _ _ (by kernel_rfl) | exact .assign _ | exact .binOp _ _ _ _ _ rfl | exact .indexAddr _ _ _ | exact .len _ _ (by kernel_rfl) | exact .field _ _ _ | exact .extract _ _ | exact .pick _ _ _ | exact .build _ _ | exact .slice _ _ _ _ _ | exact .unOp _ _ _ rfl | exact .index _ _ _ | exact .max _ _ _ rfl rfl | exact .min _ _ _ rfl rfl)) | with_reducible refine Calmly.gl_tf (fun _ _ => ?_) | with_reducible refine Calmly.gl_ft (fun _ _ => ?_)) | ((with_reducible refine Calmly.is_eff ?_); refine Calmly.mix_eff rfl (fun _ _ => ?_)) | ((with_reducible refine Calmly.is_gf ?_); refine Calmly.mix_gf rfl rfl rfl ?_; first | with_reducible refine Calmly.gf_tt (fun _ _ => ?_) | with_reducible refine Calmly.gf_ff (fun _ _ => ?_) | with_reducible refine Calmly.gf_tf (kept_of hk) (fun _ _ => ?_) | with_reducible refine Calmly.gf_ft (kept_of hk) (fun _ _ => ?_)) | ((with_reducible refine Calmly.is_kept ?_); refine ⟨kept_of hk, ?_⟩) | (with_reducible refine Calmly.mix_alt ?_ ?_) | (go_at_call 18; refine (Copy_any a b n c n d ms ks _ (hS1.keep hk) (hS2.keep hk) (by omega) (by omega)).mono ?_; rintro e w' ⟨aN, cN, bN, dN, BN, rfl, oN1, oN2, _, _, hs⟩; replace hk := step_of hk hs; have iN1 := oN1.si; have iN2 := oN2.si; clear oN1 oN2; (try replace pA := blk_keep pA hs); clear hs) | (go_at_call 26; refine (CopyAfter_any a10 n c10 (wideL ms ks den wd n) den _ (hR1.keep hk) (by omega)).mono ?_; rintro e w' ⟨aR, cR, rfl, iR, hs⟩; replace hk := step_of hk hs; replace iN1 := iN1.keep hs; replace iN2 := iN2.keep hs; (try replace pA := blk_keep pA hs); clear hs) | (go_at_call 25; refine (ExplainedBy_ok aN bN aR n cN dN n cR ms ks (wideL ms ks den wd n) den _ iN1 iN2 iR HA1.out HC.out (by omega) (by omega) (by omega) 0 (ks[0]?.getD 0) true HX1.out).mono ?_; rintro e w' ⟨he, hs⟩; rw [show unlessE true 12 = (0 : Int) from rfl] at he; subst he; replace hk := step_of hk hs; clear iN1 iN2 iR; (try replace pA := blk_keep pA hs); clear hs; (try have zA0 := cell_block pA 0); (try have zA1 := cell_block pA 1); (try have zA2 := frozen_block pA 0); (try have zA3 := frozen_block pA 1)) | (refine kept_setS hk hAge pA (fun hk' h1' => ?_); replace hk := hk'; replace pA := h1'; clear hk' h1' zA0 zA1 zA2 zA3; generalize World.setCell (World.setCell _ _ _) _ _ = W' at hk pA ⊢) | (have hAge := hk.size; refine kept_allocB hk (fun hs hk' hblk => ?_); (try replace iN1 := iN1.keep hs); (try replace iN2 := iN2.keep hs); (try replace iR := iR.keep hs); (first | generalize World.alloc _ _ = W' at hs hk' hblk iN1 iN2 iR ⊢ | generalize World.alloc _ _ = W' at hs hk' hblk iN1 iN2 ⊢ | generalize World.alloc _ _ = W' at hs hk' hblk ⊢); replace hk := hk'; clear hk'; have pA := hblk; clear hs hblk; have zA0 := cell_block pA 0; have zA1 := cell_block pA 1; have zA2 := frozen_block pA 0; have zA3 := frozen_block pA 1))
      all_goals
        as_aux_lemma =>
        have r1 := (hk.block _ (blk_lt x1r)).trans x1r
        obtain ⟨bK, oK, hbb, hcK⟩ := (hS2.keep hk).at_ l5
        subst hbb
        have e0 := hcK 0 l5
        rw [Nat.add_zero] at e0
        have f0 := cell_block r1 0
        have f1 := cell_block r1 1
        have zA0 := cell_block pA 0
        have zA1 := cell_block pA 1
        have n0 : (0 : Int) < (n : Int) := by omega
        obtain ⟨kz, hkz⟩ : ∃ k, ks[0]?.getD 0 = k := ⟨_, rfl⟩
        rw [hkz] at e0 zA1
        clear hcK hkz
        go_wp2_with (first | ((with_reducible refine Calmly.is_fl ?_); refine Calmly.mix_fl rfl ?_ (fun _ _ => ?_); (first | exact .move _ | exact .load _ _ | exact .fieldAddr _ _ _ (by kernel_rfl) | exact .assign _ | exact .binOp _ _ _ _ _ rfl | exact .indexAddr _ _ _ | exact .len _ _ (by kernel_rfl) | exact .field _ _ _ | exact .extract _ _ | exact .pick _ _ _ | exact .build _ _ | exact .slice _ _ _ _ _ | exact .unOp _ _ _ rfl | exact .index _ _ _ | exact .max _ _ _ rfl rfl | exact .min _ _ _ rfl rfl)) | ((with_reducible refine Calmly.is_gl ?_); refine Calmly.mix_gl rfl rfl rfl ?_; first | ((first | with_reducible refine Calmly.gl_tt ?_ (fun _ _ => ?_) | with_reducible refine Calmly.gl_ff ?_ (fun _ _ => ?_)); (first | exact .move _ | exact .load _ _ | exact .fieldAddr _ _ _ (by kernel_rfl) | exact .assign _ | exact .binOp _ _ _ _ _ rfl | exact .indexAddr _ _ _ | exact .len _ _ (by kernel_rfl) | exact .field _ _ _ | exact .extract _ _ | exact .pick _ _ _ | exact .build _ _ | exact .slice _ _ _ _ _ | exact .unOp _ _ _ rfl | exact .index _ _ _ | exact .max _ _ _ rfl rfl | exact .min _ _ _ rfl rfl)) | with_reducible refine Calmly.gl_tf (fun _ _ => ?_) | with_reducible refine Calmly.gl_ft (fun _ _ => ?_)) | ((with_reducible refine Calmly.is_eff ?_); refine Calmly.mix_eff rfl (fun _ _ => ?_)) | ((with_reducible refine Calmly.is_gf ?_); refine Calmly.mix_gf rfl rfl rfl ?_; first | with_reducible refine Calmly.gf_tt (fun _ _ => ?_) | with_reducible refine Calmly.gf_ff (fun _ _ => ?_) | with_reducible refine Calmly.gf_tf (kept_of hk) (fun _ _ => ?_) | with_reducible refine Calmly.gf_ft (kept_of hk) (fun _ _ => ?_)) | ((with_reducible refine Calmly.is_tail ?_); first | refine Calmly.mix_tail_nil ?_ | refine Calmly.mix_tail rfl (fun _ _ => ?_)) | ((with_reducible refine Calmly.is_kept ?_); refine ⟨kept_of hk, ?_⟩) | (with_reducible refine Calmly.mix_alt ?_ ?_))
        refine Calmly.wp_region_mix 10 (.fl 0 <| .fl 1 <| .fl 2 <| .gl 3 <| .gl 4 <| .gl 5 <| .gl 6 <| .gl 7 <| .gl 8 <| .gf 9 <| .tail [10]) (by kernel_rfl) (by kernel_rfl) ?_
        have hkq := hk
        replace hk := Below.refl W'.drew.heap.size W'.drew
        go_wp2_with (first | ((with_reducible refine Calmly.is_fl ?_); refine Calmly.mix_fl rfl ?_ (fun _ _ => ?_); (first | exact .move _ | exact .load _ _ | exact .fieldAddr _ _ _ (by kernel_rfl) | exact .assign _ | exact .binOp _ _ _ _ _ rfl | exact .indexAddr _ _ _ | exact .len _ _ (by kernel_rfl) | exact .field _ _ _ | exact .extract _ _ | exact .pick _ _ _ | exact .build _ _ | exact .slice _ _ _ _ _ | exact .unOp _ _ _ rfl | exact .index _ _ _ | exact .max _ _ _ rfl rfl | exact .min _ _ _ rfl rfl)) | ((with_reducible refine Calmly.is_gl ?_); refine Calmly.mix_gl rfl rfl rfl ?_; first | ((first | with_reducible refine Calmly.gl_tt ?_ (fun _ _ => ?_) | with_reducible refine Calmly.gl_ff ?_ (fun _ _ => ?_)); (first | exact .move _ | exact .load _ _ | exact .fieldAddr _ _ _ (by kernel_rfl) | exact .assign _ | exact .binOp _ _ _ _ _ rfl | exact .indexAddr _ _ _ | exact .len _ _ (by kernel_rfl) | exact .field _ _ _ | exact .extract _ _ | exact .pick _ _ _ | exact .build _ _ | exact .slice _ _ _ _ _ | exact .unOp _ _ _ rfl | exact .index _ _ _ | exact .max _ _ _ rfl rfl | exact .min _ _ _ rfl rfl)) | with_reducible refine Calmly.gl_tf (fun _ _ => ?_) | with_reducible refine Calmly.gl_ft (fun _ _ => ?_)) | ((with_reducible refine Calmly.is_eff ?_); refine Calmly.mix_eff rfl (fun _ _ => ?_)) | ((with_reducible refine Calmly.is_gf ?_); refine Calmly.mix_gf rfl rfl rfl ?_; first | with_reducible refine Calmly.gf_tt (fun _ _ => ?_) | with_reducible refine Calmly.gf_ff (fun _ _ => ?_) | with_reducible refine Calmly.gf_tf (kept_of hk) (fun _ _ => ?_) | with_reducible refine Calmly.gf_ft (kept_of hk) (fun _ _ => ?_)) | ((with_reducible refine Calmly.is_tail ?_); first | refine Calmly.mix_tail_nil ?_ | refine Calmly.mix_tail rfl (fun _ _ => ?_)) | ((with_reducible refine Calmly.is_kept ?_); refine ⟨kept_of hk, ?_⟩) | (with_reducible refine Calmly.mix_alt ?_ ?_))
        replace hk := hkq
        clear hkq
        have hk1 : Below w5.heap.size w5 W'.drew := hk.drew
        have BV := BR.trans (hk1.mono BR.size)
        have hT1 := hS1.keep hk1
        have hT2 := hS2.keep hk1
        have hT3 := hR2.keep hk1
        have hTE := hRE.keep hk1
        have hTB := hR1.keep hk1
        have u1 := (hk1.block _ (blk_lt x1r)).trans x1r
        have u2 := (hk1.block _ (blk_lt x2r)).trans x2r
        have u10 := (hk1.block _ (blk_lt x10)).trans x10
        have u11 := (hk1.block _ (blk_lt x11)).trans x11
        clear f0 f1 zA0 zA1 pA e0 r1 hk hS1 hS2 hR1 hR2 hRE x1r x2r x10 x11 BR f2 f3
        refine Calmly.wp_region_mix 10 (.fl 0 <| .fl 2 <| .fl 3 <| .eff 1 <| .eff 4 <| .eff 5 <| .fl 6 <| .fl 7 <| .fl 8 <| .fl 9 <| .tail [10]) (by kernel_rfl) (by kernel_rfl) ?_
        replace BV : Below w.heap.size w W'.drew.drew := BV.drew
        replace hT1 := hT1.drew
        replace hT2 := hT2.drew
        replace hT3 := hT3.drew
        replace hTE := hTE.drew
        replace hTB := hTB.drew
        replace u1 : W'.drew.drew.heap[w.heap.size]? = some (.cells #[.slice a n c, .slice (some ⟨bK, oK, none⟩) n d] 24) := u1
        replace u2 : W'.drew.drew.heap[w.heap.size + 1]? = some (.cells #[.int .i64 s, .int .i64 left] 46) := u2
        replace u10 : W'.drew.drew.heap[b10]? = some (.cells #[.int .i64 den, .slice a10 n c10] 44) := u10
        replace u11 : W'.drew.drew.heap[b11]? = some (.cells #[.int .i64 den, .slice a11 n c11] 44) := u11
        generalize W'.drew.drew = V1 at BV hT1 hT2 hT3 hTE hTB u1 u2 u10 u11 ⊢
        have f3 := cell_block u10 1
        have hk := Below.refl V1.heap.size V1
        go_wp2_with (first | ((with_reducible refine Calmly.is_fl ?_); refine Calmly.mix_fl rfl ?_ (fun _ _ => ?_); (first | exact .move _ | exact .load _ _ | exact .fieldAddr _ _ _ (by kernel_rfl) | exact .assign _ | exact .binOp _ _ _ _ _ rfl | exact .indexAddr _ _ _ | exact .len _ _ (by kernel_rfl) | exact .field _ _ _ | exact .extract _ _ | exact .pick _ _ _ | exact .build _ _ | exact .slice _ _ _ _ _ | exact .unOp _ _ _ rfl | exact .index _ _ _ | exact .max _ _ _ rfl rfl | exact .min _ _ _ rfl rfl)) | ((with_reducible refine Calmly.is_gl ?_); refine Calmly.mix_gl rfl rfl rfl ?_; first | ((first | with_reducible refine Calmly.gl_tt ?_ (fun _ _ => ?_) | with_reducible refine Calmly.gl_ff ?_ (fun _ _ => ?_)); (first | exact .move _ | exact .load _ _ | exact .fieldAddr _ _ _ (by kernel_rfl) | exact .assign _ | exact .binOp _ _ _ _ _ rfl | exact .indexAddr _ _ _ | exact .len _ _ (by kernel_rfl) | exact .field _ _ _ | exact .extract _ _ | exact .pick _ _ _ | exact .build _ _ | exact .slice _ _ _ _ _ | exact .unOp _ _ _ rfl | exact .index _ _ _ | exact .max _ _ _ rfl rfl | exact .min _ _ _ rfl rfl)) | with_reducible refine Calmly.gl_tf (fun _ _ => ?_) | with_reducible refine Calmly.gl_ft (fun _ _ => ?_)) | ((with_reducible refine Calmly.is_eff ?_); refine Calmly.mix_eff rfl (fun _ _ => ?_)) | ((with_reducible refine Calmly.is_gf ?_); refine Calmly.mix_gf rfl rfl rfl ?_; first | with_reducible refine Calmly.gf_tt (fun _ _ => ?_) | with_reducible refine Calmly.gf_ff (fun _ _ => ?_) | with_reducible refine Calmly.gf_tf (kept_of hk) (fun _ _ => ?_) | with_reducible refine Calmly.gf_ft (kept_of hk) (fun _ _ => ?_)) | ((with_reducible refine Calmly.is_tail ?_); first | refine Calmly.mix_tail_nil ?_ | refine Calmly.mix_tail rfl (fun _ _ => ?_)) | ((with_reducible refine Calmly.is_kept ?_); refine ⟨kept_of hk, ?_⟩) | (with_reducible refine Calmly.mix_alt ?_ ?_))
        refine (copyRanges_any aE n cE (encL ms ks den n) _ hTE (by omega)).mono ?_
        rintro e w' ⟨aP, cP, rfl, oP, hs⟩
        replace hk := step_of hk hs
        go_wp2_with (first | ((with_reducible refine Calmly.is_fl ?_); refine Calmly.mix_fl rfl ?_ (fun _ _ => ?_); (first | exact .move _ | exact .load _ _ | exact .fieldAddr _ _ _ (by kernel_rfl) | exact .assign _ | exact .binOp _ _ _ _ _ rfl | exact .indexAddr _ _ _ | exact .len _ _ (by kernel_rfl) | exact .field _ _ _ | exact .extract _ _ | exact .pick _ _ _ | exact .build _ _ | exact .slice _ _ _ _ _ | exact .unOp _ _ _ rfl | exact .index _ _ _ | exact .max _ _ _ rfl rfl | exact .min _ _ _ rfl rfl)) | ((with_reducible refine Calmly.is_gl ?_); refine Calmly.mix_gl rfl rfl rfl ?_; first | ((first | with_reducible refine Calmly.gl_tt ?_ (fun _ _ => ?_) | with_reducible refine Calmly.gl_ff ?_ (fun _ _ => ?_)); (first | exact .move _ | exact .load _ _ | exact .fieldAddr _ _ _ (by kernel_rfl) | exact .assign _ | exact .binOp _ _ _ _ _ rfl | exact .indexAddr _ _ _ | exact .len _ _ (by kernel_rfl) | exact .field _ _ _ | exact .extract _ _ | exact .pick _ _ _ | exact .build _ _ | exact .slice _ _ _ _ _ | exact .unOp _ _ _ rfl | exact .index _ _ _ | exact .max _ _ _ rfl rfl | exact .min _ _ _ rfl rfl)) | with_reducible refine Calmly.gl_tf (fun _ _ => ?_) | with_reducible refine Calmly.gl_ft (fun _ _ => ?_)) | ((with_reducible refine Calmly.is_eff ?_); refine Calmly.mix_eff rfl (fun _ _ => ?_)) | ((with_reducible refine Calmly.is_gf ?_); refine Calmly.mix_gf rfl rfl rfl ?_; first | with_reducible refine Calmly.gf_tt (fun _ _ => ?_) | with_reducible refine Calmly.gf_ff (fun _ _ => ?_) | with_reducible refine Calmly.gf_tf (kept_of hk) (fun _ _ => ?_) | with_reducible refine Calmly.gf_ft (kept_of hk) (fun _ _ => ?_)) | ((with_reducible refine Calmly.is_tail ?_); first | refine Calmly.mix_tail_nil ?_ | refine Calmly.mix_tail rfl (fun _ _ => ?_)) | ((with_reducible refine Calmly.is_kept ?_); refine ⟨kept_of hk, ?_⟩) | (with_reducible refine Calmly.mix_alt ?_ ?_))
        refine (copyRanges_any a10 n c10 (wideL ms ks den wd n) _ (hTB.keep hk) (by omega)).mono ?_
        rintro e w' ⟨aQ, cQ, rfl, oQ, hs⟩
        replace hk := step_of hk hs
        have oP2 := oP.sr.keep hs
        go_wp2_with (first | ((with_reducible refine Calmly.is_fl ?_); refine Calmly.mix_fl rfl ?_ (fun _ _ => ?_); (first | exact .move _ | exact .load _ _ | exact .fieldAddr _ _ _ (by kernel_rfl) | exact .assign _ | exact .binOp _ _ _ _ _ rfl | exact .indexAddr _ _ _ | exact .len _ _ (by kernel_rfl) | exact .field _ _ _ | exact .extract _ _ | exact .pick _ _ _ | exact .build _ _ | exact .slice _ _ _ _ _ | exact .unOp _ _ _ rfl | exact .index _ _ _ | exact .max _ _ _ rfl rfl | exact .min _ _ _ rfl rfl)) | ((with_reducible refine Calmly.is_gl ?_); refine Calmly.mix_gl rfl rfl rfl ?_; first | ((first | with_reducible refine Calmly.gl_tt ?_ (fun _ _ => ?_) | with_reducible refine Calmly.gl_ff ?_ (fun _ _ => ?_)); (first | exact .move _ | exact .load _ _ | exact .fieldAddr _ _ _ (by kernel_rfl) | exact .assign _ | exact .binOp _ _ _ _ _ rfl | exact .indexAddr _ _ _ | exact .len _ _ (by kernel_rfl) | exact .field _ _ _ | exact .extract _ _ | exact .pick _ _ _ | exact .build _ _ | exact .slice _ _ _ _ _ | exact .unOp _ _ _ rfl | exact .index _ _ _ | exact .max _ _ _ rfl rfl | exact .min _ _ _ rfl rfl)) | with_reducible refine Calmly.gl_tf (fun _ _ => ?_) | with_reducible refine Calmly.gl_ft (fun _ _ => ?_)) | ((with_reducible refine Calmly.is_eff ?_); refine Calmly.mix_eff rfl (fun _ _ => ?_)) | ((with_reducible refine Calmly.is_gf ?_); refine Calmly.mix_gf rfl rfl rfl ?_; first | with_reducible refine Calmly.gf_tt (fun _ _ => ?_) | with_reducible refine Calmly.gf_ff (fun _ _ => ?_) | with_reducible refine Calmly.gf_tf (kept_of hk) (fun _ _ => ?_) | with_reducible refine Calmly.gf_ft (kept_of hk) (fun _ _ => ?_)) | ((with_reducible refine Calmly.is_tail ?_); first | refine Calmly.mix_tail_nil ?_ | refine Calmly.mix_tail rfl (fun _ _ => ?_)) | ((with_reducible refine Calmly.is_kept ?_); refine ⟨kept_of hk, ?_⟩) | (with_reducible refine Calmly.mix_alt ?_ ?_))
        refine (DamagedIn_ok aP aQ n cP cQ (encL ms ks den n) (wideL ms ks den wd n) _ oP2 oQ.sr HRG1.out HRG2.out).mono ?_
        rintro e w' ⟨⟨aX, nX, cX, rfl, oX⟩, hs⟩
        replace hk := step_of hk hs
        have lX := oX.len
        rw [HDL.out] at lX
        obtain rfl : nX = 0 := lX
        clear oX oP oQ oP2 f3 hs
        go_wp2_with (first | ((with_reducible refine Calmly.is_fl ?_); refine Calmly.mix_fl rfl ?_ (fun _ _ => ?_); (first | exact .move _ | exact .load _ _ | exact .fieldAddr _ _ _ (by kernel_rfl) | exact .assign _ | exact .binOp _ _ _ _ _ rfl | exact .indexAddr _ _ _ | exact .len _ _ (by kernel_rfl) | exact .field _ _ _ | exact .extract _ _ | exact .pick _ _ _ | exact .build _ _ | exact .slice _ _ _ _ _ | exact .unOp _ _ _ rfl | exact .index _ _ _ | exact .max _ _ _ rfl rfl | exact .min _ _ _ rfl rfl)) | ((with_reducible refine Calmly.is_gl ?_); refine Calmly.mix_gl rfl rfl rfl ?_; first | ((first | with_reducible refine Calmly.gl_tt ?_ (fun _ _ => ?_) | with_reducible refine Calmly.gl_ff ?_ (fun _ _ => ?_)); (first | exact .move _ | exact .load _ _ | exact .fieldAddr _ _ _ (by kernel_rfl) | exact .assign _ | exact .binOp _ _ _ _ _ rfl | exact .indexAddr _ _ _ | exact .len _ _ (by kernel_rfl) | exact .field _ _ _ | exact .extract _ _ | exact .pick _ _ _ | exact .build _ _ | exact .slice _ _ _ _ _ | exact .unOp _ _ _ rfl | exact .index _ _ _ | exact .max _ _ _ rfl rfl | exact .min _ _ _ rfl rfl)) | with_reducible refine Calmly.gl_tf (fun _ _ => ?_) | with_reducible refine Calmly.gl_ft (fun _ _ => ?_)) | ((with_reducible refine Calmly.is_eff ?_); refine Calmly.mix_eff rfl (fun _ _ => ?_)) | ((with_reducible refine Calmly.is_gf ?_); refine Calmly.mix_gf rfl rfl rfl ?_; first | with_reducible refine Calmly.gf_tt (fun _ _ => ?_) | with_reducible refine Calmly.gf_ff (fun _ _ => ?_) | with_reducible refine Calmly.gf_tf (kept_of hk) (fun _ _ => ?_) | with_reducible refine Calmly.gf_ft (kept_of hk) (fun _ _ => ?_)) | ((with_reducible refine Calmly.is_tail ?_); first | refine Calmly.mix_tail_nil ?_ | refine Calmly.mix_tail rfl (fun _ _ => ?_)) | ((with_reducible refine Calmly.is_kept ?_); refine ⟨kept_of hk, ?_⟩) | (with_reducible refine Calmly.mix_alt ?_ ?_))
        have BV2 := BV.trans (hk.mono BV.size)
        replace hT1 := hT1.keep hk
        replace hT2 := hT2.keep hk
        replace hT3 := hT3.keep hk
        replace u1 := (hk.block _ (blk_lt u1)).trans u1
        replace u2 := (hk.block _ (blk_lt u2)).trans u2
        replace u11 := (hk.block _ (blk_lt u11)).trans u11
        clear hk u10 hTE hTB BV
        refine Calmly.wp_region_mix 10 (.fl 0 <| .fl 2 <| .alt 1 (.alt 3 (.alt 4 (.fl 5 <| .fl 6 <| .fl 7 <| .eff 8 <| .eff 9 <| .tail [10]) (.eff 8 (.eff 4 <| .fl 5 <| .fl 6 <| .fl 7 <| .eff 9 <| .tail [10]))) (.eff 8 (.eff 3 <| .eff 4 <| .fl 5 <| .fl 6 <| .fl 7 <| .eff 9 <| .tail [10]))) (.eff 8 (.eff 1 <| .eff 3 <| .eff 4 <| .fl 5 <| .fl 6 <| .fl 7 <| .eff 9 <| .tail [10]))) (by kernel_rfl) (by kernel_rfl) ?_
        replace BV2 : Below w.heap.size w (World.drew _) := BV2.drew
        have jT1 := hT1.drew
        have jT2 := hT2.drew
        have jT3 := hT3.drew
        replace u1 : (World.drew _).heap[w.heap.size]? = some (.cells #[.slice a n c, .slice (some ⟨bK, oK, none⟩) n d] 24) := u1
        replace u2 : (World.drew _).heap[w.heap.size + 1]? = some (.cells #[.int .i64 s, .int .i64 left] 46) := u2
        replace u11 : (World.drew _).heap[b11]? = some (.cells #[.int .i64 den, .slice a11 n c11] 44) := u11
        clear hT1 hT2 hT3
        generalize World.drew _ = V2 at BV2 jT1 jT2 jT3 u1 u2 u11 ⊢
        have hT1 := jT1
        have hT2 := jT2
        have hT3 := jT3
        clear jT1 jT2 jT3
        have f0 := cell_block u1 0
        have f1 := cell_block u1 1
        have f2 := cell_block u11 0
        have f3 := cell_block u11 1
        have hk := Below.refl V2.heap.size V2
        go_wp2_with (first | ((with_reducible refine Calmly.is_fl ?_); refine Calmly.mix_fl rfl ?_ (fun _ _ => ?_); (first | exact .move _ | exact .load _ _ | exact .fieldAddr _ _ _ (by kernel_rfl) | exact .assign _ | exact .binOp _ _ _ _ _ rfl | exact .indexAddr _ _ _ | exact .len _ _ (by kernel_rfl) | exact .field _ _ _ | exact .extract _ _ | exact .pick _ _ _ | exact .build _ _ | exact .slice _ _ _ _ _ | exact .unOp _ _ _ rfl | exact .index _ _ _ | exact .max _ _ _ rfl rfl | exact .min _ _ _ rfl rfl)) | ((with_reducible refine Calmly.is_gl ?_); refine Calmly.mix_gl rfl rfl rfl ?_; first | ((first | with_reducible refine Calmly.gl_tt ?_ (fun _ _ => ?_) | with_reducible refine Calmly.gl_ff ?_ (fun _ _ => ?_)); (first | exact .move _ | exact .load _ _ | exact .fieldAddr _ _ _ (by kernel_rfl) | exact .assign _ | exact .binOp _ _ _ _ _ rfl | exact .indexAddr _ _ _ | exact .len _ _ (by kernel_rfl) | exact .field _ _ _ | exact .extract _ _ | exact .pick _ _ _ | exact .build _ _ | exact .slice _ _ _ _ _ | exact .unOp _ _ _ rfl | exact .index _ _ _ | exact .max _ _ _ rfl rfl | exact .min _ _ _ rfl rfl)) | with_reducible refine Calmly.gl_tf (fun _ _ => ?_) | with_reducible refine Calmly.gl_ft (fun _ _ => ?_)) | ((with_reducible refine Calmly.is_eff ?_); refine Calmly.mix_eff rfl (fun _ _ => ?_)) | ((with_reducible refine Calmly.is_gf ?_); refine Calmly.mix_gf rfl rfl rfl ?_; first | with_reducible refine Calmly.gf_tt (fun _ _ => ?_) | with_reducible refine Calmly.gf_ff (fun _ _ => ?_) | with_reducible refine Calmly.gf_tf (kept_of hk) (fun _ _ => ?_) | with_reducible refine Calmly.gf_ft (kept_of hk) (fun _ _ => ?_)) | ((with_reducible refine Calmly.is_kept ?_); refine ⟨kept_of hk, ?_⟩) | (with_reducible refine Calmly.mix_alt ?_ ?_) | (go_at_call 18; refine (Copy_any a (some ⟨bK, oK, none⟩) n c n d ms ks _ (hT1.keep hk) (hT2.keep hk) (by omega) (by omega)).mono ?_; rintro e w' ⟨aN, cN, bN, dN, BN, rfl, oN1, oN2, _, _, hs⟩; replace hk := step_of hk hs; have iN1 := oN1.si; have iN2 := oN2.si; clear oN1 oN2; (try replace pA := blk_keep pA hs); clear hs) | (go_at_call 26; refine (CopyAfter_any a11 n c11 (wideL ms (ks.set s left) den wd n) den _ (hT3.keep hk) (by omega)).mono ?_; rintro e w' ⟨aR, cR, rfl, iR, hs⟩; replace hk := step_of hk hs; replace iN1 := iN1.keep hs; replace iN2 := iN2.keep hs; (try replace pA := blk_keep pA hs); clear hs) | (go_at_call 25; refine (ExplainedBy_ok aN bN aR n cN dN n cR ms ks (wideL ms (ks.set s left) den wd n) den _ iN1 iN2 iR HA2.out HC.out (by omega) (by omega) (by omega) t yl true HY.out).mono ?_; rintro e w' ⟨he, hs⟩; rw [show unlessE true 12 = (0 : Int) from rfl] at he; subst he; replace hk := step_of hk hs; clear iN1 iN2 iR; (try replace pA := blk_keep pA hs); clear hs; (try have zA0 := cell_block pA 0); (try have zA1 := cell_block pA 1); (try have zA2 := frozen_block pA 0); (try have zA3 := frozen_block pA 1)) | (refine kept_setS hk hAge pA (fun hk' h1' => ?_); replace hk := hk'; replace pA := h1'; clear hk' h1' zA0 zA1 zA2 zA3; generalize World.setCell (World.setCell _ _ _) _ _ = W' at hk pA ⊢) | (have hAge := hk.size; refine kept_allocB hk (fun hs hk' hblk => ?_); (try replace iN1 := iN1.keep hs); (try replace iN2 := iN2.keep hs); (try replace iR := iR.keep hs); (first | generalize World.alloc _ _ = W' at hs hk' hblk iN1 iN2 iR ⊢ | generalize World.alloc _ _ = W' at hs hk' hblk iN1 iN2 ⊢ | generalize World.alloc _ _ = W' at hs hk' hblk ⊢); replace hk := hk'; clear hk'; have pA := hblk; clear hs hblk; have zA0 := cell_block pA 0; have zA1 := cell_block pA 1; have zA2 := frozen_block pA 0; have zA3 := frozen_block pA 1))
        all_goals
          as_aux_lemma =>
          have BV3 := BV2.trans (hk.mono BV2.size)
          replace hT1 := hT1.keep hk
          replace hT2 := hT2.keep hk
          replace hT3 := hT3.keep hk
          replace u1 := (hk.block _ (blk_lt u1)).trans u1
          replace u2 := (hk.block _ (blk_lt u2)).trans u2
          replace u11 := (hk.block _ (blk_lt u11)).trans u11
          clear f0 f1 f2 f3 BV2
          have f0 := cell_block u1 0
          have f1 := cell_block u1 1
          have f4 := cell_block u2 0
          have f5 := cell_block u2 1
          have zA0 := cell_block pA 0
          have zA1 := cell_block pA 1
          obtain ⟨bb, oo, hbb, hcK⟩ := hT2.at_ l5
          cases hbb
          have e1 := hcK t htn
          have e2 := hcK s g9
          have i1 : (t : Int) < (n : Int) := by omega
          have i0 : (0 : Int) ≤ (t : Int) := by omega
          have j1 : (s : Int) < (n : Int) := by omega
          have j0 : (0 : Int) ≤ (s : Int) := by omega
          clear hcK
          go_wp2_with (first | ((with_reducible refine Calmly.is_fl ?_); refine Calmly.mix_fl rfl ?_ (fun _ _ => ?_); (first | exact .move _ | exact .load _ _ | exact .fieldAddr _ _ _ (by kernel_rfl) | exact .assign _ | exact .binOp _ _ _ _ _ rfl | exact .indexAddr _ _ _ | exact .len _ _ (by kernel_rfl) | exact .field _ _ _ | exact .extract _ _ | exact .pick _ _ _ | exact .build _ _ | exact .slice _ _ _ _ _ | exact .unOp _ _ _ rfl | exact .index _ _ _ | exact .max _ _ _ rfl rfl | exact .min _ _ _ rfl rfl)) | ((with_reducible refine Calmly.is_gl ?_); refine Calmly.mix_gl rfl rfl rfl ?_; first | ((first | with_reducible refine Calmly.gl_tt ?_ (fun _ _ => ?_) | with_reducible refine Calmly.gl_ff ?_ (fun _ _ => ?_)); (first | exact .move _ | exact .load _ _ | exact .fieldAddr _ _ _ (by kernel_rfl) | exact .assign _ | exact .binOp _ _ _ _ _ rfl | exact .indexAddr _ _ _ | exact .len _ _ (by kernel_rfl) | exact .field _ _ _ | exact .extract _ _ | exact .pick _ _ _ | exact .build _ _ | exact .slice _ _ _ _ _ | exact .unOp _ _ _ rfl | exact .index _ _ _ | exact .max _ _ _ rfl rfl | exact .min _ _ _ rfl rfl)) | with_reducible refine Calmly.gl_tf (fun _ _ => ?_) | with_reducible refine Calmly.gl_ft (fun _ _ => ?_)) | ((with_reducible refine Calmly.is_eff ?_); refine Calmly.mix_eff rfl (fun _ _ => ?_)) | ((with_reducible refine Calmly.is_gf ?_); refine Calmly.mix_gf rfl rfl rfl ?_; first | with_reducible refine Calmly.gf_tt (fun _ _ => ?_) | with_reducible refine Calmly.gf_ff (fun _ _ => ?_) | with_reducible refine Calmly.gf_tf (kept_of hk) (fun _ _ => ?_) | with_reducible refine Calmly.gf_ft (kept_of hk) (fun _ _ => ?_)) | ((with_reducible refine Calmly.is_tail ?_); first | refine Calmly.mix_tail_nil ?_ | refine Calmly.mix_tail rfl (fun _ _ => ?_)) | ((with_reducible refine Calmly.is_kept ?_); refine ⟨kept_of hk, ?_⟩) | (with_reducible refine Calmly.mix_alt ?_ ?_))
          refine Calmly.wp_region_mix 27 (.fl 0 <| .fl 1 <| .fl 2 <| .gl 3 <| .gl 4 <| .gf 5 <| .gl 6 <| .fl 7 <| .fl 8 <| .gl 9 <| .gl 10 <| .gl 11 <| .gl 12 <| .gl 13 <| .gl 14 <| .gl 15 <| .gl 16 <| .gl 17 <| .gl 18 <| .gl 19 <| .gl 20 <| .gl 21 <| .gl 22 <| .gl 23 <| .gl 24 <| .gf 25 <| .gl 26 <| .tail [27]) (by kernel_rfl) (by kernel_rfl) ?_
          replace hk := Below.refl W'.drew.heap.size W'.drew
          replace hT1 := hT1.drew
          replace hT2 := hT2.drew
          replace hT3 := hT3.drew
          go_wp2_with (first | ((with_reducible refine Calmly.is_fl ?_); refine Calmly.mix_fl rfl ?_ (fun _ _ => ?_); (first | exact .move _ | exact .load _ _ | exact .fieldAddr _ _ _ (by kernel_rfl) | exact .assign _ | exact .binOp _ _ _ _ _ rfl | exact .indexAddr _ _ _ | exact .len _ _ (by kernel_rfl) | exact .field _ _ _ | exact .extract _ _ | exact .pick _ _ _ | exact .build _ _ | exact .slice _ _ _ _ _ | exact .unOp _ _ _ rfl | exact .index _ _ _ | exact .max _ _ _ rfl rfl | exact .min _ _ _ rfl rfl)) | ((with_reducible refine Calmly.is_gl ?_); refine Calmly.mix_gl rfl rfl rfl ?_; first | ((first | with_reducible refine Calmly.gl_tt ?_ (fun _ _ => ?_) | with_reducible refine Calmly.gl_ff ?_ (fun _ _ => ?_)); (first | exact .move _ | exact .load _ _ | exact .fieldAddr _ _ _ (by kernel_rfl) | exact .assign _ | exact .binOp _ _ _ _ _ rfl | exact .indexAddr _ _ _ | exact .len _ _ (by kernel_rfl) | exact .field _ _ _ | exact .extract _ _ | exact .pick _ _ _ | exact .build _ _ | exact .slice _ _ _ _ _ | exact .unOp _ _ _ rfl | exact .index _ _ _ | exact .max _ _ _ rfl rfl | exact .min _ _ _ rfl rfl)) | with_reducible refine Calmly.gl_tf (fun _ _ => ?_) | with_reducible refine Calmly.gl_ft (fun _ _ => ?_)) | ((with_reducible refine Calmly.is_eff ?_); refine Calmly.mix_eff rfl (fun _ _ => ?_)) | ((with_reducible refine Calmly.is_gf ?_); refine Calmly.mix_gf rfl rfl rfl ?_; first | with_reducible refine Calmly.gf_tt (fun _ _ => ?_) | with_reducible refine Calmly.gf_ff (fun _ _ => ?_) | with_reducible refine Calmly.gf_tf (kept_of hk) (fun _ _ => ?_) | with_reducible refine Calmly.gf_ft (kept_of hk) (fun _ _ => ?_)) | ((with_reducible refine Calmly.is_tail ?_); first | refine Calmly.mix_tail_nil ?_ | refine Calmly.mix_tail rfl (fun _ _ => ?_)) | ((with_reducible refine Calmly.is_kept ?_); refine ⟨kept_of hk, ?_⟩) | (with_reducible refine Calmly.mix_alt ?_ ?_) | (go_at_call 31; refine (DamageErr_any a (some ⟨bK, oK, none⟩) n c n d ms ks t yl _ (hT1.keep hk) (hT2.keep hk) 0 HDM.out).mono ?_; rintro e w' ⟨rfl, hs⟩; replace hk := step_of hk hs; clear hs) | (go_at_call 52; refine (HCP.out _).mono ?_; rintro e w' ⟨rfl, rfl⟩))
          have BV4 := (BV3.drew).trans (hk.mono BV3.size)
          replace hT1 := hT1.keep hk
          replace hT2 := hT2.keep hk
          replace hT3 := hT3.keep hk
          replace u1 := (hk.block _ (show _ < W'.drew.heap.size from blk_lt u1)).trans u1
          replace u11 := (hk.block _ (show _ < W'.drew.heap.size from blk_lt u11)).trans u11
          replace pA := (hk.block _ (show _ < W'.drew.heap.size from blk_lt pA)).trans pA
          clear f0 f1 f4 f5 zA0 zA1 e1 e2 u2
          have f0 := cell_block u1 0
          have f1 := cell_block u1 1
          have f2 := cell_block u11 0
          have f3 := cell_block u11 1
          have zA0 := cell_block pA 0
          have zA1 := cell_block pA 1
          refine Calmly.wp_region_mix 10 (.fl 0 <| .fl 2 <| .fl 4 <| .eff 1 <| .eff 3 <| .eff 5 <| .fl 6 <| .fl 7 <| .fl 8 <| .fl 9 <| .tail [10]) (by kernel_rfl) (by kernel_rfl) ?_
          replace hk := Below.refl (World.drew w').heap.size (World.drew w')
          go_wp2_with (first | ((with_reducible refine Calmly.is_fl ?_); refine Calmly.mix_fl rfl ?_ (fun _ _ => ?_); (first | exact .move _ | exact .load _ _ | exact .fieldAddr _ _ _ (by kernel_rfl) | exact .assign _ | exact .binOp _ _ _ _ _ rfl | exact .indexAddr _ _ _ | exact .len _ _ (by kernel_rfl) | exact .field _ _ _ | exact .extract _ _ | exact .pick _ _ _ | exact .build _ _ | exact .slice _ _ _ _ _ | exact .unOp _ _ _ rfl | exact .index _ _ _ | exact .max _ _ _ rfl rfl | exact .min _ _ _ rfl rfl)) | ((with_reducible refine Calmly.is_gl ?_); refine Calmly.mix_gl rfl rfl rfl ?_; first | ((first | with_reducible refine Calmly.gl_tt ?_ (fun _ _ => ?_) | with_reducible refine Calmly.gl_ff ?_ (fun _ _ => ?_)); (first | exact .move _ | exact .load _ _ | exact .fieldAddr _ _ _ (by kernel_rfl) | exact .assign _ | exact .binOp _ _ _ _ _ rfl | exact .indexAddr _ _ _ | exact .len _ _ (by kernel_rfl) | exact .field _ _ _ | exact .extract _ _ | exact .pick _ _ _ | exact .build _ _ | exact .slice _ _ _ _ _ | exact .unOp _ _ _ rfl | exact .index _ _ _ | exact .max _ _ _ rfl rfl | exact .min _ _ _ rfl rfl)) | with_reducible refine Calmly.gl_tf (fun _ _ => ?_) | with_reducible refine Calmly.gl_ft (fun _ _ => ?_)) | ((with_reducible refine Calmly.is_eff ?_); refine Calmly.mix_eff rfl (fun _ _ => ?_)) | ((with_reducible refine Calmly.is_gf ?_); refine Calmly.mix_gf rfl rfl rfl ?_; first | with_reducible refine Calmly.gf_tt (fun _ _ => ?_) | with_reducible refine Calmly.gf_ff (fun _ _ => ?_) | with_reducible refine Calmly.gf_tf (kept_of hk) (fun _ _ => ?_) | with_reducible refine Calmly.gf_ft (kept_of hk) (fun _ _ => ?_)) | ((with_reducible refine Calmly.is_tail ?_); first | refine Calmly.mix_tail_nil ?_ | refine Calmly.mix_tail rfl (fun _ _ => ?_)) | ((with_reducible refine Calmly.is_kept ?_); refine ⟨kept_of hk, ?_⟩) | (with_reducible refine Calmly.mix_alt ?_ ?_))
          refine (Copy_any a (some ⟨bK, oK, none⟩) n c n d ms ks _ hT1.drew hT2.drew (by omega) (by omega)).mono ?_
          rintro e v1 ⟨aN, cN, bN, dN, BN, rfl, oN1, oN2, _, _, hs⟩
          replace hk := step_of hk hs
          have iN1 := oN1.si
          have iN2 := oN2.si
          clear hs oN1 oN2
          go_wp2_with (first | ((with_reducible refine Calmly.is_fl ?_); refine Calmly.mix_fl rfl ?_ (fun _ _ => ?_); (first | exact .move _ | exact .load _ _ | exact .fieldAddr _ _ _ (by kernel_rfl) | exact .assign _ | exact .binOp _ _ _ _ _ rfl | exact .indexAddr _ _ _ | exact .len _ _ (by kernel_rfl) | exact .field _ _ _ | exact .extract _ _ | exact .pick _ _ _ | exact .build _ _ | exact .slice _ _ _ _ _ | exact .unOp _ _ _ rfl | exact .index _ _ _ | exact .max _ _ _ rfl rfl | exact .min _ _ _ rfl rfl)) | ((with_reducible refine Calmly.is_gl ?_); refine Calmly.mix_gl rfl rfl rfl ?_; first | ((first | with_reducible refine Calmly.gl_tt ?_ (fun _ _ => ?_) | with_reducible refine Calmly.gl_ff ?_ (fun _ _ => ?_)); (first | exact .move _ | exact .load _ _ | exact .fieldAddr _ _ _ (by kernel_rfl) | exact .assign _ | exact .binOp _ _ _ _ _ rfl | exact .indexAddr _ _ _ | exact .len _ _ (by kernel_rfl) | exact .field _ _ _ | exact .extract _ _ | exact .pick _ _ _ | exact .build _ _ | exact .slice _ _ _ _ _ | exact .unOp _ _ _ rfl | exact .index _ _ _ | exact .max _ _ _ rfl rfl | exact .min _ _ _ rfl rfl)) | with_reducible refine Calmly.gl_tf (fun _ _ => ?_) | with_reducible refine Calmly.gl_ft (fun _ _ => ?_)) | ((with_reducible refine Calmly.is_eff ?_); refine Calmly.mix_eff rfl (fun _ _ => ?_)) | ((with_reducible refine Calmly.is_gf ?_); refine Calmly.mix_gf rfl rfl rfl ?_; first | with_reducible refine Calmly.gf_tt (fun _ _ => ?_) | with_reducible refine Calmly.gf_ff (fun _ _ => ?_) | with_reducible refine Calmly.gf_tf (kept_of hk) (fun _ _ => ?_) | with_reducible refine Calmly.gf_ft (kept_of hk) (fun _ _ => ?_)) | ((with_reducible refine Calmly.is_tail ?_); first | refine Calmly.mix_tail_nil ?_ | refine Calmly.mix_tail rfl (fun _ _ => ?_)) | ((with_reducible refine Calmly.is_kept ?_); refine ⟨kept_of hk, ?_⟩) | (with_reducible refine Calmly.mix_alt ?_ ?_))
          refine (CopyAfter_any a11 n c11 (wideL ms (ks.set s left) den wd n) den _ (hT3.drew.keep hk) (by omega)).mono ?_
          rintro e v2 ⟨aR, cR, rfl, iR, hs⟩
          replace hk := step_of hk hs
          replace iN1 := iN1.keep hs
          replace iN2 := iN2.keep hs
          clear hs
          go_wp2_with (first | ((with_reducible refine Calmly.is_fl ?_); refine Calmly.mix_fl rfl ?_ (fun _ _ => ?_); (first | exact .move _ | exact .load _ _ | exact .fieldAddr _ _ _ (by kernel_rfl) | exact .assign _ | exact .binOp _ _ _ _ _ rfl | exact .indexAddr _ _ _ | exact .len _ _ (by kernel_rfl) | exact .field _ _ _ | exact .extract _ _ | exact .pick _ _ _ | exact .build _ _ | exact .slice _ _ _ _ _ | exact .unOp _ _ _ rfl | exact .index _ _ _ | exact .max _ _ _ rfl rfl | exact .min _ _ _ rfl rfl)) | ((with_reducible refine Calmly.is_gl ?_); refine Calmly.mix_gl rfl rfl rfl ?_; first | ((first | with_reducible refine Calmly.gl_tt ?_ (fun _ _ => ?_) | with_reducible refine Calmly.gl_ff ?_ (fun _ _ => ?_)); (first | exact .move _ | exact .load _ _ | exact .fieldAddr _ _ _ (by kernel_rfl) | exact .assign _ | exact .binOp _ _ _ _ _ rfl | exact .indexAddr _ _ _ | exact .len _ _ (by kernel_rfl) | exact .field _ _ _ | exact .extract _ _ | exact .pick _ _ _ | exact .build _ _ | exact .slice _ _ _ _ _ | exact .unOp _ _ _ rfl | exact .index _ _ _ | exact .max _ _ _ rfl rfl | exact .min _ _ _ rfl rfl)) | with_reducible refine Calmly.gl_tf (fun _ _ => ?_) | with_reducible refine Calmly.gl_ft (fun _ _ => ?_)) | ((with_reducible refine Calmly.is_eff ?_); refine Calmly.mix_eff rfl (fun _ _ => ?_)) | ((with_reducible refine Calmly.is_gf ?_); refine Calmly.mix_gf rfl rfl rfl ?_; first | with_reducible refine Calmly.gf_tt (fun _ _ => ?_) | with_reducible refine Calmly.gf_ff (fun _ _ => ?_) | with_reducible refine Calmly.gf_tf (kept_of hk) (fun _ _ => ?_) | with_reducible refine Calmly.gf_ft (kept_of hk) (fun _ _ => ?_)) | ((with_reducible refine Calmly.is_tail ?_); first | refine Calmly.mix_tail_nil ?_ | refine Calmly.mix_tail rfl (fun _ _ => ?_)) | ((with_reducible refine Calmly.is_kept ?_); refine ⟨kept_of hk, ?_⟩) | (with_reducible refine Calmly.mix_alt ?_ ?_))
          refine (CheckDamage_ok aN bN aR n cN dN n cR ms ks (wideL ms (ks.set s left) den wd n) den t yl _ iN1 iN2 iR HA2.out HC.out (by omega) (by omega) (by omega) htn y3 y4 0 false HO3.out).mono ?_
          rintro e v3 ⟨he, hs⟩
          rw [show unlessE (!false) 19 = (0 : Int) from rfl] at he
          subst he
          replace hk := step_of hk hs
          have BV5 := (BV4.drew).trans (hk.mono BV4.size)
          go_wp2_with (first | ((with_reducible refine Calmly.is_fl ?_); refine Calmly.mix_fl rfl ?_ (fun _ _ => ?_); (first | exact .move _ | exact .load _ _ | exact .fieldAddr _ _ _ (by kernel_rfl) | exact .assign _ | exact .binOp _ _ _ _ _ rfl | exact .indexAddr _ _ _ | exact .len _ _ (by kernel_rfl) | exact .field _ _ _ | exact .extract _ _ | exact .pick _ _ _ | exact .build _ _ | exact .slice _ _ _ _ _ | exact .unOp _ _ _ rfl | exact .index _ _ _ | exact .max _ _ _ rfl rfl | exact .min _ _ _ rfl rfl)) | ((with_reducible refine Calmly.is_gl ?_); refine Calmly.mix_gl rfl rfl rfl ?_; first | ((first | with_reducible refine Calmly.gl_tt ?_ (fun _ _ => ?_) | with_reducible refine Calmly.gl_ff ?_ (fun _ _ => ?_)); (first | exact .move _ | exact .load _ _ | exact .fieldAddr _ _ _ (by kernel_rfl) | exact .assign _ | exact .binOp _ _ _ _ _ rfl | exact .indexAddr _ _ _ | exact .len _ _ (by kernel_rfl) | exact .field _ _ _ | exact .extract _ _ | exact .pick _ _ _ | exact .build _ _ | exact .slice _ _ _ _ _ | exact .unOp _ _ _ rfl | exact .index _ _ _ | exact .max _ _ _ rfl rfl | exact .min _ _ _ rfl rfl)) | with_reducible refine Calmly.gl_tf (fun _ _ => ?_) | with_reducible refine Calmly.gl_ft (fun _ _ => ?_)) | ((with_reducible refine Calmly.is_eff ?_); refine Calmly.mix_eff rfl (fun _ _ => ?_)) | ((with_reducible refine Calmly.is_gf ?_); refine Calmly.mix_gf rfl rfl rfl ?_; first | with_reducible refine Calmly.gf_tt (fun _ _ => ?_) | with_reducible refine Calmly.gf_ff (fun _ _ => ?_) | with_reducible refine Calmly.gf_tf (kept_of hk) (fun _ _ => ?_) | with_reducible refine Calmly.gf_ft (kept_of hk) (fun _ _ => ?_)) | ((with_reducible refine Calmly.is_tail ?_); first | refine Calmly.mix_tail_nil ?_ | refine Calmly.mix_tail rfl (fun _ _ => ?_)) | ((with_reducible refine Calmly.is_kept ?_); refine ⟨kept_of hk, ?_⟩) | (with_reducible refine Calmly.mix_alt ?_ ?_))
          go_ret
          exact ⟨rfl, BV5⟩
end Go.Proofs.Ytmaidjankakppaa
