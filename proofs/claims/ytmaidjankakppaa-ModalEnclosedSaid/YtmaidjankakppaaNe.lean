/- The law ModalEnclosed, walked. -/
import Derived.Test.YtmaidjankakppaaNd
import Derived.Test.YtmaidjankakppaaQb
import Derived.Test.YtmaidjankakppaaAw
namespace Go.Proofs.Ytmaidjankakppaa
open Go.RowKit
open Calmly (Kept)

theorem encErr_zero {ms ks : List Int} (h : (checkF ms ks).2 = 0) {k : Nat} (hk : k < ms.length) {den : Int} (h1 : 1 ≤ den) (h2 : den ≤ 50) : encErr ms ks k den = 0 := by
  unfold encErr
  rw [firstE_three, h, if_pos rfl, wIn_iff.2 ⟨by omega, by omega⟩, if_pos (by rfl), wIn_iff.2 ⟨h1, h2⟩]
  rfl

set_option maxRecDepth 100000 in
set_option maxHeartbeats 8000000 in
theorem ModalEnclosed_walk (a b : Option Addr) (n c m d : Nat) (ms ks : List Int) (den : Int) (w : World) (h1 : SI w a n c ms) (h2 : SI w b m d ks) :
    Calls Try.prog 10 #[.agg #[.slice a n c, .slice b m d], .int .i64 den] w fun e w' => e = .returned (.bool true) ∧ Below w.heap.size w w' := by
  have m1 := h1.max
  have c1 := h1.cap
  have m2 := h2.max
  have c2 := h2.cap
  have hA : ∀ (A : World) (o : Obj), Below A.heap.size A (A.alloc o) := fun A o => (Below.refl _ _).alloc (Nat.le_refl _) _
  obtain ⟨C, hC⟩ : ∃ C, (checkF ms ks).2 = C := ⟨_, rfl⟩
  obtain ⟨G, hG⟩ : ∃ D, wIn den 1 20 = D := ⟨_, rfl⟩
  have HC := Lib.hid hC
  have HG := Lib.hid hG
  clear hC hG
  go_enter Try.func10, Try.ntmps10
  go_wp2_with fail
  refine (awake_any _).mono ?_
  rintro e w1 ⟨rfl, hs⟩
  have x1 := box1 (w := w) hs
  have BW := (hA w (.cells #[.slice a n c, .slice b m d] 24)).trans (hs.mono (hA w (.cells #[.slice a n c, .slice b m d] 24)).size)
  have f0 := cell_block x1 0
  have f1 := cell_block x1 1
  clear hs
  by_cases hz : C = 0
  case neg =>
    have hz1 : (C != 0) = true := by simpa using hz
    clear hz
    go_wp2_with fail
    refine (FrameErr_any a b n c m d ms ks _ (h1.keep BW) (h2.keep BW)).mono ?_
    rintro e w2 ⟨rfl, hs⟩
    rw [HC.out]
    go_wp2_with fail
    go_ret
    exact ⟨rfl, BW.trans (hs.mono BW.size)⟩
  subst hz
  go_wp2_with fail
  refine (FrameErr_any a b n c m d ms ks _ (h1.keep BW) (h2.keep BW)).mono ?_
  rintro e w2 ⟨rfl, hs⟩
  rw [HC.out]
  replace BW := BW.trans (hs.mono BW.size)
  replace x1 := blk_keep x1 hs
  clear hs f0 f1
  have hf := fr_of HC.out
  obtain ⟨l1, l2⟩ : n ≤ ms.length ∧ ms.length ≤ n := by have := h1.len; omega
  obtain rfl : n = m := by have := h2.len; have := hf.len; omega
  obtain ⟨l5, l6⟩ : 0 < n ∧ n ≤ 4 := by have := hf.pos; have := hf.few; omega
  go_wp2_with fail
  refine (within_any _ _ _ _).mono ?_
  rintro e w3 ⟨rfl, rfl⟩
  rw [HG.out]
  cases G
  case false =>
    go_wp2_with fail
    go_ret
    exact ⟨rfl, BW⟩
  obtain ⟨d1, d2⟩ := wIn_iff.1 HG.out
  clear HG
  have hb := hA w2 (.cells #[.int .i64 0, .int .i64 0] 63)
  have X7 := alloc_new w2 (.cells #[.int .i64 0, .int .i64 0] 63)
  have hlt2 := blk_lt x1
  have HE0 : Hid (∀ k, k < n → encErr ms ks (k : Int) den = 0) := Lib.hid (fun k hk => encErr_zero HC.out (by omega) (by omega) (by omega))
  have HEF : Hid (∀ k, k < n → ∀ lo hi, encF ms ks (k : Int) den = (lo, hi) → (0 ≤ lo ∧ lo ≤ 80 * den) ∧ (lo ≤ hi ∧ hi ≤ lo + 1) ∧ belowF ms ks lo den ≤ k ∧ (lo < hi → k < belowF ms ks hi den) ∧ (lo = hi → modeF ms ks hi den = true ∧ belowF ms ks hi den = k) ∧ ∀ K, 0 < K → k < belowF ms ks (hi * K + 1) (den * K)) := Lib.hid (fun k hk lo hi he => enc_facts hf (by omega) (by omega) (by omega) he)
  have HAS : Hid (∀ k, k + 1 < n → (encF ms ks k den).1 ≤ (encF ms ks ((k + 1 : Nat) : Int) den).1 ∧ (encF ms ks k den).2 ≤ (encF ms ks ((k + 1 : Nat) : Int) den).2) := Lib.hid (fun k hk => enc_asc hf (by omega) (by omega) (by omega))
  have HSM := Lib.hid (enc_sums hf (den := den) (by omega) (by omega))
  have HL1 : Hid (∀ k, k ≤ n → 0 ≤ sumI (fun i => (encF ms ks i den).1) k ∧ sumI (fun i => (encF ms ks i den).1) k ≤ k * 2000) := Lib.hid (fun k hk => sumI_bd _ _ _ (fun i hi => by have := HEF.out i (by omega) (encF ms ks i den).1 (encF ms ks i den).2 rfl; omega))
  have HL2 : Hid (∀ k, k ≤ n → 0 ≤ sumI (fun i => (encF ms ks i den).2) k ∧ sumI (fun i => (encF ms ks i den).2) k ≤ k * 2000) := Lib.hid (fun k hk => sumI_bd _ _ _ (fun i hi => by have := HEF.out i (by omega) (encF ms ks i den).1 (encF ms ks i den).2 rfl; omega))
  have HL0 : Hid (0 < n → 0 ≤ (encF ms ks ((0 : Nat) : Int) den).1 ∧ 0 ≤ (encF ms ks ((0 : Nat) : Int) den).2) := Lib.hid (fun h => by have := HEF.out 0 h (encF ms ks ((0 : Nat) : Int) den).1 (encF ms ks ((0 : Nat) : Int) den).2 rfl; omega)
  go_wp2_with fail
  go_loopw [5, 6, 8] (fun s t z wr => ∃ (k : Nat) (la lb : Int), k ≤ n ∧ z = .int .i64 (k : Int) ∧ s = .int .i64 (sumI (fun i => (encF ms ks i den).1) k) ∧ t = .int .i64 (sumI (fun i => (encF ms ks i den).2) k) ∧ Below w2.heap.size w2 wr ∧ wr.heap[w2.heap.size]? = some (.cells #[.int .i64 la, .int .i64 lb] 63) ∧ Hid (k < n → la ≤ (encF ms ks k den).1 ∧ lb ≤ (encF ms ks k den).2)) (fun _ _ z _ => n - (intOf z).toNat)
  case atStart => exact ⟨0, 0, 0, by omega, rfl, rfl, rfl, hb, X7, Lib.hid (fun h => HL0.out h)⟩
  case round =>
    obtain ⟨k, la, lb, hk0, rfl, rfl, rfl, hbr, X7', hlast⟩ := hrel
    clear X7 hb HL0
    replace BW := BW.trans (hbr.mono BW.size)
    replace x1 := blk_keep x1 hbr
    have f0 := cell_block x1 0
    have f1 := cell_block x1 1
    obtain ⟨A, hA1⟩ : ∃ v, sumI (fun i => (encF ms ks i den).1) k = v := ⟨_, rfl⟩
    obtain ⟨B, hB1⟩ : ∃ v, sumI (fun i => (encF ms ks i den).2) k = v := ⟨_, rfl⟩
    have bA := HL1.out k hk0
    have bB := HL2.out k hk0
    rw [hA1] at bA ⊢
    rw [hB1] at bB ⊢
    have HA := Lib.hid hA1
    have HB := Lib.hid hB1
    clear hA1 hB1
    by_cases hlk : k < n
    · have hi : (k : Int) < (n : Int) := by omega
      obtain ⟨lo, hii, he⟩ : ∃ lo hii, encF ms ks (k : Int) den = (lo, hii) := ⟨_, _, rfl⟩
      obtain ⟨⟨e1, e2⟩, ⟨e3, e4⟩, e5, e6, e7, _⟩ := HEF.out k hlk _ _ he
      have hla := hlast.out hlk
      rw [he] at hla
      obtain ⟨e8, e9⟩ := hla
      dsimp only at e8 e9
      have HE := Lib.hid he
      have HE5 := Lib.hid e5
      have HE6 := Lib.hid e6
      have HE7 := Lib.hid e7
      clear he e5 e6 e7 hlast
      go_wp2_with fail
      refine (Copy_any a b n c n d ms ks _ (h1.keep BW) (h2.keep BW) (by omega) (by omega)).mono ?_
      rintro e w4 ⟨a1, c1', b1, d1', BB, rfl, oA1, oB1, hB, hgB, hs⟩
      replace BW := BW.trans (hs.mono BW.size)
      replace x1 := blk_keep x1 hs
      replace X7' := blk_keep X7' hs
      replace hbr := hbr.trans (hs.mono hbr.size)
      clear hs hgB f0 f1
      go_wp2_with fail
      refine (EnclosureOf_any _ _ n _ n _ ms ks _ _ _ oA1.si oB1.si 0 lo hii (HE0.out k hlk) (fun _ => HE.out) (fun h => absurd rfl h)).mono ?_
      rintro e w5 ⟨rfl, hs⟩
      replace BW := BW.trans (hs.mono BW.size)
      replace x1 := blk_keep x1 hs
      replace X7' := blk_keep X7' hs
      replace hbr := hbr.trans (hs.mono hbr.size)
      clear hs oA1 oB1 hB
      have hs := hA w5 (.cells #[.int .i64 lo, .int .i64 hii] 63)
      have X9 := alloc_new w5 (.cells #[.int .i64 lo, .int .i64 hii] 63)
      have y1 := blk_keep X7' hs
      have g0 := cell_block y1 0
      have g1 := cell_block y1 1
      have g2 := cell_block X9 0
      have g3 := cell_block X9 1
      have hw1 : wIn (hii - lo) 0 1 = true := wIn_iff.2 ⟨by omega, by omega⟩
      have hw2 : wIn lo 0 (100 * den) = true := wIn_iff.2 ⟨by omega, by omega⟩
      go_wp2_with fail
      refine (within_any _ _ _ _).mono ?_
      rintro e w6 ⟨rfl, rfl⟩
      rw [hw1]
      go_wp2_with fail
      refine (within_any _ _ _ _).mono ?_
      rintro e w6 ⟨rfl, rfl⟩
      rw [hw2]
      go_wp2_with fail
      refine Calmly.wp_region_mix 11 (.fl 0 <| .fl 1 <| .fl 2 <| .fl 3 <| .fl 4 <| .fl 5 <| .fl 6 <| .fl 7 <| .fl 8 <| .fl 9 <| .fl 10 <| .tail [11]) (by kernel_rfl) (by kernel_rfl) ?_
      have hlt7 := blk_lt X7'
      have hne : w2.heap.size ≠ w5.heap.size := by omega
      replace BW := (BW.trans (hs.mono BW.size)).drew
      have x1' := blk_keep x1 hs
      replace x1 : (w5.alloc (.cells #[.int .i64 lo, .int .i64 hii] 63)).drew.heap[w.heap.size]? = some (.cells #[.slice a n c, .slice b n d] 24) := x1'
      clear x1'
      replace y1 : (w5.alloc (.cells #[.int .i64 lo, .int .i64 hii] 63)).drew.heap[w2.heap.size]? = some (.cells #[.int .i64 la, .int .i64 lb] 63) := y1
      replace X9 : (w5.alloc (.cells #[.int .i64 lo, .int .i64 hii] 63)).drew.heap[w5.heap.size]? = some (.cells #[.int .i64 lo, .int .i64 hii] 63) := X9
      replace hbr := (hbr.trans (hs.mono hbr.size)).drew
      clear hs g0 g1 g2 g3 hw1 hw2 X7'
      generalize (w5.alloc (.cells #[.int .i64 lo, .int .i64 hii] 63)).drew = V at *
      have g2 := cell_block X9 0
      have g3 := cell_block X9 1
      have g0 := cell_block y1 0
      have g1 := cell_block y1 1
      have g4 := frozen_block y1 0
      have g5 := frozen_block y1 1
      have hk := Below.refl V.heap.size V
      go_wp2_with (first | ((with_reducible refine Calmly.is_fl ?_); refine Calmly.mix_fl rfl ?_ (fun _ _ => ?_); (first | exact .move _ | exact .load _ _ | exact .fieldAddr _ _ _ (by kernel_rfl) | exact .assign _ | exact .binOp _ _ _ _ _ rfl | exact .indexAddr _ _ _ | exact .len _ _ (by kernel_rfl) | exact .field _ _ _ | exact .extract _ _ | exact .pick _ _ _ | exact .build _ _ | exact .slice _ _ _ _ _ | exact .unOp _ _ _ rfl | exact .index _ _ _ | exact .max _ _ _ rfl rfl | exact .min _ _ _ rfl rfl)) | ((with_reducible refine Calmly.is_gl ?_); refine Calmly.mix_gl rfl rfl rfl ?_; first | ((first | with_reducible refine Calmly.gl_tt ?_ (fun _ _ => ?_) | with_reducible refine Calmly.gl_ff ?_ (fun _ _ => ?_)); (first | exact .move _ | exact .load _ _ | exact .fieldAddr _ _ _ (by kernel_rfl) | exact .assign _ | exact .binOp _ _ _ _ _ rfl | exact .indexAddr _ _ _ | exact .len _ _ (by kernel_rfl) | exact .field _ _ _ | exact .extract _ _ | exact .pick _ _ _ | exact .build _ _ | exact .slice _ _ _ _ _ | exact .unOp _ _ _ rfl | exact .index _ _ _ | exact .max _ _ _ rfl rfl | exact .min _ _ _ rfl rfl)) | with_reducible refine Calmly.gl_tf (fun _ _ => ?_) | with_reducible refine Calmly.gl_ft (fun _ _ => ?_)) | ((with_reducible refine Calmly.is_eff ?_); refine Calmly.mix_eff rfl (fun _ _ => ?_)) | ((with_reducible refine Calmly.is_gf ?_); refine Calmly.mix_gf rfl rfl rfl ?_; first | with_reducible refine Calmly.gf_tt (fun _ _ => ?_) | with_reducible refine Calmly.gf_ff (fun _ _ => ?_) | with_reducible refine Calmly.gf_tf (kept_of hk) (fun _ _ => ?_) | with_reducible refine Calmly.gf_ft (kept_of hk) (fun _ _ => ?_)) | ((with_reducible refine Calmly.is_tail ?_); first | refine Calmly.mix_tail_nil ?_ | refine Calmly.mix_tail rfl (fun _ _ => ?_)) | ((with_reducible refine Calmly.is_kept ?_); refine ⟨kept_of hk, ?_⟩) | (with_reducible refine Calmly.mix_alt ?_ ?_))
      replace x1 := blk_other' (blk_other' x1 (show w.heap.size ≠ w2.heap.size by omega) 0 (.int .i64 lo)) (show w.heap.size ≠ w2.heap.size by omega) 1 (.int .i64 hii)
      replace X9 := blk_other' (blk_other' X9 (Ne.symm hne) 0 (.int .i64 lo)) (Ne.symm hne) 1 (.int .i64 hii)
      replace y1 := blkSet (blkSet y1 0 (.int .i64 lo)) 1 (.int .i64 hii)
      replace hbr := (hbr.setCell (p := ⟨w2.heap.size, 0, none⟩) (Nat.le_refl _) (.int .i64 lo)).setCell (p := ⟨w2.heap.size, 1, none⟩) (Nat.le_refl _) (.int .i64 hii)
      replace BW := (BW.setCell (p := ⟨w2.heap.size, 0, none⟩) (Nat.le_of_lt hlt2) (.int .i64 lo)).setCell (p := ⟨w2.heap.size, 1, none⟩) (Nat.le_of_lt hlt2) (.int .i64 hii)
      clear hk g0 g1 g2 g3 g4 g5
      generalize ((V.setCell ⟨w2.heap.size, 0, none⟩ (.int .i64 lo)).setCell ⟨w2.heap.size, 1, none⟩ (.int .i64 hii)) = W7 at *
      refine Calmly.wp_region_mix 10 (.fl 0 <| .fl 1 <| .fl 2 <| .fl 4 <| .fl 5 <| .fl 6 <| .alt 3 (.alt 7 (.alt 8 (.eff 9 <| .tail [10, 11]) (.eff 9 (.eff 8 <| .tail [10, 11]))) (.alt 8 (.alt 7 (.eff 9 <| .tail [10, 11]) (.eff 9 (.eff 7 <| .tail [10, 11]))) (.eff 9 (.alt 7 (.eff 8 <| .tail [10, 11]) (.eff 8 (.eff 7 <| .tail [10, 11])))))) (.alt 8 (.alt 3 (.alt 7 (.eff 9 <| .tail [10, 11]) (.eff 9 (.eff 7 <| .tail [10, 11]))) (.eff 9 (.eff 3 <| .eff 7 <| .tail [10, 11]))) (.eff 9 (.alt 3 (.alt 7 (.eff 8 <| .tail [10, 11]) (.eff 8 (.eff 7 <| .tail [10, 11]))) (.eff 8 (.eff 3 <| .eff 7 <| .tail [10, 11])))))) (by kernel_rfl) (by kernel_rfl) ?_
      rename_i K hK
      have hK' := fun a w (h : Stop _) => hK a w h.out
      clear hK
      replace x1 : W7.drew.heap[w.heap.size]? = some (.cells #[.slice a n c, .slice b n d] 24) := x1
      replace y1 : W7.drew.heap[w2.heap.size]? = some (.cells #[.int .i64 lo, .int .i64 hii] 63) := y1
      replace X9 : W7.drew.heap[w5.heap.size]? = some (.cells #[.int .i64 lo, .int .i64 hii] 63) := X9
      replace hbr := hbr.drew
      replace BW := BW.drew
      clear hlt7
      generalize W7.drew = U at x1 y1 X9 hbr BW ⊢
      have hU9 := blk_lt X9
      have hk := Below.refl U.heap.size U
      have g2 := cell_block X9 0
      have g3 := cell_block X9 1
      obtain ⟨p, hp⟩ : ∃ v, (fracF lo den).1 = v := ⟨_, rfl⟩
      obtain ⟨q, hq⟩ : ∃ v, (fracF lo den).2 = v := ⟨_, rfl⟩
      obtain ⟨p', hp'⟩ : ∃ v, (fracF hii den).1 = v := ⟨_, rfl⟩
      obtain ⟨q', hq'⟩ : ∃ v, (fracF hii den).2 = v := ⟨_, rfl⟩
      have hc1 := frac_cross (x := lo) (y := den) (by omega)
      have hc2 := frac_cross (x := hii) (y := den) (by omega)
      rw [hp, hq] at hc1
      rw [hp', hq'] at hc2
      obtain ⟨u1, u2, u3, u4'⟩ := hc1
      obtain ⟨r1, r2, r3, r4'⟩ := hc2
      have HU4 := Lib.hid u4'
      have HR4 := Lib.hid r4'
      have HP := Lib.hid hp
      have HQ := Lib.hid hq
      have HP' := Lib.hid hp'
      have HQ' := Lib.hid hq'
      clear u4' r4' hp hq hp' hq'
      have HKK : ∀ (b11 b12 : Nat) (y4 y13 y14 y15 y16 y17 y18 y32 y33 y34 y35 y36 y37 y38 y39 y40 y41 y42 y43 y44 y45 y46 y47 y48 y49 y50 y51 y52 y53 y54 y55 y56 y57 y58 y59 y60 y61 y62 y63 y64 y65 y66 y67 y68 y69 y70 y71 y72 y73 y74 y75 y76 y77 y78 y79 y80 y81 y82 y83 y84 y85 y86 y87 y88 y89 y90 y91 y92 y93 y94 y95 y96 y97 y98 y99 y100 y101 y102 y103 y104 y105 y106 y107 y108 y109 y110 y111 y112 y113 y114 y115 y116 y117 y118 y119 y120 y121 y122 y123 y124 y125 y126 y127 y128 y129 y130 y131 y132 y133 y134 y135 y136 y137 y138 y139 y140 y141 y142 y143 y144 y145 y146 y147 y148 y149 y150 y151 y152 y153 y154 y155 y156 y157 y158 y159 y160 y161 y162 y163 y164 y165 y166 : Value) (v : World), U.heap.size ≤ b11 → U.heap.size ≤ b12 → Below U.heap.size U v → v.heap[b11]? = some (.cells #[.int .i64 p, .int .i64 q] 34) → v.heap[b12]? = some (.cells #[.int .i64 p', .int .i64 q'] 34) → K { tmps := #[Value.agg #[Value.slice a n c, Value.slice b n d], Value.int IntKind.i64 den, Value.pointer (some ⟨w.heap.size, 0, none⟩), undef, y4, Value.int IntKind.i64 (A + lo), Value.int IntKind.i64 (B + hii), Value.pointer (some ⟨w2.heap.size, 0, none⟩), Value.int IntKind.i64 (k : Int), Value.pointer (some ⟨w5.heap.size, 0, none⟩), Value.int IntKind.i64 0, Value.pointer (some ⟨b11, 0, none⟩), Value.pointer (some ⟨b12, 0, none⟩), y13, y14, y15, y16, y17, y18, undef, undef, Value.bool true, Value.bool false, Value.agg #[Value.slice a n c, Value.slice b n d], Value.int IntKind.i64 0, Value.bool false, Value.bool false, Value.int IntKind.i64 den, Value.bool true, Value.bool false, Value.bool false, Value.agg #[Value.int IntKind.i64 0, Value.int IntKind.i64 0], y32, y33, y34, y35, y36, y37, y38, y39, y40, y41, y42, y43, y44, y45, y46, y47, y48, y49, y50, y51, y52, y53, y54, y55, y56, y57, y58, y59, y60, y61, y62, y63, y64, y65, y66, y67, y68, y69, y70, y71, y72, y73, y74, y75, y76, y77, y78, y79, y80, y81, y82, y83, y84, y85, y86, y87, y88, y89, y90, y91, y92, y93, y94, y95, y96, y97, y98, y99, y100, y101, y102, y103, y104, y105, y106, y107, y108, y109, y110, y111, y112, y113, y114, y115, y116, y117, y118, y119, y120, y121, y122, y123, y124, y125, y126, y127, y128, y129, y130, y131, y132, y133, y134, y135, y136, y137, y138, y139, y140, y141, y142, y143, y144, y145, y146, y147, y148, y149, y150, y151, y152, y153, y154, y155, y156, y157, y158, y159, y160, y161, y162, y163, y164, y165, y166, undef, undef, undef, undef, undef, undef, undef, undef, undef, undef, undef, undef, undef, undef, undef, undef, undef, undef, undef, undef, undef, undef, undef, undef, undef, undef, undef, undef, undef, undef, undef, undef, undef, undef, undef, undef], defers := [] } v := by
        intro b11 b12 y4 y13 y14 y15 y16 y17 y18 y32 y33 y34 y35 y36 y37 y38 y39 y40 y41 y42 y43 y44 y45 y46 y47 y48 y49 y50 y51 y52 y53 y54 y55 y56 y57 y58 y59 y60 y61 y62 y63 y64 y65 y66 y67 y68 y69 y70 y71 y72 y73 y74 y75 y76 y77 y78 y79 y80 y81 y82 y83 y84 y85 y86 y87 y88 y89 y90 y91 y92 y93 y94 y95 y96 y97 y98 y99 y100 y101 y102 y103 y104 y105 y106 y107 y108 y109 y110 y111 y112 y113 y114 y115 y116 y117 y118 y119 y120 y121 y122 y123 y124 y125 y126 y127 y128 y129 y130 y131 y132 y133 y134 y135 y136 y137 y138 y139 y140 y141 y142 y143 y144 y145 y146 y147 y148 y149 y150 y151 y152 y153 y154 y155 y156 y157 y158 y159 y160 y161 y162 y163 y164 y165 y166 v hb11 hb12 hv X11 X12
        refine hK' _ _ ⟨?_⟩
        clear hK' K hk g2 g3
        replace BW := BW.trans (hv.mono BW.size)
        replace x1 := blk_keep x1 hv
        replace y1 := blk_keep y1 hv
        replace X9 := blk_keep X9 hv
        replace hbr := hbr.trans (hv.mono hbr.size)
        clear hv hb11 hb12
        have hS1 : Hid (sumI (fun i => (encF ms ks i den).1) (k + 1) = A + lo) := Lib.hid (by show sumI _ k + (encF ms ks k den).1 = _; rw [HA.out, HE.out])
        have hS2 : Hid (sumI (fun i => (encF ms ks i den).2) (k + 1) = B + hii) := Lib.hid (by show sumI _ k + (encF ms ks k den).2 = _; rw [HB.out, HE.out])
        have hnext : Hid (k + 1 < n → lo ≤ (encF ms ks ((k + 1 : Nat) : Int) den).1 ∧ hii ≤ (encF ms ks ((k + 1 : Nat) : Int) den).2) := Lib.hid (fun h => by
          have := HAS.out k h
          rwa [HE.out] at this)
        have f0 := cell_block X11 0
        have f1 := cell_block X11 1
        have hl11 := blk_lt X11
        by_cases hD : squareE p q = 0
        case neg =>
          have hz1 : (squareE p q != 0) = true := by simpa using hD
          clear hD
          go_wp2_with fail
          refine (rSquareErr_any p q _ (by omega) (by omega) (by omega)).mono ?_
          rintro e v1 ⟨rfl, hs⟩
          replace y1 := blk_keep y1 hs
          replace hbr := hbr.trans (hs.mono hbr.size)
          go_wp2_with fail
          go_roundw
          case rel => exact ⟨k + 1, lo, hii, by omega, by go_num, by rw [hS1.out], by rw [hS2.out], hbr, y1, hnext⟩
          case measure => simp [intOf]; omega
        have HD := Lib.hid hD
        clear hD
        go_wp2_with fail
        refine (rSquareErr_any p q _ (by omega) (by omega) (by omega)).mono ?_
        rintro e v1 ⟨rfl, hs⟩
        rw [HD.out]
        replace BW := BW.trans (hs.mono BW.size)
        replace x1 := blk_keep x1 hs
        replace y1 := blk_keep y1 hs
        replace X9 := blk_keep X9 hs
        replace X11 := blk_keep X11 hs
        replace X12 := blk_keep X12 hs
        replace hbr := hbr.trans (hs.mono hbr.size)
        clear hs f0 f1 hl11
        have f0 := cell_block X12 0
        have f1 := cell_block X12 1
        have hl12 := blk_lt X12
        by_cases hD : squareE p' q' = 0
        case neg =>
          have hz1 : (squareE p' q' != 0) = true := by simpa using hD
          clear hD
          go_wp2_with fail
          refine (rSquareErr_any p' q' _ (by omega) (by omega) (by omega)).mono ?_
          rintro e v2 ⟨rfl, hs⟩
          replace y1 := blk_keep y1 hs
          replace hbr := hbr.trans (hs.mono hbr.size)
          go_wp2_with fail
          go_roundw
          case rel => exact ⟨k + 1, lo, hii, by omega, by go_num, by rw [hS1.out], by rw [hS2.out], hbr, y1, hnext⟩
          case measure => simp [intOf]; omega
        have HD' := Lib.hid hD
        clear hD
        go_wp2_with fail
        refine (rSquareErr_any p' q' _ (by omega) (by omega) (by omega)).mono ?_
        rintro e v2 ⟨rfl, hs⟩
        rw [HD'.out]
        replace BW := BW.trans (hs.mono BW.size)
        replace x1 := blk_keep x1 hs
        replace y1 := blk_keep y1 hs
        replace X9 := blk_keep X9 hs
        replace X11 := blk_keep X11 hs
        replace X12 := blk_keep X12 hs
        replace hbr := hbr.trans (hs.mono hbr.size)
        clear hs f0 f1 hl12
        go_wp2_with fail
        have HE1 := Lib.hid (show (if (checkF ms ks).2 = 0 then squareE p q else (checkF ms ks).2) = 0 by rw [if_pos HC.out]; exact HD.out)
        have HE2 := Lib.hid (show (if (checkF ms ks).2 = 0 then squareE p' q' else (checkF ms ks).2) = 0 by rw [if_pos HC.out]; exact HD'.out)
        obtain ⟨mm, hmm⟩ : ∃ v, belowF ms ks p q = v := ⟨_, rfl⟩
        obtain ⟨nn, hnn⟩ : ∃ v, belowF ms ks p' q' = v := ⟨_, rfl⟩
        obtain ⟨I, hI⟩ : ∃ v, modeF ms ks p' q' = v := ⟨_, rfl⟩
        have s1 := below_same hf (num := p) (den := q) (num' := lo) (den' := den) u1 (by omega) HU4.out
        have s2 := below_same hf (num := p') (den := q') (num' := hii) (den' := den) r1 (by omega) HR4.out
        have s3 := mode_same hf (num := p') (den := q') (num' := hii) (den' := den) r1 (by omega) HR4.out
        rw [hmm] at s1
        rw [hnn] at s2
        rw [hI] at s3
        have t1 : mm ≤ (k : Int) := by rw [s1]; exact HE5.out
        have t2 : Hid (lo < hii → (k : Int) < nn) := Lib.hid (by rw [s2]; exact HE6.out)
        have t3 : Hid (lo = hii → I = true ∧ nn = (k : Int)) := Lib.hid (by rw [s2, s3]; exact HE7.out)
        have HM := Lib.hid hmm
        have HN := Lib.hid hnn
        have HI := Lib.hid hI
        clear hmm hnn hI s1 s2 s3
        refine Calmly.wp_region_mix 8 (.fl 0 <| .fl 2 <| .eff 1 <| .eff 3 <| .fl 4 <| .fl 5 <| .fl 6 <| .fl 7 <| .tail [8]) (by kernel_rfl) (by kernel_rfl) ?_
        replace x1 : v2.drew.heap[w.heap.size]? = some (.cells #[.slice a n c, .slice b n d] 24) := x1
        replace y1 : v2.drew.heap[w2.heap.size]? = some (.cells #[.int .i64 lo, .int .i64 hii] 63) := y1
        replace X9 : v2.drew.heap[w5.heap.size]? = some (.cells #[.int .i64 lo, .int .i64 hii] 63) := X9
        replace X11 : v2.drew.heap[b11]? = some (.cells #[.int .i64 p, .int .i64 q] 34) := X11
        replace X12 : v2.drew.heap[b12]? = some (.cells #[.int .i64 p', .int .i64 q'] 34) := X12
        replace BW := BW.drew
        replace hbr := hbr.drew
        generalize v2.drew = V1 at x1 y1 X9 X11 X12 BW hbr ⊢
        have f0 := cell_block x1 0
        have f1 := cell_block x1 1
        have f2 := cell_block X11 0
        have f3 := cell_block X11 1
        have f4 := cell_block X12 0
        have f5 := cell_block X12 1
        have hl11 := blk_lt X11
        have hl12 := blk_lt X12
        have hk := Below.refl V1.heap.size V1
        go_wp2_with (first | ((with_reducible refine Calmly.is_fl ?_); refine Calmly.mix_fl rfl ?_ (fun _ _ => ?_); (first | exact .move _ | exact .load _ _ | exact .fieldAddr _ _ _ (by kernel_rfl) | exact .assign _ | exact .binOp _ _ _ _ _ rfl | exact .indexAddr _ _ _ | exact .len _ _ (by kernel_rfl) | exact .field _ _ _ | exact .extract _ _ | exact .pick _ _ _ | exact .build _ _ | exact .slice _ _ _ _ _ | exact .unOp _ _ _ rfl | exact .index _ _ _ | exact .max _ _ _ rfl rfl | exact .min _ _ _ rfl rfl)) | ((with_reducible refine Calmly.is_gl ?_); refine Calmly.mix_gl rfl rfl rfl ?_; first | ((first | with_reducible refine Calmly.gl_tt ?_ (fun _ _ => ?_) | with_reducible refine Calmly.gl_ff ?_ (fun _ _ => ?_)); (first | exact .move _ | exact .load _ _ | exact .fieldAddr _ _ _ (by kernel_rfl) | exact .assign _ | exact .binOp _ _ _ _ _ rfl | exact .indexAddr _ _ _ | exact .len _ _ (by kernel_rfl) | exact .field _ _ _ | exact .extract _ _ | exact .pick _ _ _ | exact .build _ _ | exact .slice _ _ _ _ _ | exact .unOp _ _ _ rfl | exact .index _ _ _ | exact .max _ _ _ rfl rfl | exact .min _ _ _ rfl rfl)) | with_reducible refine Calmly.gl_tf (fun _ _ => ?_) | with_reducible refine Calmly.gl_ft (fun _ _ => ?_)) | ((with_reducible refine Calmly.is_eff ?_); refine Calmly.mix_eff rfl (fun _ _ => ?_)) | ((with_reducible refine Calmly.is_gf ?_); refine Calmly.mix_gf rfl rfl rfl ?_; first | with_reducible refine Calmly.gf_tt (fun _ _ => ?_) | with_reducible refine Calmly.gf_ff (fun _ _ => ?_) | with_reducible refine Calmly.gf_tf (kept_of hk) (fun _ _ => ?_) | with_reducible refine Calmly.gf_ft (kept_of hk) (fun _ _ => ?_)) | ((with_reducible refine Calmly.is_tail ?_); first | refine Calmly.mix_tail_nil ?_ | refine Calmly.mix_tail rfl (fun _ _ => ?_)) | ((with_reducible refine Calmly.is_kept ?_); refine ⟨kept_of hk, ?_⟩) | (with_reducible refine Calmly.mix_alt ?_ ?_) | (go_at_call 18; refine (Copy_any a b n c n d ms ks _ ((h1.keep BW).keep hk) ((h2.keep BW).keep hk) (by omega) (by omega)).mono ?_; rintro e w' ⟨a1, c1', b1, d1', BB, rfl, oA1, oB1, hB, hgB, hs⟩; replace hk := step_of hk hs; clear hgB hs) | (go_at_call 36; refine (CountBelow_any _ _ n _ n _ ms ks p q _ oA1.si oB1.si (by omega) (by omega) (by omega) 0 mm HE1.out (fun _ => HM.out) (fun h => absurd rfl h)).mono ?_; rintro e w21 ⟨rfl, hs⟩; replace hk := step_of hk hs; clear hs oA1 oB1 hB))
        replace BW := BW.trans (hk.mono BW.size)
        replace x1 := blk_keep x1 hk
        replace y1 := blk_keep y1 hk
        replace X9 := blk_keep X9 hk
        replace X11 := blk_keep X11 hk
        replace X12 := blk_keep X12 hk
        replace hbr := hbr.trans (hk.mono hbr.size)
        clear hk f0 f1 f2 f3 f4 f5 hl11 hl12
        refine Calmly.wp_region_mix 8 (.fl 0 <| .fl 2 <| .eff 1 <| .eff 3 <| .fl 4 <| .fl 5 <| .fl 6 <| .fl 7 <| .tail [8]) (by kernel_rfl) (by kernel_rfl) ?_
        replace x1 : w21.drew.heap[w.heap.size]? = some (.cells #[.slice a n c, .slice b n d] 24) := x1
        replace y1 : w21.drew.heap[w2.heap.size]? = some (.cells #[.int .i64 lo, .int .i64 hii] 63) := y1
        replace X9 : w21.drew.heap[w5.heap.size]? = some (.cells #[.int .i64 lo, .int .i64 hii] 63) := X9
        replace X11 : w21.drew.heap[b11]? = some (.cells #[.int .i64 p, .int .i64 q] 34) := X11
        replace X12 : w21.drew.heap[b12]? = some (.cells #[.int .i64 p', .int .i64 q'] 34) := X12
        replace BW := BW.drew
        replace hbr := hbr.drew
        generalize w21.drew = V2 at x1 y1 X9 X11 X12 BW hbr ⊢
        have f0 := cell_block x1 0
        have f1 := cell_block x1 1
        have f2 := cell_block X11 0
        have f3 := cell_block X11 1
        have f4 := cell_block X12 0
        have f5 := cell_block X12 1
        have hl11 := blk_lt X11
        have hl12 := blk_lt X12
        have hk := Below.refl V2.heap.size V2
        go_wp2_with (first | ((with_reducible refine Calmly.is_fl ?_); refine Calmly.mix_fl rfl ?_ (fun _ _ => ?_); (first | exact .move _ | exact .load _ _ | exact .fieldAddr _ _ _ (by kernel_rfl) | exact .assign _ | exact .binOp _ _ _ _ _ rfl | exact .indexAddr _ _ _ | exact .len _ _ (by kernel_rfl) | exact .field _ _ _ | exact .extract _ _ | exact .pick _ _ _ | exact .build _ _ | exact .slice _ _ _ _ _ | exact .unOp _ _ _ rfl | exact .index _ _ _ | exact .max _ _ _ rfl rfl | exact .min _ _ _ rfl rfl)) | ((with_reducible refine Calmly.is_gl ?_); refine Calmly.mix_gl rfl rfl rfl ?_; first | ((first | with_reducible refine Calmly.gl_tt ?_ (fun _ _ => ?_) | with_reducible refine Calmly.gl_ff ?_ (fun _ _ => ?_)); (first | exact .move _ | exact .load _ _ | exact .fieldAddr _ _ _ (by kernel_rfl) | exact .assign _ | exact .binOp _ _ _ _ _ rfl | exact .indexAddr _ _ _ | exact .len _ _ (by kernel_rfl) | exact .field _ _ _ | exact .extract _ _ | exact .pick _ _ _ | exact .build _ _ | exact .slice _ _ _ _ _ | exact .unOp _ _ _ rfl | exact .index _ _ _ | exact .max _ _ _ rfl rfl | exact .min _ _ _ rfl rfl)) | with_reducible refine Calmly.gl_tf (fun _ _ => ?_) | with_reducible refine Calmly.gl_ft (fun _ _ => ?_)) | ((with_reducible refine Calmly.is_eff ?_); refine Calmly.mix_eff rfl (fun _ _ => ?_)) | ((with_reducible refine Calmly.is_gf ?_); refine Calmly.mix_gf rfl rfl rfl ?_; first | with_reducible refine Calmly.gf_tt (fun _ _ => ?_) | with_reducible refine Calmly.gf_ff (fun _ _ => ?_) | with_reducible refine Calmly.gf_tf (kept_of hk) (fun _ _ => ?_) | with_reducible refine Calmly.gf_ft (kept_of hk) (fun _ _ => ?_)) | ((with_reducible refine Calmly.is_tail ?_); first | refine Calmly.mix_tail_nil ?_ | refine Calmly.mix_tail rfl (fun _ _ => ?_)) | ((with_reducible refine Calmly.is_kept ?_); refine ⟨kept_of hk, ?_⟩) | (with_reducible refine Calmly.mix_alt ?_ ?_) | (go_at_call 18; refine (Copy_any a b n c n d ms ks _ ((h1.keep BW).keep hk) ((h2.keep BW).keep hk) (by omega) (by omega)).mono ?_; rintro e w' ⟨a1, c1', b1, d1', BB, rfl, oA1, oB1, hB, hgB, hs⟩; replace hk := step_of hk hs; clear hgB hs) | (go_at_call 36; refine (CountBelow_any _ _ n _ n _ ms ks p' q' _ oA1.si oB1.si (by omega) (by omega) (by omega) 0 nn HE2.out (fun _ => HN.out) (fun h => absurd rfl h)).mono ?_; rintro e w22 ⟨rfl, hs⟩; replace hk := step_of hk hs; clear hs oA1 oB1 hB))
        replace BW := BW.trans (hk.mono BW.size)
        replace x1 := blk_keep x1 hk
        replace y1 := blk_keep y1 hk
        replace X9 := blk_keep X9 hk
        replace X11 := blk_keep X11 hk
        replace X12 := blk_keep X12 hk
        replace hbr := hbr.trans (hk.mono hbr.size)
        clear hk f0 f1 f2 f3 f4 f5 hl11 hl12
        refine Calmly.wp_region_mix 8 (.fl 0 <| .fl 2 <| .eff 1 <| .eff 3 <| .fl 4 <| .fl 5 <| .fl 6 <| .fl 7 <| .tail [8]) (by kernel_rfl) (by kernel_rfl) ?_
        replace x1 : w22.drew.heap[w.heap.size]? = some (.cells #[.slice a n c, .slice b n d] 24) := x1
        replace y1 : w22.drew.heap[w2.heap.size]? = some (.cells #[.int .i64 lo, .int .i64 hii] 63) := y1
        replace X9 : w22.drew.heap[w5.heap.size]? = some (.cells #[.int .i64 lo, .int .i64 hii] 63) := X9
        replace X11 : w22.drew.heap[b11]? = some (.cells #[.int .i64 p, .int .i64 q] 34) := X11
        replace X12 : w22.drew.heap[b12]? = some (.cells #[.int .i64 p', .int .i64 q'] 34) := X12
        replace BW := BW.drew
        replace hbr := hbr.drew
        generalize w22.drew = V3 at x1 y1 X9 X11 X12 BW hbr ⊢
        have f0 := cell_block x1 0
        have f1 := cell_block x1 1
        have f2 := cell_block X11 0
        have f3 := cell_block X11 1
        have f4 := cell_block X12 0
        have f5 := cell_block X12 1
        have hl11 := blk_lt X11
        have hl12 := blk_lt X12
        have hk := Below.refl V3.heap.size V3
        by_cases hlh : lo = hii
        case' pos =>
          subst hlh
          obtain ⟨rfl, rfl⟩ := t3.out rfl
          clear t2 t3
        case' neg =>
          have hlt : lo < hii := by omega
          have hnk : (k : Int) < nn := t2.out hlt
          have hle0 : (lo == hii) = false := by simpa using hlh
          clear t2 t3 hlh
        all_goals
          go_wp2_with (first | ((with_reducible refine Calmly.is_fl ?_); refine Calmly.mix_fl rfl ?_ (fun _ _ => ?_); (first | exact .move _ | exact .load _ _ | exact .fieldAddr _ _ _ (by kernel_rfl) | exact .assign _ | exact .binOp _ _ _ _ _ rfl | exact .indexAddr _ _ _ | exact .len _ _ (by kernel_rfl) | exact .field _ _ _ | exact .extract _ _ | exact .pick _ _ _ | exact .build _ _ | exact .slice _ _ _ _ _ | exact .unOp _ _ _ rfl | exact .index _ _ _ | exact .max _ _ _ rfl rfl | exact .min _ _ _ rfl rfl)) | ((with_reducible refine Calmly.is_gl ?_); refine Calmly.mix_gl rfl rfl rfl ?_; first | ((first | with_reducible refine Calmly.gl_tt ?_ (fun _ _ => ?_) | with_reducible refine Calmly.gl_ff ?_ (fun _ _ => ?_)); (first | exact .move _ | exact .load _ _ | exact .fieldAddr _ _ _ (by kernel_rfl) | exact .assign _ | exact .binOp _ _ _ _ _ rfl | exact .indexAddr _ _ _ | exact .len _ _ (by kernel_rfl) | exact .field _ _ _ | exact .extract _ _ | exact .pick _ _ _ | exact .build _ _ | exact .slice _ _ _ _ _ | exact .unOp _ _ _ rfl | exact .index _ _ _ | exact .max _ _ _ rfl rfl | exact .min _ _ _ rfl rfl)) | with_reducible refine Calmly.gl_tf (fun _ _ => ?_) | with_reducible refine Calmly.gl_ft (fun _ _ => ?_)) | ((with_reducible refine Calmly.is_eff ?_); refine Calmly.mix_eff rfl (fun _ _ => ?_)) | ((with_reducible refine Calmly.is_gf ?_); refine Calmly.mix_gf rfl rfl rfl ?_; first | with_reducible refine Calmly.gf_tt (fun _ _ => ?_) | with_reducible refine Calmly.gf_ff (fun _ _ => ?_) | with_reducible refine Calmly.gf_tf (kept_of hk) (fun _ _ => ?_) | with_reducible refine Calmly.gf_ft (kept_of hk) (fun _ _ => ?_)) | ((with_reducible refine Calmly.is_tail ?_); first | refine Calmly.mix_tail_nil ?_ | refine Calmly.mix_tail rfl (fun _ _ => ?_)) | ((with_reducible refine Calmly.is_kept ?_); refine ⟨kept_of hk, ?_⟩) | (with_reducible refine Calmly.mix_alt ?_ ?_) | (go_at_call 18; refine (Copy_any a b n c n d ms ks _ ((h1.keep BW).keep hk) ((h2.keep BW).keep hk) (by omega) (by omega)).mono ?_; rintro e w' ⟨a1, c1', b1, d1', BB, rfl, oA1, oB1, hB, hgB, hs⟩; replace hk := step_of hk hs; clear hgB hs) | (go_at_call 38; refine (IsMode_any _ _ n _ n _ ms ks p' q' _ oA1.si oB1.si (by omega) (by omega) (by omega) 0 _ HE2.out (fun _ => HI.out) (fun h => absurd rfl h)).mono ?_; rintro e w23 ⟨rfl, hs⟩; replace hk := step_of hk hs; clear hs oA1 oB1 hB; have z9 := blk_keep X9 hk; have j0 := cell_block z9 0; have j1 := cell_block z9 1))
          replace y1 := blk_keep y1 hk
          replace hbr := hbr.trans (hk.mono hbr.size)
          go_roundw
          case rel => exact ⟨k + 1, _, _, by omega, by go_num, by rw [hS1.out], by rw [hS2.out], hbr, y1, hnext⟩
          case measure => simp [intOf]; omega
      have HK2 := Lib.hid HKK
      clear HKK hK'
      go_wp2_with (first | ((with_reducible refine Calmly.is_fl ?_); refine Calmly.mix_fl rfl ?_ (fun _ _ => ?_); (first | exact .move _ | exact .load _ _ | exact .fieldAddr _ _ _ (by kernel_rfl) | exact .assign _ | exact .binOp _ _ _ _ _ rfl | exact .indexAddr _ _ _ | exact .len _ _ (by kernel_rfl) | exact .field _ _ _ | exact .extract _ _ | exact .pick _ _ _ | exact .build _ _ | exact .slice _ _ _ _ _ | exact .unOp _ _ _ rfl | exact .index _ _ _ | exact .max _ _ _ rfl rfl | exact .min _ _ _ rfl rfl)) | ((with_reducible refine Calmly.is_gl ?_); refine Calmly.mix_gl rfl rfl rfl ?_; first | ((first | with_reducible refine Calmly.gl_tt ?_ (fun _ _ => ?_) | with_reducible refine Calmly.gl_ff ?_ (fun _ _ => ?_)); (first | exact .move _ | exact .load _ _ | exact .fieldAddr _ _ _ (by kernel_rfl) | exact .assign _ | exact .binOp _ _ _ _ _ rfl | exact .indexAddr _ _ _ | exact .len _ _ (by kernel_rfl) | exact .field _ _ _ | exact .extract _ _ | exact .pick _ _ _ | exact .build _ _ | exact .slice _ _ _ _ _ | exact .unOp _ _ _ rfl | exact .index _ _ _ | exact .max _ _ _ rfl rfl | exact .min _ _ _ rfl rfl)) | with_reducible refine Calmly.gl_tf (fun _ _ => ?_) | with_reducible refine Calmly.gl_ft (fun _ _ => ?_)) | ((with_reducible refine Calmly.is_eff ?_); refine Calmly.mix_eff rfl (fun _ _ => ?_)) | ((with_reducible refine Calmly.is_gf ?_); refine Calmly.mix_gf rfl rfl rfl ?_; first | with_reducible refine Calmly.gf_tt (fun _ _ => ?_) | with_reducible refine Calmly.gf_ff (fun _ _ => ?_) | with_reducible refine Calmly.gf_tf (kept_of hk) (fun _ _ => ?_) | with_reducible refine Calmly.gf_ft (kept_of hk) (fun _ _ => ?_)) | ((with_reducible refine Calmly.is_kept ?_); refine ⟨kept_of hk, ?_⟩) | (with_reducible refine Calmly.mix_alt ?_ ?_) | (go_at_call 62; refine (Lowest_lw _ _ _ (by omega) (by omega) (by omega) (by omega)).mono ?_; rintro e w8 ⟨rfl, hs⟩; (first | rw [HP.out, HQ.out] | rw [HP'.out, HQ'.out]); replace hk := step_of hk hs; (try replace pA := blk_keep pA hs); (try replace pB := blk_keep pB hs); clear hs) | (have hT := pA; clear hT; have hAgeB := hk.size; have hAB := blk_lt pA; refine kept_allocB hk (fun hs hk' hblk => ?_); replace pA := blk_keep pA hs; generalize World.alloc _ _ = W' at hs hk' hblk pA ⊢; replace hk := hk'; clear hk'; have pB := hblk; clear hs hblk) | (have hAgeA := hk.size; refine kept_allocB hk (fun hs hk' hblk => ?_); generalize World.alloc _ _ = W' at hs hk' hblk ⊢; replace hk := hk'; clear hk'; have pA := hblk; clear hs hblk))
      all_goals
        have zA0 := cell_block pA 0
        have zA1 := cell_block pA 1
        have zA2 := frozen_block pA 0
        have zA3 := frozen_block pA 1
        have zB0 := cell_block pB 0
        have zB1 := cell_block pB 1
        have zB2 := frozen_block pB 0
        have zB3 := frozen_block pB 1
        have hne1 := Nat.ne_of_lt hAB
        have hne2 := Ne.symm hne1
        go_wp2_with (first | ((with_reducible refine Calmly.is_fl ?_); refine Calmly.mix_fl rfl ?_ (fun _ _ => ?_); (first | exact .move _ | exact .load _ _ | exact .fieldAddr _ _ _ (by kernel_rfl) | exact .assign _ | exact .binOp _ _ _ _ _ rfl | exact .indexAddr _ _ _ | exact .len _ _ (by kernel_rfl) | exact .field _ _ _ | exact .extract _ _ | exact .pick _ _ _ | exact .build _ _ | exact .slice _ _ _ _ _ | exact .unOp _ _ _ rfl | exact .index _ _ _ | exact .max _ _ _ rfl rfl | exact .min _ _ _ rfl rfl)) | ((with_reducible refine Calmly.is_gl ?_); refine Calmly.mix_gl rfl rfl rfl ?_; first | ((first | with_reducible refine Calmly.gl_tt ?_ (fun _ _ => ?_) | with_reducible refine Calmly.gl_ff ?_ (fun _ _ => ?_)); (first | exact .move _ | exact .load _ _ | exact .fieldAddr _ _ _ (by kernel_rfl) | exact .assign _ | exact .binOp _ _ _ _ _ rfl | exact .indexAddr _ _ _ | exact .len _ _ (by kernel_rfl) | exact .field _ _ _ | exact .extract _ _ | exact .pick _ _ _ | exact .build _ _ | exact .slice _ _ _ _ _ | exact .unOp _ _ _ rfl | exact .index _ _ _ | exact .max _ _ _ rfl rfl | exact .min _ _ _ rfl rfl)) | with_reducible refine Calmly.gl_tf (fun _ _ => ?_) | with_reducible refine Calmly.gl_ft (fun _ _ => ?_)) | ((with_reducible refine Calmly.is_eff ?_); refine Calmly.mix_eff rfl (fun _ _ => ?_)) | ((with_reducible refine Calmly.is_gf ?_); refine Calmly.mix_gf rfl rfl rfl ?_; first | with_reducible refine Calmly.gf_tt (fun _ _ => ?_) | with_reducible refine Calmly.gf_ff (fun _ _ => ?_) | with_reducible refine Calmly.gf_tf (kept_of hk) (fun _ _ => ?_) | with_reducible refine Calmly.gf_ft (kept_of hk) (fun _ _ => ?_)) | ((with_reducible refine Calmly.is_tail ?_); first | refine Calmly.mix_tail_nil ?_ | refine Calmly.mix_tail rfl (fun _ _ => ?_)) | ((with_reducible refine Calmly.is_kept ?_); refine ⟨kept_of hk, ?_⟩) | (with_reducible refine Calmly.mix_alt ?_ ?_))
        first
          | exact HK2.out _ _ _ _ _ _ _ _ _ _ _ _ _ _ _ _ _ _ _ _ _ _ _ _ _ _ _ _ _ _ _ _ _ _ _ _ _ _ _ _ _ _ _ _ _ _ _ _ _ _ _ _ _ _ _ _ _ _ _ _ _ _ _ _ _ _ _ _ _ _ _ _ _ _ _ _ _ _ _ _ _ _ _ _ _ _ _ _ _ _ _ _ _ _ _ _ _ _ _ _ _ _ _ _ _ _ _ _ _ _ _ _ _ _ _ _ _ _ _ _ _ _ _ _ _ _ _ _ _ _ _ _ _ _ _ _ _ _ _ _ _ _ _ _ _ hAgeA hAgeB (below2 (below2 hk hAgeA) hAgeB) (blk_other' (blk_other' (blkSet (blkSet pA 0 _) 1 _) hne1 _ _) hne1 _ _) (blkSet (blkSet (blk_other' (blk_other' pB hne2 _ _) hne2 _ _) 0 _) 1 _)
          | exact HK2.out _ _ _ _ _ _ _ _ _ _ _ _ _ _ _ _ _ _ _ _ _ _ _ _ _ _ _ _ _ _ _ _ _ _ _ _ _ _ _ _ _ _ _ _ _ _ _ _ _ _ _ _ _ _ _ _ _ _ _ _ _ _ _ _ _ _ _ _ _ _ _ _ _ _ _ _ _ _ _ _ _ _ _ _ _ _ _ _ _ _ _ _ _ _ _ _ _ _ _ _ _ _ _ _ _ _ _ _ _ _ _ _ _ _ _ _ _ _ _ _ _ _ _ _ _ _ _ _ _ _ _ _ _ _ _ _ _ _ _ _ _ _ _ _ _ hAgeB hAgeA (below2 (below2 hk hAgeB) hAgeA) (blk_other' (blk_other' (blkSet (blkSet pB 0 _) 1 _) hne2 _ _) hne2 _ _) (blkSet (blkSet (blk_other' (blk_other' pA hne1 _ _) hne1 _ _) 0 _) 1 _)
    · obtain rfl : k = n := by omega
      have hle : (k : Int) ≤ (k : Int) := Int.le_refl _
      have hkl : ms.length = k := by omega
      have hsm := HSM.out
      rw [hkl, HA.out, HB.out] at hsm
      obtain ⟨n1, n2, n3, n4⟩ := sumQ_num hf ms.length (Nat.le_refl _)
      have hlow := sum_low (sumQ ms ks ms.length)
      rw [hkl] at n1 n2 n3 n4 hlow
      obtain ⟨P, hP⟩ : ∃ v, (sumQ ms ks k).num = v := ⟨_, rfl⟩
      obtain ⟨Q, hQ⟩ : ∃ v, ((sumQ ms ks k).den : Int) = v := ⟨_, rfl⟩
      rw [hP] at n1 n2 hlow hsm
      rw [hQ] at n3 n4 hlow hsm
      obtain ⟨hsm1, hsm2⟩ := hsm
      have hsmall : isSmallF P Q = true := by
        unfold isSmallF
        rw [wIn_iff.2 ⟨by omega, by omega⟩, wIn_iff.2 ⟨by omega, by omega⟩]
        rfl
      have HP : Hid (ms.length = k ∧ (sumQ ms ks k).num = P ∧ ((sumQ ms ks k).den : Int) = Q) := Lib.hid ⟨hkl, hP, hQ⟩
      have hc1 : cmpQ (A * Q) (P * den) ≤ 0 := by unfold cmpQ; split <;> (try split) <;> omega
      have hc2 : cmpQ (P * den) (B * Q) ≤ 0 := by unfold cmpQ; split <;> (try split) <;> omega
      obtain ⟨z1, hz1⟩ : ∃ v, cmpQ (A * Q) (P * den) = v := ⟨_, rfl⟩
      obtain ⟨z2, hz2⟩ : ∃ v, cmpQ (P * den) (B * Q) = v := ⟨_, rfl⟩
      rw [hz1] at hc1
      rw [hz2] at hc2
      have HZ1 := Lib.hid hz1
      have HZ2 := Lib.hid hz2
      clear hkl hP hQ hsm1 hsm2 hz1 hz2 hlast HAS HEF HE0 HSM HL1 HL2 HA HB X7'
      go_wp2_with fail
      refine (Copy_any a b k c k d ms ks _ (h1.keep BW) (h2.keep BW) (by omega) (by omega)).mono ?_
      rintro e w4 ⟨a1, c1', b1, d1', BB, rfl, oA1, oB1, hB, hgB, hs⟩
      replace BW := BW.trans (hs.mono BW.size)
      clear hs hgB f0 f1 x1
      go_wp2_with fail
      refine (SumOf_any _ _ k _ k _ ms ks _ oA1.si oB1.si 0 P Q HC.out (fun _ => by rw [HP.out.1]; exact HP.out.2) (fun h => absurd rfl h)).mono ?_
      rintro e w5 ⟨rfl, hs⟩
      replace BW := BW.trans (hs.mono BW.size)
      clear hs oA1 oB1 hB
      have hs := hA w5 (.cells #[.int .i64 P, .int .i64 Q] 34)
      have X9 := alloc_new w5 (.cells #[.int .i64 P, .int .i64 Q] 34)
      replace BW := BW.trans (hs.mono BW.size)
      have f0 := cell_block X9 0
      have f1 := cell_block X9 1
      clear hs
      go_wp2_with fail
      refine (isLowest_any P Q _ (by omega) (by omega) (by omega)).mono ?_
      rintro e w6 ⟨rfl, hs⟩
      rw [hlow]
      replace BW := BW.trans (hs.mono BW.size)
      replace X9 := blk_keep X9 hs
      clear hs f0 f1
      have f0 := cell_block X9 0
      have f1 := cell_block X9 1
      go_wp2_with fail
      refine (isSmall_any P Q _).mono ?_
      rintro e w7 ⟨rfl, hs⟩
      rw [hsmall]
      replace BW := BW.trans (hs.mono BW.size)
      replace X9 := blk_keep X9 hs
      clear hs f0 f1
      have f0 := cell_block X9 0
      have f1 := cell_block X9 1
      go_wp2_with fail
      refine (compare_any _ _ _ _ _ (by omega) (by omega) (by omega) (by omega) (by omega) (by omega) (by omega) (by omega)).mono ?_
      rintro e w8 ⟨rfl, rfl⟩
      rw [HZ1.out]
      go_wp2_with fail
      refine (compare_any _ _ _ _ _ (by omega) (by omega) (by omega) (by omega) (by omega) (by omega) (by omega) (by omega)).mono ?_
      rintro e w8 ⟨rfl, rfl⟩
      rw [HZ2.out]
      go_wp2_with fail
      go_ret
      exact ⟨rfl, BW⟩
end Go.Proofs.Ytmaidjankakppaa
