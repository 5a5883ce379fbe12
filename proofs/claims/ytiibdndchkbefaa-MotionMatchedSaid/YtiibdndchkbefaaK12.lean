/- Contracts of chapter 2: Added, CheckMatch, and copies of matches. Contracts of chapter 2: the reference's added samples, and its match. -/
import Derived.Test.YtiibdndchkbefaaK11
namespace Go.Proofs.Ytiibdndchkbefaa
open Go.RowKit
open Calmly (Kept)

theorem add_ok {step : Int} {xs : List Int} {ws : List (List Int)} {ts : List Int} {m : Nat} (_hm : ws.length = m) (h1 : openE step xs ws = 0) (h2 : timesE m ts = 0) :
    0 < xs.length ∧ xs.length ≤ 24 ∧ ws.length ≤ 3 ∧ (∀ j : Nat, -1000 ≤ xs[j]?.getD 0 ∧ xs[j]?.getD 0 ≤ 1000) ∧ (∀ i, i < ws.length → (ws[i]?.getD []).length = xs.length) ∧
      (∀ i t : Nat, -1000 ≤ (ws[i]?.getD [])[t]?.getD 0 ∧ (ws[i]?.getD [])[t]?.getD 0 ≤ 1000) ∧ ts.length = m ∧ ∀ j : Nat, -2 ≤ ts[j]?.getD 0 ∧ ts[j]?.getD 0 ≤ 2 := by
  unfold openE at h1
  split at h1
  · rename_i hr
    obtain ⟨q1, q2, q3, q4, q5⟩ := recF_ok hr
    obtain ⟨w1, w2⟩ := wavesE_ok h1
    obtain ⟨t1, t2⟩ := timesE_ok h2
    exact ⟨by omega, q2, w1, q5, fun i hi => (wavE_ok (w2 i hi)).1, wavesE_bd h1, t1, t2⟩
  · rename_i hr
    exact absurd h1 hr
theorem ad_sz {xs : List Int} {ws : List (List Int)} {ts : List Int} (hx : ∀ j : Nat, -1000 ≤ xs[j]?.getD 0 ∧ xs[j]?.getD 0 ≤ 1000) (hw : ∀ i t : Nat, -1000 ≤ (ws[i]?.getD [])[t]?.getD 0 ∧ (ws[i]?.getD [])[t]?.getD 0 ≤ 1000) (ht : ∀ j : Nat, -2 ≤ ts[j]?.getD 0 ∧ ts[j]?.getD 0 ≤ 2) {m : Nat} (hm : m ≤ 3) :
    ∀ j : Nat, -7000 ≤ (adTo xs ws ts m)[j]?.getD 0 ∧ (adTo xs ws ts m)[j]?.getD 0 ≤ 7000 := by
  intro j
  rcases Nat.lt_or_ge j xs.length with hj | hj
  · rw [adTo_get xs ws ts m j hj]
    have h1 := adS_bd hw ht j m
    have h2 := hx j
    omega
  · rw [List.getElem?_eq_none (by rw [adTo_len]; exact hj)]
    simp

set_option maxRecDepth 100000 in
set_option maxHeartbeats 1000000 in
theorem Added_any (step : Int) (a : Option Addr) (n c : Nat) (xs : List Int) (b : Option Addr) (m d : Nat) (ws : List (List Int)) (t : Option Addr) (p e : Nat) (ts : List Int) (w : World) (h1 : SI w a n c xs) (h2 : SW w b m d ws) (h3 : SI w t p e ts)
    (F : Int) (G : Bool) (E S : Int) (X : List Int) (hF : firstE [openE step xs ws, timesE m ts] = F) (hG : decide (gsT (adTo xs ws ts m) n ≤ 1000) = G) (hE1 : F ≠ 0 → E = F ∧ S = 0 ∧ X = []) (hE2 : F = 0 → G = false → E = 8 ∧ S = 0 ∧ X = []) (hE3 : F = 0 → G = true → E = 0 ∧ S = step ∧ X = adTo xs ws ts m) :
    Calls Try.prog 56 #[.agg #[.int .i64 step, .slice a n c], .slice b m d, .slice t p e] w fun r w' => ∃ a' n' c', r = .returned (.tuple #[.agg #[.int .i64 S, .slice a' n' c'], .int .i64 E]) ∧ SI w' a' n' c' X ∧ In w' 3 a' ∧ Below w.heap.size w w' := by
  have hA : ∀ (A : World) (o : Obj), Below A.heap.size A (A.alloc o) := fun A o => (Below.refl _ _).alloc (Nat.le_refl _) _
  have hb2 : Below w.heap.size w ((w.alloc (.cells #[.int .i64 step, .slice a n c] 24)).alloc (.cells #[.int .i64 0, .slice none 0 0] 24)) := ((Below.refl _ _).alloc (Nat.le_refl _) _).alloc (by simp) _
  obtain ⟨l1, l2⟩ : n ≤ xs.length ∧ xs.length ≤ n := by have := h1.len; omega
  obtain ⟨k1, k2⟩ : m ≤ ws.length ∧ ws.length ≤ m := by have := h2.len; omega
  obtain ⟨j1, j2⟩ : p ≤ ts.length ∧ ts.length ≤ p := by have := h3.len; omega
  have m1 := h1.max
  have c1 := h1.cap
  have m2 := h2.max
  have c2 := h2.cap
  have m3 := h3.max
  have c3 := h3.cap
  obtain ⟨oE, hoE⟩ : ∃ x, openE step xs ws = x := ⟨_, rfl⟩
  obtain ⟨tE, htE⟩ : ∃ x, timesE m ts = x := ⟨_, rfl⟩
  rw [hoE, htE] at hF
  have HO := Lib.hid hoE
  have HT := Lib.hid htE
  have HF := Lib.hid hF
  have HG := Lib.hid hG
  have HE1 := Lib.hid hE1
  have HE2 := Lib.hid hE2
  have HE3 := Lib.hid hE3
  clear hF hG hE1 hE2 hE3 hoE htE
  go_enter Try.func56, Try.ntmps56
  go_wp2_with fail
  refine (openWaves_any step a n c xs b m d ws _ (h1.keep hb2) (h2.keep hb2) oE HO.out).mono ?_
  rintro e w1 ⟨rfl, hs⟩
  obtain ⟨x1, x2⟩ := box2 (w := w) (o := .cells #[.int .i64 step, .slice a n c] 24) (o' := .cells #[.int .i64 0, .slice none 0 0] 24) hs
  have BW := hb2.trans (hs.mono hb2.size)
  clear hs
  go_wp2_with fail
  refine (timesErr_any b m d t p _ ts _ (h3.keep BW) c2 m2 tE HT.out).mono ?_
  rintro e w2 ⟨rfl, hs⟩
  replace x1 := blk_keep x1 hs
  replace x2 := blk_keep x2 hs
  replace BW := BW.trans (hs.mono BW.size)
  clear hs
  go_wp2_with fail
  refine (nFirst_any _ 2 2 _ _ (SI.two _ _ _ _ (by simp))).mono ?_
  rintro e w3 ⟨rfl, rfl⟩
  rw [HF.out]
  have hs := hA w2 (.cells #[.int .i64 oE, .int .i64 tE] 30)
  replace x1 := blk_keep x1 hs
  replace x2 := blk_keep x2 hs
  replace BW := BW.trans (hs.mono BW.size)
  clear hs
  generalize World.alloc w2 _ = w3 at x1 x2 BW ⊢
  have f0 := cell_block x1 0
  have f1 := cell_block x1 1
  have g0 := cell_block x2 0
  have g1 := cell_block x2 1
  have g2 := frozen_block x2 0
  have g3 := frozen_block x2 1
  by_cases hz : F = 0
  case neg =>
    obtain ⟨rfl, rfl, rfl⟩ := HE1.out hz
    have b1 : (E != 0) = true := by simpa using hz
    clear hz
    go_wp2_with fail
    obtain ⟨s1, s2, s3, s4⟩ := set2 (x := .int .i64 0) (y := .slice none 0 0) g0 g1
    refine bodyPost_ret (v := .tuple #[.agg #[.int .i64 0, .slice none 0 0], .int .i64 E]) (by simp [results, Try.results56, go_sem, s1, s2]) rfl ⟨none, 0, 0, rfl, Sl.nil _ 1, .inl rfl, ?_⟩
    exact (BW.setCell (by simp) _).setCell (by simp) _
  subst hz
  have z1 : oE = 0 := firstE_all HF.out _ (by simp)
  have z2 : tE = 0 := firstE_all HF.out _ (by simp)
  subst z1 z2
  obtain ⟨a1, a2, a3, a4, a5, a6, a7, a8⟩ := add_ok (show ws.length = m by omega) HO.out HT.out
  have hn0 : 0 < n := by omega
  have hn26 : n ≤ 26 := by omega
  have hm5 : m ≤ 5 := by omega
  obtain rfl : p = m := by omega
  obtain rfl : xs.length = n := by omega
  have H4 := Lib.hid a4
  have H5 := Lib.hid a5
  have H6 := Lib.hid a6
  have H8 := Lib.hid a8
  clear a1 a2 a3 a4 a5 a6 a7 a8 l1 l2 k1 k2 j1 j2
  go_wp2_with fail
  refine (added_any a _ c xs b p d ws t _ ts _ (h1.keep BW) (h2.keep BW) (h3.keep BW) hn0 hn26 hm5 H4.out H5.out H6.out H8.out).mono ?_
  rintro e w4 ⟨aZ, cZ, rfl, oZ, hs⟩
  rw [HG.out]
  have hlt2 := blk_lt x2
  replace x1 := blk_keep x1 hs
  replace x2 := blk_keep x2 hs
  have BW2 := BW.trans (hs.mono BW.size)
  clear hs f0 f1 g0 g1 g2 g3
  have f0 := cell_block x1 0
  have f1 := cell_block x1 1
  have g0 := cell_block x2 0
  have g1 := cell_block x2 1
  have g2 := frozen_block x2 0
  have g3 := frozen_block x2 1
  cases G
  · obtain ⟨rfl, rfl, rfl⟩ := HE2.out trivial rfl
    go_wp2_with fail
    obtain ⟨s1, s2, s3, s4⟩ := set2 (x := .int .i64 0) (y := .slice none 0 0) g0 g1
    refine bodyPost_ret (v := .tuple #[.agg #[.int .i64 0, .slice none 0 0], .int .i64 8]) (by simp [results, Try.results56, go_sem, s1, s2]) rfl ⟨none, 0, 0, rfl, Sl.nil _ 1, .inl rfl, ?_⟩
    exact (BW2.setCell (by simp) _).setCell (by simp) _
  · obtain ⟨rfl, rfl, rfl⟩ := HE3.out trivial rfl
    go_wp2_with fail
    obtain ⟨s1, s2, s3, s4⟩ := set2 (x := .int .i64 S) (y := .slice aZ xs.length cZ) g0 g1
    refine bodyPost_ret (v := .tuple #[.agg #[.int .i64 S, .slice aZ xs.length cZ], .int .i64 0]) (by simp [results, Try.results56, go_sem, s1, s2]) rfl ⟨aZ, xs.length, cZ, rfl, ?_, ?_, ?_⟩
    · exact (oZ.under2 (r := w.heap.size + 1) hlt2 _ _).si
    · exact (oZ.under2 (r := w.heap.size + 1) hlt2 _ _).in_
    · exact (BW2.setCell (by simp) _).setCell (by simp) _

theorem OwW.under {w : World} {B : Nat} {a : Option Addr} {n c : Nat} {ls : List (List Int)} (h : OwW w B a n c ls) {r o : Nat} {e' : TypeId} (hr : r < B) (hb : BlkT w r e') (he : 3 ≠ e') (v : Value) : OwW (w.setCell ⟨r, o, none⟩ v) B a n c ls := by
  obtain ⟨hs, h1, h2, h3, h4⟩ := h
  refine ⟨hs, Go.RowKit.ownsRow_setCell_below h1 hr v, h2, h3, fun i hi => ?_⟩
  obtain ⟨h5, h6⟩ := h4 i hi
  exact ⟨Sl.set h5 h6 hb he, h6.set _ _⟩
theorem OwW.weak {w : World} {B B' : Nat} {a : Option Addr} {n c : Nat} {ls : List (List Int)} (h : OwW w B a n c ls) (hB : B' ≤ B) : OwW w B' a n c ls := by
  obtain ⟨hs, h1, h2, h3, h4⟩ := h
  refine ⟨hs, ⟨h1.1, ?_⟩, h2, h3, h4⟩
  rcases h1.2 with h5 | ⟨g, cap, cur, hv, hg, r⟩
  · exact .inl h5
  · exact .inr ⟨g, cap, cur, hv, Nat.le_trans hB hg, r⟩
set_option maxRecDepth 100000 in
set_option maxHeartbeats 1000000 in
theorem copyListsOwn_any (a : Option Addr) (n c : Nat) (ls : List (List Int)) (w : World) (h1 : SW w a n c ls) (hn : n ≤ 1000000) (hl : ∀ i, i < n → (ls[i]?.getD []).length ≤ 1000000) :
    Calls Try.prog 19 #[.slice a n c] w fun e w' => ∃ a' c', e = .returned (.slice a' n c') ∧ OwW w' w.heap.size a' n c' ls ∧ Below w.heap.size w w' := by
  obtain ⟨l1, l2⟩ : n ≤ ls.length ∧ ls.length ≤ n := by have := h1.len; omega
  have m1 := h1.max
  have c1 := h1.cap
  have HL := Lib.hid hl
  clear hl
  go_enter Try.func19, Try.ntmps19
  go_wp2_with fail
  go_loopw [3, 4] (fun o i wr => ∃ (k c' : Nat) (a' : Option Addr), i = .int .i64 (k : Int) ∧ k ≤ n ∧ o = .slice a' k c' ∧ OwW wr w.heap.size a' k c' (ls.take k) ∧ Below w.heap.size w wr) (fun _ i _ => n - (intOf i).toNat)
  case atStart => exact ⟨0, 0, none, rfl, by omega, rfl, OwW.nil _ _, Below.refl _ _⟩
  case round =>
    obtain ⟨k, c', a', rfl, hk, rfl, hown, hbr⟩ := hrel
    have hrs := hbr.size
    by_cases hlt : k < n
    · obtain ⟨cb, co, rfl, hcc⟩ := (h1.keep hbr).at_ (by omega)
      obtain ⟨ya, yn, yc, y0, s0⟩ := hcc k hlt
      clear hcc
      have hyl := HL.out k hlt
      have htk : ls.take (k + 1) = ls.take k ++ [ls[k]?.getD []] := by
        have : k < ls.length := by omega
        rw [List.take_succ_eq_append_getElem this, List.getElem?_eq_getElem this]
        rfl
      obtain ⟨x, hxx⟩ : ∃ x, ls[k]?.getD [] = x := ⟨_, rfl⟩
      rw [hxx] at s0 hyl htk
      have HT := Lib.hid htk
      have hyn : yn ≤ 1000000 := by have := s0.len; omega
      clear hxx htk
      have hi1 : (k : Int) < (n : Int) := by omega
      have hi0 : (0 : Int) ≤ (k : Int) := by omega
      go_wp2_with fail
      refine (copyInts_any ya yn yc x _ s0 (by omega)).mono ?_
      rintro e w2 ⟨a2, c2, rfl, o2, hs⟩
      replace hown := hown.keep hs
      replace hbr := hbr.trans (hs.mono hrs)
      clear hs hrs
      have hrs := hbr.size
      go_wp2_with (first | (at_builtin; refine appW w2 (h := (a2, yn, c2)) rfl rfl _ _ rfl hown o2.si o2.in_ rfl rfl (by omega) (by omega) ?_; intro a3 c3 w5 ho5 hb5 hs5))
      go_roundw
      case rel => exact ⟨k + 1, c3, a3, by go_num, by omega, rfl, by rw [HT.out]; exact ho5, hbr.trans hb5⟩
      case measure => simp [intOf]; omega
    · have hle : (n : Int) ≤ (k : Int) := by omega
      obtain rfl : n = k := by omega
      go_wp2_with fail
      go_ret
      rw [List.take_of_length_le (by omega)] at hown
      exact ⟨a', c', rfl, hown, hbr⟩

set_option maxRecDepth 100000 in
set_option maxHeartbeats 1000000 in
theorem copyMatch_any (b : Option Addr) (m d : Nat) (ws : List (List Int)) (t : Option Addr) (p e : Nat) (ts : List Int) (w : World) (h2 : SW w b m d ws) (h3 : SI w t p e ts) (hm : m ≤ 1000000) (hl : ∀ i, i < m → (ws[i]?.getD []).length ≤ 1000000) (hp : p ≤ 1000000) :
    Calls Try.prog 59 #[.agg #[.slice b m d, .slice t p e]] w fun r w' => ∃ b' d' t' e', r = .returned (.agg #[.slice b' m d', .slice t' p e']) ∧ SW w' b' m d' ws ∧ SI w' t' p e' ts ∧ Below w.heap.size w w' := by
  have hA : ∀ (A : World) (o : Obj), Below A.heap.size A (A.alloc o) := fun A o => (Below.refl _ _).alloc (Nat.le_refl _) _
  have x1 := box1 (w := w) (o := .cells #[.slice b m d, .slice t p e] 96) (hA (w.alloc (.cells #[.slice b m d, .slice t p e] 96)) (.cells #[.slice none 0 0, .slice none 0 0] 96))
  have x2 := alloc_new (w.alloc (.cells #[.slice b m d, .slice t p e] 96)) (.cells #[.slice none 0 0, .slice none 0 0] 96)
  have BW : Below w.heap.size w ((w.alloc (.cells #[.slice b m d, .slice t p e] 96)).alloc (.cells #[.slice none 0 0, .slice none 0 0] 96)) := ((Below.refl _ _).alloc (Nat.le_refl _) _).alloc (by simp) _
  simp only [World.size_alloc] at x2
  have m2 := h2.max
  have c2 := h2.cap
  have m3 := h3.max
  have c3 := h3.cap
  have HL := Lib.hid hl
  clear hl
  go_enter Try.func59, Try.ntmps59
  go_wp2_with fail
  refine Calmly.wp_region_mix 6 (.fl 0 <| .fl 1 <| .fl 3 <| .fl 4 <| .eff 2 <| .eff 5 <| .tail [6, 7]) (by kernel_rfl) (by kernel_rfl) ?_
  replace BW := BW.drew
  replace x1 := blk_keep x1 (Below.refl _ _).drew
  replace x2 := blk_keep x2 (Below.refl _ _).drew
  generalize World.drew _ = V at x1 x2 BW ⊢
  have f0 := cell_block x1 0
  have f1 := cell_block x1 1
  have hlt2 := blk_lt x2
  have hk := Below.refl V.heap.size V
  go_wp2_with (first | ((with_reducible refine Calmly.is_fl ?_); refine Calmly.mix_fl rfl ?_ (fun _ _ => ?_); (first | exact .move _ | exact .load _ _ | exact .fieldAddr _ _ _ (by kernel_rfl) | exact .assign _ | exact .binOp _ _ _ _ _ rfl | exact .indexAddr _ _ _ | exact .len _ _ (by kernel_rfl) | exact .field _ _ _ | exact .extract _ _ | exact .pick _ _ _ | exact .build _ _ | exact .slice _ _ _ _ _ | exact .unOp _ _ _ rfl | exact .index _ _ _ | exact .max _ _ _ rfl rfl | exact .min _ _ _ rfl rfl)) | ((with_reducible refine Calmly.is_gl ?_); refine Calmly.mix_gl rfl rfl rfl ?_; first | ((first | with_reducible refine Calmly.gl_tt ?_ (fun _ _ => ?_) | with_reducible refine Calmly.gl_ff ?_ (fun _ _ => ?_)); (first | exact .move _ | exact .load _ _ | exact .fieldAddr _ _ _ (by kernel_rfl) | exact .assign _ | exact .binOp _ _ _ _ _ rfl | exact .indexAddr _ _ _ | exact .len _ _ (by kernel_rfl) | exact .field _ _ _ | exact .extract _ _ | exact .pick _ _ _ | exact .build _ _ | exact .slice _ _ _ _ _ | exact .unOp _ _ _ rfl | exact .index _ _ _ | exact .max _ _ _ rfl rfl | exact .min _ _ _ rfl rfl)) | with_reducible refine Calmly.gl_tf (fun _ _ => ?_) | with_reducible refine Calmly.gl_ft (fun _ _ => ?_)) | ((with_reducible refine Calmly.is_eff ?_); refine Calmly.mix_eff rfl (fun _ _ => ?_)) | ((with_reducible refine Calmly.is_gf ?_); refine Calmly.mix_gf rfl rfl rfl ?_; first | with_reducible refine Calmly.gf_tt (fun _ _ => ?_) | with_reducible refine Calmly.gf_ff (fun _ _ => ?_) | with_reducible refine Calmly.gf_tf (kept_of hk) (fun _ _ => ?_) | with_reducible refine Calmly.gf_ft (kept_of hk) (fun _ _ => ?_)) | ((with_reducible refine Calmly.is_tail ?_); first | refine Calmly.mix_tail_nil ?_ | refine Calmly.mix_tail rfl (fun _ _ => ?_)) | ((with_reducible refine Calmly.is_kept ?_); refine ⟨kept_of hk, ?_⟩) | (with_reducible refine Calmly.mix_alt ?_ ?_) | (go_at_call 19; refine (copyListsOwn_any b m d ws _ ((h2.keep BW).keep hk) hm HL.out).mono ?_; rintro r w3 ⟨b', d', rfl, s1, hs⟩; replace s1 := s1.weak (B' := V.heap.size) hk.size; replace hk := step_of hk hs; clear hs) | (go_at_call 57; refine (copyInts_any t p e ts _ ((h3.keep BW).keep hk) (by omega)).mono ?_; rintro r w4 ⟨t', e', rfl, o1, hs⟩; replace o1 := o1.weak (B' := V.heap.size) hk.size; replace hk := step_of hk hs; replace s1 := s1.keep hs; clear hs; have y2 := blk_keep x2 hk; have g0 := cell_block y2 0; have g1 := cell_block y2 1; have g2 := frozen_block y2 0; have g3 := frozen_block y2 1))
  have ht : BlkT w4 (w.heap.size + 1) 96 := ⟨_, y2⟩
  have s2 := (s1.under (o := 0) hlt2 ht (by decide) (.slice b' m d')).under (o := 1) hlt2 (ht.set _ _) (by decide) (.slice t' p e')
  have BW2 := BW.trans (hk.mono BW.size)
  obtain ⟨z1, z2, z3, z4⟩ := set2 (x := .slice b' m d') (y := .slice t' p e') g0 g1
  refine bodyPost_ret (v := .agg #[.slice b' m d', .slice t' p e']) (by simp [results, Try.results59, go_sem, z1, z2]) rfl ⟨b', d', t', e', rfl, s2.sw, (o1.under2 hlt2 _ _).si, ?_⟩
  exact (BW2.setCell (by simp) _).setCell (by simp) _

set_option maxRecDepth 100000 in
set_option maxHeartbeats 1000000 in
theorem CheckMatch_any (step : Int) (a : Option Addr) (n c : Nat) (xs : List Int) (b : Option Addr) (m d : Nat) (ws : List (List Int)) (t : Option Addr) (p e : Nat) (ts : List Int) (z : Option Addr) (q y : Nat) (l : List Four) (w : World) (h1 : SI w a n c xs) (h2 : SW w b m d ws) (h3 : SI w t p e ts) (h4 : SB w z q y l)
    (F : Int) (G B : Bool) (E N : Int) (hF : firstE [openE step xs ws, timesE m ts, bandE l] = F) (hG : decide (gsT (adTo xs ws ts m) n ≤ 1000) = G) (hB : (outT (adTo xs ws ts m) l l.length).isEmpty = B) (hE1 : F ≠ 0 → E = F) (hE2 : F = 0 → firstE [unlessE G 8, unlessE B 22] = E) (hN : E ≠ 0 → N = 0) (hN2 : E = 0 → N = szT ts m) :
    Calls Try.prog 58 #[.agg #[.int .i64 step, .slice a n c], .agg #[.slice b m d, .slice t p e], .slice z q y] w fun r w' => r = .returned (.tuple #[.int .i64 N, .int .i64 E]) ∧ Below w.heap.size w w' := by
  have hA : ∀ (A : World) (o : Obj), Below A.heap.size A (A.alloc o) := fun A o => (Below.refl _ _).alloc (Nat.le_refl _) _
  have x1 := box1 (w := w) (o := .cells #[.int .i64 step, .slice a n c] 24) (hA (w.alloc (.cells #[.int .i64 step, .slice a n c] 24)) (.cells #[.slice b m d, .slice t p e] 96))
  have x2 := alloc_new (w.alloc (.cells #[.int .i64 step, .slice a n c] 24)) (.cells #[.slice b m d, .slice t p e] 96)
  have BW : Below w.heap.size w ((w.alloc (.cells #[.int .i64 step, .slice a n c] 24)).alloc (.cells #[.slice b m d, .slice t p e] 96)) := ((Below.refl _ _).alloc (Nat.le_refl _) _).alloc (by simp) _
  simp only [World.size_alloc] at x2
  obtain ⟨l1, l2⟩ : n ≤ xs.length ∧ xs.length ≤ n := by have := h1.len; omega
  obtain ⟨k1, k2⟩ : m ≤ ws.length ∧ ws.length ≤ m := by have := h2.len; omega
  obtain ⟨j1, j2⟩ : p ≤ ts.length ∧ ts.length ≤ p := by have := h3.len; omega
  obtain ⟨i1, i2⟩ : q ≤ l.length ∧ l.length ≤ q := by have := h4.len; omega
  have m1 := h1.max
  have c1 := h1.cap
  have m2 := h2.max
  have c2 := h2.cap
  have m3 := h3.max
  have c3 := h3.cap
  have m4 := h4.max
  have c4 := h4.cap
  obtain ⟨oE, hoE⟩ : ∃ x, openE step xs ws = x := ⟨_, rfl⟩
  obtain ⟨tE, htE⟩ : ∃ x, timesE m ts = x := ⟨_, rfl⟩
  obtain ⟨bE, hbE⟩ : ∃ x, bandE l = x := ⟨_, rfl⟩
  rw [hoE, htE, hbE] at hF
  have HO := Lib.hid hoE
  have HT := Lib.hid htE
  have HD := Lib.hid hbE
  have HF := Lib.hid hF
  have HG := Lib.hid hG
  have HB := Lib.hid hB
  have HE1 := Lib.hid hE1
  have HE2 := Lib.hid hE2
  have HN := Lib.hid hN
  have HN2 := Lib.hid hN2
  clear hF hG hB hE1 hE2 hN hN2 hoE htE hbE
  go_enter Try.func58, Try.ntmps58
  go_wp2_with fail
  refine Calmly.wp_region_mix 13 (.fl 0 <| .fl 1 <| .fl 2 <| .fl 4 <| .fl 5 <| .fl 6 <| .fl 7 <| .fl 9 <| .eff 3 <| .eff 8 <| .eff 10 <| .eff 11 <| .eff 12 <| .tail [13]) (by kernel_rfl) (by kernel_rfl) ?_
  replace BW := BW.drew
  replace x1 := blk_keep x1 (Below.refl _ _).drew
  replace x2 := blk_keep x2 (Below.refl _ _).drew
  generalize World.drew _ = V at x1 x2 BW ⊢
  have f0 := cell_block x1 0
  have f1 := cell_block x1 1
  have f2 := cell_block x2 0
  have f3 := cell_block x2 1
  have hk := Below.refl V.heap.size V
  go_wp2_with (first | ((with_reducible refine Calmly.is_fl ?_); refine Calmly.mix_fl rfl ?_ (fun _ _ => ?_); (first | exact .move _ | exact .load _ _ | exact .fieldAddr _ _ _ (by kernel_rfl) | exact .assign _ | exact .binOp _ _ _ _ _ rfl | exact .indexAddr _ _ _ | exact .len _ _ (by kernel_rfl) | exact .field _ _ _ | exact .extract _ _ | exact .pick _ _ _ | exact .build _ _ | exact .slice _ _ _ _ _ | exact .unOp _ _ _ rfl | exact .index _ _ _ | exact .max _ _ _ rfl rfl | exact .min _ _ _ rfl rfl)) | ((with_reducible refine Calmly.is_gl ?_); refine Calmly.mix_gl rfl rfl rfl ?_; first | ((first | with_reducible refine Calmly.gl_tt ?_ (fun _ _ => ?_) | with_reducible refine Calmly.gl_ff ?_ (fun _ _ => ?_)); (first | exact .move _ | exact .load _ _ | exact .fieldAddr _ _ _ (by kernel_rfl) | exact .assign _ | exact .binOp _ _ _ _ _ rfl | exact .indexAddr _ _ _ | exact .len _ _ (by kernel_rfl) | exact .field _ _ _ | exact .extract _ _ | exact .pick _ _ _ | exact .build _ _ | exact .slice _ _ _ _ _ | exact .unOp _ _ _ rfl | exact .index _ _ _ | exact .max _ _ _ rfl rfl | exact .min _ _ _ rfl rfl)) | with_reducible refine Calmly.gl_tf (fun _ _ => ?_) | with_reducible refine Calmly.gl_ft (fun _ _ => ?_)) | ((with_reducible refine Calmly.is_eff ?_); refine Calmly.mix_eff rfl (fun _ _ => ?_)) | ((with_reducible refine Calmly.is_gf ?_); refine Calmly.mix_gf rfl rfl rfl ?_; first | with_reducible refine Calmly.gf_tt (fun _ _ => ?_) | with_reducible refine Calmly.gf_ff (fun _ _ => ?_) | with_reducible refine Calmly.gf_tf (kept_of hk) (fun _ _ => ?_) | with_reducible refine Calmly.gf_ft (kept_of hk) (fun _ _ => ?_)) | ((with_reducible refine Calmly.is_tail ?_); first | refine Calmly.mix_tail_nil ?_ | refine Calmly.mix_tail rfl (fun _ _ => ?_)) | ((with_reducible refine Calmly.is_kept ?_); refine ⟨kept_of hk, ?_⟩) | (with_reducible refine Calmly.mix_alt ?_ ?_) | (refine kept_alloc hk (fun hk' hblk hge => ?_); replace hk := hk'; clear hk') | (go_at_call 83; refine (openWaves_any step a n c xs b m d ws _ ((h1.keep BW).keep hk) ((h2.keep BW).keep hk) oE HO.out).mono ?_; rintro r w1 ⟨rfl, hs⟩; replace hk := step_of hk hs; clear hs) | (go_at_call 116; refine (timesErr_any b m d t p e ts _ ((h3.keep BW).keep hk) c2 m2 tE HT.out).mono ?_; rintro r w2 ⟨rfl, hs⟩; replace hk := step_of hk hs; clear hs) | (go_at_call 84; refine (bandErr_any z q y l _ ((h4.keep BW).keep hk) bE HD.out).mono ?_; rintro r w3 ⟨rfl, hs⟩; replace hk := step_of hk hs; clear hs))
  refine (nFirst_any _ 3 3 _ _ (SI.three _ _ _ _ _ (by simp))).mono ?_
  rintro r w4 ⟨rfl, rfl⟩
  rw [HF.out]
  replace BW := BW.trans (hk.mono BW.size)
  replace x1 := blk_keep x1 hk
  replace x2 := blk_keep x2 hk
  clear f0 f1 f2 f3
  have f0 := cell_block x1 0
  have f1 := cell_block x1 1
  have f2 := cell_block x2 0
  have f3 := cell_block x2 1
  by_cases hz : F = 0
  case neg =>
    obtain rfl := HE1.out hz
    obtain rfl := HN.out hz
    have b1 : (E != 0) = true := by simpa using hz
    clear hz
    go_wp2_with (first | ((with_reducible refine Calmly.is_fl ?_); refine Calmly.mix_fl rfl ?_ (fun _ _ => ?_); (first | exact .move _ | exact .load _ _ | exact .fieldAddr _ _ _ (by kernel_rfl) | exact .assign _ | exact .binOp _ _ _ _ _ rfl | exact .indexAddr _ _ _ | exact .len _ _ (by kernel_rfl) | exact .field _ _ _ | exact .extract _ _ | exact .pick _ _ _ | exact .build _ _ | exact .slice _ _ _ _ _ | exact .unOp _ _ _ rfl | exact .index _ _ _ | exact .max _ _ _ rfl rfl | exact .min _ _ _ rfl rfl)) | ((with_reducible refine Calmly.is_gl ?_); refine Calmly.mix_gl rfl rfl rfl ?_; first | ((first | with_reducible refine Calmly.gl_tt ?_ (fun _ _ => ?_) | with_reducible refine Calmly.gl_ff ?_ (fun _ _ => ?_)); (first | exact .move _ | exact .load _ _ | exact .fieldAddr _ _ _ (by kernel_rfl) | exact .assign _ | exact .binOp _ _ _ _ _ rfl | exact .indexAddr _ _ _ | exact .len _ _ (by kernel_rfl) | exact .field _ _ _ | exact .extract _ _ | exact .pick _ _ _ | exact .build _ _ | exact .slice _ _ _ _ _ | exact .unOp _ _ _ rfl | exact .index _ _ _ | exact .max _ _ _ rfl rfl | exact .min _ _ _ rfl rfl)) | with_reducible refine Calmly.gl_tf (fun _ _ => ?_) | with_reducible refine Calmly.gl_ft (fun _ _ => ?_)) | ((with_reducible refine Calmly.is_eff ?_); refine Calmly.mix_eff rfl (fun _ _ => ?_)) | ((with_reducible refine Calmly.is_gf ?_); refine Calmly.mix_gf rfl rfl rfl ?_; first | with_reducible refine Calmly.gf_tt (fun _ _ => ?_) | with_reducible refine Calmly.gf_ff (fun _ _ => ?_) | with_reducible refine Calmly.gf_tf (kept_of hk) (fun _ _ => ?_) | with_reducible refine Calmly.gf_ft (kept_of hk) (fun _ _ => ?_)) | ((with_reducible refine Calmly.is_tail ?_); first | refine Calmly.mix_tail_nil ?_ | refine Calmly.mix_tail rfl (fun _ _ => ?_)) | ((with_reducible refine Calmly.is_kept ?_); refine ⟨kept_of hk, ?_⟩) | (with_reducible refine Calmly.mix_alt ?_ ?_))
    go_ret2
    exact ⟨rfl, BW⟩
  subst hz
  have z1 : oE = 0 := firstE_all HF.out _ (by simp)
  have z2 : tE = 0 := firstE_all HF.out _ (by simp)
  have z3 : bE = 0 := firstE_all HF.out _ (by simp)
  subst z1 z2 z3
  obtain ⟨a1, a2, a3, a4, a5, a6, a7, a8⟩ := add_ok (show ws.length = m by omega) HO.out HT.out
  obtain ⟨r1, r2, r3⟩ := bandE_ok HD.out
  have hn0 : 0 < n := by omega
  have hn26 : n ≤ 26 := by omega
  have hm5 : m ≤ 5 := by omega
  have hm3 : m ≤ 3 := by omega
  have hq1 : q ≤ 1000 := by omega
  obtain rfl : p = m := by omega
  obtain rfl : xs.length = n := by omega
  obtain rfl : l.length = q := by omega
  have H4 := Lib.hid a4
  have H5 := Lib.hid a5
  have H6 := Lib.hid a6
  have H8 := Lib.hid a8
  have H9 := Lib.hid (ad_sz (m := p) a4 a6 a8 hm3)
  have HOB := Lib.hid (fun k hk => (bndE_ok (r3 k hk)).1)
  clear a1 a2 a3 a4 a5 a6 a7 a8 l1 l2 k1 k2 j1 j2 i1 i2 r1 r2 r3
  go_wp2_with (first | ((with_reducible refine Calmly.is_fl ?_); refine Calmly.mix_fl rfl ?_ (fun _ _ => ?_); (first | exact .move _ | exact .load _ _ | exact .fieldAddr _ _ _ (by kernel_rfl) | exact .assign _ | exact .binOp _ _ _ _ _ rfl | exact .indexAddr _ _ _ | exact .len _ _ (by kernel_rfl) | exact .field _ _ _ | exact .extract _ _ | exact .pick _ _ _ | exact .build _ _ | exact .slice _ _ _ _ _ | exact .unOp _ _ _ rfl | exact .index _ _ _ | exact .max _ _ _ rfl rfl | exact .min _ _ _ rfl rfl)) | ((with_reducible refine Calmly.is_gl ?_); refine Calmly.mix_gl rfl rfl rfl ?_; first | ((first | with_reducible refine Calmly.gl_tt ?_ (fun _ _ => ?_) | with_reducible refine Calmly.gl_ff ?_ (fun _ _ => ?_)); (first | exact .move _ | exact .load _ _ | exact .fieldAddr _ _ _ (by kernel_rfl) | exact .assign _ | exact .binOp _ _ _ _ _ rfl | exact .indexAddr _ _ _ | exact .len _ _ (by kernel_rfl) | exact .field _ _ _ | exact .extract _ _ | exact .pick _ _ _ | exact .build _ _ | exact .slice _ _ _ _ _ | exact .unOp _ _ _ rfl | exact .index _ _ _ | exact .max _ _ _ rfl rfl | exact .min _ _ _ rfl rfl)) | with_reducible refine Calmly.gl_tf (fun _ _ => ?_) | with_reducible refine Calmly.gl_ft (fun _ _ => ?_)) | ((with_reducible refine Calmly.is_eff ?_); refine Calmly.mix_eff rfl (fun _ _ => ?_)) | ((with_reducible refine Calmly.is_gf ?_); refine Calmly.mix_gf rfl rfl rfl ?_; first | with_reducible refine Calmly.gf_tt (fun _ _ => ?_) | with_reducible refine Calmly.gf_ff (fun _ _ => ?_) | with_reducible refine Calmly.gf_tf (kept_of hk) (fun _ _ => ?_) | with_reducible refine Calmly.gf_ft (kept_of hk) (fun _ _ => ?_)) | ((with_reducible refine Calmly.is_tail ?_); first | refine Calmly.mix_tail_nil ?_ | refine Calmly.mix_tail rfl (fun _ _ => ?_)) | ((with_reducible refine Calmly.is_kept ?_); refine ⟨kept_of hk, ?_⟩) | (with_reducible refine Calmly.mix_alt ?_ ?_))
  refine (added_any a _ c xs b p d ws t _ ts _ (h1.keep BW) (h2.keep BW) (h3.keep BW) hn0 hn26 hm5 H4.out H5.out H6.out H8.out).mono ?_
  rintro r w5 ⟨aZ, cZ, rfl, oZ, hs⟩
  rw [HG.out]
  replace BW := BW.trans (hs.mono BW.size)
  replace x1 := blk_keep x1 hs
  replace x2 := blk_keep x2 hs
  have sZ := oZ.si
  clear hs oZ f0 f1 f2 f3 hk
  go_wp2_with fail
  refine (nUnless_any _ _ _).mono ?_
  rintro r w6 ⟨rfl, rfl⟩
  go_wp2_with fail
  refine (outside8_any aZ _ cZ _ z _ y l _ sZ (h4.keep BW) hn0 hn26 H9.out hq1 HOB.out).mono ?_
  rintro r w7 ⟨aO, nO, cO, rfl, oO, hs⟩
  replace BW := BW.trans (hs.mono BW.size)
  replace x2 := blk_keep x2 hs
  have lO := oO.si.len
  have mO := oO.si.max
  have cO' := oO.si.cap
  have hBB : ((nO : Int) == 0) = B := by
    rw [← HB.out]
    cases ho : outT (adTo xs ws ts p) l l.length with
    | nil =>
      rw [ho] at lO
      subst lO
      rfl
    | cons v vs =>
      rw [ho] at lO
      simp at lO
      have : (nO : Int) ≠ 0 := by omega
      simpa using this
  have HBB := Lib.hid hBB
  clear hs sZ oO lO hBB
  go_wp2_with fail
  refine (nUnless_any _ _ _).mono ?_
  rintro r w8 ⟨rfl, rfl⟩
  rw [HBB.out]
  go_wp2_with fail
  refine (nFirst_any _ 2 2 _ _ (SI.two _ _ _ _ (by simp))).mono ?_
  rintro r w9 ⟨rfl, rfl⟩
  rw [HE2.out trivial]
  have hs := hA w7 (.cells #[.int .i64 (unlessE G 8), .int .i64 (unlessE B 22)] 30)
  replace BW := BW.trans (hs.mono BW.size)
  replace x2 := blk_keep x2 hs
  clear hs x1
  generalize World.alloc w7 _ = w9 at x2 BW ⊢
  have f2 := cell_block x2 0
  have f3 := cell_block x2 1
  by_cases hz : E = 0
  case neg =>
    obtain rfl := HN.out hz
    have b1 : (E != 0) = true := by simpa using hz
    clear hz
    go_wp2_with fail
    go_ret2
    exact ⟨rfl, BW⟩
  subst hz
  obtain rfl := HN2.out rfl
  go_wp2_with fail
  refine (sizes_any t _ e ts _ (h3.keep BW) (by omega) (fun j => by have := H8.out j; omega)).mono ?_
  rintro r w10 ⟨rfl, rfl⟩
  go_wp2_with fail
  go_ret2
  exact ⟨rfl, BW⟩
end Go.Proofs.Ytiibdndchkbefaa

namespace Go.Proofs.Ytiibdndchkbefaa
open Go.RowKit
open Calmly (Kept)

theorem badS_some {xs : List Int} {i k : Nat} (h : badS xs i = some k) : ∃ j, j < xs.length ∧ smp (xs[j]?.getD 0) = false := by
  induction xs generalizing i with
  | nil => cases h
  | cons x l ih =>
    rw [badS] at h
    split at h
    · obtain ⟨j, hj, hs⟩ := ih h
      exact ⟨j + 1, by simp; omega, by simpa using hs⟩
    · rename_i hx
      exact ⟨0, by simp, by simpa using hx⟩
theorem badS_gs (xs : List Int) : decide (gsT xs xs.length ≤ 1000) = (badS xs 0).isNone := by
  rw [Bool.eq_iff_iff, decide_eq_true_iff, gsT_le xs 1000 (by omega)]
  constructor
  · intro h
    cases hb : badS xs 0 with
    | none => rfl
    | some k =>
      obtain ⟨j, hj, hs⟩ := badS_some hb
      have := h j hj
      rcases wIn_false.1 hs with h2 | h2 <;> omega
  · intro h j _
    exact badS_none (Option.isNone_iff_eq_none.1 h) j

set_option maxRecDepth 100000 in
set_option maxHeartbeats 2000000 in
theorem rAdded_any (a : Option Addr) (n c : Nat) (xs : List Int) (b : Option Addr) (m d : Nat) (ws : List (List Int)) (t : Option Addr) (e : Nat) (ts : List Int) (w : World) (h1 : SI w a n c xs) (h2 : SW w b m d ws) (h3 : SI w t m e ts) (hn0 : 0 < n) (hn : n ≤ 26) (hm : m ≤ 5)
    (hx : ∀ j : Nat, -1000 ≤ xs[j]?.getD 0 ∧ xs[j]?.getD 0 ≤ 1000) (hl : ∀ i, i < ws.length → (ws[i]?.getD []).length = n) (hw : ∀ i t : Nat, -1000 ≤ (ws[i]?.getD [])[t]?.getD 0 ∧ (ws[i]?.getD [])[t]?.getD 0 ≤ 1000) (ht : ∀ j : Nat, -2 ≤ ts[j]?.getD 0 ∧ ts[j]?.getD 0 ≤ 2) (G : Bool) (hG : decide (gsT (adTo xs ws ts m) n ≤ 1000) = G) :
    Calls Try.prog 61 #[.slice a n c, .slice b m d, .slice t m e] w fun r w' => ∃ a' n' c', r = .returned (.tuple #[.slice a' n' c', .bool G]) ∧ (G = true → SI w' a' n' c' (adTo xs ws ts m)) ∧ n' ≤ c' ∧ c' ≤ 9223372036854775807 ∧ Below w.heap.size w w' := by
  obtain ⟨l1, l2⟩ : n ≤ xs.length ∧ xs.length ≤ n := by have := h1.len; omega
  obtain ⟨k1, k2⟩ : m ≤ ws.length ∧ ws.length ≤ m := by have := h2.len; omega
  have m1 := h1.max
  have c1 := h1.cap
  have m2 := h2.max
  have c2 := h2.cap
  have m3 := h3.max
  have c3 := h3.cap
  have hgb := badS_gs (adTo xs ws ts m)
  rw [adTo_len, show xs.length = n from by omega, hG] at hgb
  have HX := Lib.hid hx
  have HL := Lib.hid hl
  have HW := Lib.hid hw
  have HT := Lib.hid ht
  have HG := Lib.hid hgb
  clear hx hl hw ht hG hgb
  go_enter Try.func61, Try.ntmps61
  go_wp2_with fail
  refine (copyInts_any a n c xs _ h1 (by omega)).mono ?_
  rintro r w1 ⟨a1, c1', rfl, o1, hb1⟩
  obtain ⟨g, rfl, hg1, hg2⟩ := o1.at_ hn0
  have o0 : OwI w1 w.heap.size (some ⟨g, 0, none⟩) n c1' (adTo xs ws ts 0) := by rw [adTo_zero]; exact o1
  have m4 := o1.si.max
  have c4 := o1.si.cap
  clear o1
  go_wp2_with fail
  go_loopw [9] (fun i wr => ∃ k : Nat, k ≤ m ∧ i = .int .i64 k ∧ OwI wr w.heap.size (some ⟨g, 0, none⟩) n c1' (adTo xs ws ts k) ∧ Below w.heap.size w wr) (fun i _ => m - (intOf i).toNat)
  case atStart => exact ⟨0, by omega, rfl, o0, hb1⟩
  case round =>
    clear o0 hb1
    obtain ⟨k, hk, rfl, hown, hbr⟩ := hrel
    by_cases hlt : k < m
    · obtain ⟨bw, ow, rfl, hcw⟩ := h2.at_ (by omega)
      obtain ⟨aw, nw, cw, ew0, sw⟩ := hcw k hlt
      obtain ⟨q1, q2⟩ : nw ≤ n ∧ n ≤ nw := by
        have h5 := sw.len
        have h6 := HL.out k (by omega)
        omega
      obtain rfl : nw = n := by omega
      have m5 := sw.max
      have c5 := sw.cap
      clear hcw q1 q2
      have hi : (k : Int) < (m : Int) := by omega
      have hi0 : (0 : Int) ≤ (k : Int) := by omega
      have hown0 : OwI wr w.heap.size (some ⟨g, 0, none⟩) nw c1' (adMid xs ws ts k 0) := by rw [adMid_zero]; exact hown
      have hbr0 := hbr
      have hrz := hbr.size
      go_wp2_with fail
      go_loopw [10] (fun j wz => ∃ p : Nat, p ≤ nw ∧ j = .int .i64 p ∧ OwI wz w.heap.size (some ⟨g, 0, none⟩) nw c1' (adMid xs ws ts k p) ∧ Below w.heap.size w wz) (fun j _ => nw - (intOf j).toNat)
      case atStart => exact ⟨0, by omega, rfl, hown0, hbr0⟩
      case round =>
        clear hown hown0 hbr hbr0
        obtain ⟨p, hp, rfl, hown, hbz⟩ := hrel
        by_cases hpl : p < nw
        · have hj : (p : Int) < (nw : Int) := by omega
          have hj0 : (0 : Int) ≤ (p : Int) := by omega
          have ew := cell_keep ew0 hbz
          have ex := hown.cell p hpl
          rw [adMid_get xs ws ts k p (by omega)] at ex
          have fx := hown.free p
          obtain ⟨bx, ox, rfl, hcx⟩ := (sw.keep hbz).at_ hn0
          have e2 := hcx p hpl
          obtain ⟨bt, ot, rfl, hct⟩ := (h3.keep hbz).at_ (by omega)
          have e3 := hct k hlt
          obtain ⟨⟨n1, n2⟩, n3, n4⟩ := ad_nums HX.out HW.out HT.out p k (by omega)
          have st := hown.stored p (xs[p]?.getD 0 + adS ws ts p k + ts[k]?.getD 0 * (ws[k]?.getD [])[p]?.getD 0)
          rw [adMid_set xs ws ts k p (by omega)] at st
          have ST := Lib.hid st
          clear hcx hct st
          obtain ⟨x, hxx⟩ : ∃ x, xs[p]?.getD 0 + adS ws ts p k = x := ⟨_, rfl⟩
          obtain ⟨y, hyy⟩ : ∃ y, ts[k]?.getD 0 = y := ⟨_, rfl⟩
          obtain ⟨z, hzz⟩ : ∃ z, (ws[k]?.getD [])[p]?.getD 0 = z := ⟨_, rfl⟩
          rw [hxx] at ex n1 n2 ST
          rw [hyy] at e3 n3 n4 ST
          rw [hzz] at e2 n3 n4 ST
          clear hxx hyy hzz
          go_wp2_with fail
          refine Calmly.wp_region_mix 19 (.fl 0 <| .fl 1 <| .fl 2 <| .fl 3 <| .fl 4 <| .fl 5 <| .fl 6 <| .fl 7 <| .fl 8 <| .fl 9 <| .fl 10 <| .fl 11 <| .fl 12 <| .fl 13 <| .fl 14 <| .fl 15 <| .fl 16 <| .fl 17 <| .fl 18 <| .tail [19, 20]) (by kernel_rfl) (by kernel_rfl) ?_
          have hk := Below.refl wr.drew.heap.size wr.drew
          go_wp2_with (first | ((with_reducible refine Calmly.is_fl ?_); refine Calmly.mix_fl rfl ?_ (fun _ _ => ?_); (first | exact .move _ | exact .load _ _ | exact .fieldAddr _ _ _ (by kernel_rfl) | exact .assign _ | exact .binOp _ _ _ _ _ rfl | exact .indexAddr _ _ _ | exact .len _ _ (by kernel_rfl) | exact .field _ _ _ | exact .extract _ _ | exact .pick _ _ _ | exact .build _ _ | exact .slice _ _ _ _ _ | exact .unOp _ _ _ rfl | exact .index _ _ _ | exact .max _ _ _ rfl rfl | exact .min _ _ _ rfl rfl)) | ((with_reducible refine Calmly.is_gl ?_); refine Calmly.mix_gl rfl rfl rfl ?_; first | ((first | with_reducible refine Calmly.gl_tt ?_ (fun _ _ => ?_) | with_reducible refine Calmly.gl_ff ?_ (fun _ _ => ?_)); (first | exact .move _ | exact .load _ _ | exact .fieldAddr _ _ _ (by kernel_rfl) | exact .assign _ | exact .binOp _ _ _ _ _ rfl | exact .indexAddr _ _ _ | exact .len _ _ (by kernel_rfl) | exact .field _ _ _ | exact .extract _ _ | exact .pick _ _ _ | exact .build _ _ | exact .slice _ _ _ _ _ | exact .unOp _ _ _ rfl | exact .index _ _ _ | exact .max _ _ _ rfl rfl | exact .min _ _ _ rfl rfl)) | with_reducible refine Calmly.gl_tf (fun _ _ => ?_) | with_reducible refine Calmly.gl_ft (fun _ _ => ?_)) | ((with_reducible refine Calmly.is_eff ?_); refine Calmly.mix_eff rfl (fun _ _ => ?_)) | ((with_reducible refine Calmly.is_gf ?_); refine Calmly.mix_gf rfl rfl rfl ?_; first | with_reducible refine Calmly.gf_tt (fun _ _ => ?_) | with_reducible refine Calmly.gf_ff (fun _ _ => ?_) | with_reducible refine Calmly.gf_tf (kept_of hk) (fun _ _ => ?_) | with_reducible refine Calmly.gf_ft (kept_of hk) (fun _ _ => ?_)) | ((with_reducible refine Calmly.is_tail ?_); first | refine Calmly.mix_tail_nil ?_ | refine Calmly.mix_tail rfl (fun _ _ => ?_)) | ((with_reducible refine Calmly.is_kept ?_); refine ⟨kept_of hk, ?_⟩) | (with_reducible refine Calmly.mix_alt ?_ ?_))
          go_roundw
          case rel => exact ⟨p + 1, by omega, by go_num, ST.out.1.drew, hbz.trans ST.out.2.drew⟩
          case measure => simp [intOf]; omega
        · have hle : (nw : Int) ≤ (p : Int) := by omega
          go_wp2_with fail
          go_roundw
          case rel =>
            rw [adMid_all xs ws ts k p (by omega)] at hown
            exact ⟨k + 1, by omega, by go_num, hown, hbz⟩
          case measure => simp [intOf]; omega
    · have hle : (m : Int) ≤ (k : Int) := by omega
      obtain rfl : k = m := by omega
      have sa := hown.si
      obtain ⟨Y, hY⟩ : ∃ Y, adTo xs ws ts k = Y := ⟨_, rfl⟩
      rw [hY] at sa HG
      have HY := Lib.hid hY
      have hYl : Y.length = n := by rw [← hY, adTo_len]; omega
      have HYL := Lib.hid hYl
      clear hown hY hYl
      go_wp2_with fail
      go_loopw [11] (fun j wz => ∃ p : Nat, p ≤ n ∧ j = .int .i64 p ∧ badS Y 0 = badS (Y.drop p) p ∧ wz = wr) (fun j _ => n - (intOf j).toNat)
      case atStart => exact ⟨0, by omega, rfl, rfl, rfl⟩
      case round =>
        obtain ⟨p, hp, rfl, hbs, rfl⟩ := hrel
        have HBS := Lib.hid hbs
        clear hbs
        by_cases hpl : p < n
        · obtain ⟨bx, ox, hee, hcx⟩ := sa.at_ (by omega)
          cases hee
          have ex := hcx p hpl
          rw [Nat.zero_add] at ex
          clear hcx
          have hbd := badS_drop Y p (by rw [HYL.out]; exact hpl)
          obtain ⟨z, hzz⟩ : ∃ z, Y[p]?.getD 0 = z := ⟨_, rfl⟩
          rw [hzz] at ex hbd
          have HBD := Lib.hid hbd
          clear hbd hzz
          have hj : (p : Int) < (n : Int) := by omega
          have hj0 : (0 : Int) ≤ (p : Int) := by omega
          go_wp2_with fail
          refine (rIsSample_any _ _).mono ?_
          rintro e w2 ⟨rfl, rfl⟩
          cases ho : smp z
          · have hRE : G = false := by
              rw [HG.out, HBS.out, HBD.out, ho]
              rfl
            subst hRE
            go_wp2_with fail
            go_ret2
            exact ⟨none, 0, 0, rfl, (fun h => by cases h), by omega, by omega, hbr⟩
          · go_wp2_with fail
            go_roundw
            case rel => exact ⟨p + 1, by omega, by go_num, by rw [HBS.out, HBD.out, ho]; rfl, by first | rfl | trivial⟩
            case measure => simp [intOf]; omega
        · have hle : (n : Int) ≤ (p : Int) := by omega
          have hRE : G = true := by rw [HG.out, HBS.out, List.drop_eq_nil_of_le (by rw [HYL.out]; omega)]; rfl
          subst hRE
          go_wp2_with fail
          go_ret2
          exact ⟨_, n, c1', rfl, (by rw [HY.out]; exact sa), c4, m4, hbr⟩

set_option maxRecDepth 100000 in
set_option maxHeartbeats 4000000 in
theorem rMatch_any (a : Option Addr) (n c : Nat) (xs : List Int) (b : Option Addr) (m d : Nat) (ws : List (List Int)) (ba : Option Addr) (bn bc : Nat) (l : List Four) (w : World) (h1 : SI w a n c xs) (h2 : SW w b m d ws) (h3 : SB w ba bn bc l) (hn0 : 0 < n) (hn : n ≤ 26) (hm : m ≤ 5) (hbn : bn ≤ 1000)
    (hx : ∀ j : Nat, -1000 ≤ xs[j]?.getD 0 ∧ xs[j]?.getD 0 ≤ 1000) (hl : ∀ i, i < ws.length → (ws[i]?.getD []).length = n) (hw : ∀ i t : Nat, -1000 ≤ (ws[i]?.getD [])[t]?.getD 0 ∧ (ws[i]?.getD [])[t]?.getD 0 ≤ 1000) (ho : ∀ k, k < l.length → oscE (l[k]?.getD four0).1 = 0) :
    Calls Try.prog 24 #[.slice a n c, .slice b m d, .slice ba bn bc] w fun r w' => ∃ a' n' c', r = .returned (.tuple #[.slice a' n' c', .bool (mtF (goodM xs ws l) m).2]) ∧ SI w' a' n' c' (mtF (goodM xs ws l) m).1 ∧ Below w.heap.size w w' := by
  obtain ⟨l1, l2⟩ : n ≤ xs.length ∧ xs.length ≤ n := by have := h1.len; omega
  obtain ⟨k1, k2⟩ : m ≤ ws.length ∧ ws.length ≤ m := by have := h2.len; omega
  obtain ⟨j1, j2⟩ : bn ≤ l.length ∧ l.length ≤ bn := by have := h3.len; omega
  have m1 := h1.max
  have c1 := h1.cap
  have m2 := h2.max
  have c2 := h2.cap
  have m3 := h3.max
  have c3 := h3.cap
  have HX := Lib.hid hx
  have HL := Lib.hid hl
  have HW := Lib.hid hw
  have HO := Lib.hid ho
  clear hx hl hw ho
  go_enter Try.func24, Try.ntmps24
  go_wp2_with fail
  refine (choices_any m hm _).mono ?_
  rintro e w1 ⟨ca, cn, cc, rfl, sc, hb1⟩
  have hcn := sc.len
  have HCN := Lib.hid hcn
  have mc := sc.max
  have cc' := sc.cap
  clear hcn
  go_wp2_with fail
  go_loopw [8, 9, 11] (fun x y i wr => ∃ (k : Nat) (a' : Option Addr) (n' c' : Nat), i = .int .i64 k ∧ k ≤ cn ∧ x = .slice a' n' c' ∧ y = .bool (((allC m).take k).foldl (mtStep (goodM xs ws l)) ([], false)).2 ∧ SI wr a' n' c' (((allC m).take k).foldl (mtStep (goodM xs ws l)) ([], false)).1 ∧ (n' ≤ 5 ∧ ∀ j : Nat, -2 ≤ (((allC m).take k).foldl (mtStep (goodM xs ws l)) ([], false)).1[j]?.getD 0 ∧ (((allC m).take k).foldl (mtStep (goodM xs ws l)) ([], false)).1[j]?.getD 0 ≤ 2) ∧ Below w1.heap.size w1 wr) (fun _ _ i _ => cn - (intOf i).toNat)
  case atStart => exact ⟨0, none, 0, 0, rfl, by omega, rfl, rfl, Sl.nil _ 1, ⟨by omega, fun j => by simp⟩, Below.refl _ _⟩
  case round =>
    obtain ⟨k, a', n', c', rfl, hk, rfl, rfl, hsi, hbd, hbr⟩ := hrel
    have hbw := hb1.trans (hbr.mono hb1.size)
    by_cases hlt : k < cn
    · have hpl2 : k < (allC m).length := by rw [← HCN.out]; exact hlt
      have htk : (allC m).take (k + 1) = (allC m).take k ++ [(allC m)[k]?.getD []] := by
        rw [List.take_succ_eq_append_getElem hpl2, List.getElem?_eq_getElem hpl2]
        rfl
      have hmem : (allC m)[k]?.getD [] ∈ allC m := by
        rw [List.getElem?_eq_getElem hpl2]
        exact List.getElem_mem hpl2
      obtain ⟨cb, co, rfl, hcc⟩ := (sc.keep hbr).at_ (by omega)
      obtain ⟨ta, tn, tc, y0, st⟩ := hcc k hlt
      clear hcc
      obtain ⟨t, htt⟩ : ∃ t, (allC m)[k]?.getD [] = t := ⟨_, rfl⟩
      rw [htt] at st htk hmem
      obtain ⟨hl1, hl2⟩ := allC_len hmem
      obtain rfl : m = tn := by have := st.len; omega
      have hstep : ((allC m).take (k + 1)).foldl (mtStep (goodM xs ws l)) ([], false) = mtStep (goodM xs ws l) (((allC m).take k).foldl (mtStep (goodM xs ws l)) ([], false)) t := by rw [htk, List.foldl_append]; rfl
      have mt := st.max
      have ct := st.cap
      clear htt hmem htk hpl2
      obtain ⟨S, hS⟩ : ∃ S, ((allC m).take k).foldl (mtStep (goodM xs ws l)) ([], false) = S := ⟨_, rfl⟩
      rw [hS] at hsi hbd hstep ⊢
      obtain ⟨sb, sf⟩ := S
      dsimp only at hsi hbd ⊢
      obtain ⟨hbd1, hbd2⟩ := hbd
      have hgood : goodM xs ws l t = (decide (gsT (adTo xs ws t m) n ≤ 1000) && (outT (adTo xs ws t m) l bn).isEmpty) := by
        unfold goodM
        rw [show ws.length = m by omega, show xs.length = n by omega, show l.length = bn by omega]
      have hszt : szs t = szT t m := by unfold szs; rw [hl1]
      have hszb : szs sb = szT sb n' := by unfold szs; rw [hsi.len]
      have HG := Lib.hid hgood
      have HST := Lib.hid hszt
      have HSB := Lib.hid hszb
      have HSS := Lib.hid hstep
      have HT2 := Lib.hid hl2
      have HB2 := Lib.hid hbd2
      have hi : (k : Int) < (cn : Int) := by omega
      have hi0 : (0 : Int) ≤ (k : Int) := by omega
      clear hgood hszt hszb hstep hl2 hbd2 hS
      cases hok : decide (gsT (adTo xs ws t m) n ≤ 1000)
      · have he : mtStep (goodM xs ws l) (sb, sf) t = (sb, sf) := by
          unfold mtStep
          rw [if_neg]
          rintro ⟨hh, _⟩
          rw [HG.out, hok] at hh
          cases hh
        have HM := Lib.hid he
        clear he
        go_wp2_with fail
        refine (rAdded_any a n c xs b m d ws ta tc t _ (h1.keep hbw) (h2.keep hbw) st hn0 hn hm HX.out HL.out HW.out HT2.out false hok).mono ?_
        rintro e w2 ⟨a2, n2, c2', rfl, _, q2, q3, hs⟩
        have hr1 := hbr.size
        replace hbr := hbr.trans (hs.mono hr1)
        replace hsi := hsi.keep hs
        clear hok
        go_wp2_with fail
        go_roundw
        case rel => exact ⟨k + 1, a', n', c', by go_num, by omega, rfl, by rw [HSS.out, HM.out], by rw [HSS.out, HM.out]; exact hsi, by rw [HSS.out, HM.out]; exact ⟨hbd1, HB2.out⟩, hbr⟩
        case measure => simp [intOf]; omega
      · have hsb : ∀ j : Nat, -1000 ≤ (adTo xs ws t m)[j]?.getD 0 ∧ (adTo xs ws t m)[j]?.getD 0 ≤ 1000 := by
          intro j
          rcases Nat.lt_or_ge j n with hj | hj
          · exact (gsT_le _ 1000 (by omega) n).1 (of_decide_eq_true hok) j hj
          · rw [List.getElem?_eq_none (by rw [adTo_len]; omega)]
            simp
        have HS := Lib.hid hsb
        go_wp2_with fail
        refine (rAdded_any a n c xs b m d ws ta tc t _ (h1.keep hbw) (h2.keep hbw) st hn0 hn hm HX.out HL.out HW.out HT2.out true hok).mono ?_
        rintro e w2 ⟨a2, n2, c2', rfl, s2, q2, q3, hs⟩
        replace s2 := s2 rfl
        obtain rfl : n = n2 := by have := s2.len; rw [adTo_len] at this; omega
        rw [hok] at HG
        have hr1 := hbr.size
        have hr2 := hbw.size
        replace hbr := hbr.trans (hs.mono hr1)
        replace hbw := hbw.trans (hs.mono hr2)
        replace hsi := hsi.keep hs
        replace st := st.keep hs
        replace y0 := cell_keep y0 hs
        clear hok hsb hs hr1 hr2
        go_wp2_with fail
        refine (rOutside_any a2 n c2' _ ba bn bc l _ s2 (h3.keep hbw) hn HS.out hbn HO.out).mono ?_
        rintro e w3 ⟨a3, n3, c3', rfl, s3, hs⟩
        have hr1 := hbr.size
        replace hbr := hbr.trans (hs.mono hr1)
        replace hsi := hsi.keep hs
        replace st := st.keep hs
        replace y0 := cell_keep y0 hs
        have hl3 := s3.len
        have m3' := s3.max
        have c3'' := s3.cap
        clear hs hr1
        cases hem : (outT (adTo xs ws t m) l bn).isEmpty
        · have he : mtStep (goodM xs ws l) (sb, sf) t = (sb, sf) := by
            unfold mtStep
            rw [if_neg]
            rintro ⟨hh, _⟩
            rw [HG.out, hem] at hh
            cases hh
          have HM := Lib.hid he
          have hpos : (0 : Int) < (n3 : Int) := by
            have : n3 ≠ 0 := by
              intro h0
              rw [h0] at hl3
              rw [List.length_eq_zero_iff.1 hl3.symm] at hem
              cases hem
            omega
          clear he hem hl3
          go_wp2_with fail
          go_roundw
          case rel => exact ⟨k + 1, a', n', c', by go_num, by omega, rfl, by rw [HSS.out, HM.out], by rw [HSS.out, HM.out]; exact hsi, by rw [HSS.out, HM.out]; exact ⟨hbd1, HB2.out⟩, hbr⟩
          case measure => simp [intOf]; omega
        · obtain rfl : n3 = 0 := by rw [hl3, List.isEmpty_iff.1 hem]; rfl
          rw [hem] at HG
          clear hl3 hem
          cases sf
          · have he : mtStep (goodM xs ws l) (sb, false) t = (t, true) := by
              unfold mtStep
              rw [if_pos]
              exact ⟨by rw [HG.out]; rfl, fun h => by cases h⟩
            have HM := Lib.hid he
            clear he
            go_wp2_with fail
            go_roundw
            case rel => exact ⟨k + 1, ta, m, tc, by go_num, by omega, rfl, by rw [HSS.out, HM.out], by rw [HSS.out, HM.out]; exact st, by rw [HSS.out, HM.out]; exact ⟨hm, HT2.out⟩, hbr⟩
            case measure => simp [intOf]; omega
          · by_cases hlt2 : szT t m < szT sb n'
            · have he : mtStep (goodM xs ws l) (sb, true) t = (t, true) := by
                unfold mtStep
                rw [if_pos]
                exact ⟨by rw [HG.out]; rfl, fun _ => by dsimp only; rw [HST.out, HSB.out]; exact hlt2⟩
              have HM := Lib.hid he
              clear he
              go_wp2_with fail
              refine (rSizes_any ta m tc t _ st (by omega) (fun j => by have := HT2.out j; omega)).mono ?_
              rintro e w4 ⟨rfl, rfl⟩
              go_wp2_with fail
              refine (rSizes_any a' n' c' sb _ hsi (by omega) (fun j => by have := HB2.out j; omega)).mono ?_
              rintro e w4 ⟨rfl, rfl⟩
              go_wp2_with fail
              go_roundw
              case rel => exact ⟨k + 1, ta, m, tc, by go_num, by omega, rfl, by rw [HSS.out, HM.out], by rw [HSS.out, HM.out]; exact st, by rw [HSS.out, HM.out]; exact ⟨hm, HT2.out⟩, hbr⟩
              case measure => simp [intOf]; omega
            · have hge : szT sb n' ≤ szT t m := by omega
              have he : mtStep (goodM xs ws l) (sb, true) t = (sb, true) := by
                unfold mtStep
                rw [if_neg]
                rintro ⟨_, hh⟩
                have := hh rfl
                dsimp only at this
                rw [HST.out, HSB.out] at this
                omega
              have HM := Lib.hid he
              clear he hlt2
              go_wp2_with fail
              refine (rSizes_any ta m tc t _ st (by omega) (fun j => by have := HT2.out j; omega)).mono ?_
              rintro e w4 ⟨rfl, rfl⟩
              go_wp2_with fail
              refine (rSizes_any a' n' c' sb _ hsi (by omega) (fun j => by have := HB2.out j; omega)).mono ?_
              rintro e w4 ⟨rfl, rfl⟩
              go_wp2_with fail
              go_roundw
              case rel => exact ⟨k + 1, a', n', c', by go_num, by omega, rfl, by rw [HSS.out, HM.out], by rw [HSS.out, HM.out]; exact hsi, by rw [HSS.out, HM.out]; exact ⟨hbd1, HB2.out⟩, hbr⟩
              case measure => simp [intOf]; omega
    · have hle : (cn : Int) ≤ (k : Int) := by omega
      have hfin : ((allC m).take k).foldl (mtStep (goodM xs ws l)) ([], false) = mtF (goodM xs ws l) m := by
        rw [List.take_of_length_le (by rw [← HCN.out]; omega)]
        rfl
      rw [hfin] at hsi ⊢
      clear hfin hbd
      go_wp2_with fail
      go_ret2
      exact ⟨a', n', c', rfl, hsi, hbw⟩
end Go.Proofs.Ytiibdndchkbefaa
