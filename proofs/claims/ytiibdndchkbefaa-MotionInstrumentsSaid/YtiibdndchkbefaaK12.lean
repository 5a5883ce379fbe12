/- Contracts of chapter 2: instruments. Contracts of chapter 2: copies of lists and bands, all lists of times, the reference's added samples. -/
import Derived.Test.YtiibdndchkbefaaK11
namespace Go.Proofs.Ytiibdndchkbefaa
open Go.RowKit
open Calmly (Kept)

theorem smp_bd {x : Int} (h : smp x = true) : -1000 ≤ x ∧ x ≤ 1000 := wIn_iff.1 h
theorem echT_bd {nx : Int → Int → Int → Int} {xs : List Int} {k : Nat} (h : echB nx xs k = true) : -1000 ≤ echT nx xs k ∧ echT nx xs k ≤ 1000 := by
  cases k with
  | zero => exact ⟨by simp [echT], by simp [echT]⟩
  | succ k => exact smp_bd (echB_smp h k (Nat.lt_succ_self k))
theorem befT_bd {xs : List Int} (hb : ∀ j : Nat, -1000 ≤ xs[j]?.getD 0 ∧ xs[j]?.getD 0 ≤ 1000) (k : Nat) : -1000 ≤ befT xs k ∧ befT xs k ≤ 1000 := by
  cases k with
  | zero => exact ⟨by simp [befT], by simp [befT]⟩
  | succ k => exact hb k
theorem SI.set2i {w : World} {a : Option Addr} {n c : Nat} {xs : List Int} {r : Nat} {e' : TypeId} (h : SI w a n c xs) (hi : In w 3 a) (hr : BlkT w r e') (he : 3 ≠ e') (u v : Value) : SI ((w.setCell ⟨r, 0, none⟩ u).setCell ⟨r, 1, none⟩ v) a n c xs :=
  Sl.set (Sl.set h hi hr he) (hi.set _ _) (hr.set _ _) he
set_option maxHeartbeats 400000 in
theorem rEchoErr_any (e : Int) (w : World) : Calls Try.prog 48 #[.int .i64 e] w fun r w' => r = .returned (.int .i64 (unlessE (wIn e (-2) 2) 2)) ∧ w = w' := by
  go_enter Try.func48, Try.ntmps48
  cases h : wIn e (-2) 2
  · go_wp2_with (first | (go_at_call 28; refine (within_any _ _ _ _).mono ?_; rintro e w' ⟨rfl, rfl⟩))
    go_ret
    exact ⟨ret_int rfl, rfl⟩
  · go_wp2_with (first | (go_at_call 28; refine (within_any _ _ _ _).mono ?_; rintro e w' ⟨rfl, rfl⟩))
    go_ret
    exact ⟨ret_int rfl, rfl⟩

set_option maxHeartbeats 400000 in
theorem recNx_any (e s b m : Int) (be : Nat) (w : World) (h : w.heap[be]? = some (.cells #[.int .i64 e] 3)) (h1 : -1000 ≤ s) (h2 : s ≤ 1000) (h3 : -2000 ≤ e * m) (h4 : e * m ≤ 2000) :
    Calls Try.prog 108 #[.int .i64 s, .int .i64 b, .int .i64 m, .pointer (some ⟨be, 0, none⟩)] w fun r w' => r = .returned (.int .i64 (recN e s b m)) ∧ w = w' := by
  have f0 := cell_block h 0
  go_enter Try.func108, Try.ntmps108
  go_wp2_with fail
  go_ret
  exact ⟨rfl, rfl⟩

set_option maxRecDepth 100000 in
set_option maxHeartbeats 4000000 in
theorem recEchoed_any (step : Int) (a : Option Addr) (n c : Nat) (xs : List Int) (e : Int) (be : Nat) (w : World) (h1 : SI w a n c xs) (h2 : w.heap[be]? = some (.cells #[.int .i64 e] 3)) (F E S : Int) (X : List Int) (hF : firstE [(recF step xs).2, unlessE (wIn e (-2) 2) 2] = F) (hno : F ≠ 0 → E = F ∧ S = 0 ∧ X = [])
    (hlg : F = 0 → echB (recN e) xs n = false → E = 8 ∧ S = 0 ∧ X = []) (hok : F = 0 → echB (recN e) xs n = true → E = 0 ∧ S = step ∧ X = echL (recN e) xs n) :
    Calls Try.prog 107 #[.agg #[.int .i64 step, .slice a n c], .int .i64 e, .func (.func 108) #[] #[.pointer (some ⟨be, 0, none⟩)]] w fun r w' => ∃ a' n' c', r = .returned (.tuple #[.agg #[.int .i64 S, .slice a' n' c'], .int .i64 E]) ∧ SI w' a' n' c' X ∧ In w' 3 a' ∧ Below w.heap.size w w' := by
  have hA : ∀ (A : World) (o : Obj), Below A.heap.size A (A.alloc o) := fun A o => (Below.refl _ _).alloc (Nat.le_refl _) _
  obtain ⟨l1, l2⟩ : n ≤ xs.length ∧ xs.length ≤ n := by have := h1.len; omega
  have m1 := h1.max
  have c1 := h1.cap
  obtain ⟨rE, hrE⟩ : ∃ x, (recF step xs).2 = x := ⟨_, rfl⟩
  obtain ⟨L, hL⟩ : ∃ x, wIn e (-2) 2 = x := ⟨_, rfl⟩
  rw [hrE, hL] at hF
  have HRE := Lib.hid hrE
  have HL := Lib.hid hL
  have HF := Lib.hid hF
  have HNO := Lib.hid hno
  have HLG := Lib.hid hlg
  have HOK := Lib.hid hok
  clear hrE hL hF hno hlg hok
  have hbe := blk_lt h2
  obtain ⟨W, hW⟩ : ∃ W, (w.alloc (.cells #[.int .i64 step, .slice a n c] 24)).alloc (.cells #[.int .i64 0, .slice none 0 0] 24) = W := ⟨_, rfl⟩
  have BW : Below w.heap.size w W := by rw [← hW]; exact ((Below.refl _ _).alloc (Nat.le_refl _) _).alloc (by simp) _
  have x3 : W.heap[w.heap.size]? = some (.cells #[.int .i64 step, .slice a n c] 24) := by
    rw [← hW]
    exact blk_keep (alloc_new w _) (hA _ _)
  have x6 : W.heap[w.heap.size + 1]? = some (.cells #[.int .i64 0, .slice none 0 0] 24) := by
    rw [← hW]
    have := alloc_new (w.alloc (.cells #[.int .i64 step, .slice a n c] 24)) (.cells #[.int .i64 0, .slice none 0 0] 24)
    simpa only [World.size_alloc] using this
  have f0 := cell_block x3 0
  have f1 := cell_block x3 1
  have HW := Lib.hid hW
  clear hW
  go_enter Try.func107, Try.ntmps107
  go_wp2_with fail
  rw [HW.out]
  refine (recordErr_any step a n c xs _ (h1.keep BW) rE HRE.out).mono ?_
  rintro r w1 ⟨rfl, hs⟩
  replace x3 := blk_keep x3 hs
  replace x6 := blk_keep x6 hs
  replace BW := BW.trans (hs.mono BW.size)
  clear hs f0 f1
  go_wp2_with fail
  refine (nSized_any e 2 _ (by omega) (by omega)).mono ?_
  rintro r w' ⟨rfl, rfl⟩
  rw [show wIn e (-2) 2 = L from HL.out]
  go_wp2_with fail
  refine (nUnless_any _ _ _).mono ?_
  rintro r w' ⟨rfl, rfl⟩
  go_wp2_with fail
  refine (nFirst_any _ 2 2 _ _ (SI.two _ _ _ _ rfl)).mono ?_
  rintro r w' ⟨rfl, rfl⟩
  rw [HF.out]
  have hs := hA w1 (.cells #[.int .i64 rE, .int .i64 (unlessE L 2)] 30)
  replace x3 := blk_keep x3 hs
  replace x6 := blk_keep x6 hs
  replace BW := BW.trans (hs.mono BW.size)
  clear hs
  generalize w1.alloc _ = w2 at x3 x6 BW ⊢
  have f0 := cell_block x3 0
  have f1 := cell_block x3 1
  have r0 := cell_block x6 0
  have r1 := cell_block x6 1
  have r2 := frozen_block x6 0
  have r3 := frozen_block x6 1
  by_cases hz : F = 0
  case neg =>
    obtain ⟨rfl, rfl, rfl⟩ := HNO.out hz
    have b1 : (E != 0) = true := by simpa using hz
    clear hz
    go_wp2_with fail
    obtain ⟨s1, s2, _, _⟩ := set2 (x := .int .i64 0) (y := .slice none 0 0) r0 r1
    refine bodyPost_ret (v := .tuple #[.agg #[.int .i64 0, .slice none 0 0], .int .i64 E]) (by simp [results, Try.results107, go_sem, s1, s2]) rfl ⟨_, _, _, rfl, Sl.nil _ 1, .inl rfl, ?_⟩
    exact (BW.setCell (by simp) _).setCell (by simp) _
  subst hz
  have hrE : rE = 0 := by
    have := HF.out
    by_cases h : rE = 0
    · exact h
    · rw [firstE, if_neg h] at this
      exact this
  have hL1 : L = true := by
    have := HF.out
    rw [hrE] at this
    cases L
    · cases this
    · rfl
  have he : -2 ≤ e ∧ e ≤ 2 := wIn_iff.1 (by rw [HL.out]; exact hL1)
  obtain ⟨he1, he2⟩ := he
  obtain ⟨q1, q2, q3, q4, q5⟩ := recF_ok (HRE.out.trans hrE)
  have hn : n ≤ 24 := by omega
  have H5 := Lib.hid q5
  clear q1 q2 q3 q4 q5 hrE hL1 HRE HL HF HNO
  have hs := hA w2 (.cells #[.int .i64 step, .slice none 0 0] 24)
  have y9 := alloc_new w2 (.cells #[.int .i64 step, .slice none 0 0] 24)
  have n69 : w.heap.size + 1 < w2.heap.size := blk_lt x6
  have hB9 := BW.size
  replace x3 := blk_keep x3 hs
  replace x6 := blk_keep x6 hs
  replace BW := BW.trans (hs.mono BW.size)
  clear hs r0 r1 r2 r3
  have f1' := cell_block x3 1
  go_wp2_with fail
  obtain ⟨b9, hb9⟩ : ∃ b, w2.heap.size = b := ⟨_, rfl⟩
  have hb9' : b9 + 1 = (w2.alloc (.cells #[.int .i64 step, .slice none 0 0] 24)).heap.size := by rw [← hb9]; simp
  clear f0 f1 f1' x3
  generalize World.alloc w2 _ = w3 at x6 y9 BW hb9' ⊢
  rw [hb9] at y9 n69 hB9 ⊢
  clear hb9
  go_loopw [31, 10, 11] (fun i bf md wr => ∃ (k : Nat) (a' : Option Addr) (c' : Nat), k ≤ n ∧ i = .int .i64 k ∧ bf = .int .i64 (befT xs k) ∧ md = .int .i64 (echT (recN e) xs k) ∧ echB (recN e) xs k = true ∧ OwI wr (b9 + 1) a' k c' (echL (recN e) xs k) ∧ wr.heap[b9]? = some (.cells #[.int .i64 step, .slice a' k c'] 24) ∧ wr.heap[w.heap.size + 1]? = some (.cells #[.int .i64 0, .slice none 0 0] 24) ∧ b9 + 1 ≤ wr.heap.size ∧ Below w.heap.size w wr) (fun i _ _ _ => n - (intOf i).toNat)
  case atStart => exact ⟨0, none, 0, by omega, rfl, rfl, rfl, rfl, OwI.nil _ _, y9, x6, by omega, BW⟩
  case round =>
    obtain ⟨k, a', c', hk, rfl, rfl, rfl, hbk, how, y9', x6', hsz, hbr⟩ := hrel
    clear y9 x6 BW hb9'
    have hcap := how.si.cap
    have hmax := how.si.max
    have hbd := echT_bd hbk
    have hbf := befT_bd H5.out k
    have HBK := Lib.hid hbk
    have hT1 : echT (recN e) xs (k + 1) = recN e (xs[k]?.getD 0) (befT xs k) (echT (recN e) xs k) := rfl
    have hT2 : befT xs (k + 1) = xs[k]?.getD 0 := rfl
    obtain ⟨md, hmd⟩ : ∃ x, echT (recN e) xs k = x := ⟨_, rfl⟩
    obtain ⟨bf, hbf'⟩ : ∃ x, befT xs k = x := ⟨_, rfl⟩
    obtain ⟨x, hx⟩ : ∃ x, xs[k]?.getD 0 = x := ⟨_, rfl⟩
    rw [hmd] at hbd hT1 ⊢
    rw [hbf'] at hbf hT1 ⊢
    rw [hx] at hT1 hT2
    have hxb := H5.out k
    rw [hx] at hxb
    obtain ⟨hx1, hx2⟩ := hxb
    obtain ⟨md1, md2⟩ := hbd
    obtain ⟨bf1, bf2⟩ := hbf
    obtain ⟨pr1, pr2⟩ := pr_bd (c := e) (a := md) (C := 2) (A := 1000) he1 he2 md1 md2
    have pr1' : -2000 ≤ e * md := by omega
    have pr2' : e * md ≤ 2000 := by omega
    obtain ⟨M, hM⟩ : ∃ M, echT (recN e) xs (k + 1) = M := ⟨_, rfl⟩
    rw [hM] at hT1
    have HM := Lib.hid hM
    clear hM
    have HT1 := Lib.hid hT1
    have HT2 := Lib.hid hT2
    have HX := Lib.hid hx
    clear hbk hT1 hT2 hmd hbf' hx pr1 pr2
    have r0 := cell_block x6' 0
    have r1 := cell_block x6' 1
    have r2 := frozen_block x6' 0
    have r3 := frozen_block x6' 1
    have t0 := cell_block y9' 0
    have t1 := cell_block y9' 1
    have t2 := frozen_block y9' 1
    by_cases hlt : k < n
    · obtain ⟨ba, oa, rfl, hca⟩ := (h1.keep hbr).at_ (by omega)
      have ea := hca k hlt
      rw [HX.out] at ea
      have hi : (k : Int) < (n : Int) := by omega
      have hi0 : (0 : Int) ≤ (k : Int) := by omega
      have h2' := blk_keep h2 hbr
      clear hca
      go_wp2_with fail
      refine (recNx_any e x bf md be _ h2' hx1 hx2 pr1' pr2').mono ?_
      rintro r w' ⟨rfl, rfl⟩
      rw [← HT1.out]
      go_wp2_with fail
      refine (isSample_any M _).mono ?_
      rintro r w' ⟨rfl, rfl⟩
      cases hsm : smp M
      · obtain ⟨rfl, rfl, rfl⟩ := HLG.out (by trivial) (echB_no hlt (by rw [HM.out]; exact hsm))
        go_wp2_with fail
        obtain ⟨s1, s2, _, _⟩ := set2 (x := .int .i64 0) (y := .slice none 0 0) r0 r1
        refine bodyPost_ret (v := .tuple #[.agg #[.int .i64 0, .slice none 0 0], .int .i64 8]) (by simp [results, Try.results107, go_sem, s1, s2]) rfl ⟨_, _, _, rfl, Sl.nil _ 1, .inl rfl, ?_⟩
        exact (hbr.setCell (by simp) _).setCell (by simp) _
      · have hb1 : echB (recN e) xs (k + 1) = true := by
          unfold echB
          rw [HBK.out, HM.out, hsm]
          rfl
        have HB1 := Lib.hid hb1
        have hls := echL_succ (recN e) xs k
        rw [HM.out] at hls
        have HLS := Lib.hid hls
        have hM := smp_bd hsm
        clear hb1 hls hsm
        go_wp2_with (first | (at_builtin; refine appI rfl _ _ rfl how rfl rfl (by omega) (by omega) ?_; intro a2 c2 w5 ho5 hb5 hs5; have y5 := (hb5.block b9 (by omega)).trans y9'; have x5 := (hb5.block (w.heap.size + 1) (by omega)).trans x6'; have t3 := cell_block y5 1; have t4 := frozen_block y5 1))
        go_roundw
        case rel => exact ⟨k + 1, a2, c2, by omega, by go_num, by rw [HT2.out], by rw [HM.out], HB1.out, by rw [HLS.out]; exact ho5.under (by omega) _, blk_setAt y5 1 _, by rw [Below.heap_setCell _ _ _ _ (Nat.ne_of_lt n69)]; exact x5, by simp; omega, ((hbr.trans (hb5.mono (by omega))).setCell (by simp; omega) _)⟩
        case measure => simp [intOf]; omega
    · obtain rfl : n = k := by omega
      have hle : (n : Int) ≤ (n : Int) := by omega
      obtain ⟨z1, z2, z3⟩ := HOK.out (by trivial) HBK.out
      subst z1 z2 z3
      go_wp2_with fail
      obtain ⟨s1, s2, _, _⟩ := set2 (x := .int .i64 S) (y := .slice a' n c') r0 r1
      have how2 := how.under2 (r := w.heap.size + 1) (by omega) (.int .i64 S) (.slice a' n c')
      refine bodyPost_ret (v := .tuple #[.agg #[.int .i64 S, .slice a' n c'], .int .i64 0]) (by simp [results, Try.results107, go_sem, s1, s2]) rfl ⟨_, _, _, rfl, how2.si, how2.in_, ?_⟩
      exact (hbr.setCell (by simp) _).setCell (by simp) _

set_option maxRecDepth 100000 in
set_option maxHeartbeats 4000000 in
theorem Recorded_any (step : Int) (a : Option Addr) (n c : Nat) (xs : List Int) (e : Int) (w : World) (h1 : SI w a n c xs) (F E S : Int) (X : List Int) (hF : firstE [(recF step xs).2, unlessE (wIn e (-2) 2) 2] = F) (hno : F ≠ 0 → E = F ∧ S = 0 ∧ X = [])
    (hlg : F = 0 → echB (recN e) xs n = false → E = 8 ∧ S = 0 ∧ X = []) (hok : F = 0 → echB (recN e) xs n = true → E = 0 ∧ S = step ∧ X = echL (recN e) xs n) :
    Calls Try.prog 46 #[.agg #[.int .i64 step, .slice a n c], .int .i64 e] w fun r w' => ∃ a' n' c', r = .returned (.tuple #[.agg #[.int .i64 S, .slice a' n' c'], .int .i64 E]) ∧ SI w' a' n' c' X ∧ Below w.heap.size w w' := by
  have hA : ∀ (A : World) (o : Obj), Below A.heap.size A (A.alloc o) := fun A o => (Below.refl _ _).alloc (Nat.le_refl _) _
  have m1 := h1.max
  have c1 := h1.cap
  have HF := Lib.hid hF
  have HNO := Lib.hid hno
  have HLG := Lib.hid hlg
  have HOK := Lib.hid hok
  clear hF hno hlg hok
  obtain ⟨W, hW⟩ : ∃ W, ((w.alloc (.cells #[.int .i64 step, .slice a n c] 24)).alloc (.cells #[.int .i64 e] 3)).alloc (.cells #[.int .i64 0, .slice none 0 0] 24) = W := ⟨_, rfl⟩
  have BW : Below w.heap.size w W := by rw [← hW]; exact (((Below.refl _ _).alloc (Nat.le_refl _) _).alloc (by simp) _).alloc (by simp; omega) _
  have x3 : W.heap[w.heap.size + 1]? = some (.cells #[.int .i64 e] 3) := by
    rw [← hW]
    have := alloc_new (w.alloc (.cells #[.int .i64 step, .slice a n c] 24)) (.cells #[.int .i64 e] 3)
    simp only [World.size_alloc] at this
    exact blk_keep this (hA _ _)
  have x4 : W.heap[w.heap.size + 1 + 1]? = some (.cells #[.int .i64 0, .slice none 0 0] 24) := by
    rw [← hW]
    have := alloc_new ((w.alloc (.cells #[.int .i64 step, .slice a n c] 24)).alloc (.cells #[.int .i64 e] 3)) (.cells #[.int .i64 0, .slice none 0 0] 24)
    simpa only [World.size_alloc] using this
  have HW := Lib.hid hW
  clear hW
  go_enter Try.func46, Try.ntmps46
  go_wp2_with fail
  rw [HW.out]
  refine (recEchoed_any step a n c xs e _ _ (h1.keep BW) x3 F E S X HF.out HNO.out HLG.out HOK.out).mono ?_
  rintro r w1 ⟨a', n', c', rfl, sX, iX, hs⟩
  replace x4 := blk_keep x4 hs
  replace BW := BW.trans (hs.mono BW.size)
  clear hs x3
  have r0 := cell_block x4 0
  have r1 := cell_block x4 1
  have r2 := frozen_block x4 0
  have r3 := frozen_block x4 1
  go_wp2_with fail
  obtain ⟨s1, s2, _, _⟩ := set2 (x := .int .i64 S) (y := .slice a' n' c') r0 r1
  refine bodyPost_ret (v := .tuple #[.agg #[.int .i64 S, .slice a' n' c'], .int .i64 E]) (by simp [results, Try.results46, go_sem, s1, s2]) rfl ⟨_, _, _, rfl, sX.set2i iX ⟨_, x4⟩ (by decide) _ _, ?_⟩
  exact (BW.setCell (by simp; omega) _).setCell (by simp; omega) _

set_option maxRecDepth 100000 in
set_option maxHeartbeats 4000000 in
theorem rRecorded_any (a : Option Addr) (n c : Nat) (xs : List Int) (e : Int) (w : World) (h1 : SI w a n c xs) (hn : n ≤ 26) (hb : ∀ j : Nat, -1000 ≤ xs[j]?.getD 0 ∧ xs[j]?.getD 0 ≤ 1000) (he1 : -2 ≤ e) (he2 : e ≤ 2) (R : Bool) (X : List Int) (hR : echB (recN e) xs n = R) (hX1 : R = false → X = []) (hX2 : R = true → X = echL (recN e) xs n) :
    Calls Try.prog 50 #[.slice a n c, .int .i64 e] w fun r w' => ∃ a' n' c', r = .returned (.tuple #[.slice a' n' c', .bool R]) ∧ SI w' a' n' c' X ∧ Below w.heap.size w w' := by
  obtain ⟨l1, l2⟩ : n ≤ xs.length ∧ xs.length ≤ n := by have := h1.len; omega
  have m1 := h1.max
  have c1 := h1.cap
  have HB := Lib.hid hb
  have HR := Lib.hid hR
  have HX1 := Lib.hid hX1
  have HX2 := Lib.hid hX2
  clear hb hR hX1 hX2
  go_enter Try.func50, Try.ntmps50
  go_wp2_with fail
  go_loopw [8, 7, 6] (fun i ls ou wr => ∃ (k : Nat) (a' : Option Addr) (c' : Nat), k ≤ n ∧ i = .int .i64 k ∧ ls = .int .i64 (echT (recN e) xs k) ∧ ou = .slice a' k c' ∧ echB (recN e) xs k = true ∧ OwI wr w.heap.size a' k c' (echL (recN e) xs k) ∧ Below w.heap.size w wr) (fun i _ _ _ => n - (intOf i).toNat)
  case atStart => exact ⟨0, none, 0, by omega, rfl, rfl, rfl, rfl, OwI.nil _ _, Below.refl _ _⟩
  case round =>
    obtain ⟨k, a', c', hk, rfl, rfl, rfl, hbk, how, hbr⟩ := hrel
    have hrs := hbr.size
    have hcap := how.si.cap
    have hmax := how.si.max
    have hbd := echT_bd hbk
    have hbf := befT_bd HB.out k
    have HBK := Lib.hid hbk
    have hT1 : echT (recN e) xs (k + 1) = recN e (xs[k]?.getD 0) (befT xs k) (echT (recN e) xs k) := rfl
    have hT2 : befT xs (k + 1) = xs[k]?.getD 0 := rfl
    obtain ⟨md, hmd⟩ : ∃ x, echT (recN e) xs k = x := ⟨_, rfl⟩
    obtain ⟨bf, hbf'⟩ : ∃ x, befT xs k = x := ⟨_, rfl⟩
    obtain ⟨x, hx⟩ : ∃ x, xs[k]?.getD 0 = x := ⟨_, rfl⟩
    rw [hmd] at hbd hT1
    rw [hbf'] at hbf hT1
    (try rw [hmd])
    (try rw [hbf'])
    rw [hx] at hT1 hT2
    have hxb := HB.out k
    rw [hx] at hxb
    obtain ⟨hx1, hx2⟩ := hxb
    obtain ⟨md1, md2⟩ := hbd
    obtain ⟨bf1, bf2⟩ := hbf
    obtain ⟨pr1, pr2⟩ := pr_bd (c := e) (a := md) (C := 2) (A := 1000) he1 he2 md1 md2
    obtain ⟨M, hM⟩ : ∃ M, echT (recN e) xs (k + 1) = M := ⟨_, rfl⟩
    rw [hM] at hT1
    have hT1' : x + e * md = M := hT1.symm
    have HM := Lib.hid hM
    have HT1 := Lib.hid hT1'
    have HT2 := Lib.hid hT2
    have HX := Lib.hid hx
    clear hM hbk hT1 hT1' hT2 hmd hbf' hx
    by_cases hlt : k < n
    · obtain ⟨ba, oa, rfl, hca⟩ := (h1.keep hbr).at_ (by omega)
      have ea := hca k hlt
      rw [HX.out] at ea
      have hi : (k : Int) < (n : Int) := by omega
      have hi0 : (0 : Int) ≤ (k : Int) := by omega
      clear hca
      go_wp2_with fail
      refine (rIsSample_any _ _).mono ?_
      rintro r w' ⟨rfl, rfl⟩
      rw [HT1.out]
      cases hsm : smp M
      · have hR0 : R = false := by rw [← HR.out]; exact echB_no hlt (by rw [HM.out]; exact hsm)
        have hX0 := HX1.out hR0
        subst hR0 hX0
        go_wp2_with fail
        exact bodyPost_ret (v := .tuple #[.slice none 0 0, .bool false]) (by simp [results, Try.results50, go_sem]) rfl ⟨_, _, _, rfl, Sl.nil _ 1, hbr⟩
      · have hb1 : echB (recN e) xs (k + 1) = true := by
          unfold echB
          rw [HBK.out, HM.out, hsm]
          rfl
        have HB1 := Lib.hid hb1
        have hls := echL_succ (recN e) xs k
        rw [HM.out] at hls
        have HLS := Lib.hid hls
        have hM := smp_bd hsm
        clear hb1 hls hsm
        go_wp2_with (first | (at_builtin; refine appI rfl _ _ rfl how rfl rfl (by omega) (by omega) ?_; intro a2 c2 w5 ho5 hb5 hs5))
        go_roundw
        case rel => exact ⟨k + 1, a2, c2, by omega, by go_num, by first | rw [HM.out] | rw [HT2.out], rfl, HB1.out, by rw [HLS.out]; exact ho5, hbr.trans hb5⟩
        case measure => simp [intOf]; omega
    · obtain rfl : n = k := by omega
      have hle : (n : Int) ≤ (n : Int) := by omega
      have hR1 : R = true := by rw [← HR.out]; exact HBK.out
      have hX0 := HX2.out hR1
      subst hR1 hX0
      go_wp2_with fail
      exact bodyPost_ret (v := .tuple #[.slice a' n c', .bool true]) (by simp [results, Try.results50, go_sem]) rfl ⟨_, _, _, rfl, how.si, hbr⟩

set_option maxHeartbeats 400000 in
theorem corNx_any (e s b m : Int) (be : Nat) (w : World) (h : w.heap[be]? = some (.cells #[.int .i64 e] 3)) (h1 : -1000 ≤ s) (h2 : s ≤ 1000) (h3 : -2000 ≤ e * b) (h4 : e * b ≤ 2000) :
    Calls Try.prog 109 #[.int .i64 s, .int .i64 b, .int .i64 m, .pointer (some ⟨be, 0, none⟩)] w fun r w' => r = .returned (.int .i64 (corN e s b m)) ∧ w = w' := by
  have f0 := cell_block h 0
  go_enter Try.func109, Try.ntmps109
  go_wp2_with fail
  go_ret
  exact ⟨rfl, rfl⟩

set_option maxRecDepth 100000 in
set_option maxHeartbeats 4000000 in
theorem corEchoed_any (step : Int) (a : Option Addr) (n c : Nat) (xs : List Int) (e : Int) (be : Nat) (w : World) (h1 : SI w a n c xs) (h2 : w.heap[be]? = some (.cells #[.int .i64 e] 3)) (F E S : Int) (X : List Int) (hF : firstE [(recF step xs).2, unlessE (wIn e (-2) 2) 2] = F) (hno : F ≠ 0 → E = F ∧ S = 0 ∧ X = [])
    (hlg : F = 0 → echB (corN e) xs n = false → E = 8 ∧ S = 0 ∧ X = []) (hok : F = 0 → echB (corN e) xs n = true → E = 0 ∧ S = step ∧ X = echL (corN e) xs n) :
    Calls Try.prog 107 #[.agg #[.int .i64 step, .slice a n c], .int .i64 e, .func (.func 109) #[] #[.pointer (some ⟨be, 0, none⟩)]] w fun r w' => ∃ a' n' c', r = .returned (.tuple #[.agg #[.int .i64 S, .slice a' n' c'], .int .i64 E]) ∧ SI w' a' n' c' X ∧ In w' 3 a' ∧ Below w.heap.size w w' := by
  have hA : ∀ (A : World) (o : Obj), Below A.heap.size A (A.alloc o) := fun A o => (Below.refl _ _).alloc (Nat.le_refl _) _
  obtain ⟨l1, l2⟩ : n ≤ xs.length ∧ xs.length ≤ n := by have := h1.len; omega
  have m1 := h1.max
  have c1 := h1.cap
  obtain ⟨rE, hrE⟩ : ∃ x, (recF step xs).2 = x := ⟨_, rfl⟩
  obtain ⟨L, hL⟩ : ∃ x, wIn e (-2) 2 = x := ⟨_, rfl⟩
  rw [hrE, hL] at hF
  have HRE := Lib.hid hrE
  have HL := Lib.hid hL
  have HF := Lib.hid hF
  have HNO := Lib.hid hno
  have HLG := Lib.hid hlg
  have HOK := Lib.hid hok
  clear hrE hL hF hno hlg hok
  have hbe := blk_lt h2
  obtain ⟨W, hW⟩ : ∃ W, (w.alloc (.cells #[.int .i64 step, .slice a n c] 24)).alloc (.cells #[.int .i64 0, .slice none 0 0] 24) = W := ⟨_, rfl⟩
  have BW : Below w.heap.size w W := by rw [← hW]; exact ((Below.refl _ _).alloc (Nat.le_refl _) _).alloc (by simp) _
  have x3 : W.heap[w.heap.size]? = some (.cells #[.int .i64 step, .slice a n c] 24) := by
    rw [← hW]
    exact blk_keep (alloc_new w _) (hA _ _)
  have x6 : W.heap[w.heap.size + 1]? = some (.cells #[.int .i64 0, .slice none 0 0] 24) := by
    rw [← hW]
    have := alloc_new (w.alloc (.cells #[.int .i64 step, .slice a n c] 24)) (.cells #[.int .i64 0, .slice none 0 0] 24)
    simpa only [World.size_alloc] using this
  have f0 := cell_block x3 0
  have f1 := cell_block x3 1
  have HW := Lib.hid hW
  clear hW
  go_enter Try.func107, Try.ntmps107
  go_wp2_with fail
  rw [HW.out]
  refine (recordErr_any step a n c xs _ (h1.keep BW) rE HRE.out).mono ?_
  rintro r w1 ⟨rfl, hs⟩
  replace x3 := blk_keep x3 hs
  replace x6 := blk_keep x6 hs
  replace BW := BW.trans (hs.mono BW.size)
  clear hs f0 f1
  go_wp2_with fail
  refine (nSized_any e 2 _ (by omega) (by omega)).mono ?_
  rintro r w' ⟨rfl, rfl⟩
  rw [show wIn e (-2) 2 = L from HL.out]
  go_wp2_with fail
  refine (nUnless_any _ _ _).mono ?_
  rintro r w' ⟨rfl, rfl⟩
  go_wp2_with fail
  refine (nFirst_any _ 2 2 _ _ (SI.two _ _ _ _ rfl)).mono ?_
  rintro r w' ⟨rfl, rfl⟩
  rw [HF.out]
  have hs := hA w1 (.cells #[.int .i64 rE, .int .i64 (unlessE L 2)] 30)
  replace x3 := blk_keep x3 hs
  replace x6 := blk_keep x6 hs
  replace BW := BW.trans (hs.mono BW.size)
  clear hs
  generalize w1.alloc _ = w2 at x3 x6 BW ⊢
  have f0 := cell_block x3 0
  have f1 := cell_block x3 1
  have r0 := cell_block x6 0
  have r1 := cell_block x6 1
  have r2 := frozen_block x6 0
  have r3 := frozen_block x6 1
  by_cases hz : F = 0
  case neg =>
    obtain ⟨rfl, rfl, rfl⟩ := HNO.out hz
    have b1 : (E != 0) = true := by simpa using hz
    clear hz
    go_wp2_with fail
    obtain ⟨s1, s2, _, _⟩ := set2 (x := .int .i64 0) (y := .slice none 0 0) r0 r1
    refine bodyPost_ret (v := .tuple #[.agg #[.int .i64 0, .slice none 0 0], .int .i64 E]) (by simp [results, Try.results107, go_sem, s1, s2]) rfl ⟨_, _, _, rfl, Sl.nil _ 1, .inl rfl, ?_⟩
    exact (BW.setCell (by simp) _).setCell (by simp) _
  subst hz
  have hrE : rE = 0 := by
    have := HF.out
    by_cases h : rE = 0
    · exact h
    · rw [firstE, if_neg h] at this
      exact this
  have hL1 : L = true := by
    have := HF.out
    rw [hrE] at this
    cases L
    · cases this
    · rfl
  have he : -2 ≤ e ∧ e ≤ 2 := wIn_iff.1 (by rw [HL.out]; exact hL1)
  obtain ⟨he1, he2⟩ := he
  obtain ⟨q1, q2, q3, q4, q5⟩ := recF_ok (HRE.out.trans hrE)
  have hn : n ≤ 24 := by omega
  have H5 := Lib.hid q5
  clear q1 q2 q3 q4 q5 hrE hL1 HRE HL HF HNO
  have hs := hA w2 (.cells #[.int .i64 step, .slice none 0 0] 24)
  have y9 := alloc_new w2 (.cells #[.int .i64 step, .slice none 0 0] 24)
  have n69 : w.heap.size + 1 < w2.heap.size := blk_lt x6
  have hB9 := BW.size
  replace x3 := blk_keep x3 hs
  replace x6 := blk_keep x6 hs
  replace BW := BW.trans (hs.mono BW.size)
  clear hs r0 r1 r2 r3
  have f1' := cell_block x3 1
  go_wp2_with fail
  obtain ⟨b9, hb9⟩ : ∃ b, w2.heap.size = b := ⟨_, rfl⟩
  have hb9' : b9 + 1 = (w2.alloc (.cells #[.int .i64 step, .slice none 0 0] 24)).heap.size := by rw [← hb9]; simp
  clear f0 f1 f1' x3
  generalize World.alloc w2 _ = w3 at x6 y9 BW hb9' ⊢
  rw [hb9] at y9 n69 hB9 ⊢
  clear hb9
  go_loopw [31, 10, 11] (fun i bf md wr => ∃ (k : Nat) (a' : Option Addr) (c' : Nat), k ≤ n ∧ i = .int .i64 k ∧ bf = .int .i64 (befT xs k) ∧ md = .int .i64 (echT (corN e) xs k) ∧ echB (corN e) xs k = true ∧ OwI wr (b9 + 1) a' k c' (echL (corN e) xs k) ∧ wr.heap[b9]? = some (.cells #[.int .i64 step, .slice a' k c'] 24) ∧ wr.heap[w.heap.size + 1]? = some (.cells #[.int .i64 0, .slice none 0 0] 24) ∧ b9 + 1 ≤ wr.heap.size ∧ Below w.heap.size w wr) (fun i _ _ _ => n - (intOf i).toNat)
  case atStart => exact ⟨0, none, 0, by omega, rfl, rfl, rfl, rfl, OwI.nil _ _, y9, x6, by omega, BW⟩
  case round =>
    obtain ⟨k, a', c', hk, rfl, rfl, rfl, hbk, how, y9', x6', hsz, hbr⟩ := hrel
    clear y9 x6 BW hb9'
    have hcap := how.si.cap
    have hmax := how.si.max
    have hbd := echT_bd hbk
    have hbf := befT_bd H5.out k
    have HBK := Lib.hid hbk
    have hT1 : echT (corN e) xs (k + 1) = corN e (xs[k]?.getD 0) (befT xs k) (echT (corN e) xs k) := rfl
    have hT2 : befT xs (k + 1) = xs[k]?.getD 0 := rfl
    obtain ⟨md, hmd⟩ : ∃ x, echT (corN e) xs k = x := ⟨_, rfl⟩
    obtain ⟨bf, hbf'⟩ : ∃ x, befT xs k = x := ⟨_, rfl⟩
    obtain ⟨x, hx⟩ : ∃ x, xs[k]?.getD 0 = x := ⟨_, rfl⟩
    rw [hmd] at hbd hT1 ⊢
    rw [hbf'] at hbf hT1 ⊢
    rw [hx] at hT1 hT2
    have hxb := H5.out k
    rw [hx] at hxb
    obtain ⟨hx1, hx2⟩ := hxb
    obtain ⟨md1, md2⟩ := hbd
    obtain ⟨bf1, bf2⟩ := hbf
    obtain ⟨pr1, pr2⟩ := pr_bd (c := e) (a := bf) (C := 2) (A := 1000) he1 he2 bf1 bf2
    have pr1' : -2000 ≤ e * bf := by omega
    have pr2' : e * bf ≤ 2000 := by omega
    obtain ⟨M, hM⟩ : ∃ M, echT (corN e) xs (k + 1) = M := ⟨_, rfl⟩
    rw [hM] at hT1
    have HM := Lib.hid hM
    clear hM
    have HT1 := Lib.hid hT1
    have HT2 := Lib.hid hT2
    have HX := Lib.hid hx
    clear hbk hT1 hT2 hmd hbf' hx pr1 pr2
    have r0 := cell_block x6' 0
    have r1 := cell_block x6' 1
    have r2 := frozen_block x6' 0
    have r3 := frozen_block x6' 1
    have t0 := cell_block y9' 0
    have t1 := cell_block y9' 1
    have t2 := frozen_block y9' 1
    by_cases hlt : k < n
    · obtain ⟨ba, oa, rfl, hca⟩ := (h1.keep hbr).at_ (by omega)
      have ea := hca k hlt
      rw [HX.out] at ea
      have hi : (k : Int) < (n : Int) := by omega
      have hi0 : (0 : Int) ≤ (k : Int) := by omega
      have h2' := blk_keep h2 hbr
      clear hca
      go_wp2_with fail
      refine (corNx_any e x bf md be _ h2' hx1 hx2 pr1' pr2').mono ?_
      rintro r w' ⟨rfl, rfl⟩
      rw [← HT1.out]
      go_wp2_with fail
      refine (isSample_any M _).mono ?_
      rintro r w' ⟨rfl, rfl⟩
      cases hsm : smp M
      · obtain ⟨rfl, rfl, rfl⟩ := HLG.out (by trivial) (echB_no hlt (by rw [HM.out]; exact hsm))
        go_wp2_with fail
        obtain ⟨s1, s2, _, _⟩ := set2 (x := .int .i64 0) (y := .slice none 0 0) r0 r1
        refine bodyPost_ret (v := .tuple #[.agg #[.int .i64 0, .slice none 0 0], .int .i64 8]) (by simp [results, Try.results107, go_sem, s1, s2]) rfl ⟨_, _, _, rfl, Sl.nil _ 1, .inl rfl, ?_⟩
        exact (hbr.setCell (by simp) _).setCell (by simp) _
      · have hb1 : echB (corN e) xs (k + 1) = true := by
          unfold echB
          rw [HBK.out, HM.out, hsm]
          rfl
        have HB1 := Lib.hid hb1
        have hls := echL_succ (corN e) xs k
        rw [HM.out] at hls
        have HLS := Lib.hid hls
        have hM := smp_bd hsm
        clear hb1 hls hsm
        go_wp2_with (first | (at_builtin; refine appI rfl _ _ rfl how rfl rfl (by omega) (by omega) ?_; intro a2 c2 w5 ho5 hb5 hs5; have y5 := (hb5.block b9 (by omega)).trans y9'; have x5 := (hb5.block (w.heap.size + 1) (by omega)).trans x6'; have t3 := cell_block y5 1; have t4 := frozen_block y5 1))
        go_roundw
        case rel => exact ⟨k + 1, a2, c2, by omega, by go_num, by rw [HT2.out], by rw [HM.out], HB1.out, by rw [HLS.out]; exact ho5.under (by omega) _, blk_setAt y5 1 _, by rw [Below.heap_setCell _ _ _ _ (Nat.ne_of_lt n69)]; exact x5, by simp; omega, ((hbr.trans (hb5.mono (by omega))).setCell (by simp; omega) _)⟩
        case measure => simp [intOf]; omega
    · obtain rfl : n = k := by omega
      have hle : (n : Int) ≤ (n : Int) := by omega
      obtain ⟨z1, z2, z3⟩ := HOK.out (by trivial) HBK.out
      subst z1 z2 z3
      go_wp2_with fail
      obtain ⟨s1, s2, _, _⟩ := set2 (x := .int .i64 S) (y := .slice a' n c') r0 r1
      have how2 := how.under2 (r := w.heap.size + 1) (by omega) (.int .i64 S) (.slice a' n c')
      refine bodyPost_ret (v := .tuple #[.agg #[.int .i64 S, .slice a' n c'], .int .i64 0]) (by simp [results, Try.results107, go_sem, s1, s2]) rfl ⟨_, _, _, rfl, how2.si, how2.in_, ?_⟩
      exact (hbr.setCell (by simp) _).setCell (by simp) _

set_option maxRecDepth 100000 in
set_option maxHeartbeats 4000000 in
theorem Corrected_any (step : Int) (a : Option Addr) (n c : Nat) (xs : List Int) (e : Int) (w : World) (h1 : SI w a n c xs) (F E S : Int) (X : List Int) (hF : firstE [(recF step xs).2, unlessE (wIn e (-2) 2) 2] = F) (hno : F ≠ 0 → E = F ∧ S = 0 ∧ X = [])
    (hlg : F = 0 → echB (corN e) xs n = false → E = 8 ∧ S = 0 ∧ X = []) (hok : F = 0 → echB (corN e) xs n = true → E = 0 ∧ S = step ∧ X = echL (corN e) xs n) :
    Calls Try.prog 47 #[.agg #[.int .i64 step, .slice a n c], .int .i64 e] w fun r w' => ∃ a' n' c', r = .returned (.tuple #[.agg #[.int .i64 S, .slice a' n' c'], .int .i64 E]) ∧ SI w' a' n' c' X ∧ Below w.heap.size w w' := by
  have hA : ∀ (A : World) (o : Obj), Below A.heap.size A (A.alloc o) := fun A o => (Below.refl _ _).alloc (Nat.le_refl _) _
  have m1 := h1.max
  have c1 := h1.cap
  have HF := Lib.hid hF
  have HNO := Lib.hid hno
  have HLG := Lib.hid hlg
  have HOK := Lib.hid hok
  clear hF hno hlg hok
  obtain ⟨W, hW⟩ : ∃ W, ((w.alloc (.cells #[.int .i64 step, .slice a n c] 24)).alloc (.cells #[.int .i64 e] 3)).alloc (.cells #[.int .i64 0, .slice none 0 0] 24) = W := ⟨_, rfl⟩
  have BW : Below w.heap.size w W := by rw [← hW]; exact (((Below.refl _ _).alloc (Nat.le_refl _) _).alloc (by simp) _).alloc (by simp; omega) _
  have x3 : W.heap[w.heap.size + 1]? = some (.cells #[.int .i64 e] 3) := by
    rw [← hW]
    have := alloc_new (w.alloc (.cells #[.int .i64 step, .slice a n c] 24)) (.cells #[.int .i64 e] 3)
    simp only [World.size_alloc] at this
    exact blk_keep this (hA _ _)
  have x4 : W.heap[w.heap.size + 1 + 1]? = some (.cells #[.int .i64 0, .slice none 0 0] 24) := by
    rw [← hW]
    have := alloc_new ((w.alloc (.cells #[.int .i64 step, .slice a n c] 24)).alloc (.cells #[.int .i64 e] 3)) (.cells #[.int .i64 0, .slice none 0 0] 24)
    simpa only [World.size_alloc] using this
  have HW := Lib.hid hW
  clear hW
  go_enter Try.func47, Try.ntmps47
  go_wp2_with fail
  rw [HW.out]
  refine (corEchoed_any step a n c xs e _ _ (h1.keep BW) x3 F E S X HF.out HNO.out HLG.out HOK.out).mono ?_
  rintro r w1 ⟨a', n', c', rfl, sX, iX, hs⟩
  replace x4 := blk_keep x4 hs
  replace BW := BW.trans (hs.mono BW.size)
  clear hs x3
  have r0 := cell_block x4 0
  have r1 := cell_block x4 1
  have r2 := frozen_block x4 0
  have r3 := frozen_block x4 1
  go_wp2_with fail
  obtain ⟨s1, s2, _, _⟩ := set2 (x := .int .i64 S) (y := .slice a' n' c') r0 r1
  refine bodyPost_ret (v := .tuple #[.agg #[.int .i64 S, .slice a' n' c'], .int .i64 E]) (by simp [results, Try.results47, go_sem, s1, s2]) rfl ⟨_, _, _, rfl, sX.set2i iX ⟨_, x4⟩ (by decide) _ _, ?_⟩
  exact (BW.setCell (by simp; omega) _).setCell (by simp; omega) _

set_option maxRecDepth 100000 in
set_option maxHeartbeats 4000000 in
theorem rCorrected_any (a : Option Addr) (n c : Nat) (xs : List Int) (e : Int) (w : World) (h1 : SI w a n c xs) (hn : n ≤ 26) (hb : ∀ j : Nat, -1000 ≤ xs[j]?.getD 0 ∧ xs[j]?.getD 0 ≤ 1000) (he1 : -2 ≤ e) (he2 : e ≤ 2) (R : Bool) (X : List Int) (hR : echB (corN e) xs n = R) (hX1 : R = false → X = []) (hX2 : R = true → X = echL (corN e) xs n) :
    Calls Try.prog 51 #[.slice a n c, .int .i64 e] w fun r w' => ∃ a' n' c', r = .returned (.tuple #[.slice a' n' c', .bool R]) ∧ SI w' a' n' c' X ∧ Below w.heap.size w w' := by
  obtain ⟨l1, l2⟩ : n ≤ xs.length ∧ xs.length ≤ n := by have := h1.len; omega
  have m1 := h1.max
  have c1 := h1.cap
  have HB := Lib.hid hb
  have HR := Lib.hid hR
  have HX1 := Lib.hid hX1
  have HX2 := Lib.hid hX2
  clear hb hR hX1 hX2
  go_enter Try.func51, Try.ntmps51
  go_wp2_with fail
  go_loopw [8, 7, 6] (fun i ls ou wr => ∃ (k : Nat) (a' : Option Addr) (c' : Nat), k ≤ n ∧ i = .int .i64 k ∧ ls = .int .i64 (befT xs k) ∧ ou = .slice a' k c' ∧ echB (corN e) xs k = true ∧ OwI wr w.heap.size a' k c' (echL (corN e) xs k) ∧ Below w.heap.size w wr) (fun i _ _ _ => n - (intOf i).toNat)
  case atStart => exact ⟨0, none, 0, by omega, rfl, rfl, rfl, rfl, OwI.nil _ _, Below.refl _ _⟩
  case round =>
    obtain ⟨k, a', c', hk, rfl, rfl, rfl, hbk, how, hbr⟩ := hrel
    have hrs := hbr.size
    have hcap := how.si.cap
    have hmax := how.si.max
    have hbd := echT_bd hbk
    have hbf := befT_bd HB.out k
    have HBK := Lib.hid hbk
    have hT1 : echT (corN e) xs (k + 1) = corN e (xs[k]?.getD 0) (befT xs k) (echT (corN e) xs k) := rfl
    have hT2 : befT xs (k + 1) = xs[k]?.getD 0 := rfl
    obtain ⟨md, hmd⟩ : ∃ x, echT (corN e) xs k = x := ⟨_, rfl⟩
    obtain ⟨bf, hbf'⟩ : ∃ x, befT xs k = x := ⟨_, rfl⟩
    obtain ⟨x, hx⟩ : ∃ x, xs[k]?.getD 0 = x := ⟨_, rfl⟩
    rw [hmd] at hbd hT1
    rw [hbf'] at hbf hT1
    (try rw [hmd])
    (try rw [hbf'])
    rw [hx] at hT1 hT2
    have hxb := HB.out k
    rw [hx] at hxb
    obtain ⟨hx1, hx2⟩ := hxb
    obtain ⟨md1, md2⟩ := hbd
    obtain ⟨bf1, bf2⟩ := hbf
    obtain ⟨pr1, pr2⟩ := pr_bd (c := e) (a := bf) (C := 2) (A := 1000) he1 he2 bf1 bf2
    obtain ⟨M, hM⟩ : ∃ M, echT (corN e) xs (k + 1) = M := ⟨_, rfl⟩
    rw [hM] at hT1
    have hT1' : x - e * bf = M := hT1.symm
    have HM := Lib.hid hM
    have HT1 := Lib.hid hT1'
    have HT2 := Lib.hid hT2
    have HX := Lib.hid hx
    clear hM hbk hT1 hT1' hT2 hmd hbf' hx
    by_cases hlt : k < n
    · obtain ⟨ba, oa, rfl, hca⟩ := (h1.keep hbr).at_ (by omega)
      have ea := hca k hlt
      rw [HX.out] at ea
      have hi : (k : Int) < (n : Int) := by omega
      have hi0 : (0 : Int) ≤ (k : Int) := by omega
      clear hca
      go_wp2_with fail
      refine (rIsSample_any _ _).mono ?_
      rintro r w' ⟨rfl, rfl⟩
      rw [HT1.out]
      cases hsm : smp M
      · have hR0 : R = false := by rw [← HR.out]; exact echB_no hlt (by rw [HM.out]; exact hsm)
        have hX0 := HX1.out hR0
        subst hR0 hX0
        go_wp2_with fail
        exact bodyPost_ret (v := .tuple #[.slice none 0 0, .bool false]) (by simp [results, Try.results51, go_sem]) rfl ⟨_, _, _, rfl, Sl.nil _ 1, hbr⟩
      · have hb1 : echB (corN e) xs (k + 1) = true := by
          unfold echB
          rw [HBK.out, HM.out, hsm]
          rfl
        have HB1 := Lib.hid hb1
        have hls := echL_succ (corN e) xs k
        rw [HM.out] at hls
        have HLS := Lib.hid hls
        have hM := smp_bd hsm
        clear hb1 hls hsm
        go_wp2_with (first | (at_builtin; refine appI rfl _ _ rfl how rfl rfl (by omega) (by omega) ?_; intro a2 c2 w5 ho5 hb5 hs5))
        go_roundw
        case rel => exact ⟨k + 1, a2, c2, by omega, by go_num, by first | rw [HM.out] | rw [HT2.out], rfl, HB1.out, by rw [HLS.out]; exact ho5, hbr.trans hb5⟩
        case measure => simp [intOf]; omega
    · obtain rfl : n = k := by omega
      have hle : (n : Int) ≤ (n : Int) := by omega
      have hR1 : R = true := by rw [← HR.out]; exact HBK.out
      have hX0 := HX2.out hR1
      subst hR1 hX0
      go_wp2_with fail
      exact bodyPost_ret (v := .tuple #[.slice a' n c', .bool true]) (by simp [results, Try.results51, go_sem]) rfl ⟨_, _, _, rfl, how.si, hbr⟩
end Go.Proofs.Ytiibdndchkbefaa

namespace Go.Proofs.Ytiibdndchkbefaa
open Go.RowKit
open Calmly (Kept)

set_option maxRecDepth 100000 in
set_option maxHeartbeats 1000000 in
theorem copyLists_any (a : Option Addr) (n c : Nat) (ls : List (List Int)) (w : World) (h1 : SW w a n c ls) (hn : n ≤ 1000000) (hl : ∀ i, i < n → (ls[i]?.getD []).length ≤ 1000000) :
    Calls Try.prog 19 #[.slice a n c] w fun e w' => ∃ a' c', e = .returned (.slice a' n c') ∧ SW w' a' n c' ls ∧ Below w.heap.size w w' := by
  obtain ⟨l1, l2⟩ : n ≤ ls.length ∧ ls.length ≤ n := by have := h1.len; omega
  have m1 := h1.max
  have c1 := h1.cap
  have HL := Lib.hid hl
  clear hl
  go_enter Try.func19, Try.ntmps19
  go_wp2_with fail
  go_loopw [3, 4] (fun o i wr => ∃ (k c' : Nat) (a' : Option Addr), i = .int .i64 (k : Int) ∧ k ≤ n ∧ o = .slice a' k c' ∧ OwW wr w.heap.size a' k c' (ls.take k) ∧ Below w.heap.size w wr) (fun _ i _ => n - (intOf i).toNat)
  case atStart => exact ⟨0, 0, none, rfl, by omega, rfl, OwW.nil _ _, Below.refl _ _⟩
  case round =>
    obtain ⟨k, c', a', rfl, hk, rfl, hown, hbr⟩ := hrel
    have hrs := hbr.size
    by_cases hlt : k < n
    · obtain ⟨cb, co, rfl, hcc⟩ := (h1.keep hbr).at_ (by omega)
      obtain ⟨ya, yn, yc, y0, s0⟩ := hcc k hlt
      clear hcc
      have hyl := HL.out k hlt
      have htk : ls.take (k + 1) = ls.take k ++ [ls[k]?.getD []] := by
        have : k < ls.length := by omega
        rw [List.take_succ_eq_append_getElem this, List.getElem?_eq_getElem this]
        rfl
      obtain ⟨x, hxx⟩ : ∃ x, ls[k]?.getD [] = x := ⟨_, rfl⟩
      rw [hxx] at s0 hyl htk
      have HT := Lib.hid htk
      have hyn : yn ≤ 1000000 := by have := s0.len; omega
      clear hxx htk
      have hi1 : (k : Int) < (n : Int) := by omega
      have hi0 : (0 : Int) ≤ (k : Int) := by omega
      go_wp2_with fail
      refine (copyInts_any ya yn yc x _ s0 (by omega)).mono ?_
      rintro e w2 ⟨a2, c2, rfl, o2, hs⟩
      replace hown := hown.keep hs
      replace hbr := hbr.trans (hs.mono hrs)
      clear hs hrs
      have hrs := hbr.size
      go_wp2_with (first | (at_builtin; refine appW w2 (h := (a2, yn, c2)) rfl rfl _ _ rfl hown o2.si o2.in_ rfl rfl (by omega) (by omega) ?_; intro a3 c3 w5 ho5 hb5 hs5))
      go_roundw
      case rel => exact ⟨k + 1, c3, a3, by go_num, by omega, rfl, by rw [HT.out]; exact ho5, hbr.trans hb5⟩
      case measure => simp [intOf]; omega
    · have hle : (n : Int) ≤ (k : Int) := by omega
      obtain rfl : n = k := by omega
      go_wp2_with fail
      go_ret
      rw [List.take_of_length_le (by omega)] at hown
      exact ⟨a', c', rfl, hown.sw, hbr⟩

theorem Try.info_band : (Try.prog.info? 51).map (fun i => (i.zero, i.size, i.bytes)) = some (some (.agg #[.int .i64 0, .int .i64 0, .int .i64 0, .int .i64 0]), 4, 32) := by kernel_rfl
theorem oneCell_bv (l : List Four) : ∀ u ∈ bv l, u.oneCell' = true := by
  intro u hu
  unfold bv at hu
  obtain ⟨p, _, hp⟩ := List.mem_flatMap.1 hu
  simp at hp
  rcases hp with rfl | rfl | rfl | rfl <;> rfl

set_option maxRecDepth 100000 in
set_option maxHeartbeats 1000000 in
theorem copyBand_any (a : Option Addr) (n c : Nat) (l : List Four) (w : World) (h1 : SB w a n c l) (hn : n ≤ 1000000) :
    Calls Try.prog 20 #[.slice a n c] w fun e w' => ∃ a' c', e = .returned (.slice a' n c') ∧ SB w' a' n c' l ∧ Below w.heap.size w w' := by
  have hb : Below w.heap.size w (w.alloc (.cells #[] 51)) := (Below.refl _ _).alloc (Nat.le_refl _) _
  have hc := h1.cap
  have hm := h1.max
  obtain ⟨i0, hi, hz0, hz1, hz2⟩ := info_parts Try.info_band
  have hown : (w.alloc (.cells #[] 51)).ownsRow w.heap.size 51 4 (.slice (some ⟨w.heap.size, 0, none⟩) 0 0) 0 [] := ⟨by simp, .inr ⟨w.heap.size, 0, #[], rfl, Nat.le_refl _, alloc_new _ _, by simp, by simp, by simp, by simp⟩⟩
  go_enter Try.func20, Try.ntmps20
  go_wp2_with (at_builtin; refine appS rfl _ _ _ rfl w.heap.size 51 i0 (.agg #[.int .i64 0, .int .i64 0, .int .i64 0, .int .i64 0]) 4 32 Try.underlying26 hi hz0 hz1 hz2 rfl (by decide) (some ⟨w.heap.size, 0, none⟩) 0 0 [] hown a n c (bv l) (h1.keep hb) (oneCell_bv l) rfl rfl (by omega) (by omega) (by simp) ?_; intro a' c' w1 ho hb1)
  go_ret
  obtain ⟨a2, c2, he, hs⟩ := Sl.of_owns ho
  cases he
  refine ⟨a', c', by simp, ?_, hb.trans hb1⟩
  show Sl w1 4 a' n c' (bv l)
  simpa using hs

set_option maxRecDepth 100000 in
set_option maxHeartbeats 1000000 in
theorem fewWaves_any (a : Option Addr) (n c : Nat) (ls : List (List Int)) (w : World) (h1 : SW w a n c ls) (R : Bool) (hR : (decide (n ≤ 5) && ls.all (fun x => decide (x.length ≤ 26))) = R) :
    Calls Try.prog 16 #[.slice a n c] w fun e w' => e = .returned (.bool R) ∧ w = w' := by
  obtain ⟨l1, l2⟩ : n ≤ ls.length ∧ ls.length ≤ n := by have := h1.len; omega
  have m1 := h1.max
  have c1 := h1.cap
  by_cases hn : n ≤ 5
  case neg =>
    have hn2 : (5 : Int) < (n : Int) := by omega
    have hR2 : R = false := by rw [← hR, show decide (n ≤ 5) = false from by simpa using hn]; rfl
    subst hR2
    go_enter Try.func16, Try.ntmps16
    go_wp2_with fail
    go_ret
    exact ⟨rfl, rfl⟩
  have hn2 : (n : Int) ≤ 5 := by omega
  rw [show decide (n ≤ 5) = true from by simpa using hn, Bool.true_and] at hR
  have HR := Lib.hid hR
  clear hR
  go_enter Try.func16, Try.ntmps16
  go_wp2_with fail
  go_loop [3] (fun i => ∃ k : Nat, k ≤ n ∧ i = .int .i64 k ∧ (ls.drop k).all (fun x => decide (x.length ≤ 26)) = R) (fun i => n - (intOf i).toNat)
  case atStart => exact ⟨0, by omega, rfl, HR.out⟩
  case round =>
    obtain ⟨k, hk, rfl, ht⟩ := hrel
    have HT := Lib.hid ht
    clear ht
    by_cases hlt : k < n
    · obtain ⟨cb, co, rfl, hcc⟩ := h1.at_ (by omega)
      obtain ⟨ya, yn, yc, y0, s0⟩ := hcc k hlt
      clear hcc
      have hd : (ls.drop k).all (fun x => decide (x.length ≤ 26)) = (decide (yn ≤ 26) && (ls.drop (k + 1)).all (fun x => decide (x.length ≤ 26))) := by
        have : k < ls.length := by omega
        have hl := s0.len
        rw [List.getElem?_eq_getElem this] at hl
        simp only [Option.getD_some] at hl
        rw [List.drop_eq_getElem_cons this, List.all_cons, hl]
      rw [HT.out] at hd
      have HD := Lib.hid hd
      have ym := s0.max
      have yc1 := s0.cap
      clear hd
      have hi1 : (k : Int) < (n : Int) := by omega
      have hi0 : (0 : Int) ≤ (k : Int) := by omega
      by_cases hy : yn ≤ 26
      · have hy2 : (yn : Int) ≤ 26 := by omega
        have hRE : (ls.drop (k + 1)).all (fun x => decide (x.length ≤ 26)) = R := by rw [HD.out, show decide (yn ≤ 26) = true from by simpa using hy, Bool.true_and]
        have HRE := Lib.hid hRE
        clear hRE hy
        go_wp2_with fail
        go_round
        case rel => exact ⟨k + 1, by omega, by go_num, HRE.out⟩
        case measure => simp [intOf]; omega
      · have hy2 : (26 : Int) < (yn : Int) := by omega
        have hRE : R = false := by rw [HD.out, show decide (yn ≤ 26) = false from by simpa using hy]; rfl
        have HRE := Lib.hid hRE
        clear hRE hy
        go_wp2_with fail
        go_ret
        exact ⟨ret_bool HRE.out.symm, rfl⟩
    · have hle : (n : Int) ≤ (k : Int) := by omega
      have hR0 : R = true := by rw [← HT.out, List.drop_eq_nil_of_le (by omega)]; rfl
      have HR0 := Lib.hid hR0
      clear hR0
      go_wp2_with fail
      go_ret
      exact ⟨ret_bool HR0.out.symm, rfl⟩

/-- The first lists of one number more. -/
def chTo (m : Nat) (j p : Nat) : List (List Int) := (five.take j).flatMap (fun t => (allC m).map (fun c => t :: c)) ++ ((allC m).take p).map (fun c => ((j : Int) - 2) :: c)
theorem chTo_zero (m j : Nat) : chTo m j 0 = (five.take j).flatMap (fun t => (allC m).map (fun c => t :: c)) := by simp [chTo]
theorem chTo_all (m j : Nat) (h : j < 5) : chTo m j (allC m).length = chTo m (j + 1) 0 := by
  rw [chTo_zero, five_take j h, List.flatMap_append]
  simp [chTo]
theorem chTo_succ (m j p : Nat) (h : p < (allC m).length) : chTo m j (p + 1) = chTo m j p ++ [((j : Int) - 2) :: (allC m)[p]?.getD []] := by
  unfold chTo
  rw [List.take_succ_eq_append_getElem h, List.map_append, List.getElem?_eq_getElem h, List.append_assoc]
  rfl
theorem allC_count (m : Nat) : (allC m).length = 5 ^ m := by
  induction m with
  | zero => rfl
  | succ m ih =>
    rw [allC, Nat.pow_succ]
    simp [five, ih]
    omega
theorem five_take_len (m j : Nat) (h : j ≤ 5) : ((five.take j).flatMap (fun t => (allC m).map (fun c => t :: c))).length = j * (allC m).length := by
  have : j = 0 ∨ j = 1 ∨ j = 2 ∨ j = 3 ∨ j = 4 ∨ j = 5 := by omega
  rcases this with rfl | rfl | rfl | rfl | rfl | rfl <;> simp [five] <;> omega
theorem chTo_len (m j p : Nat) (h : j ≤ 5) (hp : p ≤ (allC m).length) : (chTo m j p).length = j * (allC m).length + p := by
  unfold chTo
  rw [List.length_append, five_take_len m j h]
  simp
  omega

set_option maxRecDepth 100000 in
set_option maxHeartbeats 2000000 in
theorem choices_any (m : Nat) (hm : m ≤ 5) : ∀ w : World,
    Calls Try.prog 91 #[.int .i64 (m : Int)] w fun e w' => ∃ a n c, e = .returned (.slice a n c) ∧ SW w' a n c (allC m) ∧ Below w.heap.size w w' := by
  have hA : ∀ (A : World) (o : Obj), Below A.heap.size A (A.alloc o) := fun A o => (Below.refl _ _).alloc (Nat.le_refl _) _
  induction m with
  | zero =>
    intro w
    go_enter Try.func91, Try.ntmps91
    go_wp2_with fail
    go_ret
    refine ⟨_, 1, 1, rfl, SW.one (w.alloc (.cells #[] 3)) (OwI.empty w (Nat.le_refl _)).si 22 (by simp), ?_⟩
    exact (hA w _).trans ((hA _ _).mono (by simp))
  | succ m ih =>
    intro w
    have IH := Lib.hid (ih (by omega))
    clear ih
    have hmm : ((m + 1 : Nat) : Int) - 1 = (m : Int) := by omega
    have hm0 : (((m + 1 : Nat) : Int) == 0) = false := by simp; omega
    have HM := Lib.hid hmm
    obtain ⟨M, hM⟩ : ∃ M : Int, ((m + 1 : Nat) : Int) = M := ⟨_, rfl⟩
    rw [hM] at hm0 ⊢
    have hM1 : M - 1 = (m : Int) := by omega
    have hM2 : 1 ≤ M ∧ M ≤ 6 := by omega
    obtain ⟨hM3, hM4⟩ := hM2
    have HM1 := Lib.hid hM1
    clear hmm HM hM hM1
    have hcl : (allC m).length ≤ 3125 := by
      rw [allC_count]
      have : 5 ^ m ≤ 5 ^ 5 := Nat.pow_le_pow_right (by omega) (by omega)
      omega
    go_enter Try.func91, Try.ntmps91
    go_wp2_with fail
    rw [HM1.out]
    refine (IH.out _).mono ?_
    rintro e w1 ⟨ar, nr, cr, rfl, sr, hb1⟩
    have hnr := sr.len
    have HNR := Lib.hid hnr
    have hnr2 : nr ≤ 3125 := by omega
    have mr := sr.max
    have cr' := sr.cap
    clear hnr
    go_wp2_with fail
    go_loopw [3, 5] (fun o i wr => ∃ (j c' : Nat) (a' : Option Addr) (n' : Nat), i = .int .i64 ((j : Int) - 2) ∧ j ≤ 5 ∧ o = .slice a' n' c' ∧ OwW wr w1.heap.size a' n' c' (chTo m j 0) ∧ Below w1.heap.size w1 wr) (fun _ i _ => 5 - (intOf i + 2).toNat)
    case atStart => exact ⟨0, 0, none, 0, rfl, by omega, rfl, OwW.nil _ _, Below.refl _ _⟩
    case round =>
      obtain ⟨j, c', a', n', rfl, hj, rfl, hown, hbr⟩ := hrel
      by_cases hlt : j < 5
      · have hi : (j : Int) - 2 ≤ 2 := by omega
        go_wp2_with fail
        go_loopw [3, 6] (fun o i wz => ∃ (p c2 : Nat) (a2 : Option Addr) (n2 : Nat), i = .int .i64 (p : Int) ∧ p ≤ nr ∧ o = .slice a2 n2 c2 ∧ OwW wz w1.heap.size a2 n2 c2 (chTo m j p) ∧ Below w1.heap.size w1 wz) (fun _ i _ => nr - (intOf i).toNat)
        case atStart => exact ⟨0, c', a', n', rfl, by omega, rfl, hown, hbr⟩
        case round =>
          clear hown hbr
          obtain ⟨p, c2, a2, n2, rfl, hp, rfl, hown, hbr⟩ := hrel
          have hrs := hbr.size
          by_cases hpl : p < nr
          · obtain ⟨cb, co, rfl, hcc⟩ := (sr.keep hbr).at_ (by omega)
            obtain ⟨ya, yn, yc, y00, s0⟩ := hcc p hpl
            have y0 := cell_keep y00 (hA wr (.cells #[.int .i64 ((j : Int) - 2)] 3))
            clear hcc y00
            have hpl2 : p < (allC m).length := by rw [← HNR.out]; exact hpl
            have hch := chTo_succ m j p hpl2
            have hclen := chTo_len m j p (by omega) (by omega)
            have hn2 : n2 ≤ 20000 := by
              have h1 := hown.len
              rw [hclen] at h1
              have : j * (allC m).length ≤ 5 * 3125 := Nat.mul_le_mul (by omega) hcl
              omega
            obtain ⟨x, hxx⟩ : ∃ x, (allC m)[p]?.getD [] = x := ⟨_, rfl⟩
            have hxl : x.length ≤ 5 := by
              have : (allC m)[p]?.getD [] ∈ allC m := by
                rw [List.getElem?_eq_getElem hpl2]
                exact List.getElem_mem hpl2
              rw [hxx] at this
              have := (allC_len this).1
              omega
            rw [hxx] at s0 hch
            have hyn : yn ≤ 5 := by have := s0.len; omega
            have HCH := Lib.hid hch
            clear hch hclen hxx hxl hpl2
            have hi1 : (p : Int) < (nr : Int) := by omega
            have hi0 : (0 : Int) ≤ (p : Int) := by omega
            have S1 := Lib.hid True.intro
            go_wp2_with (first | (at_builtin; have _ := S1.out; clear S1; refine appL rfl _ _ rfl (OwI.one wr (Nat.le_refl _) ((j : Int) - 2)) (s0.keep (hA _ _)) rfl rfl (by omega) (by simp) ?_; intro a3 c3 w4 ho4 hb4; have hb5 := (hA wr (.cells #[.int .i64 ((j : Int) - 2)] 3)).trans hb4; have hb5s := hb5.size) | (at_builtin; refine appW w4 (h := (a3, 1 + yn, c3)) rfl rfl _ _ rfl (hown.keep hb5) ho4.si ho4.in_ rfl rfl (by omega) (by omega) ?_; intro a5 c5 w6 ho6 hb6 hs6))
            go_roundw
            case rel => exact ⟨p + 1, c5, a5, n2 + 1, by go_num, by omega, rfl, by rw [HCH.out]; exact ho6, hbr.trans ((hb5.mono hrs).trans hb6)⟩
            case measure => simp [intOf]; omega
          · have hle : (nr : Int) ≤ (p : Int) := by omega
            obtain rfl : p = nr := by omega
            go_wp2_with fail
            go_roundw
            case rel =>
              refine ⟨j + 1, c2, a2, n2, by go_num, by omega, rfl, ?_, hbr⟩
              rw [← chTo_all m j hlt, ← HNR.out]
              exact hown
            case measure => simp [intOf]; omega
      · have hi : (2 : Int) < (j : Int) - 2 := by omega
        obtain rfl : j = 5 := by omega
        go_wp2_with fail
        go_ret
        refine ⟨a', n', c', rfl, ?_, hb1.trans (hbr.mono hb1.size)⟩
        have e : allC (m + 1) = chTo m 5 0 := by rw [chTo_zero]; rfl
        rw [e]
        exact hown.sw
end Go.Proofs.Ytiibdndchkbefaa
