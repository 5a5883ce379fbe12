/- Contracts of chapter 2: the reference's sums, ends and copies; words of the laws. Contracts of chapter 2: the peaks of a record. Contracts of chapter 2: PeaksOf, and the reference's peaks. -/
import Derived.Test.YtiibdndchkbefaaK09
namespace Go.Proofs.Ytiibdndchkbefaa
open Go.RowKit
open Calmly (Kept)

set_option maxHeartbeats 400000 in
theorem rRecordErr_any (step : Int) (a : Option Addr) (n c : Nat) (xs : List Int) (w : World) (h1 : SI w a n c xs) (E : Int) (hE : (recF step xs).2 = E) :
    Calls Try.prog 21 #[.agg #[.int .i64 step, .slice a n c]] w fun e w' => e = .returned (.int .i64 E) ∧ Below w.heap.size w w' := by
  have hb : ∀ o, Below w.heap.size w (w.alloc o) := fun o => (Below.refl _ _).alloc (Nat.le_refl _) _
  obtain ⟨I, hI⟩ : ∃ I, recF step xs = (I, E) := ⟨(recF step xs).1, by rw [← hE]⟩
  have HI := Lib.hid hI
  clear hI hE
  go_enter Try.func21, Try.ntmps21
  go_wp2_with fail
  refine (rCheckRecord_any step a n c xs _ (h1.keep (hb _)) I E HI.out).mono ?_
  rintro e w1 ⟨rfl, hs⟩
  have BW := (hb (.cells #[.int .i64 step, .slice a n c] 24)).trans (hs.mono (by simp))
  go_wp2_with fail
  go_ret
  exact ⟨rfl, BW⟩

set_option maxHeartbeats 400000 in
theorem few_any (step : Int) (a : Option Addr) (n c : Nat) (w : World) (_hn : n ≤ c) (_hc : c ≤ 9223372036854775807) :
    Calls Try.prog 15 #[.agg #[.int .i64 step, .slice a n c]] w fun e w' => e = .returned (.bool (decide (n ≤ 26))) ∧ Below w.heap.size w w' := by
  have hd : decide ((n : Int) ≤ 26) = decide (n ≤ 26) := by congr 1; rw [eq_iff_iff]; omega
  have HD := Lib.hid hd
  clear hd
  go_enter Try.func15, Try.ntmps15
  go_wp2_with fail
  go_ret
  exact ⟨ret_bool HD.out, (Below.refl _ _).alloc (Nat.le_refl _) _⟩

set_option maxRecDepth 100000 in
set_option maxHeartbeats 1000000 in
theorem copy_any (step : Int) (a : Option Addr) (n c : Nat) (xs : List Int) (w : World) (h1 : SI w a n c xs) (hn : n ≤ 1099511627776) :
    Calls Try.prog 18 #[.agg #[.int .i64 step, .slice a n c]] w fun e w' => ∃ a' c', e = .returned (.agg #[.int .i64 step, .slice a' n c']) ∧ SI w' a' n c' xs ∧ Below w.heap.size w w' := by
  have hb2 : Below w.heap.size w ((w.alloc (.cells #[.int .i64 step, .slice a n c] 24)).alloc (.cells #[.int .i64 0, .slice none 0 0] 24)) := ((Below.refl _ _).alloc (Nat.le_refl _) _).alloc (by simp) _
  go_enter Try.func18, Try.ntmps18
  go_wp2_with fail
  refine (copyInts_any a n c xs _ (h1.keep hb2) hn).mono ?_
  rintro e w1 ⟨a', c', rfl, o1, hs⟩
  obtain ⟨x1, x2⟩ := box2 (w := w) (o := .cells #[.int .i64 step, .slice a n c] 24) (o' := .cells #[.int .i64 0, .slice none 0 0] 24) hs
  have BW := hb2.trans (hs.mono hb2.size)
  have hl := blk_lt x2
  replace o1 := o1.weak (B' := w.heap.size + 2) (by simp)
  clear hs
  have f0 := cell_block x1 0
  have f1 := cell_block x1 1
  have f2 := frozen_block x1 1
  have g0 := cell_block x2 0
  have g1 := cell_block x2 1
  have g2 := frozen_block x2 0
  have g3 := frozen_block x2 1
  go_wp2_with fail
  have hne : w.heap.size ≠ w.heap.size + 1 := by omega
  have z1 : ((w1.setCell ⟨w.heap.size, 1, none⟩ (.slice a' n c')).heap[w.heap.size]?) = some (.cells #[.int .i64 step, .slice a' n c'] 24) := blk_setAt x1 1 _
  have z2 : ((w1.setCell ⟨w.heap.size, 1, none⟩ (.slice a' n c')).heap[w.heap.size + 1]?) = some (.cells #[.int .i64 0, .slice none 0 0] 24) := by
    rw [Below.heap_setCell _ _ _ _ (by show w.heap.size + 1 ≠ w.heap.size; omega)]
    exact x2
  replace o1 := o1.under (r := w.heap.size) (o := 1) (by omega) (.slice a' n c')
  replace BW := BW.setCell (p := ⟨w.heap.size, 1, none⟩) (Nat.le_refl _) (.slice a' n c')
  obtain ⟨s1, s2, s3, s4⟩ := set2 (x := .int .i64 step) (y := .slice a' n c') (cell_block z2 0) (cell_block z2 1)
  refine bodyPost_ret (v := .agg #[.int .i64 step, .slice a' n c']) (by simp [results, Try.results18, go_sem, s1, s2]) rfl ⟨a', c', rfl, ?_, ?_⟩
  · exact (o1.under2 (by omega) _ _).si
  · exact (BW.setCell (by simp) _).setCell (by simp) _

set_option maxRecDepth 100000 in
set_option maxHeartbeats 1000000 in
theorem with_any (step : Int) (ra : Option Addr) (rn rc : Nat) (a : Option Addr) (n c : Nat) (xs : List Int) (w : World) (h1 : SI w a n c xs) (hn : n ≤ 1099511627776) :
    Calls Try.prog 44 #[.agg #[.int .i64 step, .slice ra rn rc], .slice a n c] w fun e w' => ∃ a' c', e = .returned (.agg #[.int .i64 step, .slice a' n c']) ∧ SI w' a' n c' xs ∧ Below w.heap.size w w' := by
  have hb2 : Below w.heap.size w ((w.alloc (.cells #[.int .i64 step, .slice ra rn rc] 24)).alloc (.cells #[.int .i64 0, .slice none 0 0] 24)) := ((Below.refl _ _).alloc (Nat.le_refl _) _).alloc (by simp) _
  have x1 := box1 (w := w) (o := .cells #[.int .i64 step, .slice ra rn rc] 24) (W := w.alloc (.cells #[.int .i64 step, .slice ra rn rc] 24)) (Below.alloc (Below.refl _ _) (Nat.le_refl _) (.cells #[.int .i64 0, .slice none 0 0] 24))
  have x2 := alloc_new (w.alloc (.cells #[.int .i64 step, .slice ra rn rc] 24)) (.cells #[.int .i64 0, .slice none 0 0] 24)
  simp only [World.size_alloc] at x2
  go_enter Try.func44, Try.ntmps44
  go_wp2_with fail
  refine Calmly.wp_region_mix 4 (.fl 0 <| .fl 1 <| .fl 2 <| .eff 3 <| .tail [4, 5]) (by kernel_rfl) (by kernel_rfl) ?_
  have BW := hb2.drew
  replace x1 := blk_keep x1 (Below.refl _ _).drew
  replace x2 := blk_keep x2 (Below.refl _ _).drew
  generalize World.drew _ = V at x1 x2 BW ⊢
  have f0 := cell_block x1 0
  have f1 := cell_block x1 1
  have hk := Below.refl V.heap.size V
  go_wp2_with (first | (go_at_call 57; refine (copyInts_any a n c xs _ ((h1.keep BW).keep hk) hn).mono ?_; rintro e w1 ⟨a', c', rfl, o1, hs⟩; replace hk := step_of hk hs; have hlt := blk_lt x2; have x3 := blk_keep x2 hk; have g0 := cell_block x3 0; have g1 := cell_block x3 1; have g2 := frozen_block x3 0; have g3 := frozen_block x3 1) | ((with_reducible refine Calmly.is_fl ?_); refine Calmly.mix_fl rfl ?_ (fun _ _ => ?_); (first | exact .move _ | exact .load _ _ | exact .fieldAddr _ _ _ (by kernel_rfl) | exact .assign _ | exact .binOp _ _ _ _ _ rfl | exact .indexAddr _ _ _ | exact .len _ _ (by kernel_rfl) | exact .field _ _ _ | exact .extract _ _ | exact .pick _ _ _ | exact .build _ _ | exact .slice _ _ _ _ _ | exact .unOp _ _ _ rfl | exact .index _ _ _ | exact .max _ _ _ rfl rfl | exact .min _ _ _ rfl rfl)) | ((with_reducible refine Calmly.is_gl ?_); refine Calmly.mix_gl rfl rfl rfl ?_; first | ((first | with_reducible refine Calmly.gl_tt ?_ (fun _ _ => ?_) | with_reducible refine Calmly.gl_ff ?_ (fun _ _ => ?_)); (first | exact .move _ | exact .load _ _ | exact .fieldAddr _ _ _ (by kernel_rfl) | exact .assign _ | exact .binOp _ _ _ _ _ rfl | exact .indexAddr _ _ _ | exact .len _ _ (by kernel_rfl) | exact .field _ _ _ | exact .extract _ _ | exact .pick _ _ _ | exact .build _ _ | exact .slice _ _ _ _ _ | exact .unOp _ _ _ rfl | exact .index _ _ _ | exact .max _ _ _ rfl rfl | exact .min _ _ _ rfl rfl)) | with_reducible refine Calmly.gl_tf (fun _ _ => ?_) | with_reducible refine Calmly.gl_ft (fun _ _ => ?_)) | ((with_reducible refine Calmly.is_eff ?_); refine Calmly.mix_eff rfl (fun _ _ => ?_)) | ((with_reducible refine Calmly.is_gf ?_); refine Calmly.mix_gf rfl rfl rfl ?_; first | with_reducible refine Calmly.gf_tt (fun _ _ => ?_) | with_reducible refine Calmly.gf_ff (fun _ _ => ?_) | with_reducible refine Calmly.gf_tf (kept_of hk) (fun _ _ => ?_) | with_reducible refine Calmly.gf_ft (kept_of hk) (fun _ _ => ?_)) | ((with_reducible refine Calmly.is_tail ?_); first | refine Calmly.mix_tail_nil ?_ | refine Calmly.mix_tail rfl (fun _ _ => ?_)) | ((with_reducible refine Calmly.is_kept ?_); refine ⟨kept_of hk, ?_⟩) | (with_reducible refine Calmly.mix_alt ?_ ?_))
  obtain ⟨s1, s2, s3, s4⟩ := set2 (x := .int .i64 step) (y := .slice a' n c') g0 g1
  have hlt2 := hk.size
  refine bodyPost_ret (v := .agg #[.int .i64 step, .slice a' n c']) (by simp [results, Try.results44, go_sem, s1, s2]) rfl ⟨a', c', rfl, ?_, ?_⟩
  · have o2 := o1.weak (B' := w.heap.size + 2) (by have := BW.size; omega)
    exact (o2.under2 (by omega) _ _).si
  · exact ((BW.trans (hk.mono BW.size)).setCell (by simp) _).setCell (by simp) _

set_option maxRecDepth 100000 in
set_option maxHeartbeats 1000000 in
theorem same_any (d k : Int) (a b : Option Addr) (n m c e : Nat) (xs ys : List Int) (w : World) (h1 : SI w a n c xs) (h2 : SI w b m e ys) (R : Bool) (hR : decide (d = k ∧ xs = ys) = R) :
    Calls Try.prog 49 #[.agg #[.int .i64 d, .slice a n c], .agg #[.int .i64 k, .slice b m e]] w fun r w' => r = .returned (.bool R) ∧ Below w.heap.size w w' := by
  have BW : Below w.heap.size w ((w.alloc (.cells #[.int .i64 d, .slice a n c] 24)).alloc (.cells #[.int .i64 k, .slice b m e] 24)) := ((Below.refl _ _).alloc (Nat.le_refl _) _).alloc (by simp) _
  by_cases hd : d = k
  · subst hd
    have hq : decide (xs = ys) = R := by rw [← hR]; simp
    have HQ := Lib.hid hq
    clear hR hq
    go_enter Try.func49, Try.ntmps49
    go_wp2_with fail
    refine (ints_any a b n m c e xs ys _ (h1.keep BW) (h2.keep BW)).mono ?_
    rintro r w1 ⟨rfl, q, rfl⟩
    go_wp2_with fail
    go_ret
    exact ⟨ret_bool HQ.out, below_drewN BW q⟩
  · have hq : (d == k) = false := by simpa using hd
    have hR2 : R = false := by rw [← hR]; simp [hd]
    subst hR2
    clear hR hd
    go_enter Try.func49, Try.ntmps49
    go_wp2_with fail
    go_ret
    exact ⟨rfl, BW⟩

set_option maxRecDepth 100000 in
set_option maxHeartbeats 1000000 in
theorem rSums_any (a : Option Addr) (n c : Nat) (xs : List Int) (w : World) (h1 : SI w a n c xs) (hn : n ≤ 1000000) (hb : ∀ j : Nat, -1000000000 ≤ xs[j]?.getD 0 ∧ xs[j]?.getD 0 ≤ 1000000000) :
    Calls Try.prog 100 #[.slice a n c] w fun e w' => ∃ a' c', e = .returned (.slice a' n c') ∧ OwI w' w.heap.size a' n c' (sumsF xs) ∧ Below w.heap.size w w' := by
  obtain ⟨l1, l2⟩ : n ≤ xs.length ∧ xs.length ≤ n := by have := h1.len; omega
  have m1 := h1.max
  have c1 := h1.cap
  have HB := Lib.hid hb
  clear hb
  go_enter Try.func100, Try.ntmps100
  go_wp2_with fail
  go_loopw [4, 3, 5] (fun s v i wr => ∃ (k c' : Nat) (a' : Option Addr), i = .int .i64 (k : Int) ∧ k ≤ n ∧ s = .int .i64 (sumT xs k) ∧ v = .slice a' k c' ∧ OwI wr w.heap.size a' k c' (sumsTo xs k) ∧ Below w.heap.size w wr) (fun _ _ i _ => n - (intOf i).toNat)
  case atStart => exact ⟨0, 0, none, rfl, by omega, rfl, rfl, OwI.nil _ _, Below.refl _ _⟩
  case round =>
    obtain ⟨k, c', a', rfl, hk, rfl, rfl, hown, hbr⟩ := hrel
    have hs := hbr.size
    obtain ⟨b1, b2⟩ := sumT_bd HB.out k
    by_cases hlt : k < n
    · obtain ⟨ba, oa, rfl, hca⟩ := (h1.keep hbr).at_ (by omega)
      have ea := hca k hlt
      have hx := HB.out k
      have hn1 : sumT xs (k + 1) = sumT xs k + xs[k]?.getD 0 := rfl
      have hn2 := sumsTo_succ xs k
      rw [hn1] at hn2
      obtain ⟨x, hxx⟩ : ∃ x, xs[k]?.getD 0 = x := ⟨_, rfl⟩
      obtain ⟨s, hss⟩ : ∃ s, sumT xs k = s := ⟨_, rfl⟩
      rw [hxx] at ea hx hn1 hn2
      rw [hss] at b1 b2 hn1 hn2 ⊢
      have HN1 := Lib.hid hn1
      have HN2 := Lib.hid hn2
      clear hca hn1 hn2 hxx hss
      have hi : (k : Int) < (n : Int) := by omega
      have hi0 : (0 : Int) ≤ (k : Int) := by omega
      go_wp2_with (first | (at_builtin; refine appI rfl _ _ rfl hown rfl rfl (by omega) (by omega) ?_; intro a2' c2' w5 ho5 hb5 hs5))
      go_roundw
      case rel => exact ⟨k + 1, c2', a2', by go_num, by omega, by rw [HN1.out], rfl, by rw [HN2.out]; exact ho5, hbr.trans hb5⟩
      case measure => simp [intOf]; omega
    · have hle : (n : Int) ≤ (k : Int) := by omega
      obtain rfl : n = k := by omega
      go_wp2_with fail
      go_ret
      refine ⟨a', c', rfl, ?_, hbr⟩
      have e : sumsF xs = sumsTo xs n := by unfold sumsF sumsTo; rw [show xs.length = n by omega]
      rw [e]
      exact hown

set_option maxHeartbeats 400000 in
theorem rVelocities_any (a : Option Addr) (n c : Nat) (xs : List Int) (w : World) (h1 : SI w a n c xs) (hn : n ≤ 1000000) (hb : ∀ j : Nat, -1000000000 ≤ xs[j]?.getD 0 ∧ xs[j]?.getD 0 ≤ 1000000000) :
    Calls Try.prog 35 #[.slice a n c] w fun e w' => ∃ a' c', e = .returned (.slice a' n c') ∧ SI w' a' n c' (sumsF xs) ∧ Below w.heap.size w w' := by
  go_enter Try.func35, Try.ntmps35
  go_wp2_with fail
  refine (rSums_any a n c xs _ h1 hn hb).mono ?_
  rintro e w1 ⟨a', c', rfl, o1, hs⟩
  go_wp2_with fail
  go_ret
  exact ⟨a', c', rfl, o1.si, hs⟩
set_option maxHeartbeats 400000 in
theorem rDisplacements_any (a : Option Addr) (n c : Nat) (xs : List Int) (w : World) (h1 : SI w a n c xs) (hn : n ≤ 1000) (hb : ∀ j : Nat, -1000 ≤ xs[j]?.getD 0 ∧ xs[j]?.getD 0 ≤ 1000) :
    Calls Try.prog 36 #[.slice a n c] w fun e w' => ∃ a' c', e = .returned (.slice a' n c') ∧ SI w' a' n c' (sumsF (sumsF xs)) ∧ Below w.heap.size w w' := by
  have hl := h1.len
  have hb2 : ∀ j : Nat, -1000000000 ≤ (sumsF xs)[j]?.getD 0 ∧ (sumsF xs)[j]?.getD 0 ≤ 1000000000 := fun j => by
    rcases Nat.lt_or_ge j xs.length with h | h
    · rw [sumsF_get xs j h]
      have := sumT_bd hb (j + 1)
      omega
    · rw [List.getElem?_eq_none (by rw [sumsF_len]; exact h)]
      simp
  have HB := Lib.hid hb
  have HB2 := Lib.hid hb2
  clear hb hb2 hl
  go_enter Try.func36, Try.ntmps36
  go_wp2_with fail
  refine (rSums_any a n c xs _ h1 (by omega) (fun j => by have := HB.out j; omega)).mono ?_
  rintro e w1 ⟨a', c', rfl, o1, hs⟩
  go_wp2_with fail
  refine (rSums_any a' n c' _ _ o1.si (by omega) HB2.out).mono ?_
  rintro e w2 ⟨a2, c2, rfl, o2, hs2⟩
  go_wp2_with fail
  go_ret
  exact ⟨a2, c2, rfl, o2.si, hs.trans (hs2.mono hs.size)⟩

theorem endT_bd {xs : List Int} {M : Int} (_hM : 0 ≤ M) (h : ∀ j : Nat, -M ≤ xs[j]?.getD 0 ∧ xs[j]?.getD 0 ≤ M) (n : Nat) (k : Nat) (hk : k ≤ n) : -((n : Int) * M * (k : Int)) ≤ endT xs n k ∧ endT xs n k ≤ (n : Int) * M * (k : Int) := by
  induction k with
  | zero => simp [endT]
  | succ k ih =>
    have h1 := h k
    have h2 := ih (by omega)
    have p := pr_bd (c := (n : Int) - (k : Int)) (a := xs[k]?.getD 0) (C := (n : Int)) (A := M) (by omega) (by omega) h1.1 h1.2
    rw [endT]
    have e : (n : Int) * M * ((k + 1 : Nat) : Int) = (n : Int) * M * (k : Int) + (n : Int) * M := by rw [Int.natCast_add, Int.mul_add]; simp
    rw [e]
    omega

set_option maxRecDepth 100000 in
set_option maxHeartbeats 1000000 in
theorem rEnd_any (a : Option Addr) (n c : Nat) (xs : List Int) (w : World) (h1 : SI w a n c xs) (hn : n ≤ 26) (hb : ∀ j : Nat, -1000000000000 ≤ xs[j]?.getD 0 ∧ xs[j]?.getD 0 ≤ 1000000000000) (V D : Int) (hV : sumT xs n = V) (hD : sumT (sumsF xs) n = D) :
    Calls Try.prog 37 #[.slice a n c] w fun e w' => e = .returned (.agg #[.int .i64 V, .int .i64 D]) ∧ Below w.heap.size w w' := by
  have hb2 : Below w.heap.size w ((w.alloc (.cells #[.int .i64 0, .int .i64 0] 58)).alloc (.cells #[.int .i64 0, .int .i64 0] 58)) := ((Below.refl _ _).alloc (Nat.le_refl _) _).alloc (by simp) _
  have x1 := box1 (w := w) (o := .cells #[.int .i64 0, .int .i64 0] 58) (W := w.alloc (.cells #[.int .i64 0, .int .i64 0] 58)) (Below.alloc (Below.refl _ _) (Nat.le_refl _) (.cells #[.int .i64 0, .int .i64 0] 58))
  have x2 := alloc_new (w.alloc (.cells #[.int .i64 0, .int .i64 0] 58)) (.cells #[.int .i64 0, .int .i64 0] 58)
  simp only [World.size_alloc] at x2
  obtain ⟨l1, l2⟩ : n ≤ xs.length ∧ xs.length ≤ n := by have := h1.len; omega
  have m1 := h1.max
  have c1 := h1.cap
  rw [sumT_sums xs n l1] at hD
  have HB := Lib.hid hb
  have HV := Lib.hid hV
  have HD := Lib.hid hD
  clear hb hV hD
  go_enter Try.func37, Try.ntmps37
  go_wp2_with fail
  obtain ⟨W, hW⟩ : ∃ W, (w.alloc (.cells #[.int .i64 0, .int .i64 0] 58)).alloc (.cells #[.int .i64 0, .int .i64 0] 58) = W := ⟨_, rfl⟩
  rw [hW] at hb2 x1 x2 ⊢
  clear hW
  go_loopw [4] (fun i wr => ∃ k : Nat, k ≤ n ∧ i = .int .i64 k ∧ wr.heap[w.heap.size]? = some (.cells #[.int .i64 0, .int .i64 0] 58) ∧ wr.heap[w.heap.size + 1]? = some (.cells #[.int .i64 (sumT xs k), .int .i64 (endT xs n k)] 58) ∧ Below w.heap.size w wr) (fun i _ => n - (intOf i).toNat)
  case atStart => exact ⟨0, by omega, rfl, x1, x2, hb2⟩
  case round =>
    clear x1 x2 hb2
    obtain ⟨k, hk, rfl, x1, x2, hbr⟩ := hrel
    have hl := blk_lt x2
    obtain ⟨b1, b2⟩ := sumT_bd HB.out k
    obtain ⟨b3, b4⟩ := endT_bd (by omega) HB.out n k hk
    have hnk : (n : Int) * 1000000000000 * (k : Int) ≤ 1000000000000000 := by
      have p := pr_bd (c := (n : Int)) (a := (k : Int)) (C := 26) (A := 26) (by omega) (by omega) (by omega) (by omega)
      have e : (n : Int) * 1000000000000 * (k : Int) = (n : Int) * (k : Int) * 1000000000000 := by grind
      omega
    by_cases hlt : k < n
    · obtain ⟨ba, oa, rfl, hca⟩ := (h1.keep hbr).at_ (by omega)
      have h1' := h1
      have ea := hca k hlt
      clear hca
      have hx := HB.out k
      have p := pr_bd (c := (n : Int) - (k : Int)) (a := xs[k]?.getD 0) (C := 26) (A := 1000000000000) (by omega) (by omega) hx.1 hx.2
      have hn1 : sumT xs (k + 1) = sumT xs k + xs[k]?.getD 0 := rfl
      have hn2 : endT xs n (k + 1) = endT xs n k + ((n : Int) - (k : Int)) * xs[k]?.getD 0 := rfl
      obtain ⟨x, hxx⟩ : ∃ x, xs[k]?.getD 0 = x := ⟨_, rfl⟩
      obtain ⟨s, hss⟩ : ∃ s, sumT xs k = s := ⟨_, rfl⟩
      obtain ⟨t, htt⟩ : ∃ s, endT xs n k = s := ⟨_, rfl⟩
      rw [hxx] at ea hx hn1 hn2 p
      rw [hss] at b1 b2 hn1 x2
      rw [htt] at b3 b4 hn2 x2
      have HN1 := Lib.hid hn1
      have HN2 := Lib.hid hn2
      have HX := Lib.hid hxx
      clear hn1 hn2 hxx hss htt
      obtain ⟨hx1, hx2⟩ := hx
      obtain ⟨p1, p2⟩ := p
      have e0 := cell_block x2 0
      have e1 := cell_block x2 1
      have e2 := frozen_block x2 0
      have hi : (k : Int) < (n : Int) := by omega
      have hi0 : (0 : Int) ≤ (k : Int) := by omega
      go_wp2_with fail
      refine Calmly.wp_region_mix 6 (.fl 0 <| .fl 1 <| .fl 2 <| .fl 3 <| .fl 4 <| .fl 5 <| .tail [6, 7, 8]) (by kernel_rfl) (by kernel_rfl) ?_
      have hk := Below.refl wr.drew.heap.size wr.drew
      go_wp2_with (first | ((with_reducible refine Calmly.is_fl ?_); refine Calmly.mix_fl rfl ?_ (fun _ _ => ?_); (first | exact .move _ | exact .load _ _ | exact .fieldAddr _ _ _ (by kernel_rfl) | exact .assign _ | exact .binOp _ _ _ _ _ rfl | exact .indexAddr _ _ _ | exact .len _ _ (by kernel_rfl) | exact .field _ _ _ | exact .extract _ _ | exact .pick _ _ _ | exact .build _ _ | exact .slice _ _ _ _ _ | exact .unOp _ _ _ rfl | exact .index _ _ _ | exact .max _ _ _ rfl rfl | exact .min _ _ _ rfl rfl)) | ((with_reducible refine Calmly.is_gl ?_); refine Calmly.mix_gl rfl rfl rfl ?_; first | ((first | with_reducible refine Calmly.gl_tt ?_ (fun _ _ => ?_) | with_reducible refine Calmly.gl_ff ?_ (fun _ _ => ?_)); (first | exact .move _ | exact .load _ _ | exact .fieldAddr _ _ _ (by kernel_rfl) | exact .assign _ | exact .binOp _ _ _ _ _ rfl | exact .indexAddr _ _ _ | exact .len _ _ (by kernel_rfl) | exact .field _ _ _ | exact .extract _ _ | exact .pick _ _ _ | exact .build _ _ | exact .slice _ _ _ _ _ | exact .unOp _ _ _ rfl | exact .index _ _ _ | exact .max _ _ _ rfl rfl | exact .min _ _ _ rfl rfl)) | with_reducible refine Calmly.gl_tf (fun _ _ => ?_) | with_reducible refine Calmly.gl_ft (fun _ _ => ?_)) | ((with_reducible refine Calmly.is_eff ?_); refine Calmly.mix_eff rfl (fun _ _ => ?_)) | ((with_reducible refine Calmly.is_gf ?_); refine Calmly.mix_gf rfl rfl rfl ?_; first | with_reducible refine Calmly.gf_tt (fun _ _ => ?_) | with_reducible refine Calmly.gf_ff (fun _ _ => ?_) | with_reducible refine Calmly.gf_tf (kept_of hk) (fun _ _ => ?_) | with_reducible refine Calmly.gf_ft (kept_of hk) (fun _ _ => ?_)) | ((with_reducible refine Calmly.is_tail ?_); first | refine Calmly.mix_tail_nil ?_ | refine Calmly.mix_tail rfl (fun _ _ => ?_)) | ((with_reducible refine Calmly.is_kept ?_); refine ⟨kept_of hk, ?_⟩) | (with_reducible refine Calmly.mix_alt ?_ ?_))
      refine wp_gen (fun v => v.heap[w.heap.size]? = some (.cells #[.int .i64 0, .int .i64 0] 58) ∧ v.heap[w.heap.size + 1]? = some (.cells #[.int .i64 (s + x), .int .i64 t] 58) ∧ Below w.heap.size w v) ⟨?_, ?_, ?_⟩ ?_
      · show (wr.setCell _ _).heap[w.heap.size]? = _
        rw [Below.heap_setCell _ _ _ _ (by show w.heap.size ≠ w.heap.size + 1; omega)]
        exact x1
      · exact blk_setAt x2 0 _
      · exact (hbr.setCell (by simp) _).drew
      clear x1 x2 hbr ea e0 e1 e2 hk h1 hl
      rintro v ⟨x1, x2, hbr⟩
      obtain ⟨ba2, oa2, he2, hca⟩ := (h1'.keep hbr).at_ (by omega)
      cases he2
      have ea := hca k hlt
      rw [HX.out] at ea
      clear hca
      have e0 := cell_block x2 0
      have e1 := cell_block x2 1
      have e2 := frozen_block x2 1
      have hl := blk_lt x2
      go_wp2_with fail
      refine Calmly.wp_region_mix 11 (.fl 0 <| .fl 1 <| .fl 2 <| .fl 3 <| .fl 4 <| .fl 5 <| .fl 6 <| .fl 7 <| .fl 8 <| .fl 9 <| .fl 10 <| .tail [11, 12, 13]) (by kernel_rfl) (by kernel_rfl) ?_
      have hk := Below.refl v.drew.heap.size v.drew
      go_wp2_with (first | ((with_reducible refine Calmly.is_fl ?_); refine Calmly.mix_fl rfl ?_ (fun _ _ => ?_); (first | exact .move _ | exact .load _ _ | exact .fieldAddr _ _ _ (by kernel_rfl) | exact .assign _ | exact .binOp _ _ _ _ _ rfl | exact .indexAddr _ _ _ | exact .len _ _ (by kernel_rfl) | exact .field _ _ _ | exact .extract _ _ | exact .pick _ _ _ | exact .build _ _ | exact .slice _ _ _ _ _ | exact .unOp _ _ _ rfl | exact .index _ _ _ | exact .max _ _ _ rfl rfl | exact .min _ _ _ rfl rfl)) | ((with_reducible refine Calmly.is_gl ?_); refine Calmly.mix_gl rfl rfl rfl ?_; first | ((first | with_reducible refine Calmly.gl_tt ?_ (fun _ _ => ?_) | with_reducible refine Calmly.gl_ff ?_ (fun _ _ => ?_)); (first | exact .move _ | exact .load _ _ | exact .fieldAddr _ _ _ (by kernel_rfl) | exact .assign _ | exact .binOp _ _ _ _ _ rfl | exact .indexAddr _ _ _ | exact .len _ _ (by kernel_rfl) | exact .field _ _ _ | exact .extract _ _ | exact .pick _ _ _ | exact .build _ _ | exact .slice _ _ _ _ _ | exact .unOp _ _ _ rfl | exact .index _ _ _ | exact .max _ _ _ rfl rfl | exact .min _ _ _ rfl rfl)) | with_reducible refine Calmly.gl_tf (fun _ _ => ?_) | with_reducible refine Calmly.gl_ft (fun _ _ => ?_)) | ((with_reducible refine Calmly.is_eff ?_); refine Calmly.mix_eff rfl (fun _ _ => ?_)) | ((with_reducible refine Calmly.is_gf ?_); refine Calmly.mix_gf rfl rfl rfl ?_; first | with_reducible refine Calmly.gf_tt (fun _ _ => ?_) | with_reducible refine Calmly.gf_ff (fun _ _ => ?_) | with_reducible refine Calmly.gf_tf (kept_of hk) (fun _ _ => ?_) | with_reducible refine Calmly.gf_ft (kept_of hk) (fun _ _ => ?_)) | ((with_reducible refine Calmly.is_tail ?_); first | refine Calmly.mix_tail_nil ?_ | refine Calmly.mix_tail rfl (fun _ _ => ?_)) | ((with_reducible refine Calmly.is_kept ?_); refine ⟨kept_of hk, ?_⟩) | (with_reducible refine Calmly.mix_alt ?_ ?_))
      go_roundw
      case rel =>
        refine ⟨k + 1, by omega, by go_num, ?_, ?_, (hbr.setCell (by simp) _).drew⟩
        · show (v.setCell _ _).heap[w.heap.size]? = _
          rw [Below.heap_setCell _ _ _ _ (by show w.heap.size ≠ w.heap.size + 1; omega)]
          exact x1
        · rw [HN1.out, HN2.out]
          exact blk_setAt x2 1 _
      case measure => simp [intOf]; omega
    · have hle : (n : Int) ≤ (k : Int) := by omega
      obtain rfl : k = n := by omega
      rw [HV.out, HD.out] at x2
      have e0 := cell_block x2 0
      have e1 := cell_block x2 1
      have g0 := cell_block x1 0
      have g1 := cell_block x1 1
      have g2 := frozen_block x1 0
      have g3 := frozen_block x1 1
      go_wp2_with fail
      obtain ⟨s1, s2, s3, s4⟩ := set2 (x := .int .i64 V) (y := .int .i64 D) g0 g1
      refine bodyPost_ret (v := .agg #[.int .i64 V, .int .i64 D]) (by simp [results, Try.results37, go_sem, s1, s2]) rfl ⟨rfl, ?_⟩
      exact (hbr.setCell (by simp) _).setCell (by simp) _
end Go.Proofs.Ytiibdndchkbefaa

namespace Go.Proofs.Ytiibdndchkbefaa
open Go.RowKit
open Calmly (Kept)

/-- Sizes of velocities and displacements. -/
theorem pk_bd {xs : List Int} (hn : xs.length ≤ 26) (hb : ∀ j : Nat, -1000 ≤ xs[j]?.getD 0 ∧ xs[j]?.getD 0 ≤ 1000) :
    (∀ j : Nat, -26000 ≤ (sumsF xs)[j]?.getD 0 ∧ (sumsF xs)[j]?.getD 0 ≤ 26000) ∧ ∀ j : Nat, -676000 ≤ (sumsF (sumsF xs))[j]?.getD 0 ∧ (sumsF (sumsF xs))[j]?.getD 0 ≤ 676000 := by
  have key : ∀ (ys : List Int) (B : Int), 0 ≤ B → ys.length ≤ 26 → (∀ j : Nat, -B ≤ ys[j]?.getD 0 ∧ ys[j]?.getD 0 ≤ B) → ∀ j : Nat, -(26 * B) ≤ (sumsF ys)[j]?.getD 0 ∧ (sumsF ys)[j]?.getD 0 ≤ 26 * B := by
    intro ys B hB hl hy j
    have hs : ∀ k : Nat, -(B * (k : Int)) ≤ sumT ys k ∧ sumT ys k ≤ B * (k : Int) := by
      intro k
      induction k with
      | zero => simp [sumT]
      | succ k ih =>
        have := hy k
        rw [sumT]
        have e : B * ((k + 1 : Nat) : Int) = B * (k : Int) + B := by rw [Int.natCast_add, Int.mul_add]; simp
        omega
    rcases Nat.lt_or_ge j ys.length with hj | hj
    · rw [sumsF_get ys j hj]
      have h1 := hs (j + 1)
      have h2 : B * ((j + 1 : Nat) : Int) ≤ B * 26 := Int.mul_le_mul_of_nonneg_left (by omega) hB
      omega
    · rw [List.getElem?_eq_none (by rw [sumsF_len]; exact hj)]
      simp
      omega
  have h1 := key xs 1000 (by omega) hn hb
  refine ⟨fun j => by have := h1 j; omega, fun j => ?_⟩
  have := key (sumsF xs) 26000 (by omega) (by rw [sumsF_len]; exact hn) (fun j => by have := h1 j; omega) j
  omega

set_option maxRecDepth 100000 in
set_option maxHeartbeats 1000000 in
theorem peaks_any (step : Int) (a : Option Addr) (n c : Nat) (xs : List Int) (w : World) (h1 : SI w a n c xs) (hn0 : 0 < n) (hn : n ≤ 26) (hb : ∀ j : Nat, -1000 ≤ xs[j]?.getD 0 ∧ xs[j]?.getD 0 ≤ 1000) (A V D : Int) (hA' : gsT xs n = A) (hV : gsT (sumsF xs) n = V) (hD : gsT (sumsF (sumsF xs)) n = D) :
    Calls Try.prog 106 #[.agg #[.int .i64 step, .slice a n c]] w fun e w' => e = .returned (.agg #[.int .i64 A, .int .i64 V, .int .i64 D]) ∧ Below w.heap.size w w' := by
  have hA : ∀ (A : World) (o : Obj), Below A.heap.size A (A.alloc o) := fun A o => (Below.refl _ _).alloc (Nat.le_refl _) _
  obtain ⟨l1, l2⟩ : n ≤ xs.length ∧ xs.length ≤ n := by have := h1.len; omega
  have m1 := h1.max
  have c1 := h1.cap
  have HB := Lib.hid hb
  obtain ⟨p1, p2⟩ := pk_bd (by omega) hb
  have P0 : Hid (∀ j : Nat, -9000000000000000000 ≤ xs[j]?.getD 0 ∧ xs[j]?.getD 0 ≤ 9000000000000000000) := Lib.hid (fun j => by have := hb j; omega)
  have P1 : Hid (∀ j : Nat, -9000000000000000000 ≤ (sumsF xs)[j]?.getD 0 ∧ (sumsF xs)[j]?.getD 0 ≤ 9000000000000000000) := Lib.hid (fun j => by have := p1 j; omega)
  have P2 : Hid (∀ j : Nat, -9000000000000000000 ≤ (sumsF (sumsF xs))[j]?.getD 0 ∧ (sumsF (sumsF xs))[j]?.getD 0 ≤ 9000000000000000000) := Lib.hid (fun j => by have := p2 j; omega)
  have HA := Lib.hid hA'
  have HV := Lib.hid hV
  have HD := Lib.hid hD
  clear hb p1 p2 hA' hV hD
  have x0 := box1 (w := w) (o := .cells #[.int .i64 step, .slice a n c] 24) (hA (w.alloc (.cells #[.int .i64 step, .slice a n c] 24)) (.cells #[.int .i64 0, .int .i64 0, .int .i64 0] 75))
  have x1 := alloc_new (w.alloc (.cells #[.int .i64 step, .slice a n c] 24)) (.cells #[.int .i64 0, .int .i64 0, .int .i64 0] 75)
  have BW := (hA w (.cells #[.int .i64 step, .slice a n c] 24)).alloc (by simp) (.cells #[.int .i64 0, .int .i64 0, .int .i64 0] 75)
  simp only [World.size_alloc] at x1
  have e0 := cell_block x0 0
  have e1 := cell_block x0 1
  go_enter Try.func106, Try.ntmps106
  go_wp2_with fail
  refine (of_any a n c xs _ (h1.keep BW) hn HB.out).mono ?_
  rintro e w1 ⟨av, cv, ad, cd, Bd, rfl, ov, od, hBd, hs⟩
  have s0 := (h1.keep BW).keep hs
  have hk3 := hA w1 (.cells #[.slice a n c, .slice av n cv, .slice ad n cd] 177)
  have x3 := alloc_new w1 (.cells #[.slice a n c, .slice av n cv, .slice ad n cd] 177)
  have sv := ov.si.keep hk3
  have sd := od.si.keep hk3
  replace s0 := s0.keep hk3
  replace x1 := blk_keep (blk_keep x1 hs) hk3
  replace BW := (BW.trans (hs.mono BW.size)).trans (hk3.mono (BW.trans (hs.mono BW.size)).size)
  clear hs hk3 ov od x0 e0 e1
  go_wp2_with fail
  refine Calmly.wp_region_mix 9 (.fl 0 <| .fl 1 <| .fl 3 <| .fl 4 <| .fl 6 <| .fl 7 <| .eff 2 <| .eff 5 <| .eff 8 <| .tail [9, 10]) (by kernel_rfl) (by kernel_rfl) ?_
  replace x3 := blk_keep x3 (Below.refl _ _).drew
  replace x1 := blk_keep x1 (Below.refl _ _).drew
  replace s0 := s0.keep (Below.refl _ _).drew
  replace sv := sv.keep (Below.refl _ _).drew
  replace sd := sd.keep (Below.refl _ _).drew
  replace BW := BW.drew
  generalize World.drew _ = U at x1 x3 s0 sv sd BW ⊢
  have f0 := cell_block x3 0
  have f1 := cell_block x3 1
  have f2 := cell_block x3 2
  have g0 := cell_block x1 0
  have g1 := cell_block x1 1
  have g2 := cell_block x1 2
  have g3 := frozen_block x1 0
  have g4 := frozen_block x1 1
  have g5 := frozen_block x1 2
  have hk := Below.refl U.heap.size U
  have M0 := Lib.hid True.intro
  have M1 := Lib.hid True.intro
  go_wp2_with (first | ((with_reducible refine Calmly.is_fl ?_); refine Calmly.mix_fl rfl ?_ (fun _ _ => ?_); (first | exact .move _ | exact .load _ _ | exact .fieldAddr _ _ _ (by kernel_rfl) | exact .assign _ | exact .binOp _ _ _ _ _ rfl | exact .indexAddr _ _ _ | exact .len _ _ (by kernel_rfl) | exact .field _ _ _ | exact .extract _ _ | exact .pick _ _ _ | exact .build _ _ | exact .slice _ _ _ _ _ | exact .unOp _ _ _ rfl | exact .index _ _ _ | exact .max _ _ _ rfl rfl | exact .min _ _ _ rfl rfl)) | ((with_reducible refine Calmly.is_gl ?_); refine Calmly.mix_gl rfl rfl rfl ?_; first | ((first | with_reducible refine Calmly.gl_tt ?_ (fun _ _ => ?_) | with_reducible refine Calmly.gl_ff ?_ (fun _ _ => ?_)); (first | exact .move _ | exact .load _ _ | exact .fieldAddr _ _ _ (by kernel_rfl) | exact .assign _ | exact .binOp _ _ _ _ _ rfl | exact .indexAddr _ _ _ | exact .len _ _ (by kernel_rfl) | exact .field _ _ _ | exact .extract _ _ | exact .pick _ _ _ | exact .build _ _ | exact .slice _ _ _ _ _ | exact .unOp _ _ _ rfl | exact .index _ _ _ | exact .max _ _ _ rfl rfl | exact .min _ _ _ rfl rfl)) | with_reducible refine Calmly.gl_tf (fun _ _ => ?_) | with_reducible refine Calmly.gl_ft (fun _ _ => ?_)) | ((with_reducible refine Calmly.is_eff ?_); refine Calmly.mix_eff rfl (fun _ _ => ?_)) | ((with_reducible refine Calmly.is_gf ?_); refine Calmly.mix_gf rfl rfl rfl ?_; first | with_reducible refine Calmly.gf_tt (fun _ _ => ?_) | with_reducible refine Calmly.gf_ff (fun _ _ => ?_) | with_reducible refine Calmly.gf_tf (kept_of hk) (fun _ _ => ?_) | with_reducible refine Calmly.gf_ft (kept_of hk) (fun _ _ => ?_)) | ((with_reducible refine Calmly.is_tail ?_); first | refine Calmly.mix_tail_nil ?_ | refine Calmly.mix_tail rfl (fun _ _ => ?_)) | ((with_reducible refine Calmly.is_kept ?_); refine ⟨kept_of hk, ?_⟩) | (with_reducible refine Calmly.mix_alt ?_ ?_) | (have _ := M0.out; clear M0; go_at_call 104; refine (peak_any a n c xs _ s0 hn0 P0.out).mono ?_; rintro e w4 ⟨rfl, rfl⟩; rw [HA.out]) | (have _ := M1.out; clear M1; go_at_call 104; refine (peak_any av n cv _ _ sv hn0 P1.out).mono ?_; rintro e w5 ⟨rfl, rfl⟩; rw [HV.out]) | (go_at_call 104; refine (peak_any ad n cd _ _ sd hn0 P2.out).mono ?_; rintro e w6 ⟨rfl, rfl⟩; rw [HD.out]))
  obtain ⟨s1, s2, s3⟩ := set3 (x := .int .i64 A) (y := .int .i64 V) (z := .int .i64 D) x1
  refine bodyPost_ret (v := .agg #[.int .i64 A, .int .i64 V, .int .i64 D]) (by simp [results, Try.results106, go_sem, s1, s2, s3]) rfl ⟨rfl, ?_⟩
  exact ((BW.setCell (by simp) _).setCell (by simp) _).setCell (by simp) _
end Go.Proofs.Ytiibdndchkbefaa

namespace Go.Proofs.Ytiibdndchkbefaa
open Go.RowKit
open Calmly (Kept)

set_option maxRecDepth 100000 in
set_option maxHeartbeats 1000000 in
theorem PeaksOf_any (step : Int) (a : Option Addr) (n c : Nat) (xs : List Int) (w : World) (h1 : SI w a n c xs) (E A V D : Int) (hE : (recF step xs).2 = E) (hno : E ≠ 0 → A = 0 ∧ V = 0 ∧ D = 0) (hok : E = 0 → gsT xs n = A ∧ gsT (sumsF xs) n = V ∧ gsT (sumsF (sumsF xs)) n = D) :
    Calls Try.prog 45 #[.agg #[.int .i64 step, .slice a n c]] w fun e w' => e = .returned (.tuple #[.agg #[.int .i64 A, .int .i64 V, .int .i64 D], .int .i64 E]) ∧ Below w.heap.size w w' := by
  have hb2 : Below w.heap.size w ((w.alloc (.cells #[.int .i64 step, .slice a n c] 24)).alloc (.cells #[.int .i64 0, .int .i64 0, .int .i64 0] 75)) := ((Below.refl _ _).alloc (Nat.le_refl _) _).alloc (by simp) _
  have HE := Lib.hid hE
  have HNO := Lib.hid hno
  have HOK := Lib.hid hok
  clear hE hno hok
  have m1 := h1.max
  have c1 := h1.cap
  go_enter Try.func45, Try.ntmps45
  go_wp2_with fail
  refine (recordErr_any step a n c xs _ (h1.keep hb2) E HE.out).mono ?_
  rintro e w1 ⟨rfl, hs⟩
  obtain ⟨x1, x2⟩ := box2 (w := w) (o := .cells #[.int .i64 step, .slice a n c] 24) (o' := .cells #[.int .i64 0, .int .i64 0, .int .i64 0] 75) hs
  have BW := hb2.trans (hs.mono hb2.size)
  have hlt := blk_lt x2
  clear hs
  have f0 := cell_block x1 0
  have f1 := cell_block x1 1
  have g0 := cell_block x2 0
  have g1 := cell_block x2 1
  have g2 := cell_block x2 2
  have g3 := frozen_block x2 0
  have g4 := frozen_block x2 1
  have g5 := frozen_block x2 2
  by_cases hz : E = 0
  case neg =>
    obtain ⟨rfl, rfl, rfl⟩ := HNO.out hz
    have b1 : (E != 0) = true := by simpa using hz
    clear hz
    go_wp2_with fail
    obtain ⟨s1, s2, s3⟩ := set3 (x := .int .i64 0) (y := .int .i64 0) (z := .int .i64 0) x2
    refine bodyPost_ret (v := .tuple #[.agg #[.int .i64 0, .int .i64 0, .int .i64 0], .int .i64 E]) (by simp [results, Try.results45, go_sem, s1, s2, s3]) rfl ⟨rfl, ?_⟩
    exact ((BW.setCell (by simp) _).setCell (by simp) _).setCell (by simp) _
  subst hz
  obtain ⟨hA', hV, hD⟩ := HOK.out rfl
  obtain ⟨q1, q2, q3, q4, q5⟩ := recF_ok HE.out
  have hl := h1.len
  have hn0 : 0 < n := by omega
  have hn : n ≤ 26 := by omega
  have H5 := Lib.hid q5
  have HA := Lib.hid hA'
  have HV := Lib.hid hV
  have HD := Lib.hid hD
  clear q1 q2 q3 q4 q5 hV hD hA' hl
  go_wp2_with fail
  refine (peaks_any step a n c xs _ (h1.keep BW) hn0 hn H5.out A V D HA.out HV.out HD.out).mono ?_
  rintro e w2 ⟨rfl, hs⟩
  replace x2 := blk_keep x2 hs
  replace BW := BW.trans (hs.mono BW.size)
  clear f0 f1 g0 g1 g2 g3 g4 g5 hs
  have g0 := cell_block x2 0
  have g1 := cell_block x2 1
  have g2 := cell_block x2 2
  have g3 := frozen_block x2 0
  have g4 := frozen_block x2 1
  have g5 := frozen_block x2 2
  go_wp2_with fail
  obtain ⟨s1, s2, s3⟩ := set3 (x := .int .i64 A) (y := .int .i64 V) (z := .int .i64 D) x2
  refine bodyPost_ret (v := .tuple #[.agg #[.int .i64 A, .int .i64 V, .int .i64 D], .int .i64 0]) (by simp [results, Try.results45, go_sem, s1, s2, s3]) rfl ⟨rfl, ?_⟩
  exact ((BW.setCell (by simp) _).setCell (by simp) _).setCell (by simp) _

set_option maxRecDepth 100000 in
set_option maxHeartbeats 1000000 in
theorem rPeaks_any (a : Option Addr) (n c : Nat) (xs : List Int) (w : World) (h1 : SI w a n c xs) (hn : n ≤ 26) (hb : ∀ j : Nat, -1000 ≤ xs[j]?.getD 0 ∧ xs[j]?.getD 0 ≤ 1000) (A V D : Int) (hA' : gsT xs n = A) (hV : gsT (sumsF xs) n = V) (hD : gsT (sumsF (sumsF xs)) n = D) :
    Calls Try.prog 77 #[.slice a n c] w fun e w' => e = .returned (.agg #[.int .i64 A, .int .i64 V, .int .i64 D]) ∧ Below w.heap.size w w' := by
  have hA : ∀ (A : World) (o : Obj), Below A.heap.size A (A.alloc o) := fun A o => (Below.refl _ _).alloc (Nat.le_refl _) _
  obtain ⟨l1, l2⟩ : n ≤ xs.length ∧ xs.length ≤ n := by have := h1.len; omega
  have m1 := h1.max
  have c1 := h1.cap
  obtain ⟨p1, p2⟩ := pk_bd (by omega) hb
  have P0 : Hid (∀ j : Nat, -9000000000000000000 ≤ xs[j]?.getD 0 ∧ xs[j]?.getD 0 ≤ 9000000000000000000) := Lib.hid (fun j => by have := hb j; omega)
  have P1 : Hid (∀ j : Nat, -9000000000000000000 ≤ (sumsF xs)[j]?.getD 0 ∧ (sumsF xs)[j]?.getD 0 ≤ 9000000000000000000) := Lib.hid (fun j => by have := p1 j; omega)
  have P2 : Hid (∀ j : Nat, -9000000000000000000 ≤ (sumsF (sumsF xs))[j]?.getD 0 ∧ (sumsF (sumsF xs))[j]?.getD 0 ≤ 9000000000000000000) := Lib.hid (fun j => by have := p2 j; omega)
  have P3 : Hid (∀ j : Nat, -1000000000 ≤ xs[j]?.getD 0 ∧ xs[j]?.getD 0 ≤ 1000000000) := Lib.hid (fun j => by have := hb j; omega)
  have HB := Lib.hid hb
  have HA := Lib.hid hA'
  have HV := Lib.hid hV
  have HD := Lib.hid hD
  clear hb p1 p2 hA' hV hD
  have x1 := alloc_new w (.cells #[.int .i64 0, .int .i64 0, .int .i64 0] 75)
  have BW := hA w (.cells #[.int .i64 0, .int .i64 0, .int .i64 0] 75)
  go_enter Try.func77, Try.ntmps77
  go_wp2_with fail
  refine (rGreatest_any a n c xs _ (h1.keep BW) P0.out).mono ?_
  rintro e w2 ⟨rfl, q, rfl⟩
  rw [HA.out]
  replace BW := below_drewN BW q
  replace x1 := blk_keep x1 (below_drewN (Below.refl _ _) q)
  generalize World.drewN _ q = w2 at x1 BW ⊢
  go_wp2_with fail
  refine (rVelocities_any a n c xs _ (h1.keep BW) (by omega) P3.out).mono ?_
  rintro e w3 ⟨a3, c3, rfl, s3, hs⟩
  replace BW := BW.trans (hs.mono BW.size)
  replace x1 := blk_keep x1 hs
  clear hs
  go_wp2_with fail
  refine (rGreatest_any a3 n c3 _ _ s3 P1.out).mono ?_
  rintro e w4 ⟨rfl, q', rfl⟩
  rw [HV.out]
  replace BW := below_drewN BW q'
  replace x1 := blk_keep x1 (below_drewN (Below.refl _ _) q')
  clear s3
  generalize w3.drewN q' = w4 at x1 BW ⊢
  go_wp2_with fail
  refine (rDisplacements_any a n c xs _ (h1.keep BW) (by omega) HB.out).mono ?_
  rintro e w5 ⟨a5, c5, rfl, s5, hs⟩
  replace BW := BW.trans (hs.mono BW.size)
  replace x1 := blk_keep x1 hs
  clear hs
  go_wp2_with fail
  refine (rGreatest_any a5 n c5 _ _ s5 P2.out).mono ?_
  rintro e w6 ⟨rfl, q'', rfl⟩
  rw [HD.out]
  replace BW := below_drewN BW q''
  replace x1 := blk_keep x1 (below_drewN (Below.refl _ _) q'')
  clear s5
  generalize w5.drewN q'' = w6 at x1 BW ⊢
  have g0 := cell_block x1 0
  have g1 := cell_block x1 1
  have g2 := cell_block x1 2
  have g3 := frozen_block x1 0
  have g4 := frozen_block x1 1
  have g5 := frozen_block x1 2
  go_wp2_with fail
  obtain ⟨s1, s2, s3⟩ := set3 (x := .int .i64 A) (y := .int .i64 V) (z := .int .i64 D) x1
  refine bodyPost_ret (v := .agg #[.int .i64 A, .int .i64 V, .int .i64 D]) (by simp [results, Try.results77, go_sem, s1, s2, s3]) rfl ⟨rfl, ?_⟩
  exact ((BW.setCell (by simp) _).setCell (by simp) _).setCell (by simp) _
end Go.Proofs.Ytiibdndchkbefaa
