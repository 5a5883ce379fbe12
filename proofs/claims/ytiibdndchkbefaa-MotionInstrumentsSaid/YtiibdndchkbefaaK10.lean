/- Contracts of chapter 2: the reference's sums, ends and copies; words of the laws. Contracts of chapter 2: the reference's errors of oscillators, bands, waves and times. Small functions of the helpers' package: modulo, floors, comparisons of fractions of any size. -/
import Derived.Test.YtiibdndchkbefaaK09
namespace Go.Proofs.Ytiibdndchkbefaa
open Go.RowKit
open Calmly (Kept)

set_option maxHeartbeats 400000 in
theorem rRecordErr_any (step : Int) (a : Option Addr) (n c : Nat) (xs : List Int) (w : World) (h1 : SI w a n c xs) (E : Int) (hE : (recF step xs).2 = E) :
    Calls Try.prog 21 #[.agg #[.int .i64 step, .slice a n c]] w fun e w' => e = .returned (.int .i64 E) ∧ Below w.heap.size w w' := by
  have hb : ∀ o, Below w.heap.size w (w.alloc o) := fun o => (Below.refl _ _).alloc (Nat.le_refl _) _
  obtain ⟨I, hI⟩ : ∃ I, recF step xs = (I, E) := ⟨(recF step xs).1, by rw [← hE]⟩
  have HI := Lib.hid hI
  clear hI hE
  go_enter Try.func21, Try.ntmps21
  go_wp2_with fail
  refine (rCheckRecord_any step a n c xs _ (h1.keep (hb _)) I E HI.out).mono ?_
  rintro e w1 ⟨rfl, hs⟩
  have BW := (hb (.cells #[.int .i64 step, .slice a n c] 24)).trans (hs.mono (by simp))
  go_wp2_with fail
  go_ret
  exact ⟨rfl, BW⟩

set_option maxHeartbeats 400000 in
theorem few_any (step : Int) (a : Option Addr) (n c : Nat) (w : World) (_hn : n ≤ c) (_hc : c ≤ 9223372036854775807) :
    Calls Try.prog 15 #[.agg #[.int .i64 step, .slice a n c]] w fun e w' => e = .returned (.bool (decide (n ≤ 26))) ∧ Below w.heap.size w w' := by
  have hd : decide ((n : Int) ≤ 26) = decide (n ≤ 26) := by congr 1; rw [eq_iff_iff]; omega
  have HD := Lib.hid hd
  clear hd
  go_enter Try.func15, Try.ntmps15
  go_wp2_with fail
  go_ret
  exact ⟨ret_bool HD.out, (Below.refl _ _).alloc (Nat.le_refl _) _⟩

set_option maxRecDepth 100000 in
set_option maxHeartbeats 1000000 in
theorem copy_any (step : Int) (a : Option Addr) (n c : Nat) (xs : List Int) (w : World) (h1 : SI w a n c xs) (hn : n ≤ 1099511627776) :
    Calls Try.prog 18 #[.agg #[.int .i64 step, .slice a n c]] w fun e w' => ∃ a' c', e = .returned (.agg #[.int .i64 step, .slice a' n c']) ∧ SI w' a' n c' xs ∧ Below w.heap.size w w' := by
  have hb2 : Below w.heap.size w ((w.alloc (.cells #[.int .i64 step, .slice a n c] 24)).alloc (.cells #[.int .i64 0, .slice none 0 0] 24)) := ((Below.refl _ _).alloc (Nat.le_refl _) _).alloc (by simp) _
  go_enter Try.func18, Try.ntmps18
  go_wp2_with fail
  refine (copyInts_any a n c xs _ (h1.keep hb2) hn).mono ?_
  rintro e w1 ⟨a', c', rfl, o1, hs⟩
  obtain ⟨x1, x2⟩ := box2 (w := w) (o := .cells #[.int .i64 step, .slice a n c] 24) (o' := .cells #[.int .i64 0, .slice none 0 0] 24) hs
  have BW := hb2.trans (hs.mono hb2.size)
  have hl := blk_lt x2
  replace o1 := o1.weak (B' := w.heap.size + 2) (by simp)
  clear hs
  have f0 := cell_block x1 0
  have f1 := cell_block x1 1
  have f2 := frozen_block x1 1
  have g0 := cell_block x2 0
  have g1 := cell_block x2 1
  have g2 := frozen_block x2 0
  have g3 := frozen_block x2 1
  go_wp2_with fail
  have hne : w.heap.size ≠ w.heap.size + 1 := by omega
  have z1 : ((w1.setCell ⟨w.heap.size, 1, none⟩ (.slice a' n c')).heap[w.heap.size]?) = some (.cells #[.int .i64 step, .slice a' n c'] 24) := blk_setAt x1 1 _
  have z2 : ((w1.setCell ⟨w.heap.size, 1, none⟩ (.slice a' n c')).heap[w.heap.size + 1]?) = some (.cells #[.int .i64 0, .slice none 0 0] 24) := by
    rw [Below.heap_setCell _ _ _ _ (by show w.heap.size + 1 ≠ w.heap.size; omega)]
    exact x2
  replace o1 := o1.under (r := w.heap.size) (o := 1) (by omega) (.slice a' n c')
  replace BW := BW.setCell (p := ⟨w.heap.size, 1, none⟩) (Nat.le_refl _) (.slice a' n c')
  obtain ⟨s1, s2, s3, s4⟩ := set2 (x := .int .i64 step) (y := .slice a' n c') (cell_block z2 0) (cell_block z2 1)
  refine bodyPost_ret (v := .agg #[.int .i64 step, .slice a' n c']) (by simp [results, Try.results18, go_sem, s1, s2]) rfl ⟨a', c', rfl, ?_, ?_⟩
  · exact (o1.under2 (by omega) _ _).si
  · exact (BW.setCell (by simp) _).setCell (by simp) _

set_option maxRecDepth 100000 in
set_option maxHeartbeats 1000000 in
theorem with_any (step : Int) (ra : Option Addr) (rn rc : Nat) (a : Option Addr) (n c : Nat) (xs : List Int) (w : World) (h1 : SI w a n c xs) (hn : n ≤ 1099511627776) :
    Calls Try.prog 44 #[.agg #[.int .i64 step, .slice ra rn rc], .slice a n c] w fun e w' => ∃ a' c', e = .returned (.agg #[.int .i64 step, .slice a' n c']) ∧ SI w' a' n c' xs ∧ Below w.heap.size w w' := by
  have hb2 : Below w.heap.size w ((w.alloc (.cells #[.int .i64 step, .slice ra rn rc] 24)).alloc (.cells #[.int .i64 0, .slice none 0 0] 24)) := ((Below.refl _ _).alloc (Nat.le_refl _) _).alloc (by simp) _
  have x1 := box1 (w := w) (o := .cells #[.int .i64 step, .slice ra rn rc] 24) (W := w.alloc (.cells #[.int .i64 step, .slice ra rn rc] 24)) (Below.alloc (Below.refl _ _) (Nat.le_refl _) (.cells #[.int .i64 0, .slice none 0 0] 24))
  have x2 := alloc_new (w.alloc (.cells #[.int .i64 step, .slice ra rn rc] 24)) (.cells #[.int .i64 0, .slice none 0 0] 24)
  simp only [World.size_alloc] at x2
  go_enter Try.func44, Try.ntmps44
  go_wp2_with fail
  refine Calmly.wp_region_mix 4 (.fl 0 <| .fl 1 <| .fl 2 <| .eff 3 <| .tail [4, 5]) (by kernel_rfl) (by kernel_rfl) ?_
  have BW := hb2.drew
  replace x1 := blk_keep x1 (Below.refl _ _).drew
  replace x2 := blk_keep x2 (Below.refl _ _).drew
  generalize World.drew _ = V at x1 x2 BW ⊢
  have f0 := cell_block x1 0
  have f1 := cell_block x1 1
  have hk := Below.refl V.heap.size V
  go_wp2_with (first | (go_at_call 57; refine (copyInts_any a n c xs _ ((h1.keep BW).keep hk) hn).mono ?_; rintro e w1 ⟨a', c', rfl, o1, hs⟩; replace hk := step_of hk hs; have hlt := blk_lt x2; have x3 := blk_keep x2 hk; have g0 := cell_block x3 0; have g1 := cell_block x3 1; have g2 := frozen_block x3 0; have g3 := frozen_block x3 1) | ((with_reducible refine Calmly.is_fl ?_); refine Calmly.mix_fl rfl ?_ (fun _ _ => ?_); (first | exact .move _ | exact .load _ _ | exact .fieldAddr _ _ _ (by kernel_rfl) | exact .assign _ | exact .binOp _ _ _ _ _ rfl | exact .indexAddr _ _ _ | exact .len _ _ (by kernel_rfl) | exact .field _ _ _ | exact .extract _ _ | exact .pick _ _ _ | exact .build _ _ | exact .slice _ _ _ _ _ | exact .unOp _ _ _ rfl | exact .index _ _ _ | exact .max _ _ _ rfl rfl | exact .min _ _ _ rfl rfl)) | ((with_reducible refine Calmly.is_gl ?_); refine Calmly.mix_gl rfl rfl rfl ?_; first | ((first | with_reducible refine Calmly.gl_tt ?_ (fun _ _ => ?_) | with_reducible refine Calmly.gl_ff ?_ (fun _ _ => ?_)); (first | exact .move _ | exact .load _ _ | exact .fieldAddr _ _ _ (by kernel_rfl) | exact .assign _ | exact .binOp _ _ _ _ _ rfl | exact .indexAddr _ _ _ | exact .len _ _ (by kernel_rfl) | exact .field _ _ _ | exact .extract _ _ | exact .pick _ _ _ | exact .build _ _ | exact .slice _ _ _ _ _ | exact .unOp _ _ _ rfl | exact .index _ _ _ | exact .max _ _ _ rfl rfl | exact .min _ _ _ rfl rfl)) | with_reducible refine Calmly.gl_tf (fun _ _ => ?_) | with_reducible refine Calmly.gl_ft (fun _ _ => ?_)) | ((with_reducible refine Calmly.is_eff ?_); refine Calmly.mix_eff rfl (fun _ _ => ?_)) | ((with_reducible refine Calmly.is_gf ?_); refine Calmly.mix_gf rfl rfl rfl ?_; first | with_reducible refine Calmly.gf_tt (fun _ _ => ?_) | with_reducible refine Calmly.gf_ff (fun _ _ => ?_) | with_reducible refine Calmly.gf_tf (kept_of hk) (fun _ _ => ?_) | with_reducible refine Calmly.gf_ft (kept_of hk) (fun _ _ => ?_)) | ((with_reducible refine Calmly.is_tail ?_); first | refine Calmly.mix_tail_nil ?_ | refine Calmly.mix_tail rfl (fun _ _ => ?_)) | ((with_reducible refine Calmly.is_kept ?_); refine ⟨kept_of hk, ?_⟩) | (with_reducible refine Calmly.mix_alt ?_ ?_))
  obtain ⟨s1, s2, s3, s4⟩ := set2 (x := .int .i64 step) (y := .slice a' n c') g0 g1
  have hlt2 := hk.size
  refine bodyPost_ret (v := .agg #[.int .i64 step, .slice a' n c']) (by simp [results, Try.results44, go_sem, s1, s2]) rfl ⟨a', c', rfl, ?_, ?_⟩
  · have o2 := o1.weak (B' := w.heap.size + 2) (by have := BW.size; omega)
    exact (o2.under2 (by omega) _ _).si
  · exact ((BW.trans (hk.mono BW.size)).setCell (by simp) _).setCell (by simp) _

set_option maxRecDepth 100000 in
set_option maxHeartbeats 1000000 in
theorem same_any (d k : Int) (a b : Option Addr) (n m c e : Nat) (xs ys : List Int) (w : World) (h1 : SI w a n c xs) (h2 : SI w b m e ys) (R : Bool) (hR : decide (d = k ∧ xs = ys) = R) :
    Calls Try.prog 49 #[.agg #[.int .i64 d, .slice a n c], .agg #[.int .i64 k, .slice b m e]] w fun r w' => r = .returned (.bool R) ∧ Below w.heap.size w w' := by
  have BW : Below w.heap.size w ((w.alloc (.cells #[.int .i64 d, .slice a n c] 24)).alloc (.cells #[.int .i64 k, .slice b m e] 24)) := ((Below.refl _ _).alloc (Nat.le_refl _) _).alloc (by simp) _
  by_cases hd : d = k
  · subst hd
    have hq : decide (xs = ys) = R := by rw [← hR]; simp
    have HQ := Lib.hid hq
    clear hR hq
    go_enter Try.func49, Try.ntmps49
    go_wp2_with fail
    refine (ints_any a b n m c e xs ys _ (h1.keep BW) (h2.keep BW)).mono ?_
    rintro r w1 ⟨rfl, q, rfl⟩
    go_wp2_with fail
    go_ret
    exact ⟨ret_bool HQ.out, below_drewN BW q⟩
  · have hq : (d == k) = false := by simpa using hd
    have hR2 : R = false := by rw [← hR]; simp [hd]
    subst hR2
    clear hR hd
    go_enter Try.func49, Try.ntmps49
    go_wp2_with fail
    go_ret
    exact ⟨rfl, BW⟩

set_option maxRecDepth 100000 in
set_option maxHeartbeats 1000000 in
theorem rSums_any (a : Option Addr) (n c : Nat) (xs : List Int) (w : World) (h1 : SI w a n c xs) (hn : n ≤ 1000000) (hb : ∀ j : Nat, -1000000000 ≤ xs[j]?.getD 0 ∧ xs[j]?.getD 0 ≤ 1000000000) :
    Calls Try.prog 100 #[.slice a n c] w fun e w' => ∃ a' c', e = .returned (.slice a' n c') ∧ OwI w' w.heap.size a' n c' (sumsF xs) ∧ Below w.heap.size w w' := by
  obtain ⟨l1, l2⟩ : n ≤ xs.length ∧ xs.length ≤ n := by have := h1.len; omega
  have m1 := h1.max
  have c1 := h1.cap
  have HB := Lib.hid hb
  clear hb
  go_enter Try.func100, Try.ntmps100
  go_wp2_with fail
  go_loopw [4, 3, 5] (fun s v i wr => ∃ (k c' : Nat) (a' : Option Addr), i = .int .i64 (k : Int) ∧ k ≤ n ∧ s = .int .i64 (sumT xs k) ∧ v = .slice a' k c' ∧ OwI wr w.heap.size a' k c' (sumsTo xs k) ∧ Below w.heap.size w wr) (fun _ _ i _ => n - (intOf i).toNat)
  case atStart => exact ⟨0, 0, none, rfl, by omega, rfl, rfl, OwI.nil _ _, Below.refl _ _⟩
  case round =>
    obtain ⟨k, c', a', rfl, hk, rfl, rfl, hown, hbr⟩ := hrel
    have hs := hbr.size
    obtain ⟨b1, b2⟩ := sumT_bd HB.out k
    by_cases hlt : k < n
    · obtain ⟨ba, oa, rfl, hca⟩ := (h1.keep hbr).at_ (by omega)
      have ea := hca k hlt
      have hx := HB.out k
      have hn1 : sumT xs (k + 1) = sumT xs k + xs[k]?.getD 0 := rfl
      have hn2 := sumsTo_succ xs k
      rw [hn1] at hn2
      obtain ⟨x, hxx⟩ : ∃ x, xs[k]?.getD 0 = x := ⟨_, rfl⟩
      obtain ⟨s, hss⟩ : ∃ s, sumT xs k = s := ⟨_, rfl⟩
      rw [hxx] at ea hx hn1 hn2
      rw [hss] at b1 b2 hn1 hn2 ⊢
      have HN1 := Lib.hid hn1
      have HN2 := Lib.hid hn2
      clear hca hn1 hn2 hxx hss
      have hi : (k : Int) < (n : Int) := by omega
      have hi0 : (0 : Int) ≤ (k : Int) := by omega
      go_wp2_with (first | (at_builtin; refine appI rfl _ _ rfl hown rfl rfl (by omega) (by omega) ?_; intro a2' c2' w5 ho5 hb5 hs5))
      go_roundw
      case rel => exact ⟨k + 1, c2', a2', by go_num, by omega, by rw [HN1.out], rfl, by rw [HN2.out]; exact ho5, hbr.trans hb5⟩
      case measure => simp [intOf]; omega
    · have hle : (n : Int) ≤ (k : Int) := by omega
      obtain rfl : n = k := by omega
      go_wp2_with fail
      go_ret
      refine ⟨a', c', rfl, ?_, hbr⟩
      have e : sumsF xs = sumsTo xs n := by unfold sumsF sumsTo; rw [show xs.length = n by omega]
      rw [e]
      exact hown

set_option maxHeartbeats 400000 in
theorem rVelocities_any (a : Option Addr) (n c : Nat) (xs : List Int) (w : World) (h1 : SI w a n c xs) (hn : n ≤ 1000000) (hb : ∀ j : Nat, -1000000000 ≤ xs[j]?.getD 0 ∧ xs[j]?.getD 0 ≤ 1000000000) :
    Calls Try.prog 35 #[.slice a n c] w fun e w' => ∃ a' c', e = .returned (.slice a' n c') ∧ SI w' a' n c' (sumsF xs) ∧ Below w.heap.size w w' := by
  go_enter Try.func35, Try.ntmps35
  go_wp2_with fail
  refine (rSums_any a n c xs _ h1 hn hb).mono ?_
  rintro e w1 ⟨a', c', rfl, o1, hs⟩
  go_wp2_with fail
  go_ret
  exact ⟨a', c', rfl, o1.si, hs⟩
set_option maxHeartbeats 400000 in
theorem rDisplacements_any (a : Option Addr) (n c : Nat) (xs : List Int) (w : World) (h1 : SI w a n c xs) (hn : n ≤ 1000) (hb : ∀ j : Nat, -1000 ≤ xs[j]?.getD 0 ∧ xs[j]?.getD 0 ≤ 1000) :
    Calls Try.prog 36 #[.slice a n c] w fun e w' => ∃ a' c', e = .returned (.slice a' n c') ∧ SI w' a' n c' (sumsF (sumsF xs)) ∧ Below w.heap.size w w' := by
  have hl := h1.len
  have hb2 : ∀ j : Nat, -1000000000 ≤ (sumsF xs)[j]?.getD 0 ∧ (sumsF xs)[j]?.getD 0 ≤ 1000000000 := fun j => by
    rcases Nat.lt_or_ge j xs.length with h | h
    · rw [sumsF_get xs j h]
      have := sumT_bd hb (j + 1)
      omega
    · rw [List.getElem?_eq_none (by rw [sumsF_len]; exact h)]
      simp
  have HB := Lib.hid hb
  have HB2 := Lib.hid hb2
  clear hb hb2 hl
  go_enter Try.func36, Try.ntmps36
  go_wp2_with fail
  refine (rSums_any a n c xs _ h1 (by omega) (fun j => by have := HB.out j; omega)).mono ?_
  rintro e w1 ⟨a', c', rfl, o1, hs⟩
  go_wp2_with fail
  refine (rSums_any a' n c' _ _ o1.si (by omega) HB2.out).mono ?_
  rintro e w2 ⟨a2, c2, rfl, o2, hs2⟩
  go_wp2_with fail
  go_ret
  exact ⟨a2, c2, rfl, o2.si, hs.trans (hs2.mono hs.size)⟩

theorem endT_bd {xs : List Int} {M : Int} (_hM : 0 ≤ M) (h : ∀ j : Nat, -M ≤ xs[j]?.getD 0 ∧ xs[j]?.getD 0 ≤ M) (n : Nat) (k : Nat) (hk : k ≤ n) : -((n : Int) * M * (k : Int)) ≤ endT xs n k ∧ endT xs n k ≤ (n : Int) * M * (k : Int) := by
  induction k with
  | zero => simp [endT]
  | succ k ih =>
    have h1 := h k
    have h2 := ih (by omega)
    have p := pr_bd (c := (n : Int) - (k : Int)) (a := xs[k]?.getD 0) (C := (n : Int)) (A := M) (by omega) (by omega) h1.1 h1.2
    rw [endT]
    have e : (n : Int) * M * ((k + 1 : Nat) : Int) = (n : Int) * M * (k : Int) + (n : Int) * M := by rw [Int.natCast_add, Int.mul_add]; simp
    rw [e]
    omega

set_option maxRecDepth 100000 in
set_option maxHeartbeats 1000000 in
theorem rEnd_any (a : Option Addr) (n c : Nat) (xs : List Int) (w : World) (h1 : SI w a n c xs) (hn : n ≤ 26) (hb : ∀ j : Nat, -1000000000000 ≤ xs[j]?.getD 0 ∧ xs[j]?.getD 0 ≤ 1000000000000) (V D : Int) (hV : sumT xs n = V) (hD : sumT (sumsF xs) n = D) :
    Calls Try.prog 37 #[.slice a n c] w fun e w' => e = .returned (.agg #[.int .i64 V, .int .i64 D]) ∧ Below w.heap.size w w' := by
  have hb2 : Below w.heap.size w ((w.alloc (.cells #[.int .i64 0, .int .i64 0] 58)).alloc (.cells #[.int .i64 0, .int .i64 0] 58)) := ((Below.refl _ _).alloc (Nat.le_refl _) _).alloc (by simp) _
  have x1 := box1 (w := w) (o := .cells #[.int .i64 0, .int .i64 0] 58) (W := w.alloc (.cells #[.int .i64 0, .int .i64 0] 58)) (Below.alloc (Below.refl _ _) (Nat.le_refl _) (.cells #[.int .i64 0, .int .i64 0] 58))
  have x2 := alloc_new (w.alloc (.cells #[.int .i64 0, .int .i64 0] 58)) (.cells #[.int .i64 0, .int .i64 0] 58)
  simp only [World.size_alloc] at x2
  obtain ⟨l1, l2⟩ : n ≤ xs.length ∧ xs.length ≤ n := by have := h1.len; omega
  have m1 := h1.max
  have c1 := h1.cap
  rw [sumT_sums xs n l1] at hD
  have HB := Lib.hid hb
  have HV := Lib.hid hV
  have HD := Lib.hid hD
  clear hb hV hD
  go_enter Try.func37, Try.ntmps37
  go_wp2_with fail
  obtain ⟨W, hW⟩ : ∃ W, (w.alloc (.cells #[.int .i64 0, .int .i64 0] 58)).alloc (.cells #[.int .i64 0, .int .i64 0] 58) = W := ⟨_, rfl⟩
  rw [hW] at hb2 x1 x2 ⊢
  clear hW
  go_loopw [4] (fun i wr => ∃ k : Nat, k ≤ n ∧ i = .int .i64 k ∧ wr.heap[w.heap.size]? = some (.cells #[.int .i64 0, .int .i64 0] 58) ∧ wr.heap[w.heap.size + 1]? = some (.cells #[.int .i64 (sumT xs k), .int .i64 (endT xs n k)] 58) ∧ Below w.heap.size w wr) (fun i _ => n - (intOf i).toNat)
  case atStart => exact ⟨0, by omega, rfl, x1, x2, hb2⟩
  case round =>
    clear x1 x2 hb2
    obtain ⟨k, hk, rfl, x1, x2, hbr⟩ := hrel
    have hl := blk_lt x2
    obtain ⟨b1, b2⟩ := sumT_bd HB.out k
    obtain ⟨b3, b4⟩ := endT_bd (by omega) HB.out n k hk
    have hnk : (n : Int) * 1000000000000 * (k : Int) ≤ 1000000000000000 := by
      have p := pr_bd (c := (n : Int)) (a := (k : Int)) (C := 26) (A := 26) (by omega) (by omega) (by omega) (by omega)
      have e : (n : Int) * 1000000000000 * (k : Int) = (n : Int) * (k : Int) * 1000000000000 := by grind
      omega
    by_cases hlt : k < n
    · obtain ⟨ba, oa, rfl, hca⟩ := (h1.keep hbr).at_ (by omega)
      have h1' := h1
      have ea := hca k hlt
      clear hca
      have hx := HB.out k
      have p := pr_bd (c := (n : Int) - (k : Int)) (a := xs[k]?.getD 0) (C := 26) (A := 1000000000000) (by omega) (by omega) hx.1 hx.2
      have hn1 : sumT xs (k + 1) = sumT xs k + xs[k]?.getD 0 := rfl
      have hn2 : endT xs n (k + 1) = endT xs n k + ((n : Int) - (k : Int)) * xs[k]?.getD 0 := rfl
      obtain ⟨x, hxx⟩ : ∃ x, xs[k]?.getD 0 = x := ⟨_, rfl⟩
      obtain ⟨s, hss⟩ : ∃ s, sumT xs k = s := ⟨_, rfl⟩
      obtain ⟨t, htt⟩ : ∃ s, endT xs n k = s := ⟨_, rfl⟩
      rw [hxx] at ea hx hn1 hn2 p
      rw [hss] at b1 b2 hn1 x2
      rw [htt] at b3 b4 hn2 x2
      have HN1 := Lib.hid hn1
      have HN2 := Lib.hid hn2
      have HX := Lib.hid hxx
      clear hn1 hn2 hxx hss htt
      obtain ⟨hx1, hx2⟩ := hx
      obtain ⟨p1, p2⟩ := p
      have e0 := cell_block x2 0
      have e1 := cell_block x2 1
      have e2 := frozen_block x2 0
      have hi : (k : Int) < (n : Int) := by omega
      have hi0 : (0 : Int) ≤ (k : Int) := by omega
      go_wp2_with fail
      refine Calmly.wp_region_mix 6 (.fl 0 <| .fl 1 <| .fl 2 <| .fl 3 <| .fl 4 <| .fl 5 <| .tail [6, 7, 8]) (by kernel_rfl) (by kernel_rfl) ?_
      have hk := Below.refl wr.drew.heap.size wr.drew
      go_wp2_with (first | ((with_reducible refine Calmly.is_fl ?_); refine Calmly.mix_fl rfl ?_ (fun _ _ => ?_); (first | exact .move _ | exact .load _ _ | exact .fieldAddr _ _ _ (by kernel_rfl) | exact .assign _ | exact .binOp _ _ _ _ _ rfl | exact .indexAddr _ _ _ | exact .len _ _ (by kernel_rfl) | exact .field _ _ _ | exact .extract _ _ | exact .pick _ _ _ | exact .build _ _ | exact .slice _ _ _ _ _ | exact .unOp _ _ _ rfl | exact .index _ _ _ | exact .max _ _ _ rfl rfl | exact .min _ _ _ rfl rfl)) | ((with_reducible refine Calmly.is_gl ?_); refine Calmly.mix_gl rfl rfl rfl ?_; first | ((first | with_reducible refine Calmly.gl_tt ?_ (fun _ _ => ?_) | with_reducible refine Calmly.gl_ff ?_ (fun _ _ => ?_)); (first | exact .move _ | exact .load _ _ | exact .fieldAddr _ _ _ (by kernel_rfl) | exact .assign _ | exact .binOp _ _ _ _ _ rfl | exact .indexAddr _ _ _ | exact .len _ _ (by kernel_rfl) | exact .field _ _ _ | exact .extract _ _ | exact .pick _ _ _ | exact .build _ _ | exact .slice _ _ _ _ _ | exact .unOp _ _ _ rfl | exact .index _ _ _ | exact .max _ _ _ rfl rfl | exact .min _ _ _ rfl rfl)) | with_reducible refine Calmly.gl_tf (fun _ _ => ?_) | with_reducible refine Calmly.gl_ft (fun _ _ => ?_)) | ((with_reducible refine Calmly.is_eff ?_); refine Calmly.mix_eff rfl (fun _ _ => ?_)) | ((with_reducible refine Calmly.is_gf ?_); refine Calmly.mix_gf rfl rfl rfl ?_; first | with_reducible refine Calmly.gf_tt (fun _ _ => ?_) | with_reducible refine Calmly.gf_ff (fun _ _ => ?_) | with_reducible refine Calmly.gf_tf (kept_of hk) (fun _ _ => ?_) | with_reducible refine Calmly.gf_ft (kept_of hk) (fun _ _ => ?_)) | ((with_reducible refine Calmly.is_tail ?_); first | refine Calmly.mix_tail_nil ?_ | refine Calmly.mix_tail rfl (fun _ _ => ?_)) | ((with_reducible refine Calmly.is_kept ?_); refine ⟨kept_of hk, ?_⟩) | (with_reducible refine Calmly.mix_alt ?_ ?_))
      refine wp_gen (fun v => v.heap[w.heap.size]? = some (.cells #[.int .i64 0, .int .i64 0] 58) ∧ v.heap[w.heap.size + 1]? = some (.cells #[.int .i64 (s + x), .int .i64 t] 58) ∧ Below w.heap.size w v) ⟨?_, ?_, ?_⟩ ?_
      · show (wr.setCell _ _).heap[w.heap.size]? = _
        rw [Below.heap_setCell _ _ _ _ (by show w.heap.size ≠ w.heap.size + 1; omega)]
        exact x1
      · exact blk_setAt x2 0 _
      · exact (hbr.setCell (by simp) _).drew
      clear x1 x2 hbr ea e0 e1 e2 hk h1 hl
      rintro v ⟨x1, x2, hbr⟩
      obtain ⟨ba2, oa2, he2, hca⟩ := (h1'.keep hbr).at_ (by omega)
      cases he2
      have ea := hca k hlt
      rw [HX.out] at ea
      clear hca
      have e0 := cell_block x2 0
      have e1 := cell_block x2 1
      have e2 := frozen_block x2 1
      have hl := blk_lt x2
      go_wp2_with fail
      refine Calmly.wp_region_mix 11 (.fl 0 <| .fl 1 <| .fl 2 <| .fl 3 <| .fl 4 <| .fl 5 <| .fl 6 <| .fl 7 <| .fl 8 <| .fl 9 <| .fl 10 <| .tail [11, 12, 13]) (by kernel_rfl) (by kernel_rfl) ?_
      have hk := Below.refl v.drew.heap.size v.drew
      go_wp2_with (first | ((with_reducible refine Calmly.is_fl ?_); refine Calmly.mix_fl rfl ?_ (fun _ _ => ?_); (first | exact .move _ | exact .load _ _ | exact .fieldAddr _ _ _ (by kernel_rfl) | exact .assign _ | exact .binOp _ _ _ _ _ rfl | exact .indexAddr _ _ _ | exact .len _ _ (by kernel_rfl) | exact .field _ _ _ | exact .extract _ _ | exact .pick _ _ _ | exact .build _ _ | exact .slice _ _ _ _ _ | exact .unOp _ _ _ rfl | exact .index _ _ _ | exact .max _ _ _ rfl rfl | exact .min _ _ _ rfl rfl)) | ((with_reducible refine Calmly.is_gl ?_); refine Calmly.mix_gl rfl rfl rfl ?_; first | ((first | with_reducible refine Calmly.gl_tt ?_ (fun _ _ => ?_) | with_reducible refine Calmly.gl_ff ?_ (fun _ _ => ?_)); (first | exact .move _ | exact .load _ _ | exact .fieldAddr _ _ _ (by kernel_rfl) | exact .assign _ | exact .binOp _ _ _ _ _ rfl | exact .indexAddr _ _ _ | exact .len _ _ (by kernel_rfl) | exact .field _ _ _ | exact .extract _ _ | exact .pick _ _ _ | exact .build _ _ | exact .slice _ _ _ _ _ | exact .unOp _ _ _ rfl | exact .index _ _ _ | exact .max _ _ _ rfl rfl | exact .min _ _ _ rfl rfl)) | with_reducible refine Calmly.gl_tf (fun _ _ => ?_) | with_reducible refine Calmly.gl_ft (fun _ _ => ?_)) | ((with_reducible refine Calmly.is_eff ?_); refine Calmly.mix_eff rfl (fun _ _ => ?_)) | ((with_reducible refine Calmly.is_gf ?_); refine Calmly.mix_gf rfl rfl rfl ?_; first | with_reducible refine Calmly.gf_tt (fun _ _ => ?_) | with_reducible refine Calmly.gf_ff (fun _ _ => ?_) | with_reducible refine Calmly.gf_tf (kept_of hk) (fun _ _ => ?_) | with_reducible refine Calmly.gf_ft (kept_of hk) (fun _ _ => ?_)) | ((with_reducible refine Calmly.is_tail ?_); first | refine Calmly.mix_tail_nil ?_ | refine Calmly.mix_tail rfl (fun _ _ => ?_)) | ((with_reducible refine Calmly.is_kept ?_); refine ⟨kept_of hk, ?_⟩) | (with_reducible refine Calmly.mix_alt ?_ ?_))
      go_roundw
      case rel =>
        refine ⟨k + 1, by omega, by go_num, ?_, ?_, (hbr.setCell (by simp) _).drew⟩
        · show (v.setCell _ _).heap[w.heap.size]? = _
          rw [Below.heap_setCell _ _ _ _ (by show w.heap.size ≠ w.heap.size + 1; omega)]
          exact x1
        · rw [HN1.out, HN2.out]
          exact blk_setAt x2 1 _
      case measure => simp [intOf]; omega
    · have hle : (n : Int) ≤ (k : Int) := by omega
      obtain rfl : k = n := by omega
      rw [HV.out, HD.out] at x2
      have e0 := cell_block x2 0
      have e1 := cell_block x2 1
      have g0 := cell_block x1 0
      have g1 := cell_block x1 1
      have g2 := frozen_block x1 0
      have g3 := frozen_block x1 1
      go_wp2_with fail
      obtain ⟨s1, s2, s3, s4⟩ := set2 (x := .int .i64 V) (y := .int .i64 D) g0 g1
      refine bodyPost_ret (v := .agg #[.int .i64 V, .int .i64 D]) (by simp [results, Try.results37, go_sem, s1, s2]) rfl ⟨rfl, ?_⟩
      exact (hbr.setCell (by simp) _).setCell (by simp) _
end Go.Proofs.Ytiibdndchkbefaa

namespace Go.Proofs.Ytiibdndchkbefaa
open Go.RowKit
open Calmly (Kept)

theorem bandE_eq (l : List Four) : bandE l = if l.length = 0 then 10 else if 6 < l.length then 8 else firstE (l.map bndE) := by
  unfold bandE
  by_cases h0 : l.length = 0
  · simp [h0, firstE, unlessE]
  · by_cases h1 : 6 < l.length
    · have h2 : decide (0 < l.length) = true := by simp; omega
      have h3 : decide (l.length ≤ 6) = false := by simp; omega
      rw [if_neg h0, if_pos h1, h2, h3]
      rfl
    · have h2 : decide (0 < l.length) = true := by simp; omega
      have h3 : decide (l.length ≤ 6) = true := by simp; omega
      rw [if_neg h0, if_neg h1, h2, h3]
      simp only [firstE, unlessE, if_true]
      split <;> simp_all
theorem wavesE_eq (n : Nat) (ws : List (List Int)) : wavesE n ws = if 3 < ws.length then 8 else firstE (ws.map (wavE n)) := by
  unfold wavesE
  by_cases h1 : 3 < ws.length
  · have h3 : decide (ws.length ≤ 3) = false := by simp; omega
    rw [if_pos h1, h3]
    rfl
  · have h3 : decide (ws.length ≤ 3) = true := by simp; omega
    rw [if_neg h1, h3]
    simp only [firstE, unlessE, if_true]
    split <;> simp_all
theorem timesE_eq (m : Nat) (ts : List Int) : timesE m ts = if ts.length = m then firstE (ts.map timE) else 10 := by
  unfold timesE
  by_cases h1 : ts.length = m
  · rw [if_pos h1]
    simp only [h1, decide_true, firstE, unlessE, if_true]
    split <;> simp_all
  · rw [if_neg h1]
    simp [h1, firstE, unlessE]
/-- The error of oscillators. -/
def specE (l : List (Int × Int)) : Int := if 6 < l.length then 8 else firstE (l.map oscE)
theorem specE_eq (l : List (Int × Int)) : firstE [unlessE (decide (l.length ≤ 6)) 8, firstE (l.map oscE)] = specE l := by
  unfold specE
  by_cases h1 : 6 < l.length
  · have h3 : decide (l.length ≤ 6) = false := by simp; omega
    rw [if_pos h1, h3]
    rfl
  · have h3 : decide (l.length ≤ 6) = true := by simp; omega
    rw [if_neg h1, h3]
    simp only [firstE, unlessE, if_true]
    split <;> simp_all

set_option maxHeartbeats 400000 in
theorem rOscErr_any (st dm : Int) (w : World) : Calls Try.prog 40 #[.agg #[.int .i64 st, .int .i64 dm]] w fun e w' => e = .returned (.int .i64 (oscE (st, dm))) ∧ Below w.heap.size w w' := by
  have BW : Below w.heap.size w (w.alloc (.cells #[.int .i64 st, .int .i64 dm] 49)) := (Below.refl _ _).alloc (Nat.le_refl _) _
  cases hs : wIn st 0 3000
  · have hE : oscE (st, dm) = 2 := by simp [oscE, hs, unlessE]
    rw [hE]
    go_enter Try.func40, Try.ntmps40
    go_wp2_with fail
    refine (within_any _ _ _ _).mono ?_
    rintro e w1 ⟨rfl, rfl⟩
    go_wp2_with fail
    go_ret
    exact ⟨rfl, BW⟩
  · cases hd : wIn dm 0 500
    · have hE : oscE (st, dm) = 2 := by simp [oscE, hs, hd, unlessE]
      rw [hE]
      go_enter Try.func40, Try.ntmps40
      go_wp2_with fail
      refine (within_any _ _ _ _).mono ?_
      rintro e w1 ⟨rfl, rfl⟩
      go_wp2_with fail
      refine (within_any _ _ _ _).mono ?_
      rintro e w1 ⟨rfl, rfl⟩
      go_wp2_with fail
      go_ret
      exact ⟨rfl, BW⟩
    · have hE : oscE (st, dm) = 0 := by simp [oscE, hs, hd, unlessE]
      rw [hE]
      go_enter Try.func40, Try.ntmps40
      go_wp2_with fail
      refine (within_any _ _ _ _).mono ?_
      rintro e w1 ⟨rfl, rfl⟩
      go_wp2_with fail
      refine (within_any _ _ _ _).mono ?_
      rintro e w1 ⟨rfl, rfl⟩
      go_wp2_with fail
      go_ret
      exact ⟨rfl, BW⟩

set_option maxRecDepth 100000 in
set_option maxHeartbeats 1000000 in
theorem rSpecErr_any (a : Option Addr) (n c : Nat) (l : List (Int × Int)) (w : World) (h1 : SR w a n c l) (E : Int) (hE : specE l = E) :
    Calls Try.prog 41 #[.slice a n c] w fun e w' => e = .returned (.int .i64 E) ∧ Below w.heap.size w w' := by
  obtain ⟨l1, l2⟩ : n ≤ l.length ∧ l.length ≤ n := by have := h1.len; omega
  have m1 := h1.max
  have c1 := h1.cap
  unfold specE at hE
  by_cases hn : 6 < n
  · have hn2 : (6 : Int) < (n : Int) := by omega
    rw [if_pos (by omega)] at hE
    subst hE
    go_enter Try.func41, Try.ntmps41
    go_wp2_with fail
    go_ret
    exact ⟨rfl, Below.refl _ _⟩
  have hn2 : (n : Int) ≤ 6 := by omega
  rw [if_neg (by omega)] at hE
  have HR := Lib.hid hE
  clear hE
  go_enter Try.func41, Try.ntmps41
  go_wp2_with fail
  go_loopw [3] (fun i wr => ∃ k : Nat, k ≤ n ∧ i = .int .i64 k ∧ firstE ((l.drop k).map oscE) = E ∧ Below w.heap.size w wr) (fun i _ => n - (intOf i).toNat)
  case atStart => exact ⟨0, by omega, rfl, HR.out, Below.refl _ _⟩
  case round =>
    obtain ⟨k, hk, rfl, ht, hbr⟩ := hrel
    have HT := Lib.hid ht
    clear ht
    have hrs := hbr.size
    by_cases hlt : k < n
    · obtain ⟨cb, co, rfl, hcc⟩ := h1.at_ (by omega)
      obtain ⟨y0, y1⟩ := hcc k hlt
      replace y0 := cell_keep y0 hbr
      replace y1 := cell_keep y1 hbr
      clear hcc
      have hd := eachE_drop oscE l (0, 0) k (by omega)
      rw [HT.out] at hd
      obtain ⟨rr, hrr⟩ : ∃ rr, l[k]?.getD (0, 0) = rr := ⟨_, rfl⟩
      obtain ⟨st, dm⟩ := rr
      rw [hrr] at y0 y1 hd
      clear hrr
      dsimp only at y0 y1
      obtain ⟨F, hF⟩ : ∃ F, oscE (st, dm) = F := ⟨_, rfl⟩
      rw [hF] at hd
      have HD := Lib.hid hd
      have HF := Lib.hid hF
      clear hd hF
      have hi1 : (k : Int) < (n : Int) := by omega
      have hi0 : (0 : Int) ≤ (k : Int) := by omega
      go_wp2_with fail
      refine (rOscErr_any st dm _).mono ?_
      rintro e w1 ⟨rfl, hs⟩
      rw [HF.out]
      have hbn := hbr.trans (hs.mono hrs)
      by_cases hz : F = 0
      · subst hz
        have hE0 : ((0 : Int) != 0) = false := rfl
        go_wp2_with fail
        go_roundw
        case rel => exact ⟨k + 1, by omega, by go_num, by rw [HD.out]; simp, hbn⟩
        case measure => simp [intOf]; omega
      · have b1 : (F != 0) = true := by simpa using hz
        have hRE : E = F := by rw [HD.out, if_neg hz]
        clear hz
        go_wp2_with fail
        go_ret
        exact ⟨ret_int hRE.symm, hbn⟩
    · have hle : (n : Int) ≤ (k : Int) := by omega
      have hR0 : E = 0 := by rw [← HT.out, List.drop_eq_nil_of_le (by omega)]; rfl
      go_wp2_with fail
      go_ret
      exact ⟨ret_int hR0.symm, hbr⟩

set_option maxRecDepth 100000 in
set_option maxHeartbeats 1000000 in
theorem rTimesErr_any (wa : Option Addr) (wn wc : Nat) (a : Option Addr) (n c : Nat) (xs : List Int) (w : World) (h1 : SI w a n c xs) (_hw1 : wn ≤ wc) (_hw2 : wc ≤ 9223372036854775807) (E : Int) (hE : timesE wn xs = E) :
    Calls Try.prog 60 #[.slice wa wn wc, .slice a n c] w fun e w' => e = .returned (.int .i64 E) ∧ w = w' := by
  obtain ⟨l1, l2⟩ : n ≤ xs.length ∧ xs.length ≤ n := by have := h1.len; omega
  have m1 := h1.max
  have c1 := h1.cap
  rw [timesE_eq] at hE
  by_cases hn : n = wn
  case neg =>
    have b1 : ((n : Int) != (wn : Int)) = true := by simp; omega
    rw [if_neg (by omega)] at hE
    subst hE
    clear hn
    go_enter Try.func60, Try.ntmps60
    go_wp2_with fail
    go_ret
    exact ⟨rfl, rfl⟩
  subst hn
  rw [if_pos (by omega)] at hE
  have HR := Lib.hid hE
  clear hE
  go_enter Try.func60, Try.ntmps60
  go_wp2_with fail
  go_loop [5] (fun i => ∃ k : Nat, k ≤ n ∧ i = .int .i64 k ∧ firstE ((xs.drop k).map timE) = E) (fun i => n - (intOf i).toNat)
  case atStart => exact ⟨0, by omega, rfl, HR.out⟩
  case round =>
    obtain ⟨k, hk, rfl, ht⟩ := hrel
    have HT := Lib.hid ht
    clear ht
    by_cases hlt : k < n
    · obtain ⟨cb, co, rfl, hcc⟩ := h1.at_ (by omega)
      have y0 := hcc k hlt
      clear hcc
      have hd := eachE_drop timE xs 0 k (by omega)
      rw [HT.out] at hd
      obtain ⟨x, hxx⟩ : ∃ x, xs[k]?.getD 0 = x := ⟨_, rfl⟩
      rw [hxx] at y0 hd
      unfold timE at hd
      have HD := Lib.hid hd
      clear hd hxx
      have hi1 : (k : Int) < (n : Int) := by omega
      have hi0 : (0 : Int) ≤ (k : Int) := by omega
      go_wp2_with fail
      refine (within_any _ _ _ _).mono ?_
      rintro e w1 ⟨rfl, rfl⟩
      cases hw : wIn x (-2) 2
      · have hRE : E = 2 := by rw [HD.out, hw]; rfl
        go_wp2_with fail
        go_ret
        exact ⟨ret_int hRE.symm, rfl⟩
      · have hRE : firstE ((xs.drop (k + 1)).map timE) = E := by rw [HD.out, hw]; rfl
        have HRE := Lib.hid hRE
        clear hRE
        go_wp2_with fail
        go_round
        case rel => exact ⟨k + 1, by omega, by go_num, HRE.out⟩
        case measure => simp [intOf]; omega
    · have hle : (n : Int) ≤ (k : Int) := by omega
      have hR0 : E = 0 := by rw [← HT.out, List.drop_eq_nil_of_le (by omega)]; rfl
      go_wp2_with fail
      go_ret
      first
        | exact ⟨ret_int hR0.symm, rfl⟩
        | exact ⟨rfl, rfl⟩

theorem bndE_eq (st dm lo hi : Int) : bndE ((st, dm), (lo, hi)) = if oscE (st, dm) = 0 then (if wIn lo 0 1000000 = true then (if wIn hi 0 1000000 = true then (if hi < lo then 9 else 0) else 2) else 2) else oscE (st, dm) := by
  unfold bndE
  dsimp only
  by_cases h : oscE (st, dm) = 0
  · rw [if_pos h, firstE, if_pos h]
    cases wIn lo 0 1000000
    · simp [firstE, unlessE]
    · cases wIn hi 0 1000000
      · simp [firstE, unlessE]
      · by_cases h2 : hi < lo
        · have : decide (lo ≤ hi) = false := by simp; omega
          rw [this]
          simp [firstE, unlessE, h2]
        · have : decide (lo ≤ hi) = true := by simp; omega
          rw [this]
          simp [firstE, unlessE, h2]
  · rw [if_neg h, firstE, if_neg h]

set_option maxRecDepth 100000 in
set_option maxHeartbeats 2000000 in
theorem rBandErr_any (a : Option Addr) (n c : Nat) (l : List Four) (w : World) (h1 : SB w a n c l) (E : Int) (hE : bandE l = E) :
    Calls Try.prog 23 #[.slice a n c] w fun e w' => e = .returned (.int .i64 E) ∧ Below w.heap.size w w' := by
  obtain ⟨l1, l2⟩ : n ≤ l.length ∧ l.length ≤ n := by have := h1.len; omega
  have m1 := h1.max
  have c1 := h1.cap
  have hA : ∀ (A : World) (o : Obj), Below A.heap.size A (A.alloc o) := fun A o => (Below.refl _ _).alloc (Nat.le_refl _) _
  rw [bandE_eq] at hE
  by_cases h0 : n = 0
  · subst h0
    rw [if_pos (by omega)] at hE
    subst hE
    go_enter Try.func23, Try.ntmps23
    go_wp2_with fail
    go_ret
    exact ⟨rfl, Below.refl _ _⟩
  have h00 : ((n : Int) == 0) = false := by simp; omega
  rw [if_neg (by omega)] at hE
  by_cases hn : 6 < n
  · have hn2 : (6 : Int) < (n : Int) := by omega
    rw [if_pos (by omega)] at hE
    subst hE
    clear h0
    go_enter Try.func23, Try.ntmps23
    go_wp2_with fail
    go_ret
    exact ⟨rfl, Below.refl _ _⟩
  have hn2 : (n : Int) ≤ 6 := by omega
  rw [if_neg (by omega)] at hE
  have HR := Lib.hid hE
  clear hE h0
  go_enter Try.func23, Try.ntmps23
  go_wp2_with fail
  go_loopw [3] (fun i wr => ∃ k : Nat, k ≤ n ∧ i = .int .i64 k ∧ firstE ((l.drop k).map bndE) = E ∧ Below w.heap.size w wr) (fun i _ => n - (intOf i).toNat)
  case atStart => exact ⟨0, by omega, rfl, HR.out, Below.refl _ _⟩
  case round =>
    obtain ⟨k, hk, rfl, ht, hbr⟩ := hrel
    have HT := Lib.hid ht
    clear ht
    have hrs := hbr.size
    by_cases hlt : k < n
    · obtain ⟨cb, co, rfl, hcc⟩ := h1.at_ (by omega)
      have h1' := hcc k hlt
      obtain ⟨z0, z1, z2, z3⟩ := h1'
      have y0 := cell_keep z0 hbr
      have y1 := cell_keep z1 hbr
      clear hcc
      have hd := eachE_drop bndE l four0 k (by omega)
      rw [HT.out] at hd
      obtain ⟨rr, hrr⟩ : ∃ rr, l[k]?.getD four0 = rr := ⟨_, rfl⟩
      obtain ⟨⟨st, dm⟩, ⟨lo, hi⟩⟩ := rr
      rw [hrr] at z0 z1 z2 z3 y0 y1 hd
      clear hrr
      dsimp only at z0 z1 z2 z3 y0 y1
      rw [bndE_eq] at hd
      obtain ⟨F, hF⟩ : ∃ F, oscE (st, dm) = F := ⟨_, rfl⟩
      rw [hF] at hd
      have HD := Lib.hid hd
      have HF := Lib.hid hF
      clear hd hF
      have hi1 : (k : Int) < (n : Int) := by omega
      have hi0 : (0 : Int) ≤ (k : Int) := by omega
      go_wp2_with fail
      refine (rOscErr_any st dm _).mono ?_
      rintro e w1 ⟨rfl, hs⟩
      rw [HF.out]
      have hbn := hbr.trans (hs.mono hrs)
      by_cases hz : F = 0
      case neg =>
        have b1 : (F != 0) = true := by simpa using hz
        have hRE : E = F := by rw [HD.out, if_neg hz, if_neg hz]
        clear hz
        go_wp2_with fail
        go_ret
        exact ⟨ret_int hRE.symm, hbn⟩
      subst hz
      have hE0 : ((0 : Int) != 0) = false := rfl
      have y2 := cell_keep z2 hbn
      have y3 := cell_keep z3 hbn
      have hd := HD.out
      rw [if_pos rfl] at hd
      have HD2 := Lib.hid hd
      clear hd
      have hbn2 := hbn.trans ((hA w1 (.cells #[.int .i64 lo, .int .i64 hi] 47)).mono hbn.size)
      cases hlo : wIn lo 0 1000000
      · have hRE : E = 2 := by rw [HD2.out, hlo]; rfl
        go_wp2_with fail
        refine (within_any _ _ _ _).mono ?_
        rintro e w2 ⟨rfl, rfl⟩
        go_wp2_with fail
        go_ret
        exact ⟨ret_int hRE.symm, hbn2⟩
      cases hhi : wIn hi 0 1000000
      · have hRE : E = 2 := by rw [HD2.out, hlo, hhi]; rfl
        go_wp2_with fail
        refine (within_any _ _ _ _).mono ?_
        rintro e w2 ⟨rfl, rfl⟩
        go_wp2_with fail
        refine (within_any _ _ _ _).mono ?_
        rintro e w2 ⟨rfl, rfl⟩
        go_wp2_with fail
        go_ret
        exact ⟨ret_int hRE.symm, hbn2⟩
      by_cases hgt : hi < lo
      · have hRE : E = 9 := by rw [HD2.out, hlo, hhi]; simp [hgt]
        go_wp2_with fail
        refine (within_any _ _ _ _).mono ?_
        rintro e w2 ⟨rfl, rfl⟩
        go_wp2_with fail
        refine (within_any _ _ _ _).mono ?_
        rintro e w2 ⟨rfl, rfl⟩
        go_wp2_with fail
        go_ret
        exact ⟨ret_int hRE.symm, hbn2⟩
      · have hgt2 : lo ≤ hi := by omega
        have hRE : firstE ((l.drop (k + 1)).map bndE) = E := by rw [HD2.out, hlo, hhi]; simp [hgt]
        have HRE := Lib.hid hRE
        clear hRE hgt
        go_wp2_with fail
        refine (within_any _ _ _ _).mono ?_
        rintro e w2 ⟨rfl, rfl⟩
        go_wp2_with fail
        refine (within_any _ _ _ _).mono ?_
        rintro e w2 ⟨rfl, rfl⟩
        go_wp2_with fail
        go_roundw
        case rel => exact ⟨k + 1, by omega, by go_num, HRE.out, hbn2⟩
        case measure => simp [intOf]; omega
    · have hle : (n : Int) ≤ (k : Int) := by omega
      have hR0 : E = 0 := by rw [← HT.out, List.drop_eq_nil_of_le (by omega)]; rfl
      go_wp2_with fail
      go_ret
      exact ⟨ret_int hR0.symm, hbr⟩

theorem wavE_eq (n : Nat) (x : List Int) : wavE n x = if x.length = n then (match badS x 0 with | none => if sumT x n = 0 ∧ sumT (sumsF x) n = 0 then 0 else 21 | some _ => 2) else 10 := by
  unfold wavE
  split
  · cases badS x 0 with
    | none =>
      simp only [if_true, unlessE]
      by_cases h : sumT x n = 0 ∧ sumT (sumsF x) n = 0
      · simp [h]
      · rw [if_neg h, if_neg (by simpa using h)]
    | some i => simp
  · rfl

set_option maxRecDepth 100000 in
set_option maxHeartbeats 2000000 in
theorem rWavesErr_any (count : Nat) (a : Option Addr) (n c : Nat) (l : List (List Int)) (w : World) (h1 : SW w a n c l) (hc : count ≤ 24) (E : Int) (hE : wavesE count l = E) :
    Calls Try.prog 22 #[.int .i64 (count : Int), .slice a n c] w fun e w' => e = .returned (.int .i64 E) ∧ Below w.heap.size w w' := by
  obtain ⟨l1, l2⟩ : n ≤ l.length ∧ l.length ≤ n := by have := h1.len; omega
  have m1 := h1.max
  have c1 := h1.cap
  rw [wavesE_eq] at hE
  by_cases hn : 3 < n
  · have hn2 : (3 : Int) < (n : Int) := by omega
    rw [if_pos (by omega)] at hE
    subst hE
    go_enter Try.func22, Try.ntmps22
    go_wp2_with fail
    go_ret
    exact ⟨rfl, Below.refl _ _⟩
  have hn2 : (n : Int) ≤ 3 := by omega
  rw [if_neg (by omega)] at hE
  have HR := Lib.hid hE
  clear hE
  go_enter Try.func22, Try.ntmps22
  go_wp2_with fail
  go_loopw [5] (fun i wr => ∃ k : Nat, k ≤ n ∧ i = .int .i64 k ∧ firstE ((l.drop k).map (wavE count)) = E ∧ Below w.heap.size w wr) (fun i _ => n - (intOf i).toNat)
  case atStart => exact ⟨0, by omega, rfl, HR.out, Below.refl _ _⟩
  case round =>
    obtain ⟨k, hk, rfl, ht, hbr⟩ := hrel
    have HT := Lib.hid ht
    clear ht
    have hrs := hbr.size
    by_cases hlt : k < n
    · obtain ⟨cb, co, rfl, hcc⟩ := h1.at_ (by omega)
      obtain ⟨ya, yn, yc, y0, s0⟩ := hcc k hlt
      replace y0 := cell_keep y0 hbr
      clear hcc
      have hd := eachE_drop (wavE count) l [] k (by omega)
      rw [HT.out] at hd
      obtain ⟨x, hxx⟩ : ∃ x, l[k]?.getD [] = x := ⟨_, rfl⟩
      rw [hxx] at s0 hd
      clear hxx
      have HD := Lib.hid hd
      clear hd
      have yl := s0.len
      have ym := s0.max
      have yc1 := s0.cap
      have hi1 : (k : Int) < (n : Int) := by omega
      have hi0 : (0 : Int) ≤ (k : Int) := by omega
      by_cases hyn : yn = count
      case neg =>
        have b1 : ((yn : Int) != (count : Int)) = true := by simp; omega
        have hRE : E = 10 := by rw [HD.out, show wavE count x = 10 from by rw [wavE_eq, if_neg (by omega)]]; rfl
        clear hyn yl
        go_wp2_with fail
        go_ret
        exact ⟨ret_int hRE.symm, hbr⟩
      subst hyn
      have hw2 : wavE yn x = (match badS x 0 with | none => if sumT x yn = 0 ∧ sumT (sumsF x) yn = 0 then 0 else 21 | some _ => 2) := by rw [wavE_eq, if_pos yl.symm]
      have HD2 := Lib.hid hw2
      clear hw2
      obtain ⟨yl1, yl2⟩ : yn ≤ x.length ∧ x.length ≤ yn := by omega
      clear yl
      go_wp2_with fail
      go_loopw [6] (fun j wz => ∃ p : Nat, p ≤ yn ∧ j = .int .i64 p ∧ badS x 0 = badS (x.drop p) p ∧ wz = wr) (fun j _ => yn - (intOf j).toNat)
      case atStart => exact ⟨0, by omega, rfl, rfl, rfl⟩
      case round =>
        obtain ⟨p, hp, rfl, hbs, rfl⟩ := hrel
        have HBS := Lib.hid hbs
        clear hbs
        by_cases hpl : p < yn
        · obtain ⟨bx, ox, rfl, hcx⟩ := (s0.keep hbr).at_ (by omega)
          have ex := hcx p hpl
          clear hcx
          have hbd := badS_drop x p (by omega)
          obtain ⟨z, hzz⟩ : ∃ z, x[p]?.getD 0 = z := ⟨_, rfl⟩
          rw [hzz] at ex hbd
          have HBD := Lib.hid hbd
          clear hbd hzz
          have hj : (p : Int) < (yn : Int) := by omega
          have hj0 : (0 : Int) ≤ (p : Int) := by omega
          go_wp2_with fail
          refine (rIsSample_any _ _).mono ?_
          rintro e w2 ⟨rfl, rfl⟩
          cases ho : smp z
          · have hRE : E = 2 := by
              have hd := HD2.out
              rw [HBS.out, HBD.out, ho] at hd
              rw [HD.out, hd]
              rfl
            go_wp2_with fail
            go_ret
            exact ⟨ret_int hRE.symm, hbr⟩
          · go_wp2_with fail
            go_roundw
            case rel => exact ⟨p + 1, by omega, by go_num, by rw [HBS.out, HBD.out, ho]; rfl, by first | rfl | trivial⟩
            case measure => simp [intOf]; omega
        · have hle : (yn : Int) ≤ (p : Int) := by omega
          have hnone : badS x 0 = none := by rw [HBS.out, List.drop_eq_nil_of_le (by omega)]; rfl
          have hq := badS_none hnone
          obtain ⟨V, hV⟩ : ∃ V, sumT x yn = V := ⟨_, rfl⟩
          obtain ⟨D, hD⟩ : ∃ D, sumT (sumsF x) yn = D := ⟨_, rfl⟩
          have hd := HD2.out
          rw [hnone, hV, hD] at hd
          dsimp only at hd
          have hd0 := HD.out
          rw [hd] at hd0
          replace hd := hd0
          clear hd0
          have HD3 := Lib.hid hd
          have HV := Lib.hid hV
          have HDD := Lib.hid hD
          have HQ := Lib.hid hq
          clear hnone hq hV hD hd
          go_wp2_with fail
          refine (rEnd_any ya yn yc x _ (s0.keep hbr) (by omega) (fun j => by have := HQ.out j; omega) V D HV.out HDD.out).mono ?_
          rintro e w3 ⟨rfl, hs3⟩
          have hbn := hbr.trans (hs3.mono hrs)
          by_cases hvd : V = 0 ∧ D = 0
          · obtain ⟨rfl, rfl⟩ := hvd
            have hRE : firstE ((l.drop (k + 1)).map (wavE yn)) = E := by rw [HD3.out]; simp
            have HRE := Lib.hid hRE
            clear hRE
            go_wp2_with fail
            go_roundw
            case rel => exact ⟨k + 1, by omega, by go_num, HRE.out, hbn⟩
            case measure => simp [intOf]; omega
          · have hRE : E = 21 := by rw [HD3.out, if_neg hvd, if_neg (by decide)]
            have HVD := Lib.hid hvd
            clear hvd
            go_wp2_with fail
            all_goals first
              | (exfalso; exact HVD.out ⟨by assumption, by assumption⟩)
              | (go_ret; exact ⟨ret_int hRE.symm, hbn⟩)
    · have hle : (n : Int) ≤ (k : Int) := by omega
      have hR0 : E = 0 := by rw [← HT.out, List.drop_eq_nil_of_le (by omega)]; rfl
      go_wp2_with fail
      go_ret
      exact ⟨ret_int hR0.symm, hbr⟩
end Go.Proofs.Ytiibdndchkbefaa

namespace Go.Proofs.Ytiibdndchkbefaa
open Go.RowKit
open Calmly (Kept)

theorem tdiv_floor (n d : Int) (h : 0 < d) : n / d = if n.tmod d < 0 then n.tdiv d - 1 else n.tdiv d := by
  have h1 := Int.tmod_add_mul_tdiv n d
  have h2 := Int.emod_add_mul_ediv n d
  have h3 := Int.emod_nonneg n (by omega : d ≠ 0)
  have h4 := Int.emod_lt_of_pos n h
  have h5 : n.tmod d < d := Int.tmod_lt_of_pos n h
  have h6 : -d < n.tmod d := by
    have := Int.lt_tmod_of_pos n h
    omega
  by_cases hn : n.tmod d < 0
  · rw [if_pos hn]
    have h7 : d * (n / d) = d * (n.tdiv d - 1) + (d + n.tmod d - n % d) := by rw [Int.mul_sub]; omega
    have h8 : d * (n / d - (n.tdiv d - 1)) = d + n.tmod d - n % d := by rw [Int.mul_sub]; omega
    have h9 : n / d - (n.tdiv d - 1) < 1 := by
      rcases Int.lt_or_le (n / d - (n.tdiv d - 1)) 1 with h | h'
      · exact h
      · have := Int.mul_le_mul_of_nonneg_left h' (by omega : 0 ≤ d)
        omega
    have h10 : -1 < n / d - (n.tdiv d - 1) := by
      rcases Int.lt_or_le (-1) (n / d - (n.tdiv d - 1)) with h | h'
      · exact h
      · have := Int.mul_le_mul_of_nonneg_left h' (by omega : 0 ≤ d)
        omega
    omega
  · rw [if_neg hn]
    have h8 : d * (n / d - n.tdiv d) = n.tmod d - n % d := by rw [Int.mul_sub]; omega
    have h9 : n / d - n.tdiv d < 1 := by
      rcases Int.lt_or_le (n / d - n.tdiv d) 1 with h | h'
      · exact h
      · have := Int.mul_le_mul_of_nonneg_left h' (by omega : 0 ≤ d)
        omega
    have h10 : -1 < n / d - n.tdiv d := by
      rcases Int.lt_or_le (-1) (n / d - n.tdiv d) with h | h'
      · exact h
      · have := Int.mul_le_mul_of_nonneg_left h' (by omega : 0 ≤ d)
        omega
    omega
theorem tmod_emod (n d : Int) (h : 0 < d) : n % d = if n.tmod d < 0 then n.tmod d + d else n.tmod d := by
  have h1 := Int.tmod_add_mul_tdiv n d
  have h2 := Int.emod_add_mul_ediv n d
  have h3 := tdiv_floor n d h
  split at h3
  · rename_i h4
    rw [if_pos h4]
    rw [h3, Int.mul_sub] at h2
    omega
  · rename_i h4
    rw [if_neg h4]
    rw [h3] at h2
    omega
theorem tdivq_bd (n d : Int) (h : 0 < d) (h1 : -9223372036854775808 ≤ n) (h2 : n ≤ 9223372036854775807) : -9223372036854775808 ≤ n.tdiv d ∧ n.tdiv d ≤ 9223372036854775807 := by
  rcases Int.le_total 0 n with h0 | h0
  · have h3 : 0 ≤ n.tdiv d := Int.tdiv_nonneg h0 (by omega)
    have h4 : n.tdiv d ≤ n := by
      rw [Int.tdiv_eq_ediv_of_nonneg h0]
      exact Int.ediv_le_self d h0
    omega
  · have h3 : 0 ≤ (-n).tdiv d := Int.tdiv_nonneg (by omega) (by omega)
    have h4 : (-n).tdiv d ≤ -n := by
      rw [Int.tdiv_eq_ediv_of_nonneg (by omega)]
      exact Int.ediv_le_self d (by omega)
    rw [Int.neg_tdiv] at h3 h4
    omega

set_option maxRecDepth 100000 in
set_option maxHeartbeats 400000 in
theorem mod_any (n d : Int) (w : World) (h : 0 < d) (h2 : d ≤ 9223372036854775807) (_ : -9223372036854775808 ≤ n) (_ : n ≤ 9223372036854775807) :
    Calls Try.prog 72 #[.int .i64 n, .int .i64 d] w fun e w' => e = .returned (.int .i64 (n % d)) ∧ w = w' := by
  have h3 := tmod_emod n d h
  have h4 : n.tmod d < d := Int.tmod_lt_of_pos n h
  have h5 : -d < n.tmod d := by
    have := Int.lt_tmod_of_pos n h
    omega
  have hd : (d == 0) = false := by simp; omega
  by_cases hm : n.tmod d < 0
  · rw [if_pos hm] at h3
    rw [h3]
    clear h3
    go_enter Try.func72, Try.ntmps72
    go_wp2_with fail
    go_ret
    exact ⟨rfl, rfl⟩
  · rw [if_neg hm] at h3
    rw [h3]
    have hm' : 0 ≤ n.tmod d := by omega
    clear h3 hm
    go_enter Try.func72, Try.ntmps72
    go_wp2_with fail
    go_ret
    exact ⟨rfl, rfl⟩

set_option maxRecDepth 100000 in
set_option maxHeartbeats 400000 in
theorem floor_any (n d : Int) (w : World) (h : 0 < d) (h2 : d ≤ 9223372036854775807) (hn1 : -9223372036854775807 ≤ n) (hn2 : n ≤ 9223372036854775807) :
    Calls Try.prog 151 #[.int .i64 n, .int .i64 d] w fun e w' => e = .returned (.int .i64 (n / d)) ∧ w = w' := by
  have h3 := tdiv_floor n d h
  have h4 : n.tmod d < d := Int.tmod_lt_of_pos n h
  have h5 : -d < n.tmod d := by
    have := Int.lt_tmod_of_pos n h
    omega
  have h6 := Int.natAbs_tdiv_le_natAbs n d
  have hd : (d == 0) = false := by simp; omega
  have h7 : -9223372036854775807 ≤ n.tdiv d := by omega
  have h8 : n.tdiv d ≤ 9223372036854775807 := by omega
  by_cases hm : n.tmod d < 0
  · rw [if_pos hm] at h3
    rw [h3]
    clear h3 h6
    go_enter Try.func151, Try.ntmps151
    go_wp2_with fail
    go_ret
    exact ⟨rfl, rfl⟩
  · rw [if_neg hm] at h3
    rw [h3]
    have hm' : 0 ≤ n.tmod d := by omega
    clear h3 hm h6
    go_enter Try.func151, Try.ntmps151
    go_wp2_with fail
    go_ret
    exact ⟨rfl, rfl⟩

/-- How two numbers compare: -1, 0 or 1. -/
def cmpQ (x y : Int) : Int := if x < y then -1 else if y < x then 1 else 0
theorem cmpQ_shift (x y z : Int) : cmpQ (x + z) (y + z) = cmpQ x y := by
  unfold cmpQ
  have e1 : (x + z < y + z) = (x < y) := by simp
  have e2 : (y + z < x + z) = (y < x) := by simp
  simp only [e1, e2]
/-- A step of the comparison of fractions. -/
theorem cmp_lt {n d m k : Int} (hd : 0 < d) (hk : 0 < k) (h : n / d < m / k) : cmpQ (n * k) (m * d) = -1 := by
  have h1 : n < d * (n / d) + d := by
    have := Int.emod_add_mul_ediv n d
    have := Int.emod_lt_of_pos n hd
    omega
  have h2 : k * (m / k) ≤ m := by
    have := Int.emod_add_mul_ediv m k
    have := Int.emod_nonneg m (by omega : k ≠ 0)
    omega
  have h3 : n * k < (d * (n / d) + d) * k := Int.mul_lt_mul_of_pos_right h1 hk
  have h4 : k * (m / k) * d ≤ m * d := Int.mul_le_mul_of_nonneg_right h2 (by omega)
  have h5 : (d * (n / d) + d) * k = (n / d + 1) * (d * k) := by
    rw [show d * (n / d) + d = d * (n / d + 1) by rw [Int.mul_add, Int.mul_one]]
    rw [Int.mul_comm d (n / d + 1), Int.mul_assoc]
  have h6 : k * (m / k) * d = (m / k) * (d * k) := by
    rw [Int.mul_comm k (m / k), Int.mul_assoc, Int.mul_comm k d]
  have h7 : (n / d + 1) * (d * k) ≤ (m / k) * (d * k) := Int.mul_le_mul_of_nonneg_right (by omega) (Int.mul_nonneg (by omega) (by omega))
  unfold cmpQ
  rw [if_pos (by omega)]
theorem cmp_swap (x y : Int) : cmpQ y x = - cmpQ x y := by
  unfold cmpQ
  split <;> split <;> first | omega | (split <;> omega) | rfl
theorem cmp_gt {n d m k : Int} (hd : 0 < d) (hk : 0 < k) (h : m / k < n / d) : cmpQ (n * k) (m * d) = 1 := by
  rw [cmp_swap, cmp_lt hk hd h]
  rfl
theorem cmp_eq {n d m k : Int} (h : n / d = m / k) : cmpQ (n * k) (m * d) = cmpQ ((n % d) * k) ((m % k) * d) := by
  have h1 := Int.emod_add_mul_ediv n d
  have h2 := Int.emod_add_mul_ediv m k
  have e1 : n * k = (n % d) * k + d * (n / d) * k := by rw [← Int.add_mul, h1]
  have e2 : m * d = (m % k) * d + d * (n / d) * k := by
    rw [h, show d * (m / k) * k = k * (m / k) * d by rw [Int.mul_comm d, Int.mul_assoc, Int.mul_comm d k, ← Int.mul_assoc, Int.mul_comm (m / k) k], ← Int.add_mul, h2]
  rw [e1, e2, cmpQ_shift]

/-- A fraction in lowest terms, with a denominator above 0; its parts are small. -/
def isLow (x y : Int) : Bool := decide (0 < y) && (Int.gcd x y : Int) == 1
def isSmallF (x y : Int) : Bool := wIn x (-1000000000) 1000000000 && wIn y 1 1000000000

set_option maxRecDepth 100000 in
set_option maxHeartbeats 1000000 in
theorem isLowest_any (x y : Int) (w : World) (hx1 : -9223372036854775807 ≤ x) (hx2 : x ≤ 9223372036854775807) (hy2 : y ≤ 9223372036854775807) :
    Calls Try.prog 153 #[.agg #[.int .i64 x, .int .i64 y]] w fun e w' => e = .returned (.bool (isLow x y)) ∧ Below w.heap.size w w' := by
  have hb : ∀ o, Below w.heap.size w (w.alloc o) := fun o => (Below.refl _ _).alloc (Nat.le_refl _) _
  by_cases h : 0 < y
  · go_enter Try.func153, Try.ntmps153
    go_wp2_with fail
    refine (gcd_any x y _ (by omega) (by omega) (by omega) (by omega)).mono ?_
    rintro e w1 ⟨rfl, k, rfl⟩
    go_wp2_with fail
    go_ret
    refine ⟨ret_bool ?_, below_drewN (hb _) k⟩
    unfold isLow
    rw [decide_eq_true h]
    rfl
  · have h' : y ≤ 0 := by omega
    go_enter Try.func153, Try.ntmps153
    go_wp2_with fail
    go_ret
    refine ⟨ret_bool ?_, hb _⟩
    unfold isLow
    rw [decide_eq_false (by omega)]
    rfl

end Go.Proofs.Ytiibdndchkbefaa
