/- Contracts of chapter 2: the reference's sums, ends and copies; words of the laws. Contracts of chapter 2: the peaks of a record. Contracts of chapter 2: PeaksOf, and the reference's peaks. Contracts of chapter 2: rows of fractions, fractions compared, and the least of some. An append of a list within a plan; the check of a rest: plain law. -/
import Derived.Test.YtfjcfbmfpefabaaGreatK18
namespace Go.Proofs.YtfjcfbmfpefabaaGreat
open Go.RowKit
open Calmly (Kept)

set_option maxHeartbeats 400000 in
theorem rRecordErr_any (step : Int) (a : Option Addr) (n c : Nat) (xs : List Int) (w : World) (h1 : SI w a n c xs) (E : Int) (hE : (recF step xs).2 = E) :
    Calls Tryz.prog 11 #[.agg #[.int .i64 step, .slice a n c]] w fun e w' => e = .returned (.int .i64 E) ∧ Below w.heap.size w w' := by
  have hb : ∀ o, Below w.heap.size w (w.alloc o) := fun o => (Below.refl _ _).alloc (Nat.le_refl _) _
  obtain ⟨I, hI⟩ : ∃ I, recF step xs = (I, E) := ⟨(recF step xs).1, by rw [← hE]⟩
  have HI := Lib.hid hI
  clear hI hE
  go_enter Tryz.func11, Tryz.ntmps11
  go_wp2_with fail
  refine (rCheckRecord_any step a n c xs _ (h1.keep (hb _)) I E HI.out).mono ?_
  rintro e w1 ⟨rfl, hs⟩
  have BW := (hb (.cells #[.int .i64 step, .slice a n c] 24)).trans (hs.mono (by simp))
  go_wp2_with fail
  go_ret
  exact ⟨rfl, BW⟩

set_option maxHeartbeats 400000 in
theorem few_any (step : Int) (a : Option Addr) (n c : Nat) (w : World) (_hn : n ≤ c) (_hc : c ≤ 9223372036854775807) :
    Calls Tryz.prog 5 #[.agg #[.int .i64 step, .slice a n c]] w fun e w' => e = .returned (.bool (decide (n ≤ 26))) ∧ Below w.heap.size w w' := by
  have hd : decide ((n : Int) ≤ 26) = decide (n ≤ 26) := by congr 1; rw [eq_iff_iff]; omega
  have HD := Lib.hid hd
  clear hd
  go_enter Tryz.func5, Tryz.ntmps5
  go_wp2_with fail
  go_ret
  exact ⟨ret_bool HD.out, (Below.refl _ _).alloc (Nat.le_refl _) _⟩

set_option maxRecDepth 100000 in
set_option maxHeartbeats 1000000 in
theorem copy_any (step : Int) (a : Option Addr) (n c : Nat) (xs : List Int) (w : World) (h1 : SI w a n c xs) (hn : n ≤ 1099511627776) :
    Calls Tryz.prog 7 #[.agg #[.int .i64 step, .slice a n c]] w fun e w' => ∃ a' c', e = .returned (.agg #[.int .i64 step, .slice a' n c']) ∧ SI w' a' n c' xs ∧ Below w.heap.size w w' := by
  have hb2 : Below w.heap.size w ((w.alloc (.cells #[.int .i64 step, .slice a n c] 24)).alloc (.cells #[.int .i64 0, .slice none 0 0] 24)) := ((Below.refl _ _).alloc (Nat.le_refl _) _).alloc (by simp) _
  go_enter Tryz.func7, Tryz.ntmps7
  go_wp2_with fail
  refine (copyInts_any a n c xs _ (h1.keep hb2) hn).mono ?_
  rintro e w1 ⟨a', c', rfl, o1, hs⟩
  obtain ⟨x1, x2⟩ := box2 (w := w) (o := .cells #[.int .i64 step, .slice a n c] 24) (o' := .cells #[.int .i64 0, .slice none 0 0] 24) hs
  have BW := hb2.trans (hs.mono hb2.size)
  have hl := blk_lt x2
  replace o1 := o1.weak (B' := w.heap.size + 2) (by simp)
  clear hs
  have f0 := cell_block x1 0
  have f1 := cell_block x1 1
  have f2 := frozen_block x1 1
  have g0 := cell_block x2 0
  have g1 := cell_block x2 1
  have g2 := frozen_block x2 0
  have g3 := frozen_block x2 1
  go_wp2_with fail
  have hne : w.heap.size ≠ w.heap.size + 1 := by omega
  have z1 : ((w1.setCell ⟨w.heap.size, 1, none⟩ (.slice a' n c')).heap[w.heap.size]?) = some (.cells #[.int .i64 step, .slice a' n c'] 24) := blk_setAt x1 1 _
  have z2 : ((w1.setCell ⟨w.heap.size, 1, none⟩ (.slice a' n c')).heap[w.heap.size + 1]?) = some (.cells #[.int .i64 0, .slice none 0 0] 24) := by
    rw [Below.heap_setCell _ _ _ _ (by show w.heap.size + 1 ≠ w.heap.size; omega)]
    exact x2
  replace o1 := o1.under (r := w.heap.size) (o := 1) (by omega) (.slice a' n c')
  replace BW := BW.setCell (p := ⟨w.heap.size, 1, none⟩) (Nat.le_refl _) (.slice a' n c')
  obtain ⟨s1, s2, s3, s4⟩ := set2 (x := .int .i64 step) (y := .slice a' n c') (cell_block z2 0) (cell_block z2 1)
  refine bodyPost_ret (v := .agg #[.int .i64 step, .slice a' n c']) (by simp [results, Tryz.results7, go_sem, s1, s2]) rfl ⟨a', c', rfl, ?_, ?_⟩
  · exact (o1.under2 (by omega) _ _).si
  · exact (BW.setCell (by simp) _).setCell (by simp) _

theorem endT_bd {xs : List Int} {M : Int} (_hM : 0 ≤ M) (h : ∀ j : Nat, -M ≤ xs[j]?.getD 0 ∧ xs[j]?.getD 0 ≤ M) (n : Nat) (k : Nat) (hk : k ≤ n) : -((n : Int) * M * (k : Int)) ≤ endT xs n k ∧ endT xs n k ≤ (n : Int) * M * (k : Int) := by
  induction k with
  | zero => simp [endT]
  | succ k ih =>
    have h1 := h k
    have h2 := ih (by omega)
    have p := pr_bd (c := (n : Int) - (k : Int)) (a := xs[k]?.getD 0) (C := (n : Int)) (A := M) (by omega) (by omega) h1.1 h1.2
    rw [endT]
    have e : (n : Int) * M * ((k + 1 : Nat) : Int) = (n : Int) * M * (k : Int) + (n : Int) * M := by rw [Int.natCast_add, Int.mul_add]; simp
    rw [e]
    omega

set_option maxRecDepth 100000 in
set_option maxHeartbeats 1000000 in
theorem rEnd_any (a : Option Addr) (n c : Nat) (xs : List Int) (w : World) (h1 : SI w a n c xs) (hn : n ≤ 26) (hb : ∀ j : Nat, -1000000000000 ≤ xs[j]?.getD 0 ∧ xs[j]?.getD 0 ≤ 1000000000000) (V D : Int) (hV : sumT xs n = V) (hD : sumT (sumsF xs) n = D) :
    Calls Tryz.prog 45 #[.slice a n c] w fun e w' => e = .returned (.agg #[.int .i64 V, .int .i64 D]) ∧ Below w.heap.size w w' := by
  have hb2 : Below w.heap.size w ((w.alloc (.cells #[.int .i64 0, .int .i64 0] 71)).alloc (.cells #[.int .i64 0, .int .i64 0] 71)) := ((Below.refl _ _).alloc (Nat.le_refl _) _).alloc (by simp) _
  have x1 := box1 (w := w) (o := .cells #[.int .i64 0, .int .i64 0] 71) (W := w.alloc (.cells #[.int .i64 0, .int .i64 0] 71)) (Below.alloc (Below.refl _ _) (Nat.le_refl _) (.cells #[.int .i64 0, .int .i64 0] 71))
  have x2 := alloc_new (w.alloc (.cells #[.int .i64 0, .int .i64 0] 71)) (.cells #[.int .i64 0, .int .i64 0] 71)
  simp only [World.size_alloc] at x2
  obtain ⟨l1, l2⟩ : n ≤ xs.length ∧ xs.length ≤ n := by have := h1.len; omega
  have m1 := h1.max
  have c1 := h1.cap
  rw [sumT_sums xs n l1] at hD
  have HB := Lib.hid hb
  have HV := Lib.hid hV
  have HD := Lib.hid hD
  clear hb hV hD
  go_enter Tryz.func45, Tryz.ntmps45
  go_wp2_with fail
  obtain ⟨W, hW⟩ : ∃ W, (w.alloc (.cells #[.int .i64 0, .int .i64 0] 71)).alloc (.cells #[.int .i64 0, .int .i64 0] 71) = W := ⟨_, rfl⟩
  rw [hW] at hb2 x1 x2 ⊢
  clear hW
  go_loopw [4] (fun i wr => ∃ k : Nat, k ≤ n ∧ i = .int .i64 k ∧ wr.heap[w.heap.size]? = some (.cells #[.int .i64 0, .int .i64 0] 71) ∧ wr.heap[w.heap.size + 1]? = some (.cells #[.int .i64 (sumT xs k), .int .i64 (endT xs n k)] 71) ∧ Below w.heap.size w wr) (fun i _ => n - (intOf i).toNat)
  case atStart => exact ⟨0, by omega, rfl, x1, x2, hb2⟩
  case round =>
    clear x1 x2 hb2
    obtain ⟨k, hk, rfl, x1, x2, hbr⟩ := hrel
    have hl := blk_lt x2
    obtain ⟨b1, b2⟩ := sumT_bd HB.out k
    obtain ⟨b3, b4⟩ := endT_bd (by omega) HB.out n k hk
    have hnk : (n : Int) * 1000000000000 * (k : Int) ≤ 1000000000000000 := by
      have p := pr_bd (c := (n : Int)) (a := (k : Int)) (C := 26) (A := 26) (by omega) (by omega) (by omega) (by omega)
      have e : (n : Int) * 1000000000000 * (k : Int) = (n : Int) * (k : Int) * 1000000000000 := by grind
      omega
    by_cases hlt : k < n
    · obtain ⟨ba, oa, rfl, hca⟩ := (h1.keep hbr).at_ (by omega)
      have h1' := h1
      have ea := hca k hlt
      clear hca
      have hx := HB.out k
      have p := pr_bd (c := (n : Int) - (k : Int)) (a := xs[k]?.getD 0) (C := 26) (A := 1000000000000) (by omega) (by omega) hx.1 hx.2
      have hn1 : sumT xs (k + 1) = sumT xs k + xs[k]?.getD 0 := rfl
      have hn2 : endT xs n (k + 1) = endT xs n k + ((n : Int) - (k : Int)) * xs[k]?.getD 0 := rfl
      obtain ⟨x, hxx⟩ : ∃ x, xs[k]?.getD 0 = x := ⟨_, rfl⟩
      obtain ⟨s, hss⟩ : ∃ s, sumT xs k = s := ⟨_, rfl⟩
      obtain ⟨t, htt⟩ : ∃ s, endT xs n k = s := ⟨_, rfl⟩
      rw [hxx] at ea hx hn1 hn2 p
      rw [hss] at b1 b2 hn1 x2
      rw [htt] at b3 b4 hn2 x2
      have HN1 := Lib.hid hn1
      have HN2 := Lib.hid hn2
      have HX := Lib.hid hxx
      clear hn1 hn2 hxx hss htt
      obtain ⟨hx1, hx2⟩ := hx
      obtain ⟨p1, p2⟩ := p
      have e0 := cell_block x2 0
      have e1 := cell_block x2 1
      have e2 := frozen_block x2 0
      have hi : (k : Int) < (n : Int) := by omega
      have hi0 : (0 : Int) ≤ (k : Int) := by omega
      go_wp2_with fail
      refine Calmly.wp_region_mix 6 (.fl 0 <| .fl 1 <| .fl 2 <| .fl 3 <| .fl 4 <| .fl 5 <| .tail [6, 7, 8]) (by kernel_rfl) (by kernel_rfl) ?_
      have hk := Below.refl wr.drew.heap.size wr.drew
      go_wp2_with (first | ((with_reducible refine Calmly.is_fl ?_); refine Calmly.mix_fl rfl ?_ (fun _ _ => ?_); (first | exact .move _ | exact .load _ _ | exact .fieldAddr _ _ _ (by kernel_rfl) | exact .assign _ | exact .binOp _ _ _ _ _ rfl | exact .indexAddr _ _ _ | exact .len _ _ (by kernel_rfl) | exact .field _ _ _ | exact .extract _ _ | exact .pick _ _ _ | exact .build _ _ | exact .slice _ _ _ _ _ | exact .unOp _ _ _ rfl | exact .index _ _ _ | exact .max _ _ _ rfl rfl | exact .min _ _ _ rfl rfl)) | ((with_reducible refine Calmly.is_gl ?_); refine Calmly.mix_gl rfl rfl rfl ?_; first | ((first | with_reducible refine Calmly.gl_tt ?_ (fun _ _ => ?_) | with_reducible refine Calmly.gl_ff ?_ (fun _ _ => ?_)); (first | exact .move _ | exact .load _ _ | exact .fieldAddr _ _ _ (by kernel_rfl) | exact .assign _ | exact .binOp _ _ _ _ _ rfl | exact .indexAddr _ _ _ | exact .len _ _ (by kernel_rfl) | exact .field _ _ _ | exact .extract _ _ | exact .pick _ _ _ | exact .build _ _ | exact .slice _ _ _ _ _ | exact .unOp _ _ _ rfl | exact .index _ _ _ | exact .max _ _ _ rfl rfl | exact .min _ _ _ rfl rfl)) | with_reducible refine Calmly.gl_tf (fun _ _ => ?_) | with_reducible refine Calmly.gl_ft (fun _ _ => ?_)) | ((with_reducible refine Calmly.is_eff ?_); refine Calmly.mix_eff rfl (fun _ _ => ?_)) | ((with_reducible refine Calmly.is_gf ?_); refine Calmly.mix_gf rfl rfl rfl ?_; first | with_reducible refine Calmly.gf_tt (fun _ _ => ?_) | with_reducible refine Calmly.gf_ff (fun _ _ => ?_) | with_reducible refine Calmly.gf_tf (kept_of hk) (fun _ _ => ?_) | with_reducible refine Calmly.gf_ft (kept_of hk) (fun _ _ => ?_)) | ((with_reducible refine Calmly.is_tail ?_); first | refine Calmly.mix_tail_nil ?_ | refine Calmly.mix_tail rfl (fun _ _ => ?_)) | ((with_reducible refine Calmly.is_kept ?_); refine ⟨kept_of hk, ?_⟩) | (with_reducible refine Calmly.mix_alt ?_ ?_))
      refine wp_gen (fun v => v.heap[w.heap.size]? = some (.cells #[.int .i64 0, .int .i64 0] 71) ∧ v.heap[w.heap.size + 1]? = some (.cells #[.int .i64 (s + x), .int .i64 t] 71) ∧ Below w.heap.size w v) ⟨?_, ?_, ?_⟩ ?_
      · show (wr.setCell _ _).heap[w.heap.size]? = _
        rw [Below.heap_setCell _ _ _ _ (by show w.heap.size ≠ w.heap.size + 1; omega)]
        exact x1
      · exact blk_setAt x2 0 _
      · exact (hbr.setCell (by simp) _).drew
      clear x1 x2 hbr ea e0 e1 e2 hk h1 hl
      rintro v ⟨x1, x2, hbr⟩
      obtain ⟨ba2, oa2, he2, hca⟩ := (h1'.keep hbr).at_ (by omega)
      cases he2
      have ea := hca k hlt
      rw [HX.out] at ea
      clear hca
      have e0 := cell_block x2 0
      have e1 := cell_block x2 1
      have e2 := frozen_block x2 1
      have hl := blk_lt x2
      go_wp2_with fail
      refine Calmly.wp_region_mix 11 (.fl 0 <| .fl 1 <| .fl 2 <| .fl 3 <| .fl 4 <| .fl 5 <| .fl 6 <| .fl 7 <| .fl 8 <| .fl 9 <| .fl 10 <| .tail [11, 12, 13]) (by kernel_rfl) (by kernel_rfl) ?_
      have hk := Below.refl v.drew.heap.size v.drew
      go_wp2_with (first | ((with_reducible refine Calmly.is_fl ?_); refine Calmly.mix_fl rfl ?_ (fun _ _ => ?_); (first | exact .move _ | exact .load _ _ | exact .fieldAddr _ _ _ (by kernel_rfl) | exact .assign _ | exact .binOp _ _ _ _ _ rfl | exact .indexAddr _ _ _ | exact .len _ _ (by kernel_rfl) | exact .field _ _ _ | exact .extract _ _ | exact .pick _ _ _ | exact .build _ _ | exact .slice _ _ _ _ _ | exact .unOp _ _ _ rfl | exact .index _ _ _ | exact .max _ _ _ rfl rfl | exact .min _ _ _ rfl rfl)) | ((with_reducible refine Calmly.is_gl ?_); refine Calmly.mix_gl rfl rfl rfl ?_; first | ((first | with_reducible refine Calmly.gl_tt ?_ (fun _ _ => ?_) | with_reducible refine Calmly.gl_ff ?_ (fun _ _ => ?_)); (first | exact .move _ | exact .load _ _ | exact .fieldAddr _ _ _ (by kernel_rfl) | exact .assign _ | exact .binOp _ _ _ _ _ rfl | exact .indexAddr _ _ _ | exact .len _ _ (by kernel_rfl) | exact .field _ _ _ | exact .extract _ _ | exact .pick _ _ _ | exact .build _ _ | exact .slice _ _ _ _ _ | exact .unOp _ _ _ rfl | exact .index _ _ _ | exact .max _ _ _ rfl rfl | exact .min _ _ _ rfl rfl)) | with_reducible refine Calmly.gl_tf (fun _ _ => ?_) | with_reducible refine Calmly.gl_ft (fun _ _ => ?_)) | ((with_reducible refine Calmly.is_eff ?_); refine Calmly.mix_eff rfl (fun _ _ => ?_)) | ((with_reducible refine Calmly.is_gf ?_); refine Calmly.mix_gf rfl rfl rfl ?_; first | with_reducible refine Calmly.gf_tt (fun _ _ => ?_) | with_reducible refine Calmly.gf_ff (fun _ _ => ?_) | with_reducible refine Calmly.gf_tf (kept_of hk) (fun _ _ => ?_) | with_reducible refine Calmly.gf_ft (kept_of hk) (fun _ _ => ?_)) | ((with_reducible refine Calmly.is_tail ?_); first | refine Calmly.mix_tail_nil ?_ | refine Calmly.mix_tail rfl (fun _ _ => ?_)) | ((with_reducible refine Calmly.is_kept ?_); refine ⟨kept_of hk, ?_⟩) | (with_reducible refine Calmly.mix_alt ?_ ?_))
      go_roundw
      case rel =>
        refine ⟨k + 1, by omega, by go_num, ?_, ?_, (hbr.setCell (by simp) _).drew⟩
        · show (v.setCell _ _).heap[w.heap.size]? = _
          rw [Below.heap_setCell _ _ _ _ (by show w.heap.size ≠ w.heap.size + 1; omega)]
          exact x1
        · rw [HN1.out, HN2.out]
          exact blk_setAt x2 1 _
      case measure => simp [intOf]; omega
    · have hle : (n : Int) ≤ (k : Int) := by omega
      obtain rfl : k = n := by omega
      rw [HV.out, HD.out] at x2
      have e0 := cell_block x2 0
      have e1 := cell_block x2 1
      have g0 := cell_block x1 0
      have g1 := cell_block x1 1
      have g2 := frozen_block x1 0
      have g3 := frozen_block x1 1
      go_wp2_with fail
      obtain ⟨s1, s2, s3, s4⟩ := set2 (x := .int .i64 V) (y := .int .i64 D) g0 g1
      refine bodyPost_ret (v := .agg #[.int .i64 V, .int .i64 D]) (by simp [results, Tryz.results45, go_sem, s1, s2]) rfl ⟨rfl, ?_⟩
      exact (hbr.setCell (by simp) _).setCell (by simp) _
end Go.Proofs.YtfjcfbmfpefabaaGreat

namespace Go.Proofs.YtfjcfbmfpefabaaGreat
open Go.RowKit
open Calmly (Kept)

/-- Sizes of velocities and displacements. -/
theorem pk_bd {xs : List Int} (hn : xs.length ≤ 26) (hb : ∀ j : Nat, -1000 ≤ xs[j]?.getD 0 ∧ xs[j]?.getD 0 ≤ 1000) :
    (∀ j : Nat, -26000 ≤ (sumsF xs)[j]?.getD 0 ∧ (sumsF xs)[j]?.getD 0 ≤ 26000) ∧ ∀ j : Nat, -676000 ≤ (sumsF (sumsF xs))[j]?.getD 0 ∧ (sumsF (sumsF xs))[j]?.getD 0 ≤ 676000 := by
  have key : ∀ (ys : List Int) (B : Int), 0 ≤ B → ys.length ≤ 26 → (∀ j : Nat, -B ≤ ys[j]?.getD 0 ∧ ys[j]?.getD 0 ≤ B) → ∀ j : Nat, -(26 * B) ≤ (sumsF ys)[j]?.getD 0 ∧ (sumsF ys)[j]?.getD 0 ≤ 26 * B := by
    intro ys B hB hl hy j
    have hs : ∀ k : Nat, -(B * (k : Int)) ≤ sumT ys k ∧ sumT ys k ≤ B * (k : Int) := by
      intro k
      induction k with
      | zero => simp [sumT]
      | succ k ih =>
        have := hy k
        rw [sumT]
        have e : B * ((k + 1 : Nat) : Int) = B * (k : Int) + B := by rw [Int.natCast_add, Int.mul_add]; simp
        omega
    rcases Nat.lt_or_ge j ys.length with hj | hj
    · rw [sumsF_get ys j hj]
      have h1 := hs (j + 1)
      have h2 : B * ((j + 1 : Nat) : Int) ≤ B * 26 := Int.mul_le_mul_of_nonneg_left (by omega) hB
      omega
    · rw [List.getElem?_eq_none (by rw [sumsF_len]; exact hj)]
      simp
      omega
  have h1 := key xs 1000 (by omega) hn hb
  refine ⟨fun j => by have := h1 j; omega, fun j => ?_⟩
  have := key (sumsF xs) 26000 (by omega) (by rw [sumsF_len]; exact hn) (fun j => by have := h1 j; omega) j
  omega

end Go.Proofs.YtfjcfbmfpefabaaGreat

namespace Go.Proofs.YtfjcfbmfpefabaaGreat
open Go.RowKit
open Calmly (Kept)

end Go.Proofs.YtfjcfbmfpefabaaGreat

namespace Go.Proofs.YtfjcfbmfpefabaaGreat
open Go.RowKit
open Calmly (Kept)


theorem Tryz.info_frac : (Tryz.prog.info? 74).map (fun i => (i.zero, i.size, i.bytes)) = some (some (.agg #[.int .i64 0, .int .i64 0]), 2, 16) := by kernel_rfl

/-- A row of fractions of the call's own. -/
def OwF (w : World) (B : Nat) (a : Option Addr) (n c : Nat) (l : List (Int × Int)) : Prop := w.ownsRow B 74 2 (.slice a n c) n (rv l)
theorem OwF.nil (w : World) (B : Nat) : OwF w B none 0 0 [] := World.ownsRow_nil w B _ 2
theorem OwF.sr {w : World} {B : Nat} {a : Option Addr} {n c : Nat} {l : List (Int × Int)} (h : OwF w B a n c l) : SR w a n c l := by
  obtain ⟨a', c', he, hs⟩ := Sl.of_owns h
  cases he
  exact hs
theorem OwF.len {w : World} {B : Nat} {a : Option Addr} {n c : Nat} {l : List (Int × Int)} (h : OwF w B a n c l) : n = l.length := h.sr.len
theorem OwF.below {w w' : World} {B B' : Nat} {a : Option Addr} {n c : Nat} {l : List (Int × Int)} (h : OwF w B a n c l) (hb : Below B' w w') (hB : w.heap.size ≤ B') : OwF w' B a n c l := by
  obtain ⟨h1, h2⟩ := h
  refine ⟨h1, ?_⟩
  rcases h2 with h2 | ⟨g, cap, cur, hv, hg, hh, r⟩
  · exact .inl h2
  · refine .inr ⟨g, cap, cur, hv, hg, ?_, r⟩
    rw [hb.block g (by have := (Array.getElem?_eq_some_iff.1 hh).1; omega)]
    exact hh
theorem OwF.keep {w w' : World} {B : Nat} {a : Option Addr} {n c : Nat} {l : List (Int × Int)} (h : OwF w B a n c l) (hb : Below w.heap.size w w') : OwF w' B a n c l := h.below hb (Nat.le_refl _)
theorem OwF.drew {w : World} {B : Nat} {a : Option Addr} {n c : Nat} {l : List (Int × Int)} (h : OwF w B a n c l) : OwF w.drew B a n c l := h
theorem OwF.weak {w : World} {B B' : Nat} {a : Option Addr} {n c : Nat} {l : List (Int × Int)} (h : OwF w B a n c l) (hB : B' ≤ B) : OwF w B' a n c l := by
  obtain ⟨h1, h2⟩ := h
  refine ⟨h1, ?_⟩
  rcases h2 with h2 | ⟨g, cap, cur, hv, hg, r⟩
  · exact .inl h2
  · exact .inr ⟨g, cap, cur, hv, Nat.le_trans hB hg, r⟩
/-- A store below the call's own rows. -/
theorem OwF.under {w : World} {B : Nat} {a : Option Addr} {n c : Nat} {l : List (Int × Int)} (h : OwF w B a n c l) {r o : Nat} (hr : r < B) (v : Value) : OwF (w.setCell ⟨r, o, none⟩ v) B a n c l := by
  obtain ⟨h1, h2⟩ := h
  refine ⟨h1, ?_⟩
  rcases h2 with h2 | ⟨g, cap, cur, hv, hg, hh, r'⟩
  · exact .inl h2
  · refine .inr ⟨g, cap, cur, hv, hg, ?_, r'⟩
    rw [Below.heap_setCell _ _ _ _ (by show g ≠ r; omega)]
    exact hh
theorem frac_mul {x y : Int} (h1 : -1000000 ≤ x) (h2 : x ≤ 1000000) (h3 : -1000000 ≤ y) (h4 : y ≤ 1000000) : -1000000000000 ≤ x * y ∧ x * y ≤ 1000000000000 := by
  have e : (x * y).natAbs ≤ 1000000 * 1000000 := by
    rw [Int.natAbs_mul]
    exact Nat.mul_le_mul (by omega) (by omega)
  omega
theorem gcds_two (x y : Int) : (gcds [x, y] : Int) = Int.gcd x y := by
  simp [gcds, Int.gcd]

set_option maxRecDepth 100000 in
set_option maxHeartbeats 4000000 in
theorem fraction_any (x y : Int) (w : World) (hx1 : -9223372036854775807 ≤ x) (hx2 : x ≤ 9223372036854775807) (hy1 : 0 < y) (hy2 : y ≤ 9223372036854775807) (P Q : Int) (hP : (fracF x y).1 = P) (hQ : (fracF x y).2 = Q) :
    Calls Tryz.prog 35 #[.int .i64 x, .int .i64 y] w fun e w' => e = .returned (.agg #[.int .i64 P, .int .i64 Q]) ∧ Below w.heap.size w w' := by
  have hnew := alloc_new w (.cells #[.int .i64 0, .int .i64 0] 74)
  have HP := Lib.hid hP
  have HQ := Lib.hid hQ
  have BW : Below w.heap.size w (w.alloc (.cells #[.int .i64 0, .int .i64 0] 74)) := (Below.refl _ _).alloc (Nat.le_refl _) _
  clear hP hQ
  go_enter Tryz.func35, Tryz.ntmps35
  go_wp2_with fail
  obtain ⟨W, hW⟩ : ∃ W, w.alloc (.cells #[.int .i64 0, .int .i64 0] 74) = W := ⟨_, rfl⟩
  have hWs : w.heap.size + 1 = W.heap.size := by rw [← hW]; simp
  rw [hW] at hnew BW ⊢
  clear hW
  refine (nDivisor_any _ 2 2 [x, y] _ (SI.two _ _ _ _ hWs) (by intro v hv; simp at hv; omega)).mono ?_
  rintro e w1 ⟨rfl, k, rfl⟩
  rw [gcds_two]
  have hW2 : Below W.heap.size W ((W.alloc (.cells #[.int .i64 x, .int .i64 y] 3)).drewN k) := below_drewN ((Below.refl _ _).alloc (Nat.le_refl _) _) k
  generalize World.drewN _ k = W2 at hW2 ⊢
  replace BW := BW.trans (hW2.mono BW.size)
  replace hnew := blk_keep hnew hW2
  clear hW2
  have hg0 : (0 : Int) < Int.gcd x y := by have := Int.gcd_pos_of_ne_zero_right (a := x) (b := y) (by omega); omega
  have hg1 : (Int.gcd x y : Int) ≤ 9223372036854775807 := by have := Int.gcd_le_right x hy1; omega
  obtain ⟨g, hgg⟩ : ∃ g : Int, (Int.gcd x y : Int) = g := ⟨_, rfl⟩
  have hf : fracF x y = (x.tdiv g, y.tdiv g) := by unfold fracF; rw [hgg]
  have HF := Lib.hid hf
  rw [hgg] at hg0 hg1 ⊢
  clear hf hgg
  have hg2 : (g == 0) = false := by simp; omega
  have b1 : -9223372036854775807 ≤ x.tdiv g ∧ x.tdiv g ≤ 9223372036854775807 := by
    have := Int.natAbs_tdiv_le_natAbs x g
    omega
  have b2 : -9223372036854775807 ≤ y.tdiv g ∧ y.tdiv g ≤ 9223372036854775807 := by
    have := Int.natAbs_tdiv_le_natAbs y g
    omega
  obtain ⟨b11, b12⟩ := b1
  obtain ⟨b21, b22⟩ := b2
  have g0 := cell_block hnew 0
  have g1 := cell_block hnew 1
  have g3 := frozen_block hnew 0
  have g4 := frozen_block hnew 1
  go_wp2_with fail
  refine Calmly.wp_region_mix 6 (.fl 0 <| .fl 1 <| .fl 2 <| .fl 3 <| .fl 4 <| .fl 5 <| .tail [6, 7]) (by kernel_rfl) (by kernel_rfl) ?_
  replace BW := BW.drew
  replace hnew := blk_keep hnew (Below.refl _ _).drew
  clear g0 g1 g3 g4
  generalize World.drew _ = V2 at hnew BW ⊢
  have g0 := cell_block hnew 0
  have g1 := cell_block hnew 1
  have g3 := frozen_block hnew 0
  have g4 := frozen_block hnew 1
  have hk := Below.refl V2.heap.size V2
  go_wp2_with (first | ((with_reducible refine Calmly.is_fl ?_); refine Calmly.mix_fl rfl ?_ (fun _ _ => ?_); (first | exact .move _ | exact .load _ _ | exact .fieldAddr _ _ _ (by kernel_rfl) | exact .assign _ | exact .binOp _ _ _ _ _ rfl | exact .indexAddr _ _ _ | exact .len _ _ (by kernel_rfl) | exact .field _ _ _ | exact .extract _ _ | exact .pick _ _ _ | exact .build _ _ | exact .slice _ _ _ _ _ | exact .unOp _ _ _ rfl | exact .index _ _ _ | exact .max _ _ _ rfl rfl | exact .min _ _ _ rfl rfl)) | ((with_reducible refine Calmly.is_gl ?_); refine Calmly.mix_gl rfl rfl rfl ?_; first | ((first | with_reducible refine Calmly.gl_tt ?_ (fun _ _ => ?_) | with_reducible refine Calmly.gl_ff ?_ (fun _ _ => ?_)); (first | exact .move _ | exact .load _ _ | exact .fieldAddr _ _ _ (by kernel_rfl) | exact .assign _ | exact .binOp _ _ _ _ _ rfl | exact .indexAddr _ _ _ | exact .len _ _ (by kernel_rfl) | exact .field _ _ _ | exact .extract _ _ | exact .pick _ _ _ | exact .build _ _ | exact .slice _ _ _ _ _ | exact .unOp _ _ _ rfl | exact .index _ _ _ | exact .max _ _ _ rfl rfl | exact .min _ _ _ rfl rfl)) | with_reducible refine Calmly.gl_tf (fun _ _ => ?_) | with_reducible refine Calmly.gl_ft (fun _ _ => ?_)) | ((with_reducible refine Calmly.is_eff ?_); refine Calmly.mix_eff rfl (fun _ _ => ?_)) | ((with_reducible refine Calmly.is_gf ?_); refine Calmly.mix_gf rfl rfl rfl ?_; first | with_reducible refine Calmly.gf_tt (fun _ _ => ?_) | with_reducible refine Calmly.gf_ff (fun _ _ => ?_) | with_reducible refine Calmly.gf_tf (kept_of hk) (fun _ _ => ?_) | with_reducible refine Calmly.gf_ft (kept_of hk) (fun _ _ => ?_)) | ((with_reducible refine Calmly.is_tail ?_); first | refine Calmly.mix_tail_nil ?_ | refine Calmly.mix_tail rfl (fun _ _ => ?_)) | ((with_reducible refine Calmly.is_kept ?_); refine ⟨kept_of hk, ?_⟩) | (with_reducible refine Calmly.mix_alt ?_ ?_))
  obtain ⟨s1, s2, _, _⟩ := set2 (x := .int .i64 (x.tdiv g)) (y := .int .i64 (y.tdiv g)) g0 g1
  refine bodyPost_ret (v := .agg #[.int .i64 (x.tdiv g), .int .i64 (y.tdiv g)]) (by simp [results, Tryz.results35, go_sem, s1, s2]) rfl ⟨by rw [← HP.out, ← HQ.out, HF.out], ?_⟩
  exact (BW.setCell (by simp) _).setCell (by simp) _

theorem minL_succ (l : List (Int × Int)) (k : Nat) (h0 : 0 < k) (hk : k < l.length) : minL (l.take (k + 1)) = minQ (minL (l.take k)) (l[k]?.getD (0, 0)) := by
  rw [List.take_succ_eq_append_getElem hk, List.getElem?_eq_getElem hk]
  cases l with
  | nil => simp at hk
  | cons b l =>
    cases k with
    | zero => omega
    | succ k =>
      have hk' : k < l.length := by simpa using hk
      show List.foldl minQ b (List.take k l ++ [l[k]]) = minQ (List.foldl minQ b (List.take k l)) l[k]
      rw [List.foldl_append]
      rfl
theorem minL_one (l : List (Int × Int)) (h : 0 < l.length) : minL (l.take 1) = l[0]?.getD (0, 0) := by
  cases l with
  | nil => simp at h
  | cons b l => simp [minL]
theorem minL_bd {l : List (Int × Int)} (hb : ∀ j : Nat, -1000000 ≤ (l[j]?.getD (0, 0)).1 ∧ (l[j]?.getD (0, 0)).1 ≤ 1000000 ∧ -1000000 ≤ (l[j]?.getD (0, 0)).2 ∧ (l[j]?.getD (0, 0)).2 ≤ 1000000) (k : Nat) (h0 : 0 < k) (hk : k ≤ l.length) :
    -1000000 ≤ (minL (l.take k)).1 ∧ (minL (l.take k)).1 ≤ 1000000 ∧ -1000000 ≤ (minL (l.take k)).2 ∧ (minL (l.take k)).2 ≤ 1000000 := by
  induction k with
  | zero => omega
  | succ k ih =>
    rcases Nat.eq_zero_or_pos k with rfl | h
    · rw [minL_one l (by omega)]
      exact hb 0
    · rw [minL_succ l k h (by omega)]
      unfold minQ
      split
      · exact hb k
      · exact ih h (by omega)

end Go.Proofs.YtfjcfbmfpefabaaGreat

namespace Go.Proofs.YtfjcfbmfpefabaaGreat
open Go.RowKit
open Calmly (Kept)

/-- An append of a list that is not empty to a row of the call's own, within a plan. -/
theorem mix_appL (i : Nat) {k : Calmly.Plan} {dst : Option Tmp} {s x : Operand} {ty : TypeId} {pos : String} {after : Array Edge} {a : Act} {W0 w : World} {ops : Array Oper} {Q : Exit → Act → World → Prop} {B : Nat} {av lv : Option Addr} {n c m lc : Nat} {xs ys : List Int}
    (hi : ops[i]? = some ⟨dst, .call { callee := .builtin .append, args := #[s, x], argTypes := #[22, 22] }, ty, pos, after, none⟩)
    (hown : OwI w B av n c xs) (hl : SI w lv m lc ys) (hm : 0 < m) (hs : a.eval s = .slice av n c) (hx : a.eval x = .slice lv m lc) (hb1 : n + m ≤ 17592186044416) (hB : B ≤ w.heap.size)
    (h : ∀ a' c' w', OwI w' B a' (n + m) c' (xs ++ ys) → Below B w w' → Kept W0 w' ∧ Calmly.WpMix Tryz.prog ops Q W0 k (a.put dst (.slice a' (n + m) c')) w') :
    Calmly.WpMix Tryz.prog ops Q W0 (.eff i k) a w := by
  refine Calmly.mix_eff hi (fun K hK => ?_)
  obtain ⟨i0, hi0, hz0, hz1, hz2⟩ := info_parts Tryz.info_int
  obtain ⟨g1, g2, g3, g4⟩ := hl
  have hrow : ∀ j, (Value.slice av n c).ownBlock = some j → B ≤ j := fun j hj => (World.ownsRow.lt hown j hj).1
  rcases g4 with rfl | ⟨b, off, rfl, hc⟩
  · omega
  · obtain ⟨v', w', hrun, r1, r2, _⟩ := run_append_own (P := Tryz.prog) w B 22 ty _ i0 (.int .i64 0) 1 8 Tryz.underlying22 hi0 hz0 hz1 hz2 rfl (by decide) (.slice av n c) n (xs.map (Value.int .i64)) hown ⟨b, off, none⟩ m lc (ys.map (Value.int .i64)) g1 (by
      intro j u hj
      have hjl : j < (ys.map (Value.int .i64)).length := (List.getElem?_eq_some_iff.1 hj).1
      have h2 : ((⟨b, off, none⟩ : Addr).add j) = ⟨b, off + j, none⟩ := by
        unfold Addr.add
        split
        · rename_i h0; subst h0; rfl
        · rfl
      rw [h2, hc j (by omega)]
      exact hj) (oneCell_ints ys) (by unfold maxLen; omega) (by omega) hB
    unfold Oper.wp
    simp [execOp, resolve, invoke, builtin, hs, hx, hrun, Result.andThen]
    obtain ⟨a', c', rfl⟩ := owns_slice r1
    exact hK _ _ (h a' c' w' (by unfold OwI; simpa using r1) (grown_below r2 hB hrow))

/-- The first index that is bad, of so many. -/
def fBad (bad : Nat → Bool) : Nat → Nat → Option Nat
  | _, 0 => none
  | k, m + 1 => if bad k = true then some k else fBad bad (k + 1) m
theorem fBad_none {bad : Nat → Bool} {k m : Nat} (h : ∀ t, k ≤ t → t < k + m → bad t = false) : fBad bad k m = none := by
  induction m generalizing k with
  | zero => rfl
  | succ m ih =>
    rw [fBad, h k (by omega) (by omega)]
    exact ih (fun t h1 h2 => h t (by omega) (by omega))
/-- What is returned for the first bad index. -/
def ckOut : Option Nat → Int × Int
  | none => (0, 0)
  | some t => ((t : Int), 19)
/-- A part differs from the sample by another number than the prices say. -/
def ckBad (xs ps : List Int) (D d v u : Int) (n : Nat) (t : Nat) : Bool := decide (fracF (ps[t]?.getD 0 - xs[t]?.getD 0 * D) D ≠ fracF (v + u * ((n : Int) - (t : Int))) d)
end Go.Proofs.YtfjcfbmfpefabaaGreat
