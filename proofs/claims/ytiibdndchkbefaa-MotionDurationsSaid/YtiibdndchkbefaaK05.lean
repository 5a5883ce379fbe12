/- Contracts of chapter 2: the error of a record, and sums. Contracts of chapter 2: the error of a record alone, and sums. Words that the packages share: rows of the call's own under stores below them, what a call laid before it called another one, cells that are stored into. Contracts of chapter 2: traces. Contracts of chapter 2: velocities and displacements. Contracts of chapter 2: the end of samples. Contracts of chapter 2: the greatest size of numbers. Contracts of chapter 2: the reference's error of a record. A range over a function whose loop variable is one that lay before (its cell is written by the assignment), and whose body is never left early. A range over a function whose body is never left early, and may rely on something of each value it is handed. -/
import Derived.Test.YtiibdndchkbefaaK04
import Derived.RangeFuncFrom
import Derived.RangeFuncBound
import Derived.RangeFuncCalls
import Derived.RangeFuncLeaves
import Derived.RangeFuncWrites
import Derived.Shelf.Abstract
import Derived.Shelf.RegionOpen
import Derived.OwnWalkIn
import Derived.TacticsInMore
import Derived.LoopNIn
import Derived.LoopIn
namespace Go.Proofs.Ytiibdndchkbefaa
open Go.RowKit
open Calmly (Kept)

theorem recF_cases (step : Int) (xs : List Int) : recF step xs = if firstE [unlessE (wIn step 1 1000000) 2, unlessE (decide (1 < xs.length)) 10, unlessE (decide (xs.length ≤ 24)) 8] = 0 then (if 0 ≤ badI xs then (badI xs, 2) else (0, 0)) else (0, firstE [unlessE (wIn step 1 1000000) 2, unlessE (decide (1 < xs.length)) 10, unlessE (decide (xs.length ≤ 24)) 8]) := by
  unfold recF badI
  cases wIn step 1 1000000 with
  | false => simp [firstE, unlessE]
  | true =>
    by_cases h1 : 1 < xs.length
    · by_cases h2 : xs.length ≤ 24
      · simp only [h1, h2, if_true, decide_true, unlessE, firstE]
        cases badS xs 0 with
        | none => rfl
        | some i => simp
      · simp [h1, h2, unlessE, firstE]
    · simp [h1, unlessE, firstE]

set_option maxRecDepth 100000 in
set_option maxHeartbeats 1000000 in
theorem CheckRecord_any (step : Int) (a : Option Addr) (n c : Nat) (xs : List Int) (w : World) (h1 : SI w a n c xs) (I E : Int) (hR : recF step xs = (I, E)) :
    Calls Try.prog 30 #[.agg #[.int .i64 step, .slice a n c]] w fun e w' => e = .returned (.tuple #[.int .i64 I, .int .i64 E]) ∧ Below w.heap.size w w' := by
  obtain ⟨l1, l2⟩ : n ≤ xs.length ∧ xs.length ≤ n := by have := h1.len; omega
  have m1 := h1.max
  have c1 := h1.cap
  have hb : ∀ o, Below w.heap.size w (w.alloc o) := fun o => (Below.refl _ _).alloc (Nat.le_refl _) _
  have x1 := alloc_new w (.cells #[.int .i64 step, .slice a n c] 24)
  rw [recF_cases] at hR
  have e1 : decide (1 < xs.length) = decide ((1 : Int) < (n : Int)) := by congr 1; rw [eq_iff_iff]; omega
  have e2 : decide (xs.length ≤ 24) = decide ((n : Int) ≤ 24) := by congr 1; rw [eq_iff_iff]; omega
  rw [e1, e2] at hR
  have HR := Lib.hid hR
  clear hR e1 e2
  go_enter Try.func30, Try.ntmps30
  go_wp2_with fail
  refine Calmly.wp_region_mix 16 (.fl 0 <| .fl 1 <| .fl 4 <| .fl 5 <| .fl 6 <| .fl 7 <| .fl 9 <| .fl 10 <| .fl 11 <| .fl 12 <| .eff 2 <| .eff 3 <| .eff 8 <| .eff 13 <| .eff 14 <| .eff 15 <| .tail [16]) (by kernel_rfl) (by kernel_rfl) ?_
  have BW := (hb (.cells #[.int .i64 step, .slice a n c] 24)).drew
  replace x1 := blk_keep x1 (Below.refl _ _).drew
  generalize World.drew _ = V at x1 BW ⊢
  have f0 := cell_block x1 0
  have f1 := cell_block x1 1
  have hk := Below.refl V.heap.size V
  go_wp2_with (first | ((with_reducible refine Calmly.is_fl ?_); refine Calmly.mix_fl rfl ?_ (fun _ _ => ?_); (first | exact .move _ | exact .load _ _ | exact .fieldAddr _ _ _ (by kernel_rfl) | exact .assign _ | exact .binOp _ _ _ _ _ rfl | exact .indexAddr _ _ _ | exact .len _ _ (by kernel_rfl) | exact .field _ _ _ | exact .extract _ _ | exact .pick _ _ _ | exact .build _ _ | exact .slice _ _ _ _ _ | exact .unOp _ _ _ rfl | exact .index _ _ _ | exact .max _ _ _ rfl rfl | exact .min _ _ _ rfl rfl)) | ((with_reducible refine Calmly.is_gl ?_); refine Calmly.mix_gl rfl rfl rfl ?_; first | ((first | with_reducible refine Calmly.gl_tt ?_ (fun _ _ => ?_) | with_reducible refine Calmly.gl_ff ?_ (fun _ _ => ?_)); (first | exact .move _ | exact .load _ _ | exact .fieldAddr _ _ _ (by kernel_rfl) | exact .assign _ | exact .binOp _ _ _ _ _ rfl | exact .indexAddr _ _ _ | exact .len _ _ (by kernel_rfl) | exact .field _ _ _ | exact .extract _ _ | exact .pick _ _ _ | exact .build _ _ | exact .slice _ _ _ _ _ | exact .unOp _ _ _ rfl | exact .index _ _ _ | exact .max _ _ _ rfl rfl | exact .min _ _ _ rfl rfl)) | with_reducible refine Calmly.gl_tf (fun _ _ => ?_) | with_reducible refine Calmly.gl_ft (fun _ _ => ?_)) | ((with_reducible refine Calmly.is_eff ?_); refine Calmly.mix_eff rfl (fun _ _ => ?_)) | ((with_reducible refine Calmly.is_gf ?_); refine Calmly.mix_gf rfl rfl rfl ?_; first | with_reducible refine Calmly.gf_tt (fun _ _ => ?_) | with_reducible refine Calmly.gf_ff (fun _ _ => ?_) | with_reducible refine Calmly.gf_tf (kept_of hk) (fun _ _ => ?_) | with_reducible refine Calmly.gf_ft (kept_of hk) (fun _ _ => ?_)) | ((with_reducible refine Calmly.is_kept ?_); refine ⟨kept_of hk, ?_⟩) | (with_reducible refine Calmly.mix_alt ?_ ?_) | (refine kept_alloc hk (fun hk' hblk hge => ?_); replace hk := hk'; clear hk') | (go_at_call 94; (refine (nWithin_any _ _ _ _).mono ?_; rintro e w1 ⟨rfl, rfl⟩)) | (go_at_call 90; (refine (nUnless_any _ _ _).mono ?_; rintro e w1 ⟨rfl, rfl⟩)) | (go_at_call 82; (refine (nFirst_any _ 3 3 _ _ (SI.three _ _ _ _ _ (by simp))).mono ?_; rintro e w1 ⟨rfl, rfl⟩; obtain ⟨F, hF⟩ : ∃ F, firstE [unlessE (wIn step 1 1000000) 2, unlessE (decide ((1 : Int) < (n : Int))) 10, unlessE (decide ((n : Int) ≤ 24)) 8] = F := ⟨_, rfl⟩; rw [hF]; have HF := Lib.hid hF; clear hF)))
  have BW2 := BW.trans (hk.mono BW.size)
  have x2 := blk_keep x1 hk
  clear f0 f1
  have f0 := cell_block x2 0
  have f1 := cell_block x2 1
  by_cases hz : F = 0
  · subst hz
    have hR := HR.out
    rw [HF.out, if_pos rfl] at hR
    by_cases hb0 : 0 ≤ badI xs
    · rw [if_pos hb0] at hR
      obtain ⟨rfl, rfl⟩ := Prod.mk.inj hR
      clear HR hR
      go_wp2_with (first | ((with_reducible refine Calmly.is_fl ?_); refine Calmly.mix_fl rfl ?_ (fun _ _ => ?_); (first | exact .move _ | exact .load _ _ | exact .fieldAddr _ _ _ (by kernel_rfl) | exact .assign _ | exact .binOp _ _ _ _ _ rfl | exact .indexAddr _ _ _ | exact .len _ _ (by kernel_rfl) | exact .field _ _ _ | exact .extract _ _ | exact .pick _ _ _ | exact .build _ _ | exact .slice _ _ _ _ _ | exact .unOp _ _ _ rfl | exact .index _ _ _ | exact .max _ _ _ rfl rfl | exact .min _ _ _ rfl rfl)) | ((with_reducible refine Calmly.is_gl ?_); refine Calmly.mix_gl rfl rfl rfl ?_; first | ((first | with_reducible refine Calmly.gl_tt ?_ (fun _ _ => ?_) | with_reducible refine Calmly.gl_ff ?_ (fun _ _ => ?_)); (first | exact .move _ | exact .load _ _ | exact .fieldAddr _ _ _ (by kernel_rfl) | exact .assign _ | exact .binOp _ _ _ _ _ rfl | exact .indexAddr _ _ _ | exact .len _ _ (by kernel_rfl) | exact .field _ _ _ | exact .extract _ _ | exact .pick _ _ _ | exact .build _ _ | exact .slice _ _ _ _ _ | exact .unOp _ _ _ rfl | exact .index _ _ _ | exact .max _ _ _ rfl rfl | exact .min _ _ _ rfl rfl)) | with_reducible refine Calmly.gl_tf (fun _ _ => ?_) | with_reducible refine Calmly.gl_ft (fun _ _ => ?_)) | ((with_reducible refine Calmly.is_eff ?_); refine Calmly.mix_eff rfl (fun _ _ => ?_)) | ((with_reducible refine Calmly.is_gf ?_); refine Calmly.mix_gf rfl rfl rfl ?_; first | with_reducible refine Calmly.gf_tt (fun _ _ => ?_) | with_reducible refine Calmly.gf_ff (fun _ _ => ?_) | with_reducible refine Calmly.gf_tf (kept_of hk) (fun _ _ => ?_) | with_reducible refine Calmly.gf_ft (kept_of hk) (fun _ _ => ?_)) | ((with_reducible refine Calmly.is_tail ?_); first | refine Calmly.mix_tail_nil ?_ | refine Calmly.mix_tail rfl (fun _ _ => ?_)) | ((with_reducible refine Calmly.is_kept ?_); refine ⟨kept_of hk, ?_⟩) | (with_reducible refine Calmly.mix_alt ?_ ?_))
      refine (indexBad_any a n c xs _ ((h1.keep BW).keep hk)).mono ?_
      rintro e w1 ⟨rfl, rfl⟩
      go_wp2_with fail
      go_ret2
      exact ⟨rfl, BW2⟩
    · rw [if_neg hb0] at hR
      obtain ⟨rfl, rfl⟩ := Prod.mk.inj hR
      have hb1 : badI xs < 0 := by omega
      clear HR hR
      go_wp2_with (first | ((with_reducible refine Calmly.is_fl ?_); refine Calmly.mix_fl rfl ?_ (fun _ _ => ?_); (first | exact .move _ | exact .load _ _ | exact .fieldAddr _ _ _ (by kernel_rfl) | exact .assign _ | exact .binOp _ _ _ _ _ rfl | exact .indexAddr _ _ _ | exact .len _ _ (by kernel_rfl) | exact .field _ _ _ | exact .extract _ _ | exact .pick _ _ _ | exact .build _ _ | exact .slice _ _ _ _ _ | exact .unOp _ _ _ rfl | exact .index _ _ _ | exact .max _ _ _ rfl rfl | exact .min _ _ _ rfl rfl)) | ((with_reducible refine Calmly.is_gl ?_); refine Calmly.mix_gl rfl rfl rfl ?_; first | ((first | with_reducible refine Calmly.gl_tt ?_ (fun _ _ => ?_) | with_reducible refine Calmly.gl_ff ?_ (fun _ _ => ?_)); (first | exact .move _ | exact .load _ _ | exact .fieldAddr _ _ _ (by kernel_rfl) | exact .assign _ | exact .binOp _ _ _ _ _ rfl | exact .indexAddr _ _ _ | exact .len _ _ (by kernel_rfl) | exact .field _ _ _ | exact .extract _ _ | exact .pick _ _ _ | exact .build _ _ | exact .slice _ _ _ _ _ | exact .unOp _ _ _ rfl | exact .index _ _ _ | exact .max _ _ _ rfl rfl | exact .min _ _ _ rfl rfl)) | with_reducible refine Calmly.gl_tf (fun _ _ => ?_) | with_reducible refine Calmly.gl_ft (fun _ _ => ?_)) | ((with_reducible refine Calmly.is_eff ?_); refine Calmly.mix_eff rfl (fun _ _ => ?_)) | ((with_reducible refine Calmly.is_gf ?_); refine Calmly.mix_gf rfl rfl rfl ?_; first | with_reducible refine Calmly.gf_tt (fun _ _ => ?_) | with_reducible refine Calmly.gf_ff (fun _ _ => ?_) | with_reducible refine Calmly.gf_tf (kept_of hk) (fun _ _ => ?_) | with_reducible refine Calmly.gf_ft (kept_of hk) (fun _ _ => ?_)) | ((with_reducible refine Calmly.is_tail ?_); first | refine Calmly.mix_tail_nil ?_ | refine Calmly.mix_tail rfl (fun _ _ => ?_)) | ((with_reducible refine Calmly.is_kept ?_); refine ⟨kept_of hk, ?_⟩) | (with_reducible refine Calmly.mix_alt ?_ ?_))
      refine (indexBad_any a n c xs _ ((h1.keep BW).keep hk)).mono ?_
      rintro e w1 ⟨rfl, rfl⟩
      go_wp2_with fail
      go_ret2
      exact ⟨rfl, BW2⟩
  · have hR := HR.out
    rw [HF.out, if_neg hz] at hR
    obtain ⟨rfl, rfl⟩ := Prod.mk.inj hR
    have b1 : (F != 0) = true := by simpa using hz
    clear hz HR hR
    go_wp2_with (first | ((with_reducible refine Calmly.is_fl ?_); refine Calmly.mix_fl rfl ?_ (fun _ _ => ?_); (first | exact .move _ | exact .load _ _ | exact .fieldAddr _ _ _ (by kernel_rfl) | exact .assign _ | exact .binOp _ _ _ _ _ rfl | exact .indexAddr _ _ _ | exact .len _ _ (by kernel_rfl) | exact .field _ _ _ | exact .extract _ _ | exact .pick _ _ _ | exact .build _ _ | exact .slice _ _ _ _ _ | exact .unOp _ _ _ rfl | exact .index _ _ _ | exact .max _ _ _ rfl rfl | exact .min _ _ _ rfl rfl)) | ((with_reducible refine Calmly.is_gl ?_); refine Calmly.mix_gl rfl rfl rfl ?_; first | ((first | with_reducible refine Calmly.gl_tt ?_ (fun _ _ => ?_) | with_reducible refine Calmly.gl_ff ?_ (fun _ _ => ?_)); (first | exact .move _ | exact .load _ _ | exact .fieldAddr _ _ _ (by kernel_rfl) | exact .assign _ | exact .binOp _ _ _ _ _ rfl | exact .indexAddr _ _ _ | exact .len _ _ (by kernel_rfl) | exact .field _ _ _ | exact .extract _ _ | exact .pick _ _ _ | exact .build _ _ | exact .slice _ _ _ _ _ | exact .unOp _ _ _ rfl | exact .index _ _ _ | exact .max _ _ _ rfl rfl | exact .min _ _ _ rfl rfl)) | with_reducible refine Calmly.gl_tf (fun _ _ => ?_) | with_reducible refine Calmly.gl_ft (fun _ _ => ?_)) | ((with_reducible refine Calmly.is_eff ?_); refine Calmly.mix_eff rfl (fun _ _ => ?_)) | ((with_reducible refine Calmly.is_gf ?_); refine Calmly.mix_gf rfl rfl rfl ?_; first | with_reducible refine Calmly.gf_tt (fun _ _ => ?_) | with_reducible refine Calmly.gf_ff (fun _ _ => ?_) | with_reducible refine Calmly.gf_tf (kept_of hk) (fun _ _ => ?_) | with_reducible refine Calmly.gf_ft (kept_of hk) (fun _ _ => ?_)) | ((with_reducible refine Calmly.is_tail ?_); first | refine Calmly.mix_tail_nil ?_ | refine Calmly.mix_tail rfl (fun _ _ => ?_)) | ((with_reducible refine Calmly.is_kept ?_); refine ⟨kept_of hk, ?_⟩) | (with_reducible refine Calmly.mix_alt ?_ ?_))
    go_ret2
    exact ⟨rfl, BW2⟩
end Go.Proofs.Ytiibdndchkbefaa

namespace Go.Proofs.Ytiibdndchkbefaa
open Go.RowKit
open Calmly (Kept)

set_option maxHeartbeats 400000 in
theorem recordErr_any (step : Int) (a : Option Addr) (n c : Nat) (xs : List Int) (w : World) (h1 : SI w a n c xs) (E : Int) (hE : (recF step xs).2 = E) :
    Calls Try.prog 92 #[.agg #[.int .i64 step, .slice a n c]] w fun e w' => e = .returned (.int .i64 E) ∧ Below w.heap.size w w' := by
  have hb : ∀ o, Below w.heap.size w (w.alloc o) := fun o => (Below.refl _ _).alloc (Nat.le_refl _) _
  obtain ⟨I, hI⟩ : ∃ I, recF step xs = (I, E) := ⟨(recF step xs).1, by rw [← hE]⟩
  have HI := Lib.hid hI
  clear hI hE
  go_enter Try.func92, Try.ntmps92
  go_wp2_with fail
  refine (CheckRecord_any step a n c xs _ (h1.keep (hb _)) I E HI.out).mono ?_
  rintro e w1 ⟨rfl, hs⟩
  have BW := (hb (.cells #[.int .i64 step, .slice a n c] 24)).trans (hs.mono (by simp))
  go_wp2_with fail
  go_ret
  exact ⟨rfl, BW⟩

set_option maxRecDepth 100000 in
set_option maxHeartbeats 1000000 in
theorem sums_any (a : Option Addr) (n c : Nat) (xs : List Int) (w : World) (h1 : SI w a n c xs) (hn : n ≤ 1000000) (hb : ∀ j : Nat, -1000000000 ≤ xs[j]?.getD 0 ∧ xs[j]?.getD 0 ≤ 1000000000) :
    Calls Try.prog 111 #[.slice a n c] w fun e w' => ∃ a' c', e = .returned (.slice a' n c') ∧ OwI w' w.heap.size a' n c' (sumsF xs) ∧ Below w.heap.size w w' := by
  obtain ⟨l1, l2⟩ : n ≤ xs.length ∧ xs.length ≤ n := by have := h1.len; omega
  have m1 := h1.max
  have c1 := h1.cap
  have HB := Lib.hid hb
  clear hb
  go_enter Try.func111, Try.ntmps111
  go_wp2_with fail
  go_loopw [4, 3, 9] (fun s v i wr => ∃ (k c' : Nat) (a' : Option Addr), i = .int .i64 (k : Int) ∧ k ≤ n ∧ s = .int .i64 (sumT xs k) ∧ v = .slice a' k c' ∧ OwI wr w.heap.size a' k c' (sumsTo xs k) ∧ Below w.heap.size w wr) (fun _ _ i _ => n - (intOf i).toNat)
  case atStart => exact ⟨0, 0, none, rfl, by omega, rfl, rfl, OwI.nil _ _, Below.refl _ _⟩
  case round =>
    obtain ⟨k, c', a', rfl, hk, rfl, rfl, hown, hbr⟩ := hrel
    have hs := hbr.size
    obtain ⟨b1, b2⟩ := sumT_bd HB.out k
    by_cases hlt : k < n
    · obtain ⟨ba, oa, rfl, hca⟩ := (h1.keep hbr).at_ (by omega)
      have ea := hca k hlt
      have hx := HB.out k
      have hn1 : sumT xs (k + 1) = sumT xs k + xs[k]?.getD 0 := rfl
      have hn2 := sumsTo_succ xs k
      rw [hn1] at hn2
      obtain ⟨x, hxx⟩ : ∃ x, xs[k]?.getD 0 = x := ⟨_, rfl⟩
      obtain ⟨s, hss⟩ : ∃ s, sumT xs k = s := ⟨_, rfl⟩
      rw [hxx] at ea hx hn1 hn2
      rw [hss] at b1 b2 hn1 hn2 ⊢
      have HN1 := Lib.hid hn1
      have HN2 := Lib.hid hn2
      clear hca hn1 hn2 hxx hss
      have hi : (k : Int) < (n : Int) := by omega
      have hi0 : (0 : Int) ≤ (k : Int) := by omega
      go_wp2_with (first | (at_builtin; refine appI rfl _ _ rfl hown rfl rfl (by omega) (by omega) ?_; intro a2' c2' w5 ho5 hb5 hs5))
      go_roundw
      case rel => exact ⟨k + 1, c2', a2', by go_num, by omega, by rw [HN1.out], rfl, by rw [HN2.out]; exact ho5, hbr.trans hb5⟩
      case measure => simp [intOf]; omega
    · have hle : (n : Int) ≤ (k : Int) := by omega
      obtain rfl : n = k := by omega
      go_wp2_with fail
      go_ret
      refine ⟨a', c', rfl, ?_, hbr⟩
      have e : sumsF xs = sumsTo xs n := by unfold sumsF sumsTo; rw [show xs.length = n by omega]
      rw [e]
      exact hown
end Go.Proofs.Ytiibdndchkbefaa

namespace Go.Proofs.Ytiibdndchkbefaa
open Go.RowKit
open Calmly (Kept)

theorem OwI.weak {w : World} {B B' : Nat} {a : Option Addr} {n c : Nat} {xs : List Int} (h : OwI w B a n c xs) (hB : B' ≤ B) : OwI w B' a n c xs := by
  obtain ⟨h1, h2⟩ := h
  refine ⟨h1, ?_⟩
  rcases h2 with h2 | ⟨g, cap, cur, hv, hg, r⟩
  · exact .inl h2
  · exact .inr ⟨g, cap, cur, hv, Nat.le_trans hB hg, r⟩
/-- A store below the call's own rows. -/
theorem OwI.under {w : World} {B : Nat} {a : Option Addr} {n c : Nat} {xs : List Int} (h : OwI w B a n c xs) {r o : Nat} (hr : r < B) (v : Value) : OwI (w.setCell ⟨r, o, none⟩ v) B a n c xs := by
  obtain ⟨h1, h2⟩ := h
  refine ⟨h1, ?_⟩
  rcases h2 with h2 | ⟨g, cap, cur, hv, hg, hh, r'⟩
  · exact .inl h2
  · refine .inr ⟨g, cap, cur, hv, hg, ?_, r'⟩
    rw [Below.heap_setCell _ _ _ _ (by show g ≠ r; omega)]
    exact hh
/-- Two stores below the call's own rows. -/
theorem OwI.under2 {w : World} {B : Nat} {a : Option Addr} {n c : Nat} {xs : List Int} (h : OwI w B a n c xs) {r : Nat} (hr : r < B) (u v : Value) : OwI ((w.setCell ⟨r, 0, none⟩ u).setCell ⟨r, 1, none⟩ v) B a n c xs :=
  (h.under hr u).under hr v

/-- What a call laid before it called another one. -/
theorem box1 {w W w1 : World} {o : Obj} (h : Below W.heap.size W w1) (hW : W.heap = (w.alloc o).heap := by rfl) : w1.heap[w.heap.size]? = some o := by
  rw [h.block _ (by rw [hW]; simp), hW]
  exact alloc_new _ _
theorem box2 {w W w1 : World} {o o' : Obj} (h : Below W.heap.size W w1) (hW : W.heap = ((w.alloc o).alloc o').heap := by rfl) : w1.heap[w.heap.size]? = some o ∧ w1.heap[w.heap.size + 1]? = some o' := by
  have h0 : Below (w.alloc o).heap.size (w.alloc o) ((w.alloc o).alloc o') := (Below.refl _ _).alloc (Nat.le_refl _) _
  refine ⟨?_, ?_⟩
  · rw [h.block _ (by rw [hW]; simp; omega), hW]
    exact box1 (W := w.alloc o) h0
  · rw [h.block _ (by rw [hW]; simp), hW]
    have := alloc_new (w.alloc o) o'
    simpa using this
theorem blk_setAt {W : World} {b : Nat} {cs : Array Value} {t : TypeId} (h : W.heap[b]? = some (.cells cs t)) (i : Nat) (v : Value) : (W.setCell ⟨b, i, none⟩ v).heap[b]? = some (.cells (cs.setIfInBounds i v) t) := by
  simp [World.setCell, Array.getElem?_modify, h]
end Go.Proofs.Ytiibdndchkbefaa

namespace Go.Proofs.Ytiibdndchkbefaa
open Go.RowKit
open Calmly (Kept)

/-- Three cells of a block are stored into. -/
theorem set3 {v : World} {r : Nat} {u0 u1 u2 x y z : Value} {t : TypeId} (h : v.heap[r]? = some (.cells #[u0, u1, u2] t)) :
    (((v.setCell ⟨r, 0, none⟩ x).setCell ⟨r, 1, none⟩ y).setCell ⟨r, 2, none⟩ z).cell? ⟨r, 0, none⟩ = some x ∧ (((v.setCell ⟨r, 0, none⟩ x).setCell ⟨r, 1, none⟩ y).setCell ⟨r, 2, none⟩ z).cell? ⟨r, 1, none⟩ = some y ∧ (((v.setCell ⟨r, 0, none⟩ x).setCell ⟨r, 1, none⟩ y).setCell ⟨r, 2, none⟩ z).cell? ⟨r, 2, none⟩ = some z := by
  have h3 : (((v.setCell ⟨r, 0, none⟩ x).setCell ⟨r, 1, none⟩ y).setCell ⟨r, 2, none⟩ z).heap[r]? = some (.cells #[x, y, z] t) := by
    simp [World.setCell, Array.getElem?_modify, h]
  exact ⟨cell_block h3 0, cell_block h3 1, cell_block h3 2⟩

set_option maxRecDepth 100000 in
set_option maxHeartbeats 1000000 in
theorem of_any (a : Option Addr) (n c : Nat) (xs : List Int) (w : World) (h1 : SI w a n c xs) (hn : n ≤ 26) (hb : ∀ j : Nat, -1000 ≤ xs[j]?.getD 0 ∧ xs[j]?.getD 0 ≤ 1000) :
    Calls Try.prog 148 #[.slice a n c] w fun e w' => ∃ av cv ad cd Bd, e = .returned (.agg #[.slice a n c, .slice av n cv, .slice ad n cd]) ∧ OwI w' (w.heap.size + 1) av n cv (sumsF xs) ∧ OwI w' Bd ad n cd (sumsF (sumsF xs)) ∧ w.heap.size + 1 ≤ Bd ∧ Below w.heap.size w w' := by
  have hA : ∀ o, Below w.heap.size w (w.alloc o) := fun o => (Below.refl _ _).alloc (Nat.le_refl _) _
  have m1 := h1.max
  have c1 := h1.cap
  obtain ⟨l1, l2⟩ : n ≤ xs.length ∧ xs.length ≤ n := by have := h1.len; omega
  have HB := Lib.hid hb
  have hb2 : Hid (∀ j : Nat, -1000000000 ≤ (sumsF xs)[j]?.getD 0 ∧ (sumsF xs)[j]?.getD 0 ≤ 1000000000) := Lib.hid (fun j => by
    rcases Nat.lt_or_ge j xs.length with h | h
    · rw [sumsF_get xs j h]
      have := sumT_bd hb (j + 1)
      omega
    · rw [List.getElem?_eq_none (by rw [sumsF_len]; exact h)]
      simp)
  clear hb
  go_enter Try.func148, Try.ntmps148
  go_wp2_with fail
  refine (sums_any a n c xs _ (h1.keep (hA _)) (by omega) (fun j => by have := HB.out j; omega)).mono ?_
  rintro e w1 ⟨av, cv, rfl, ov, hs⟩
  have x1 := box1 (w := w) (o := .cells #[.slice none 0 0, .slice none 0 0, .slice none 0 0] 177) hs
  have BW := (hA (.cells #[.slice none 0 0, .slice none 0 0, .slice none 0 0] 177)).trans (hs.mono (by simp))
  replace ov : OwI w1 (w.heap.size + 1) av n cv (sumsF xs) := by simpa using ov
  clear hs
  go_wp2_with fail
  refine (sums_any av n cv (sumsF xs) _ ov.si (by omega) hb2.out).mono ?_
  rintro e w2 ⟨ad, cd, rfl, od, hs⟩
  have x2 := blk_keep x1 hs
  have BW2 := BW.trans (hs.mono BW.size)
  have ov2 := ov.keep hs
  have hlt := blk_lt x1
  have f0 := cell_block x2 0
  have f1 := cell_block x2 1
  have f2 := cell_block x2 2
  have f3 := frozen_block x2 0
  have f4 := frozen_block x2 1
  have f5 := frozen_block x2 2
  clear hs ov BW x1
  go_wp2_with fail
  obtain ⟨s1, s2, s3⟩ := set3 (x := .slice a n c) (y := .slice av n cv) (z := .slice ad n cd) x2
  refine bodyPost_ret (v := .agg #[.slice a n c, .slice av n cv, .slice ad n cd]) (by simp [results, Try.results148, go_sem, s1, s2, s3]) rfl ⟨av, cv, ad, cd, w1.heap.size, rfl, ?_, ?_, by omega, ?_⟩
  · exact (ov2.under2 (by omega) _ _).under (by omega) _
  · exact (od.under2 (by omega) _ _).under (by omega) _
  · exact ((BW2.setCell (by simp) _).setCell (by simp) _).setCell (by simp) _
end Go.Proofs.Ytiibdndchkbefaa

namespace Go.Proofs.Ytiibdndchkbefaa
open Go.RowKit
open Calmly (Kept)

theorem idx_tr1 (a b d : Option Addr) (n c m e k f : Nat) (w : World) : Sem.run Try.prog (Instr.index 177 (.agg #[.slice a n c, .slice b m e, .slice d k f]) (.int .i64 1)) w = .ok (.slice b m e) w := by kernel_rfl
theorem idx_tr2 (a b d : Option Addr) (n c m e k f : Nat) (w : World) : Sem.run Try.prog (Instr.index 177 (.agg #[.slice a n c, .slice b m e, .slice d k f]) (.int .i64 2)) w = .ok (.slice d k f) w := by kernel_rfl

set_option maxRecDepth 100000 in
set_option maxHeartbeats 1000000 in
theorem VelocitiesOf_any (step : Int) (a : Option Addr) (n c : Nat) (xs : List Int) (w : World) (h1 : SI w a n c xs) (E : Int) (X : List Int) (hE : (recF step xs).2 = E) (hno : E ≠ 0 → X = []) (hok : E = 0 → X = sumsF xs) :
    Calls Try.prog 31 #[.agg #[.int .i64 step, .slice a n c]] w fun e w' => ∃ a' n' c', e = .returned (.tuple #[.slice a' n' c', .int .i64 E]) ∧ SI w' a' n' c' X ∧ Below w.heap.size w w' := by
  have hA : ∀ (A : World) (o : Obj), Below A.heap.size A (A.alloc o) := fun A o => (Below.refl _ _).alloc (Nat.le_refl _) _
  have HE := Lib.hid hE
  have HNO := Lib.hid hno
  have HOK := Lib.hid hok
  clear hE hno hok
  have m1 := h1.max
  have c1 := h1.cap
  go_enter Try.func31, Try.ntmps31
  go_wp2_with fail
  have key : Calls Try.prog 98 #[.agg #[.int .i64 step, .slice a n c], .int .i64 1] (w.alloc (.cells #[.int .i64 step, .slice a n c] 24)) fun e w' => ∃ a' n' c', e = .returned (.tuple #[.slice a' n' c', .int .i64 E]) ∧ SI w' a' n' c' X ∧ Below (w.heap.size + 1) (w.alloc (.cells #[.int .i64 step, .slice a n c] 24)) w' := by
    obtain ⟨V, hV⟩ : ∃ V, w.alloc (.cells #[.int .i64 step, .slice a n c] 24) = V := ⟨_, rfl⟩
    have hVs : V.heap.size = w.heap.size + 1 := by rw [← hV]; simp
    have g1 : SI V a n c xs := by rw [← hV]; exact h1.keep (hA _ _)
    rw [hV, ← hVs]
    clear hV hVs h1
    go_enter Try.func98, Try.ntmps98
    go_wp2_with fail
    refine (recordErr_any step a n c xs _ (g1.keep (hA _ _)) E HE.out).mono ?_
    rintro e w1 ⟨rfl, hs⟩
    have x1 := box1 (w := V) (o := .cells #[.int .i64 step, .slice a n c] 24) hs
    have BW := (hA V (.cells #[.int .i64 step, .slice a n c] 24)).trans (hs.mono (by simp))
    clear hs
    have f0 := cell_block x1 0
    have f1 := cell_block x1 1
    by_cases hz : E = 0
    case neg =>
      obtain rfl := HNO.out hz
      have b1 : (E != 0) = true := by simpa using hz
      clear hz
      go_wp2_with fail
      go_ret2
      exact ⟨none, 0, 0, rfl, Sl.nil _ 1, BW⟩
    subst hz
    obtain rfl := HOK.out rfl
    obtain ⟨q1, q2, q3, q4, q5⟩ := recF_ok HE.out
    have hn : n ≤ 26 := by have := g1.len; omega
    have H5 := Lib.hid q5
    clear q1 q2 q3 q4 q5
    go_wp2_with fail
    refine (of_any a n c xs _ (g1.keep BW) hn H5.out).mono ?_
    rintro e w2 ⟨av, cv, ad, cd, Bd, rfl, ov, od, hB, hs⟩
    have BW2 := BW.trans (hs.mono BW.size)
    have sv := ov.si
    clear hs f0 f1 ov od
    have hix := idx_tr1 a av ad n c n cv n cd w2
    go_wp2_with fail
    go_ret2
    exact ⟨av, n, cv, rfl, sv, BW2⟩
  refine key.mono ?_
  rintro e w1 ⟨a', n', c', rfl, hs, hb⟩
  have BW := (hA w (.cells #[.int .i64 step, .slice a n c] 24)).trans (hb.mono (by simp))
  go_wp2_with fail
  go_ret2
  exact ⟨a', n', c', rfl, hs, BW⟩

set_option maxRecDepth 100000 in
set_option maxHeartbeats 1000000 in
theorem DisplacementsOf_any (step : Int) (a : Option Addr) (n c : Nat) (xs : List Int) (w : World) (h1 : SI w a n c xs) (E : Int) (X : List Int) (hE : (recF step xs).2 = E) (hno : E ≠ 0 → X = []) (hok : E = 0 → X = sumsF (sumsF xs)) :
    Calls Try.prog 32 #[.agg #[.int .i64 step, .slice a n c]] w fun e w' => ∃ a' n' c', e = .returned (.tuple #[.slice a' n' c', .int .i64 E]) ∧ SI w' a' n' c' X ∧ Below w.heap.size w w' := by
  have hA : ∀ (A : World) (o : Obj), Below A.heap.size A (A.alloc o) := fun A o => (Below.refl _ _).alloc (Nat.le_refl _) _
  have HE := Lib.hid hE
  have HNO := Lib.hid hno
  have HOK := Lib.hid hok
  clear hE hno hok
  have m1 := h1.max
  have c1 := h1.cap
  go_enter Try.func32, Try.ntmps32
  go_wp2_with fail
  have key : Calls Try.prog 98 #[.agg #[.int .i64 step, .slice a n c], .int .i64 2] (w.alloc (.cells #[.int .i64 step, .slice a n c] 24)) fun e w' => ∃ a' n' c', e = .returned (.tuple #[.slice a' n' c', .int .i64 E]) ∧ SI w' a' n' c' X ∧ Below (w.heap.size + 1) (w.alloc (.cells #[.int .i64 step, .slice a n c] 24)) w' := by
    obtain ⟨V, hV⟩ : ∃ V, w.alloc (.cells #[.int .i64 step, .slice a n c] 24) = V := ⟨_, rfl⟩
    have hVs : V.heap.size = w.heap.size + 1 := by rw [← hV]; simp
    have g1 : SI V a n c xs := by rw [← hV]; exact h1.keep (hA _ _)
    rw [hV, ← hVs]
    clear hV hVs h1
    go_enter Try.func98, Try.ntmps98
    go_wp2_with fail
    refine (recordErr_any step a n c xs _ (g1.keep (hA _ _)) E HE.out).mono ?_
    rintro e w1 ⟨rfl, hs⟩
    have x1 := box1 (w := V) (o := .cells #[.int .i64 step, .slice a n c] 24) hs
    have BW := (hA V (.cells #[.int .i64 step, .slice a n c] 24)).trans (hs.mono (by simp))
    clear hs
    have f0 := cell_block x1 0
    have f1 := cell_block x1 1
    by_cases hz : E = 0
    case neg =>
      obtain rfl := HNO.out hz
      have b1 : (E != 0) = true := by simpa using hz
      clear hz
      go_wp2_with fail
      go_ret2
      exact ⟨none, 0, 0, rfl, Sl.nil _ 1, BW⟩
    subst hz
    obtain rfl := HOK.out rfl
    obtain ⟨q1, q2, q3, q4, q5⟩ := recF_ok HE.out
    have hn : n ≤ 26 := by have := g1.len; omega
    have H5 := Lib.hid q5
    clear q1 q2 q3 q4 q5
    go_wp2_with fail
    refine (of_any a n c xs _ (g1.keep BW) hn H5.out).mono ?_
    rintro e w2 ⟨av, cv, ad, cd, Bd, rfl, ov, od, hB, hs⟩
    have BW2 := BW.trans (hs.mono BW.size)
    have sv := od.si
    clear hs f0 f1 ov od
    have hix := idx_tr2 a av ad n c n cv n cd w2
    go_wp2_with fail
    go_ret2
    exact ⟨ad, n, cd, rfl, sv, BW2⟩
  refine key.mono ?_
  rintro e w1 ⟨a', n', c', rfl, hs, hb⟩
  have BW := (hA w (.cells #[.int .i64 step, .slice a n c] 24)).trans (hb.mono (by simp))
  go_wp2_with fail
  go_ret2
  exact ⟨a', n', c', rfl, hs, BW⟩
end Go.Proofs.Ytiibdndchkbefaa

namespace Go.Proofs.Ytiibdndchkbefaa
open Go.RowKit
open Calmly (Kept)

set_option maxRecDepth 100000 in
set_option maxHeartbeats 1000000 in
theorem end_any (a : Option Addr) (n c : Nat) (xs : List Int) (w : World) (h1 : SI w a n c xs) (hn0 : 0 < n) (hn : n ≤ 26) (hb : ∀ j : Nat, -1000 ≤ xs[j]?.getD 0 ∧ xs[j]?.getD 0 ≤ 1000) (V D : Int) (hV : sumT xs n = V) (hD : sumT (sumsF xs) n = D) :
    Calls Try.prog 99 #[.slice a n c] w fun e w' => e = .returned (.agg #[.int .i64 V, .int .i64 D]) ∧ Below w.heap.size w w' := by
  have hA : ∀ (A : World) (o : Obj), Below A.heap.size A (A.alloc o) := fun A o => (Below.refl _ _).alloc (Nat.le_refl _) _
  obtain ⟨l1, l2⟩ : n ≤ xs.length ∧ xs.length ≤ n := by have := h1.len; omega
  have m1 := h1.max
  have c1 := h1.cap
  have HB := Lib.hid hb
  have e1 : (sumsF xs)[n - 1]?.getD 0 = V := by rw [sumsF_get xs (n - 1) (by omega), ← hV]; congr 1; omega
  have e2 : (sumsF (sumsF xs))[n - 1]?.getD 0 = D := by rw [sumsF_get (sumsF xs) (n - 1) (by rw [sumsF_len]; omega), ← hD]; congr 1; omega
  have HE1 := Lib.hid e1
  have HE2 := Lib.hid e2
  clear hb e1 e2 hV hD
  have hn1 : ((n : Int) - 1).toNat = n - 1 := by omega
  have hn2 : (0 : Int) ≤ (n : Int) - 1 := by omega
  have hn3 : (n : Int) - 1 < (n : Int) := by omega
  go_enter Try.func99, Try.ntmps99
  go_wp2_with fail
  refine (of_any a n c xs _ (h1.keep (hA _ _)) hn HB.out).mono ?_
  rintro e w1 ⟨av, cv, ad, cd, Bd, rfl, ov, od, hBd, hs⟩
  have x1 := box1 (w := w) (o := .cells #[.int .i64 0, .int .i64 0] 58) hs
  have BW := (hA w (.cells #[.int .i64 0, .int .i64 0] 58)).trans (hs.mono (by simp))
  have hk3 := hA w1 (.cells #[.slice a n c, .slice av n cv, .slice ad n cd] 177)
  have x3 := alloc_new w1 (.cells #[.slice a n c, .slice av n cv, .slice ad n cd] 177)
  have sv := ov.si.keep hk3
  have sd := od.si.keep hk3
  replace x1 := blk_keep x1 hk3
  replace BW := BW.trans (hk3.mono BW.size)
  obtain ⟨bv, oV, rfl, hcv⟩ := sv.at_ hn0
  obtain ⟨bd, oD, rfl, hcd⟩ := sd.at_ hn0
  have ev := hcv (n - 1) (by omega)
  have ed := hcd (n - 1) (by omega)
  rw [HE1.out] at ev
  rw [HE2.out] at ed
  clear hs hk3 hcv hcd ov od
  go_wp2_with fail
  refine Calmly.wp_region_mix 10 (.fl 0 <| .fl 1 <| .fl 2 <| .fl 3 <| .fl 4 <| .fl 5 <| .fl 6 <| .fl 7 <| .fl 8 <| .fl 9 <| .tail [10, 11]) (by kernel_rfl) (by kernel_rfl) ?_
  replace x3 := blk_keep x3 (Below.refl _ _).drew
  replace x1 := blk_keep x1 (Below.refl _ _).drew
  replace ev := cell_keep ev (Below.refl _ _).drew
  replace ed := cell_keep ed (Below.refl _ _).drew
  replace BW := BW.drew
  clear sv sd
  generalize World.drew _ = U at x1 x3 ev ed BW ⊢
  have f0 := cell_block x3 0
  have f1 := cell_block x3 1
  have f2 := cell_block x3 2
  have g0 := cell_block x1 0
  have g1 := cell_block x1 1
  have g2 := frozen_block x1 0
  have g3 := frozen_block x1 1
  have hk := Below.refl U.heap.size U
  go_wp2_with (first | ((with_reducible refine Calmly.is_fl ?_); refine Calmly.mix_fl rfl ?_ (fun _ _ => ?_); (first | exact .move _ | exact .load _ _ | exact .fieldAddr _ _ _ (by kernel_rfl) | exact .assign _ | exact .binOp _ _ _ _ _ rfl | exact .indexAddr _ _ _ | exact .len _ _ (by kernel_rfl) | exact .field _ _ _ | exact .extract _ _ | exact .pick _ _ _ | exact .build _ _ | exact .slice _ _ _ _ _ | exact .unOp _ _ _ rfl | exact .index _ _ _ | exact .max _ _ _ rfl rfl | exact .min _ _ _ rfl rfl)) | ((with_reducible refine Calmly.is_gl ?_); refine Calmly.mix_gl rfl rfl rfl ?_; first | ((first | with_reducible refine Calmly.gl_tt ?_ (fun _ _ => ?_) | with_reducible refine Calmly.gl_ff ?_ (fun _ _ => ?_)); (first | exact .move _ | exact .load _ _ | exact .fieldAddr _ _ _ (by kernel_rfl) | exact .assign _ | exact .binOp _ _ _ _ _ rfl | exact .indexAddr _ _ _ | exact .len _ _ (by kernel_rfl) | exact .field _ _ _ | exact .extract _ _ | exact .pick _ _ _ | exact .build _ _ | exact .slice _ _ _ _ _ | exact .unOp _ _ _ rfl | exact .index _ _ _ | exact .max _ _ _ rfl rfl | exact .min _ _ _ rfl rfl)) | with_reducible refine Calmly.gl_tf (fun _ _ => ?_) | with_reducible refine Calmly.gl_ft (fun _ _ => ?_)) | ((with_reducible refine Calmly.is_eff ?_); refine Calmly.mix_eff rfl (fun _ _ => ?_)) | ((with_reducible refine Calmly.is_gf ?_); refine Calmly.mix_gf rfl rfl rfl ?_; first | with_reducible refine Calmly.gf_tt (fun _ _ => ?_) | with_reducible refine Calmly.gf_ff (fun _ _ => ?_) | with_reducible refine Calmly.gf_tf (kept_of hk) (fun _ _ => ?_) | with_reducible refine Calmly.gf_ft (kept_of hk) (fun _ _ => ?_)) | ((with_reducible refine Calmly.is_tail ?_); first | refine Calmly.mix_tail_nil ?_ | refine Calmly.mix_tail rfl (fun _ _ => ?_)) | ((with_reducible refine Calmly.is_kept ?_); refine ⟨kept_of hk, ?_⟩) | (with_reducible refine Calmly.mix_alt ?_ ?_))
  obtain ⟨s1, s2, s3, s4⟩ := set2 (x := .int .i64 V) (y := .int .i64 D) g0 g1
  refine bodyPost_ret (v := .agg #[.int .i64 V, .int .i64 D]) (by simp [results, Try.results99, go_sem, s1, s2]) rfl ⟨rfl, ?_⟩
  exact (BW.setCell (by simp) _).setCell (by simp) _
end Go.Proofs.Ytiibdndchkbefaa

namespace Go.Proofs.Ytiibdndchkbefaa
open Go.RowKit
open Calmly (Kept)

set_option maxRecDepth 100000 in
set_option maxHeartbeats 1000000 in
theorem nMax_any (a : Option Addr) (n c : Nat) (xs : List Int) (w : World) (h1 : SI w a n c xs) (h0 : 0 < n) :
    Calls Try.prog 149 #[.slice a n c] w fun e w' => e = .returned (.int .i64 (mxT xs n)) ∧ w = w' := by
  have m1 := h1.max
  have c1 := h1.cap
  obtain ⟨b1, o1, rfl, hc1⟩ := h1.at_ h0
  have e0 := hc1 0 h0
  simp only [Nat.add_zero] at e0
  have hn1 : (1 : Int) ≤ (n : Int) := by omega
  have hn0 : (0 : Int) < (n : Int) := by omega
  go_enter Try.func149, Try.ntmps149
  go_wp2_with fail
  go_loop [3, 4] (fun m i => ∃ k : Nat, 1 ≤ k ∧ k ≤ n ∧ i = .int .i64 k ∧ m = .int .i64 (mxT xs k)) (fun _ i => n - (intOf i).toNat)
  case atStart => exact ⟨1, by omega, by omega, rfl, by simp [mxT]⟩
  case round =>
    obtain ⟨k, hk0, hk, rfl, rfl⟩ := hrel
    by_cases hlt : k < n
    · have e1 := hc1 k hlt
      clear hc1
      have hd : mxT xs (k + 1) = max (mxT xs k) (xs[k]?.getD 0) := rfl
      have HD := Lib.hid hd
      clear hd
      obtain ⟨x, hx⟩ : ∃ x, xs[k]?.getD 0 = x := ⟨_, rfl⟩
      obtain ⟨m, hm⟩ : ∃ m, mxT xs k = m := ⟨_, rfl⟩
      rw [hx] at e1
      rw [hx, hm] at HD
      rw [hm]
      clear hx hm
      have hi : (k : Int) < (n : Int) := by omega
      have hi0 : (0 : Int) ≤ (k : Int) := by omega
      rcases Int.lt_or_le m x with t | t
      · have t' : m ≤ x := by omega
        go_wp2_with fail
        go_round
        case rel => exact ⟨k + 1, by omega, by omega, by go_num, by rw [HD.out]; exact congrArg _ (by omega)⟩
        case measure => simp [intOf]; omega
      · go_wp2_with fail
        go_round
        case rel => exact ⟨k + 1, by omega, by omega, by go_num, by rw [HD.out]; exact congrArg _ (by omega)⟩
        case measure => simp [intOf]; omega
    · have hle : (n : Int) ≤ (k : Int) := by omega
      obtain rfl : k = n := by omega
      go_wp2_with fail
      go_ret
      exact ⟨rfl, rfl⟩

set_option maxRecDepth 100000 in
set_option maxHeartbeats 1000000 in
theorem nMin_any (a : Option Addr) (n c : Nat) (xs : List Int) (w : World) (h1 : SI w a n c xs) (h0 : 0 < n) :
    Calls Try.prog 150 #[.slice a n c] w fun e w' => e = .returned (.int .i64 (mnT xs n)) ∧ w = w' := by
  have m1 := h1.max
  have c1 := h1.cap
  obtain ⟨b1, o1, rfl, hc1⟩ := h1.at_ h0
  have e0 := hc1 0 h0
  simp only [Nat.add_zero] at e0
  have hn1 : (1 : Int) ≤ (n : Int) := by omega
  have hn0 : (0 : Int) < (n : Int) := by omega
  go_enter Try.func150, Try.ntmps150
  go_wp2_with fail
  go_loop [3, 4] (fun m i => ∃ k : Nat, 1 ≤ k ∧ k ≤ n ∧ i = .int .i64 k ∧ m = .int .i64 (mnT xs k)) (fun _ i => n - (intOf i).toNat)
  case atStart => exact ⟨1, by omega, by omega, rfl, by simp [mnT]⟩
  case round =>
    obtain ⟨k, hk0, hk, rfl, rfl⟩ := hrel
    by_cases hlt : k < n
    · have e1 := hc1 k hlt
      clear hc1
      have hd : mnT xs (k + 1) = min (mnT xs k) (xs[k]?.getD 0) := rfl
      have HD := Lib.hid hd
      clear hd
      obtain ⟨x, hx⟩ : ∃ x, xs[k]?.getD 0 = x := ⟨_, rfl⟩
      obtain ⟨m, hm⟩ : ∃ m, mnT xs k = m := ⟨_, rfl⟩
      rw [hx] at e1
      rw [hx, hm] at HD
      rw [hm]
      clear hx hm
      have hi : (k : Int) < (n : Int) := by omega
      have hi0 : (0 : Int) ≤ (k : Int) := by omega
      rcases Int.lt_or_le x m with t | t
      · have t' : x ≤ m := by omega
        go_wp2_with fail
        go_round
        case rel => exact ⟨k + 1, by omega, by omega, by go_num, by rw [HD.out]; exact congrArg _ (by omega)⟩
        case measure => simp [intOf]; omega
      · go_wp2_with fail
        go_round
        case rel => exact ⟨k + 1, by omega, by omega, by go_num, by rw [HD.out]; exact congrArg _ (by omega)⟩
        case measure => simp [intOf]; omega
    · have hle : (n : Int) ≤ (k : Int) := by omega
      obtain rfl : k = n := by omega
      go_wp2_with fail
      go_ret
      exact ⟨rfl, rfl⟩

set_option maxHeartbeats 400000 in
theorem peak_any (a : Option Addr) (n c : Nat) (xs : List Int) (w : World) (h1 : SI w a n c xs) (h0 : 0 < n) (hb : ∀ j : Nat, -9000000000000000000 ≤ xs[j]?.getD 0 ∧ xs[j]?.getD 0 ≤ 9000000000000000000) :
    Calls Try.prog 104 #[.slice a n c] w fun e w' => e = .returned (.int .i64 (gsT xs n)) ∧ w = w' := by
  have hp := peak_law xs n h0
  have hm : -9000000000000000000 ≤ mnT xs n ∧ mnT xs n ≤ 9000000000000000000 := by
    have key : ∀ k, -9000000000000000000 ≤ mnT xs k ∧ mnT xs k ≤ 9000000000000000000 := by
      intro k
      induction k with
      | zero => exact hb 0
      | succ k ih =>
        have := hb k
        rw [mnT]
        omega
    exact key n
  obtain ⟨hm1, hm2⟩ := hm
  have HP := Lib.hid hp
  clear hp hb
  go_enter Try.func104, Try.ntmps104
  go_wp2_with fail
  refine (nMax_any a n c xs _ h1 h0).mono ?_
  rintro e w1 ⟨rfl, rfl⟩
  go_wp2_with fail
  refine (nMin_any a n c xs _ h1 h0).mono ?_
  rintro e w1 ⟨rfl, rfl⟩
  obtain ⟨M, hM⟩ : ∃ M, mxT xs n = M := ⟨_, rfl⟩
  obtain ⟨m, hm⟩ : ∃ m, mnT xs n = m := ⟨_, rfl⟩
  rw [hM, hm] at HP
  rw [hm] at hm1 hm2 ⊢
  rw [hM]
  clear hM hm
  go_wp2_with fail
  all_goals
    go_ret
    refine ⟨ret_int ?_, rfl⟩
    rw [← HP.out]
    omega

set_option maxRecDepth 100000 in
set_option maxHeartbeats 1000000 in
theorem rGreatest_any (a : Option Addr) (n c : Nat) (xs : List Int) (w : World) (h1 : SI w a n c xs) (hb : ∀ j : Nat, -9000000000000000000 ≤ xs[j]?.getD 0 ∧ xs[j]?.getD 0 ≤ 9000000000000000000) :
    Calls Try.prog 93 #[.slice a n c] w fun e w' => e = .returned (.int .i64 (gsT xs n)) ∧ ∃ k, w' = w.drewN k := by
  have m1 := h1.max
  have c1 := h1.cap
  have HB := Lib.hid hb
  clear hb
  go_enter Try.func93, Try.ntmps93
  go_wp2_with fail
  go_loopw [3, 4] (fun g i wr => ∃ k : Nat, k ≤ n ∧ i = .int .i64 k ∧ g = .int .i64 (gsT xs k) ∧ ∃ q, wr = w.drewN q) (fun _ i _ => n - (intOf i).toNat)
  case atStart => exact ⟨0, by omega, rfl, rfl, 0, rfl⟩
  case round =>
    obtain ⟨k, hk, rfl, rfl, q, rfl⟩ := hrel
    by_cases hlt : k < n
    · obtain ⟨b1, o1, rfl, hc1⟩ := h1.at_ (by omega)
      have e1 := hc1 k hlt
      clear hc1
      have hd : gsT xs (k + 1) = max (gsT xs k) (((xs[k]?.getD 0).natAbs : Nat) : Int) := by rw [gsT, sizeOf_abs]
      have HD := Lib.hid hd
      clear hd
      have hx := HB.out k
      obtain ⟨x, hxx⟩ : ∃ x, xs[k]?.getD 0 = x := ⟨_, rfl⟩
      obtain ⟨m, hm⟩ : ∃ m, gsT xs k = m := ⟨_, rfl⟩
      rw [hxx] at e1 hx
      rw [hxx, hm] at HD
      rw [hm]
      clear hxx hm
      obtain ⟨hx1, hx2⟩ := hx
      have hi : (k : Int) < (n : Int) := by omega
      have hi0 : (0 : Int) ≤ (k : Int) := by omega
      go_wp2_with fail
      refine (size_any _ _ (by omega) (by omega)).mono ?_
      rintro e w1 ⟨rfl, rfl⟩
      rcases Int.lt_or_le m ((x.natAbs : Nat) : Int) with t | t
      · have t' : m ≤ ((x.natAbs : Nat) : Int) := by omega
        go_wp2_with fail
        go_roundw
        case rel => exact ⟨k + 1, by omega, by go_num, by rw [HD.out]; exact congrArg _ (by omega), q, rfl⟩
        case measure => simp [intOf]; omega
      · go_wp2_with fail
        go_roundw
        case rel => exact ⟨k + 1, by omega, by go_num, by rw [HD.out]; exact congrArg _ (by omega), q, rfl⟩
        case measure => simp [intOf]; omega
    · have hle : (n : Int) ≤ (k : Int) := by omega
      obtain rfl : k = n := by omega
      go_wp2_with fail
      go_ret
      exact ⟨rfl, q, rfl⟩
end Go.Proofs.Ytiibdndchkbefaa

namespace Go.Proofs.Ytiibdndchkbefaa
open Go.RowKit
open Calmly (Kept)

set_option maxHeartbeats 400000 in
theorem rIsSample_any (x : Int) (w : World) : Calls Try.prog 74 #[.int .i64 x] w fun e w' => e = .returned (.bool (smp x)) ∧ w = w' := by
  go_enter Try.func74, Try.ntmps74
  go_wp2_with fail
  refine (within_any _ _ _ _).mono ?_
  rintro e w1 ⟨rfl, rfl⟩
  go_wp2_with fail
  go_ret
  exact ⟨rfl, rfl⟩

set_option maxRecDepth 100000 in
set_option maxHeartbeats 1000000 in
theorem rCheckRecord_any (step : Int) (a : Option Addr) (n c : Nat) (xs : List Int) (w : World) (h1 : SI w a n c xs) (I E : Int) (hR : recF step xs = (I, E)) :
    Calls Try.prog 34 #[.agg #[.int .i64 step, .slice a n c]] w fun e w' => e = .returned (.tuple #[.int .i64 I, .int .i64 E]) ∧ Below w.heap.size w w' := by
  obtain ⟨l1, l2⟩ : n ≤ xs.length ∧ xs.length ≤ n := by have := h1.len; omega
  have m1 := h1.max
  have c1 := h1.cap
  have BW : Below w.heap.size w (w.alloc (.cells #[.int .i64 step, .slice a n c] 24)) := (Below.refl _ _).alloc (Nat.le_refl _) _
  have x1 := alloc_new w (.cells #[.int .i64 step, .slice a n c] 24)
  unfold recF at hR
  have HR := Lib.hid hR
  clear hR
  go_enter Try.func34, Try.ntmps34
  go_wp2_with fail
  refine (within_any _ _ _ _).mono ?_
  rintro e w1 ⟨rfl, rfl⟩
  cases hw : wIn step 1 1000000
  · have hR := HR.out
    rw [hw, if_neg (by simp)] at hR
    obtain ⟨rfl, rfl⟩ := Prod.mk.inj hR
    clear hR HR
    go_wp2_with fail
    go_ret2
    exact ⟨rfl, BW⟩
  have hR := HR.out
  rw [hw, if_pos rfl] at hR
  replace HR := Lib.hid hR
  clear hR
  by_cases hn1 : n ≤ 1
  · have hn2 : (n : Int) < 2 := by omega
    have hR := HR.out
    rw [if_neg (by omega)] at hR
    obtain ⟨rfl, rfl⟩ := Prod.mk.inj hR
    clear hR HR
    go_wp2_with fail
    go_ret2
    exact ⟨rfl, BW⟩
  have hn2 : (2 : Int) ≤ (n : Int) := by omega
  by_cases hn3 : 24 < n
  · have hn4 : (24 : Int) < (n : Int) := by omega
    have hR := HR.out
    rw [if_pos (by omega), if_neg (by omega)] at hR
    obtain ⟨rfl, rfl⟩ := Prod.mk.inj hR
    clear hR HR
    go_wp2_with fail
    go_ret2
    exact ⟨rfl, BW⟩
  have hn4 : (n : Int) ≤ 24 := by omega
  have hR := HR.out
  rw [if_pos (by omega), if_pos (by omega)] at hR
  replace HR := Lib.hid hR
  clear hR
  obtain ⟨V, hV⟩ : ∃ V, w.alloc (.cells #[.int .i64 step, .slice a n c] 24) = V := ⟨_, rfl⟩
  rw [hV] at x1 BW ⊢
  clear hV
  have f0 := cell_block x1 0
  have f1 := cell_block x1 1
  go_wp2_with fail
  go_loop [4] (fun i => ∃ k : Nat, k ≤ n ∧ i = .int .i64 k ∧ badS xs 0 = badS (xs.drop k) k) (fun i => n - (intOf i).toNat)
  case atStart => exact ⟨0, by omega, rfl, rfl⟩
  case round =>
    obtain ⟨k, hk, rfl, ht⟩ := hrel
    have HT := Lib.hid ht
    clear ht
    by_cases hlt : k < n
    · obtain ⟨b1, o1, rfl, hc1⟩ := (h1.keep BW).at_ (by omega)
      have e1 := hc1 k hlt
      clear hc1
      have hi : (k : Int) < (n : Int) := by omega
      have hi0 : (0 : Int) ≤ (k : Int) := by omega
      have hd := badS_drop xs k (by omega)
      obtain ⟨x, hxx⟩ : ∃ x, xs[k]?.getD 0 = x := ⟨_, rfl⟩
      rw [hxx] at e1 hd
      have HD := Lib.hid hd
      clear hxx hd
      go_wp2_with fail
      refine (rIsSample_any _ _).mono ?_
      rintro e w1 ⟨rfl, rfl⟩
      cases ho : smp x
      · have hR := HR.out
        rw [HT.out, HD.out, ho] at hR
        obtain ⟨rfl, rfl⟩ := Prod.mk.inj hR
        clear hR HR
        go_wp2_with fail
        go_ret2
        exact ⟨rfl, BW⟩
      · go_wp2_with fail
        go_round
        case rel => exact ⟨k + 1, by omega, by go_num, by rw [HT.out, HD.out, ho]; rfl⟩
        case measure => simp [intOf]; omega
    · have hle : (n : Int) ≤ (k : Int) := by omega
      have hR := HR.out
      rw [HT.out, List.drop_eq_nil_of_le (by omega)] at hR
      obtain ⟨rfl, rfl⟩ := Prod.mk.inj hR
      clear hR HR
      go_wp2_with fail
      go_ret2
      exact ⟨rfl, BW⟩
end Go.Proofs.Ytiibdndchkbefaa

namespace Go
open Go.RowKit Go.Shelf

/-- Every round goes on. -/
def OnOn {α : Type} (P : Program) (gf : Nat) (lb : Array Value) (enc : α → Array Value) (Kp : World → World → Prop) (S : List α → Prop) (N m : Nat) (w : World) : Prop :=
  ∀ (l : Nat) (J : List α → World → Prop) (W : World), Below w.heap.size w W → AbidesFrom W.heap.size J →
    (∀ pre x W1, J pre W1 → pre.length < N → YieldAt Fence.wide m P l (enc x) W1 fun e W' => e = .returned (.bool true) ∧ J (pre ++ [x]) W' ∧ Kp W1 W') →
    J [] W → Calls P gf (#[.func (.yield l) #[] #[]] ++ lb) W fun e W' => (∃ v, e = .returned v) ∧ ∃ xs, S xs ∧ J xs W'

theorem range_mid {P : Program} {n : Nat} {α : Type} {g : Operand} {ps : Array Tmp} {assign body : Code} {Q : Exit → Act → World → Prop} {a : Act} {w : World} {gf : Nat} {lb : Array Value}
    (hg : a.eval g = .func (.func gf) #[] lb) (eg : ∀ args w, (callFunc gf args).run P w = .ok (.enter gf args) w)
    {enc : α → Array Value} {Kp : World → World → Prop} {S : List α → Prop} {N m : Nat} (hseq : OnOn P gf lb enc Kp S N m w)
    (hKt : ∀ {A B C : World}, Kp A B → Kp B C → Kp A C) (hKb : ∀ (W : World) (l : Nat) (o o' : Obj), w.heap.size ≤ l → W.heap[l]? = some o → o.isCells = false → Kp W (W.putObj l o')) (hps : ∀ x, (enc x).size = ps.size)
    (I : List α → World → Prop) (hI : OwnFrom w.heap.size I) (h0 : I [] w) (Mid : List α → α → Act → World → Prop) (hM : ∀ pre x a', OwnFrom w.heap.size (fun (_ : Unit) W => Mid pre x a' W))
    (hassign : ∀ (l : Nat) (pre : List α) (x : α) (W : World) (K : Act → World → Prop), I pre W → pre.length < N → (∀ a' W', KeepsOthers W W' → Kp W W' → Mid pre x a' W' → K a' W') →
      assign.wpIn (Fence.wide.inRound l) m P (Exit.then K (fun _ _ _ => False)) { tmps := (ps.zip (enc x)).foldl (fun t (p, v) => t.setIfInBounds p v) a.tmps, defers := [] } W)
    (hbody : ∀ (l : Nat) (pre : List α) (x : α) (a' : Act) (W : World), Mid pre x a' W → body.wpIn (Fence.wide.inRound l) m P (fun e _ W' => e = .normal ∧ KeepsOthers W W' ∧ Kp W W' ∧ I (pre ++ [x]) W') a' W)
    (hdone : ∀ (D : Nat) (xs : List α) (W : World), w.heap.size ≤ D → S xs → I xs W → W.heap[D]? = some (.deferred (some [])) → Q .normal { a with defers := { target := .collected D, args := #[] } :: a.defers } W) :
    (Code.rangeFunc g ps assign body).wpIn Fence.wide n P Q a w := by
  refine wpIn_rangeFunc fun fn hfn => ?_
  obtain ⟨rec, hrec⟩ : ∃ rec : LoopState → Loop, rec = fun st => { state := st, pending := none, fn, tmps := a.tmps, params := ps, assign, body, defers := w.heap.size } := ⟨_, rfl⟩
  obtain ⟨W1, hW1⟩ : ∃ W1, (w.alloc (.deferred (some []))).alloc (.loop (rec .ready)) = W1 := ⟨_, rfl⟩
  have hL : W1.heap[w.heap.size + 1]? = some (.loop (rec .ready)) := by
    have := Go.Proofs.Ytiibdndchkbefaa.alloc_new (w.alloc (.deferred (some []))) (.loop (rec .ready))
    rw [← hW1]
    simpa using this
  have hD : W1.heap[w.heap.size]? = some (.deferred (some [])) := by
    rw [← hW1, Below.heap_alloc _ _ _ (by simp)]
    exact Go.Proofs.Ytiibdndchkbefaa.alloc_new w _
  have hb1 : Below w.heap.size w W1 := by
    rw [← hW1]
    exact ((Below.refl _ w).alloc (Nat.le_refl _) _).alloc (by simp) _
  have hI1 : I [] W1 := by
    rw [← hW1]
    exact hI.alloc _ (hI.alloc _ h0)
  have hs1 : W1.heap.size = w.heap.size + 2 := by rw [← hW1]; simp
  refine ⟨w.heap.size + 1, [{ target := .collected w.heap.size, args := #[] }], W1, { target := .fn (.func gf) lb, args := #[.func (.yield (w.heap.size + 1)) #[] #[]] }, W1, gf, #[.func (.yield (w.heap.size + 1)) #[] #[]] ++ lb, W1, ?_, ?_, fun _ _ => trivial, ?_, fun h => absurd h (by simp [Fence.wide]), ?_⟩
  · rw [← hW1, hrec]
    exact run_enterLoop_outer _ _ _ _ _
  · simp only [resolve, hg]
    simp [go_sem]
  · simp [invoke, go_sem, eg]
  · refine callsIn_wide.2 ?_
    refine (hseq (w.heap.size + 1) (fun pre W => (I pre W ∧ W.heap[w.heap.size + 1]? = some (.loop (rec .ready))) ∧ W.heap[w.heap.size]? = some (.deferred (some []))) W1 hb1 ?_ ?_ ⟨⟨hI1, hL⟩, hD⟩).mono ?_
    · -- what the iterator does of its own
      rintro s A B row ⟨⟨hs, hl⟩, hk⟩ hg' hr
      have hne : ∀ j, j < w.heap.size + 2 → some j ≠ row := fun j hj e => by
        have := (hr j e.symm).1
        omega
      refine ⟨⟨hI s A B row hs hg' fun r e => ?_, ?_⟩, ?_⟩
      · obtain ⟨h1, o, h2, h3⟩ := hr r e
        exact ⟨by omega, o, h2, Obj.not_cells_of_walk h3⟩
      · exact (hg'.block _ (Array.getElem?_eq_some_iff.1 hl).1 (hne _ (by omega))).trans hl
      · exact (hg'.block _ (Array.getElem?_eq_some_iff.1 hk).1 (hne _ (by omega))).trans hk
    · -- one round
      rintro pre x W ⟨⟨hi, hl⟩, hk⟩ hlen
      have hy := run_yield (P := P) (args := enc x) hl (by rw [hrec]; exact hps x)
      rw [hrec] at hy
      refine ⟨fn, _, assign, body, hy, roundIn_of_wpIn hfn (hassign _ pre x W _ hi hlen ?_)⟩
      intro a' Wa ha1 ha2 ha3
      have hl1 := ha1.same _ _ hl rfl
      have hk1 := ha1.same _ _ hk rfl
      have hlt : w.heap.size + 1 < Wa.heap.size := (Array.getElem?_eq_some_iff.1 hl1).1
      refine ⟨_, run_beginRound hl1 (by rw [hrec]), ?_⟩
      have hl2 : (Wa.putObj (w.heap.size + 1) (.loop { rec .ready with state := .busy })).heap[w.heap.size + 1]? = some (.loop { rec .ready with state := .busy }) := World.putObj_heap_same hlt
      have hk2 : (Wa.putObj (w.heap.size + 1) (.loop { rec .ready with state := .busy })).heap[w.heap.size]? = some (.deferred (some [])) := (World.putObj_heap_other (by omega)).trans hk1
      refine wpIn_mono (hbody _ pre x a' _ ((hM pre x a').putObj (s := ()) _ ha3 (by omega) hl1 rfl)) ?_
      rintro e a3 W3 ⟨rfl, hb3, hk3, hi3⟩
      have hl3 := hb3.same _ _ hl2 rfl
      have hr := run_endRound (P := P) none hl3
      rw [hrec] at hr hl3
      refine ⟨_, _, hr, rfl, ⟨⟨hI.putObj _ hi3 (by omega) hl3 rfl, ?_⟩, ?_⟩, ?_⟩
      · rw [hrec]
        exact World.putObj_heap_same (Array.getElem?_eq_some_iff.1 hl3).1
      · exact (World.putObj_heap_other (by omega)).trans (hb3.same _ _ hk2 rfl)
      · exact hKt ha2 (hKt (hKt (hKb _ _ _ _ (by omega) hl1 rfl) hk3) (hKb _ _ _ _ (by omega) hl3 rfl))
    · -- at the end
      rintro e W2 ⟨⟨v, rfl⟩, xs, hS, ⟨hi, hl⟩, hk⟩
      have hr := run_endLoop (P := P) hl (by rw [hrec]; simp)
      rw [hrec] at hr
      exact ⟨none, _, hr, hdone _ xs _ (Nat.le_refl _) hS (hI.putObj _ hi (by omega) hl rfl) ((World.putObj_heap_other (by omega)).trans hk)⟩
end Go

namespace Go
open Go.RowKit Go.Shelf

/-- Every round goes on. -/
def OnOnP {α : Type} (P : Program) (gf : Nat) (lb : Array Value) (enc : α → Array Value) (Kp : World → World → Prop) (Px : α → World → Prop) (S : List α → Prop) (m : Nat) (w : World) : Prop :=
  ∀ (l : Nat) (J : List α → World → Prop) (W : World), Below w.heap.size w W → AbidesFrom W.heap.size J →
    (∀ pre x W1, J pre W1 → Px x W1 → YieldAt Fence.wide m P l (enc x) W1 fun e W' => e = .returned (.bool true) ∧ J (pre ++ [x]) W' ∧ Kp W1 W') →
    J [] W → Calls P gf (#[.func (.yield l) #[] #[]] ++ lb) W fun e W' => (∃ v, e = .returned v) ∧ ∃ xs, S xs ∧ J xs W'

theorem range_midP {P : Program} {n : Nat} {α : Type} {g : Operand} {ps : Array Tmp} {assign body : Code} {Q : Exit → Act → World → Prop} {a : Act} {w : World} {gf : Nat} {lb : Array Value}
    (hg : a.eval g = .func (.func gf) #[] lb) (eg : ∀ args w, (callFunc gf args).run P w = .ok (.enter gf args) w)
    {enc : α → Array Value} {Kp : World → World → Prop} {Px : α → World → Prop} {S : List α → Prop} {m : Nat} (hseq : OnOnP P gf lb enc Kp Px S m w)
    (hKt : ∀ {A B C : World}, Kp A B → Kp B C → Kp A C) (hKb : ∀ (W : World) (l : Nat) (o o' : Obj), w.heap.size ≤ l → W.heap[l]? = some o → o.isCells = false → Kp W (W.putObj l o')) (hps : ∀ x, (enc x).size = ps.size)
    (I : List α → World → Prop) (hI : OwnFrom w.heap.size I) (h0 : I [] w) (Mid : List α → α → Act → World → Prop) (hM : ∀ pre x a', OwnFrom w.heap.size (fun (_ : Unit) W => Mid pre x a' W))
    (hassign : ∀ (l : Nat) (pre : List α) (x : α) (W : World) (K : Act → World → Prop), I pre W → Px x W → (∀ a' W', KeepsOthers W W' → Kp W W' → Mid pre x a' W' → K a' W') →
      assign.wpIn (Fence.wide.inRound l) m P (Exit.then K (fun _ _ _ => False)) { tmps := (ps.zip (enc x)).foldl (fun t (p, v) => t.setIfInBounds p v) a.tmps, defers := [] } W)
    (hbody : ∀ (l : Nat) (pre : List α) (x : α) (a' : Act) (W : World), Mid pre x a' W → body.wpIn (Fence.wide.inRound l) m P (fun e _ W' => e = .normal ∧ KeepsOthers W W' ∧ Kp W W' ∧ I (pre ++ [x]) W') a' W)
    (hdone : ∀ (D : Nat) (xs : List α) (W : World), w.heap.size ≤ D → S xs → I xs W → W.heap[D]? = some (.deferred (some [])) → Q .normal { a with defers := { target := .collected D, args := #[] } :: a.defers } W) :
    (Code.rangeFunc g ps assign body).wpIn Fence.wide n P Q a w := by
  refine wpIn_rangeFunc fun fn hfn => ?_
  obtain ⟨rec, hrec⟩ : ∃ rec : LoopState → Loop, rec = fun st => { state := st, pending := none, fn, tmps := a.tmps, params := ps, assign, body, defers := w.heap.size } := ⟨_, rfl⟩
  obtain ⟨W1, hW1⟩ : ∃ W1, (w.alloc (.deferred (some []))).alloc (.loop (rec .ready)) = W1 := ⟨_, rfl⟩
  have hL : W1.heap[w.heap.size + 1]? = some (.loop (rec .ready)) := by
    have := Go.Proofs.Ytiibdndchkbefaa.alloc_new (w.alloc (.deferred (some []))) (.loop (rec .ready))
    rw [← hW1]
    simpa using this
  have hD : W1.heap[w.heap.size]? = some (.deferred (some [])) := by
    rw [← hW1, Below.heap_alloc _ _ _ (by simp)]
    exact Go.Proofs.Ytiibdndchkbefaa.alloc_new w _
  have hb1 : Below w.heap.size w W1 := by
    rw [← hW1]
    exact ((Below.refl _ w).alloc (Nat.le_refl _) _).alloc (by simp) _
  have hI1 : I [] W1 := by
    rw [← hW1]
    exact hI.alloc _ (hI.alloc _ h0)
  have hs1 : W1.heap.size = w.heap.size + 2 := by rw [← hW1]; simp
  refine ⟨w.heap.size + 1, [{ target := .collected w.heap.size, args := #[] }], W1, { target := .fn (.func gf) lb, args := #[.func (.yield (w.heap.size + 1)) #[] #[]] }, W1, gf, #[.func (.yield (w.heap.size + 1)) #[] #[]] ++ lb, W1, ?_, ?_, fun _ _ => trivial, ?_, fun h => absurd h (by simp [Fence.wide]), ?_⟩
  · rw [← hW1, hrec]
    exact run_enterLoop_outer _ _ _ _ _
  · simp only [resolve, hg]
    simp [go_sem]
  · simp [invoke, go_sem, eg]
  · refine callsIn_wide.2 ?_
    refine (hseq (w.heap.size + 1) (fun pre W => (I pre W ∧ W.heap[w.heap.size + 1]? = some (.loop (rec .ready))) ∧ W.heap[w.heap.size]? = some (.deferred (some []))) W1 hb1 ?_ ?_ ⟨⟨hI1, hL⟩, hD⟩).mono ?_
    · -- what the iterator does of its own
      rintro s A B row ⟨⟨hs, hl⟩, hk⟩ hg' hr
      have hne : ∀ j, j < w.heap.size + 2 → some j ≠ row := fun j hj e => by
        have := (hr j e.symm).1
        omega
      refine ⟨⟨hI s A B row hs hg' fun r e => ?_, ?_⟩, ?_⟩
      · obtain ⟨h1, o, h2, h3⟩ := hr r e
        exact ⟨by omega, o, h2, Obj.not_cells_of_walk h3⟩
      · exact (hg'.block _ (Array.getElem?_eq_some_iff.1 hl).1 (hne _ (by omega))).trans hl
      · exact (hg'.block _ (Array.getElem?_eq_some_iff.1 hk).1 (hne _ (by omega))).trans hk
    · -- one round
      rintro pre x W ⟨⟨hi, hl⟩, hk⟩ hpx
      have hy := run_yield (P := P) (args := enc x) hl (by rw [hrec]; exact hps x)
      rw [hrec] at hy
      refine ⟨fn, _, assign, body, hy, roundIn_of_wpIn hfn (hassign _ pre x W _ hi hpx ?_)⟩
      intro a' Wa ha1 ha2 ha3
      have hl1 := ha1.same _ _ hl rfl
      have hk1 := ha1.same _ _ hk rfl
      have hlt : w.heap.size + 1 < Wa.heap.size := (Array.getElem?_eq_some_iff.1 hl1).1
      refine ⟨_, run_beginRound hl1 (by rw [hrec]), ?_⟩
      have hl2 : (Wa.putObj (w.heap.size + 1) (.loop { rec .ready with state := .busy })).heap[w.heap.size + 1]? = some (.loop { rec .ready with state := .busy }) := World.putObj_heap_same hlt
      have hk2 : (Wa.putObj (w.heap.size + 1) (.loop { rec .ready with state := .busy })).heap[w.heap.size]? = some (.deferred (some [])) := (World.putObj_heap_other (by omega)).trans hk1
      refine wpIn_mono (hbody _ pre x a' _ ((hM pre x a').putObj (s := ()) _ ha3 (by omega) hl1 rfl)) ?_
      rintro e a3 W3 ⟨rfl, hb3, hk3, hi3⟩
      have hl3 := hb3.same _ _ hl2 rfl
      have hr := run_endRound (P := P) none hl3
      rw [hrec] at hr hl3
      refine ⟨_, _, hr, rfl, ⟨⟨hI.putObj _ hi3 (by omega) hl3 rfl, ?_⟩, ?_⟩, ?_⟩
      · rw [hrec]
        exact World.putObj_heap_same (Array.getElem?_eq_some_iff.1 hl3).1
      · exact (World.putObj_heap_other (by omega)).trans (hb3.same _ _ hk2 rfl)
      · exact hKt ha2 (hKt (hKt (hKb _ _ _ _ (by omega) hl1 rfl) hk3) (hKb _ _ _ _ (by omega) hl3 rfl))
    · -- at the end
      rintro e W2 ⟨⟨v, rfl⟩, xs, hS, ⟨hi, hl⟩, hk⟩
      have hr := run_endLoop (P := P) hl (by rw [hrec]; simp)
      rw [hrec] at hr
      exact ⟨none, _, hr, hdone _ xs _ (Nat.le_refl _) hS (hI.putObj _ hi (by omega) hl rfl) ((World.putObj_heap_other (by omega)).trans hk)⟩
end Go
