/- Contracts of chapter 6: the error of a decay. Contracts of chapter 6: a decay opened. Contracts of chapter 6: the period of a decay. -/
import Derived.Test.YtmaidjankakppaaK06
namespace Go.Proofs.Ytmaidjankakppaa
open Go.RowKit
open Calmly (Kept)

/-- A sample that is too great. -/
def odd1 (x : Int) : Bool := !wIn x (-10000) 10000

set_option maxHeartbeats 400000 in
theorem oddFn_any (x : Int) (w : World) : Calls Try.prog 151 #[.int .i64 x] w fun e w' => e = .returned (.bool (odd1 x)) ∧ w = w' := by
  go_enter Try.func151, Try.ntmps151
  go_wp2_with fail
  refine (isSized_any x 10000 _ (by omega) (by omega)).mono ?_
  rintro e w1 ⟨rfl, rfl⟩
  go_wp2_with fail
  go_ret
  exact ⟨rfl, rfl⟩

set_option maxRecDepth 100000 in
set_option maxHeartbeats 1000000 in
theorem indexOdd_any (a : Option Addr) (n c : Nat) (xs : List Int) (w : World) (h1 : SI w a n c xs) :
    Calls Try.prog 143 #[.slice a n c, .func (.func 151) #[] #[]] w fun e w' => (∃ i : Int, e = .returned (.int .i64 i) ∧ decide (0 ≤ i) = xs.any odd1) ∧ w = w' := by
  obtain ⟨l1, l2⟩ : n ≤ xs.length ∧ xs.length ≤ n := by have := h1.len; omega
  have m1 := h1.max
  have c1 := h1.cap
  go_enter Try.func143, Try.ntmps143
  go_wp2_with fail
  go_loop [8] (fun i => ∃ k : Nat, k ≤ n ∧ i = .int .i64 k ∧ ∀ j, j < k → odd1 (xs[j]?.getD 0) = false) (fun i => n - (intOf i).toNat)
  case atStart => exact ⟨0, by omega, rfl, fun j hj => by omega⟩
  case round =>
    obtain ⟨k, hk, rfl, ht⟩ := hrel
    have HT := Lib.hid ht
    clear ht
    by_cases hlt : k < n
    · obtain ⟨b1, o1, rfl, hc1⟩ := h1.at_ (by omega)
      have e1 := hc1 k hlt
      clear hc1
      have hi : (k : Int) < (n : Int) := by omega
      have hi0 : (0 : Int) ≤ (k : Int) := by omega
      have hx : xs[k]? = some (xs[k]?.getD 0) := by
        have : k < xs.length := by omega
        simp [this]
      have HX := Lib.hid hx
      clear hx
      obtain ⟨x, hxx⟩ : ∃ x, xs[k]?.getD 0 = x := ⟨_, rfl⟩
      rw [hxx] at e1 HX
      have HXX := Lib.hid hxx
      clear hxx
      go_wp2_with fail
      refine (oddFn_any _ _).mono ?_
      rintro e w1 ⟨rfl, rfl⟩
      cases ho : odd1 x
      · go_wp2_with fail
        go_round
        case rel => exact ⟨k + 1, by omega, by go_num, fun j hj => if h : j = k then by subst h; rw [HXX.out]; exact ho else HT.out j (by omega)⟩
        case measure => simp [intOf]; omega
      · go_wp2_with fail
        go_ret
        refine ⟨⟨k, rfl, ?_⟩, rfl⟩
        have : xs.any odd1 = true := List.any_eq_true.2 ⟨x, List.mem_of_getElem? HX.out, ho⟩
        rw [this]
        simp
    · have hle : (n : Int) ≤ (k : Int) := by omega
      go_wp2_with fail
      go_ret
      refine ⟨⟨-1, rfl, ?_⟩, rfl⟩
      have : xs.any odd1 = false := by
        rw [List.any_eq_false]
        intro x hx
        obtain ⟨j, hj, rfl⟩ := List.mem_iff_getElem.1 hx
        have := HT.out j (by omega)
        simp [hj] at this
        simp [this]
      rw [this]
      rfl

set_option maxRecDepth 100000 in
set_option maxHeartbeats 1000000 in
theorem containsOdd_any (a : Option Addr) (n c : Nat) (xs : List Int) (w : World) (h1 : SI w a n c xs) :
    Calls Try.prog 118 #[.slice a n c, .func (.func 151) #[] #[]] w fun e w' => e = .returned (.bool (xs.any odd1)) ∧ w = w' := by
  go_enter Try.func118, Try.ntmps118
  go_wp2_with fail
  refine (indexOdd_any a n c xs _ h1).mono ?_
  rintro e w1 ⟨⟨i, rfl, hi⟩, rfl⟩
  have HI := Lib.hid hi
  clear hi
  go_wp2_with fail
  go_ret
  exact ⟨ret_bool HI.out, rfl⟩

/-- The error of a decay. -/
def decayE (xs : List Int) (off : Int) : Int := firstE [unlessE (decide (0 < xs.length)) 10, unlessE (decide ((xs.length : Int) ≤ 60)) 8, unlessE (!xs.any odd1) 2, unlessE (wIn off 0 10000) 2]

set_option maxRecDepth 100000 in
set_option maxHeartbeats 1000000 in
theorem decayErr_any (a : Option Addr) (n c : Nat) (xs : List Int) (off : Int) (w : World) (h1 : SI w a n c xs) :
    Calls Try.prog 141 #[.agg #[.slice a n c, .int .i64 off]] w fun e w' => e = .returned (.int .i64 (decayE xs off)) ∧ Below w.heap.size w w' := by
  obtain ⟨l1, l2⟩ : n ≤ xs.length ∧ xs.length ≤ n := by have := h1.len; omega
  have hb : ∀ o, Below w.heap.size w (w.alloc o) := fun o => (Below.refl _ _).alloc (Nat.le_refl _) _
  go_enter Try.func141, Try.ntmps141
  go_wp2_with fail
  refine (containsOdd_any a n c xs _ (h1.keep (hb _))).mono ?_
  rintro e w1 ⟨rfl, rfl⟩
  go_wp2_with fail
  refine Calmly.wp_region_mix 19 (.fl 0 <| .fl 1 <| .fl 2 <| .fl 3 <| .fl 5 <| .fl 6 <| .fl 7 <| .fl 8 <| .fl 10 <| .fl 11 <| .fl 13 <| .fl 14 <| .eff 4 <| .eff 9 <| .eff 12 <| .eff 15 <| .eff 16 <| .eff 17 <| .eff 18 <| .tail [19]) (by kernel_rfl) (by kernel_rfl) ?_
  have hk : Below (w.alloc (.cells #[.slice a n c, .int .i64 off] 87)).drew.heap.size (w.alloc (.cells #[.slice a n c, .int .i64 off] 87)).drew (w.alloc (.cells #[.slice a n c, .int .i64 off] 87)).drew := Below.refl _ _
  go_wp2_with (first | ((with_reducible refine Calmly.is_fl ?_); refine Calmly.mix_fl rfl ?_ (fun _ _ => ?_); (first | exact .move _ | exact .load _ _ | exact .fieldAddr _ _ _ (by kernel_rfl) | exact .assign _ | exact .binOp _ _ _ _ _ rfl | exact .indexAddr _ _ _ | exact .len _ _ (by kernel_rfl) | exact .field _ _ _ | exact .extract _ _ | exact .pick _ _ _ | exact .build _ _ | exact .slice _ _ _ _ _ | exact .unOp _ _ _ rfl | exact .index _ _ _ | exact .max _ _ _ rfl rfl | exact .min _ _ _ rfl rfl)) | ((with_reducible refine Calmly.is_gl ?_); refine Calmly.mix_gl rfl rfl rfl ?_; first | ((first | with_reducible refine Calmly.gl_tt ?_ (fun _ _ => ?_) | with_reducible refine Calmly.gl_ff ?_ (fun _ _ => ?_)); (first | exact .move _ | exact .load _ _ | exact .fieldAddr _ _ _ (by kernel_rfl) | exact .assign _ | exact .binOp _ _ _ _ _ rfl | exact .indexAddr _ _ _ | exact .len _ _ (by kernel_rfl) | exact .field _ _ _ | exact .extract _ _ | exact .pick _ _ _ | exact .build _ _ | exact .slice _ _ _ _ _ | exact .unOp _ _ _ rfl | exact .index _ _ _ | exact .max _ _ _ rfl rfl | exact .min _ _ _ rfl rfl)) | with_reducible refine Calmly.gl_tf (fun _ _ => ?_) | with_reducible refine Calmly.gl_ft (fun _ _ => ?_)) | ((with_reducible refine Calmly.is_eff ?_); refine Calmly.mix_eff rfl (fun _ _ => ?_)) | ((with_reducible refine Calmly.is_gf ?_); refine Calmly.mix_gf rfl rfl rfl ?_; first | with_reducible refine Calmly.gf_tt (fun _ _ => ?_) | with_reducible refine Calmly.gf_ff (fun _ _ => ?_) | with_reducible refine Calmly.gf_tf (kept_of hk) (fun _ _ => ?_) | with_reducible refine Calmly.gf_ft (kept_of hk) (fun _ _ => ?_)) | ((with_reducible refine Calmly.is_kept ?_); refine ⟨kept_of hk, ?_⟩) | (with_reducible refine Calmly.mix_alt ?_ ?_) | (refine kept_alloc hk (fun hk' hblk hge => ?_); replace hk := hk'; clear hk') | (go_at_call 92; refine (unless_any _ _ _).mono ?_; rintro e w' ⟨rfl, rfl⟩) | (go_at_call 93; refine (mWithin_any _ _ _ _).mono ?_; rintro e w' ⟨rfl, rfl⟩))
  refine (first_any _ 4 4 _ _ (SI.four _ _ _ _ _ _ (size_alloc_drew _ _))).mono ?_
  rintro e w' ⟨rfl, rfl⟩
  go_wp2_with (first | ((with_reducible refine Calmly.is_fl ?_); refine Calmly.mix_fl rfl ?_ (fun _ _ => ?_); (first | exact .move _ | exact .load _ _ | exact .fieldAddr _ _ _ (by kernel_rfl) | exact .assign _ | exact .binOp _ _ _ _ _ rfl | exact .indexAddr _ _ _ | exact .len _ _ (by kernel_rfl) | exact .field _ _ _ | exact .extract _ _ | exact .pick _ _ _ | exact .build _ _ | exact .slice _ _ _ _ _ | exact .unOp _ _ _ rfl | exact .index _ _ _ | exact .max _ _ _ rfl rfl | exact .min _ _ _ rfl rfl)) | ((with_reducible refine Calmly.is_gl ?_); refine Calmly.mix_gl rfl rfl rfl ?_; first | ((first | with_reducible refine Calmly.gl_tt ?_ (fun _ _ => ?_) | with_reducible refine Calmly.gl_ff ?_ (fun _ _ => ?_)); (first | exact .move _ | exact .load _ _ | exact .fieldAddr _ _ _ (by kernel_rfl) | exact .assign _ | exact .binOp _ _ _ _ _ rfl | exact .indexAddr _ _ _ | exact .len _ _ (by kernel_rfl) | exact .field _ _ _ | exact .extract _ _ | exact .pick _ _ _ | exact .build _ _ | exact .slice _ _ _ _ _ | exact .unOp _ _ _ rfl | exact .index _ _ _ | exact .max _ _ _ rfl rfl | exact .min _ _ _ rfl rfl)) | with_reducible refine Calmly.gl_tf (fun _ _ => ?_) | with_reducible refine Calmly.gl_ft (fun _ _ => ?_)) | ((with_reducible refine Calmly.is_eff ?_); refine Calmly.mix_eff rfl (fun _ _ => ?_)) | ((with_reducible refine Calmly.is_gf ?_); refine Calmly.mix_gf rfl rfl rfl ?_; first | with_reducible refine Calmly.gf_tt (fun _ _ => ?_) | with_reducible refine Calmly.gf_ff (fun _ _ => ?_) | with_reducible refine Calmly.gf_tf (kept_of hk) (fun _ _ => ?_) | with_reducible refine Calmly.gf_ft (kept_of hk) (fun _ _ => ?_)) | ((with_reducible refine Calmly.is_tail ?_); first | refine Calmly.mix_tail_nil ?_ | refine Calmly.mix_tail rfl (fun _ _ => ?_)) | ((with_reducible refine Calmly.is_kept ?_); refine ⟨kept_of hk, ?_⟩) | (with_reducible refine Calmly.mix_alt ?_ ?_))
  go_ret
  refine ⟨ret_int ?_, (hb _).drew.alloc (by simp) _⟩
  unfold decayE
  rw [show (xs.length : Int) = (n : Int) by omega, show xs.length = n by omega]
end Go.Proofs.Ytmaidjankakppaa

namespace Go.Proofs.Ytmaidjankakppaa
open Go.RowKit
open Calmly (Kept)

/-- The crossings from a sample on, the last sample that was surely below being known, or -1. -/
def crossF (off : Int) : Int → Int → List Int → List (Int × Int)
  | _, _, [] => []
  | i, b, x :: l => if x < -off then crossF off (i + 1) i l else if off < x ∧ 0 ≤ b then (b, i) :: crossF off (i + 1) (-1) l else crossF off (i + 1) b l
theorem crossF_drop (off : Int) (xs : List Int) (k : Nat) (b : Int) (h : k < xs.length) : crossF off k b (xs.drop k) =
    if xs[k]?.getD 0 < -off then crossF off (k + 1 : Nat) k (xs.drop (k + 1)) else if off < xs[k]?.getD 0 ∧ 0 ≤ b then (b, (k : Int)) :: crossF off (k + 1 : Nat) (-1) (xs.drop (k + 1)) else crossF off (k + 1 : Nat) b (xs.drop (k + 1)) := by
  rw [List.drop_eq_getElem_cons h]
  simp [crossF, h]
theorem crossF_len (off i b : Int) (l : List Int) : (crossF off i b l).length ≤ l.length := by
  induction l generalizing i b with
  | nil => simp [crossF]
  | cons x l ih =>
    unfold crossF
    split
    · have := ih (i + 1) i; simp; omega
    · split
      · have := ih (i + 1) (-1); simp; omega
      · have := ih (i + 1) b; simp; omega
theorem blk_set3 {W : World} {b : Nat} {x y z : Value} {t : TypeId} (h : W.heap[b]? = some (.cells #[x, y, z] t)) (v : Value) : (W.setCell ⟨b, 2, none⟩ v).heap[b]? = some (.cells #[x, y, v] t) := by
  simp [World.setCell, Array.getElem?_modify, h]
/-- Three cells of a block are stored into. -/
theorem set3 {v : World} {r : Nat} {x y z u0 u1 u2 : Value} (h0 : v.cell? ⟨r, 0, none⟩ = some u0) (h1 : v.cell? ⟨r, 1, none⟩ = some u1) (h2 : v.cell? ⟨r, 2, none⟩ = some u2) :
    (((v.setCell ⟨r, 0, none⟩ x).setCell ⟨r, 1, none⟩ y).setCell ⟨r, 2, none⟩ z).cell? ⟨r, 0, none⟩ = some x ∧ (((v.setCell ⟨r, 0, none⟩ x).setCell ⟨r, 1, none⟩ y).setCell ⟨r, 2, none⟩ z).cell? ⟨r, 1, none⟩ = some y ∧
      (((v.setCell ⟨r, 0, none⟩ x).setCell ⟨r, 1, none⟩ y).setCell ⟨r, 2, none⟩ z).cell? ⟨r, 2, none⟩ = some z := by
  obtain ⟨s1, s2, _, _⟩ := set2 (x := x) (y := y) h0 h1
  have e0 : (v.setCell ⟨r, 0, none⟩ x).cell? ⟨r, 2, none⟩ = some u2 := by rw [World.cell?_setCell_other _ _ _ _ (by simp)]; exact h2
  have e1 : ((v.setCell ⟨r, 0, none⟩ x).setCell ⟨r, 1, none⟩ y).cell? ⟨r, 2, none⟩ = some u2 := by rw [World.cell?_setCell_other _ _ _ _ (by simp)]; exact e0
  refine ⟨?_, ?_, World.cell?_setCell_same _ _ _ e1⟩
  · rw [World.cell?_setCell_other _ _ _ _ (by simp)]; exact s1
  · rw [World.cell?_setCell_other _ _ _ _ (by simp)]; exact s2
theorem decayE_ok {xs : List Int} {off : Int} (h : decayE xs off = 0) : 0 < xs.length ∧ xs.length ≤ 60 ∧ (∀ j : Nat, -10000 ≤ xs[j]?.getD 0 ∧ xs[j]?.getD 0 ≤ 10000) ∧ 0 ≤ off ∧ off ≤ 10000 := by
  have hu : ∀ (b : Bool) (x : Int), x ≠ 0 → unlessE b x = 0 → b = true := fun b x hx hb => by
    cases b
    · exact absurd hb hx
    · rfl
  have h4 : ∀ x y z u : Int, firstE [x, y, z, u] = 0 → x = 0 ∧ y = 0 ∧ z = 0 ∧ u = 0 := fun x y z u hh => by
    unfold firstE at hh
    split at hh
    · rw [firstE_three] at hh
      rename_i hx
      refine ⟨hx, ?_⟩
      split at hh
      · split at hh
        · exact ⟨by assumption, by assumption, hh⟩
        · exact absurd hh (by assumption)
      · exact absurd hh (by assumption)
    · exact absurd hh (by assumption)
  obtain ⟨a1, a2, a3, a4⟩ := h4 _ _ _ _ h
  have b1 := hu _ _ (by decide) a1
  have b2 := hu _ _ (by decide) a2
  have b3 := hu _ _ (by decide) a3
  have b4 := hu _ _ (by decide) a4
  simp only [decide_eq_true_eq] at b1 b2
  refine ⟨b1, by omega, fun j => ?_, wIn_iff.1 b4⟩
  rcases Nat.lt_or_ge j xs.length with hj | hj
  · rw [List.getElem?_eq_getElem hj]
    simp only [Bool.not_eq_true', List.any_eq_false] at b3
    have := b3 _ (List.getElem_mem hj)
    unfold odd1 at this
    simp only [Bool.not_eq_true, Bool.not_eq_false'] at this
    simpa using wIn_iff.1 this
  · rw [List.getElem?_eq_none hj]
    decide

set_option maxRecDepth 100000 in
set_option maxHeartbeats 4000000 in
theorem openDecay_err (a : Option Addr) (n c : Nat) (xs : List Int) (off E : Int) (w : World) (h1 : SI w a n c xs) (hE : decayE xs off = E) (hz : E ≠ 0) :
    Calls Try.prog 113 #[.agg #[.slice a n c, .int .i64 off]] w fun e w' => e = .returned (.tuple #[.agg #[.slice none 0 0, .int .i64 0, .slice none 0 0], .int .i64 E]) ∧ Below w.heap.size w w' := by
  have hb : Below w.heap.size w ((w.alloc (.cells #[.slice a n c, .int .i64 off] 87)).alloc (.cells #[.slice none 0 0, .int .i64 0, .slice none 0 0] 163)) := ((Below.refl _ _).alloc (Nat.le_refl _) _).alloc (by simp) _
  have HE := Lib.hid hE
  clear hE
  have hz1 : (E != 0) = true := by simpa using hz
  clear hz
  go_enter Try.func113, Try.ntmps113
  go_wp2_with fail
  refine (decayErr_any a n c xs off _ (h1.keep hb)).mono ?_
  rintro e w1 ⟨rfl, hb1⟩
  obtain ⟨x1, x2⟩ := box2 (w := w) (o := .cells #[.slice a n c, .int .i64 off] 87) (o' := .cells #[.slice none 0 0, .int .i64 0, .slice none 0 0] 163) hb1
  rw [HE.out]
  have g0 : w1.cell? ⟨w.heap.size + 1, 0, none⟩ = some (.slice none 0 0) := cell_block x2 0
  have g1 : w1.cell? ⟨w.heap.size + 1, 1, none⟩ = some (.int .i64 0) := cell_block x2 1
  have g2 : w1.cell? ⟨w.heap.size + 1, 2, none⟩ = some (.slice none 0 0) := cell_block x2 2
  have r0 := frozen_block x2 0
  have r1 := frozen_block x2 1
  have r2 := frozen_block x2 2
  obtain ⟨s0, s1, s2⟩ := set3 (x := .slice none 0 0) (y := .int .i64 0) (z := .slice none 0 0) g0 g1 g2
  have hbw := hb.trans (hb1.mono (by simp; omega))
  go_wp2_with fail
  refine bodyPost_ret (v := .tuple #[.agg #[.slice none 0 0, .int .i64 0, .slice none 0 0], .int .i64 E]) (by simp [results, Try.results113, go_sem, s0, s1, s2]) rfl ⟨rfl, ?_⟩
  exact ((hbw.setCell (by simp) _).setCell (by simp) _).setCell (by simp) _

set_option maxRecDepth 100000 in
set_option maxHeartbeats 4000000 in
theorem openDecay_ok (a : Option Addr) (n c : Nat) (xs : List Int) (off : Int) (w : World) (h1 : SI w a n c xs) (hE : decayE xs off = 0) :
    Calls Try.prog 113 #[.agg #[.slice a n c, .int .i64 off]] w fun e w' => ∃ a' L c', e = .returned (.tuple #[.agg #[.slice a n c, .int .i64 off, .slice a' L c'], .int .i64 0]) ∧ OwR w' w.heap.size a' L c' (crossF off 0 (-1) xs) ∧ Below w.heap.size w w' := by
  have hb : Below w.heap.size w ((w.alloc (.cells #[.slice a n c, .int .i64 off] 87)).alloc (.cells #[.slice none 0 0, .int .i64 0, .slice none 0 0] 163)) := ((Below.refl _ _).alloc (Nat.le_refl _) _).alloc (by simp) _
  obtain ⟨l1, l2⟩ : n ≤ xs.length ∧ xs.length ≤ n := by have := h1.len; omega
  obtain ⟨v1, v2, v3, v4, v5⟩ := decayE_ok hE
  have HE := Lib.hid hE
  have V3 := Lib.hid v3
  clear hE v3
  go_enter Try.func113, Try.ntmps113
  go_wp2_with fail
  refine (decayErr_any a n c xs off _ (h1.keep hb)).mono ?_
  rintro e w1 ⟨rfl, hb1⟩
  obtain ⟨x1, x2⟩ := box2 (w := w) (o := .cells #[.slice a n c, .int .i64 off] 87) (o' := .cells #[.slice none 0 0, .int .i64 0, .slice none 0 0] 163) hb1
  rw [HE.out]
  have hs0 := blk_lt x1
  have hs1 := blk_lt x2
  have f0 : w1.cell? ⟨w.heap.size, 0, none⟩ = some (.slice a n c) := cell_block x1 0
  have f1 : w1.cell? ⟨w.heap.size, 1, none⟩ = some (.int .i64 off) := cell_block x1 1
  go_wp2_with fail
  have hbw : Below w.heap.size w w1 := hb.trans (hb1.mono (by simp; omega))
  have ba : Below w1.heap.size w1 (w1.alloc (.cells #[.slice a n c, .int .i64 off, .slice none 0 0] 163)) := (Below.refl _ _).alloc (Nat.le_refl _) _
  go_loopw [6, 20] (fun x z wr => ∃ (k L c' : Nat) (bl : Int) (a' : Option Addr) (acc : List (Int × Int)), k ≤ n ∧ x = .int .i64 bl ∧ z = .int .i64 k ∧ -1 ≤ bl ∧ bl < k ∧ L ≤ k ∧ wr.heap[w1.heap.size]? = some (.cells #[.slice a n c, .int .i64 off, .slice a' L c'] 163) ∧ OwR wr (w1.heap.size + 1) a' L c' acc ∧ acc ++ crossF off k bl (xs.drop k) = crossF off 0 (-1) xs ∧ Below w1.heap.size w1 wr) (fun _ z _ => n - (intOf z).toNat)
  case atStart => exact ⟨0, 0, 0, -1, none, [], by omega, rfl, rfl, by omega, by omega, by omega, alloc_new _ _, OwR.nil _ _, rfl, ba⟩
  case round =>
    obtain ⟨k, L, c', bl, a', acc, hk, rfl, rfl, hb0, hb1', hL, hblk, hown, hcr, hbr⟩ := hrel
    have HCR := Lib.hid hcr
    clear hcr
    have hbw' := hbw.trans (hbr.mono (by omega))
    have f0' := cell_keep f0 hbr
    have f1' := cell_keep f1 hbr
    have hsD := blk_lt hblk
    by_cases hlt : k < n
    · obtain ⟨b1, o1, rfl, hc1⟩ := h1.at_ (by omega)
      have e1 := cell_keep (hc1 k hlt) hbw'
      clear hc1
      have hd := crossF_drop off xs k bl (by omega)
      have hv := V3.out k
      have HD := Lib.hid hd
      clear hd
      obtain ⟨x, hx⟩ : ∃ x, xs[k]?.getD 0 = x := ⟨_, rfl⟩
      rw [hx] at e1 hv HD
      clear hx
      have hi : (k : Int) < (n : Int) := by omega
      have hi0 : (0 : Int) ≤ (k : Int) := by omega
      by_cases t1 : x < -off
      · rw [if_pos t1] at HD
        go_wp2_with fail
        go_roundw
        case rel => exact ⟨k + 1, L, c', k, a', acc, by omega, rfl, by go_num, by omega, by omega, by omega, hblk, hown, by rw [← HD.out]; exact HCR.out, hbr⟩
        case measure => simp [intOf]; omega
      · rw [if_neg t1] at HD
        have t1' : -off ≤ x := by omega
        clear t1
        by_cases t2 : off < x
        · by_cases t3 : 0 ≤ bl
          · rw [if_pos ⟨t2, t3⟩] at HD
            have d2 : wr.cell? ⟨w1.heap.size, 2, none⟩ = some (.slice a' L c') := cell_block hblk 2
            go_wp2_with (refine appR (B := w1.heap.size + 1) (l := acc) rfl _ _ rfl hown rfl rfl (by omega) (by omega) ?_; intro a2 c2 w5 ho5 hb5 hs5; have hblk5 := (hb5.block _ (Nat.lt_succ_self _)).trans hblk; have d5 : w5.cell? ⟨w1.heap.size, 2, none⟩ = some (.slice a' L c') := cell_block hblk5 2; have r5 := frozen_block hblk5 2)
            go_roundw
            case rel =>
              refine ⟨k + 1, L + 1, c2, -1, a2, acc ++ [(bl, (k : Int))], by omega, rfl, by go_num, by omega, by omega, by omega, blk_set3 hblk5 _, ho5.under (by omega) _, ?_, (hbr.trans (hb5.mono (by omega))).setCell (by simp) _⟩
              rw [List.append_assoc]
              exact (congrArg (acc ++ ·) HD.out.symm).trans HCR.out
            case measure => simp [intOf]; omega
          · rw [if_neg (fun h => t3 h.2)] at HD
            have t3' : bl < 0 := by omega
            clear t3
            go_wp2_with fail
            go_roundw
            case rel => exact ⟨k + 1, L, c', bl, a', acc, by omega, rfl, by go_num, by omega, by omega, by omega, hblk, hown, by rw [← HD.out]; exact HCR.out, hbr⟩
            case measure => simp [intOf]; omega
        · rw [if_neg (fun h => t2 h.1)] at HD
          have t2' : x ≤ off := by omega
          clear t2
          go_wp2_with fail
          go_roundw
          case rel => exact ⟨k + 1, L, c', bl, a', acc, by omega, rfl, by go_num, by omega, by omega, by omega, hblk, hown, by rw [← HD.out]; exact HCR.out, hbr⟩
          case measure => simp [intOf]; omega
    · have hle : (n : Int) ≤ (k : Int) := by omega
      have hacc : acc = crossF off 0 (-1) xs := by
        have := HCR.out
        rw [List.drop_eq_nil_of_le (by omega)] at this
        simpa [crossF] using this
      have x2' := blk_keep x2 hbr
      have d0 : wr.cell? ⟨w1.heap.size, 0, none⟩ = some (.slice a n c) := cell_block hblk 0
      have d1 : wr.cell? ⟨w1.heap.size, 1, none⟩ = some (.int .i64 off) := cell_block hblk 1
      have d2 : wr.cell? ⟨w1.heap.size, 2, none⟩ = some (.slice a' L c') := cell_block hblk 2
      have g0 : wr.cell? ⟨w.heap.size + 1, 0, none⟩ = some (.slice none 0 0) := cell_block x2' 0
      have g1 : wr.cell? ⟨w.heap.size + 1, 1, none⟩ = some (.int .i64 0) := cell_block x2' 1
      have g2 : wr.cell? ⟨w.heap.size + 1, 2, none⟩ = some (.slice none 0 0) := cell_block x2' 2
      have r0 := frozen_block x2' 0
      have r1 := frozen_block x2' 1
      have r2 := frozen_block x2' 2
      obtain ⟨s0, s1, s2⟩ := set3 (x := .slice a n c) (y := .int .i64 off) (z := .slice a' L c') g0 g1 g2
      go_wp2_with fail
      refine bodyPost_ret (v := .tuple #[.agg #[.slice a n c, .int .i64 off, .slice a' L c'], .int .i64 0]) (by simp [results, Try.results113, go_sem, s0, s1, s2]) rfl ⟨a', L, c', rfl, ?_, ?_⟩
      · rw [← hacc]
        exact (((hown.under (by omega) _).under (by omega) _).under (by omega) _).weak (by omega)
      · exact ((hbw'.setCell (by simp) _).setCell (by simp) _).setCell (by simp) _
end Go.Proofs.Ytmaidjankakppaa

namespace Go.Proofs.Ytmaidjankakppaa
open Go.RowKit
open Calmly (Kept)

theorem blk_setAt {W : World} {b : Nat} {cs : Array Value} {t : TypeId} (h : W.heap[b]? = some (.cells cs t)) (i : Nat) (v : Value) : (W.setCell ⟨b, i, none⟩ v).heap[b]? = some (.cells (cs.setIfInBounds i v) t) := by
  simp [World.setCell, Array.getElem?_modify, h]
/-- A fraction in lowest terms. -/
def fracF (x y : Int) : Int × Int := (x.tdiv (Int.gcd x y), y.tdiv (Int.gcd x y))
def periodE (xs : List Int) (off : Int) : Int := firstE [decayE xs off, unlessE (decide (1 ≤ ((crossF off 0 (-1) xs).length : Int) - 1)) 12]
def periodF (xs : List Int) (off : Int) : (Int × Int) × (Int × Int) :=
  let c := crossF off 0 (-1) xs
  let n := c.length - 1
  (fracF ((c[n]?.getD (0, 0)).1 - (c[0]?.getD (0, 0)).2) (n : Int), fracF ((c[n]?.getD (0, 0)).2 - (c[0]?.getD (0, 0)).1) (n : Int))

theorem kept_two (X : World) (A B : Obj) : Kept X.drew ((X.alloc A).alloc B).drew := by
  have h : Below X.heap.size X ((X.alloc A).alloc B) := ((Below.refl _ _).alloc (Nat.le_refl _) _).alloc (by simp) _
  exact ⟨h.size, h.block⟩
/-- Four cells of a block are stored into. -/
theorem set4 {v : World} {r : Nat} {u0 u1 u2 u3 x y z u : Value} {t : TypeId} (h : v.heap[r]? = some (.cells #[u0, u1, u2, u3] t)) :
    ((((v.setCell ⟨r, 0, none⟩ x).setCell ⟨r, 1, none⟩ y).setCell ⟨r, 2, none⟩ z).setCell ⟨r, 3, none⟩ u).heap[r]? = some (.cells #[x, y, z, u] t) :=
  blk_setAt (blk_setAt (blk_setAt (blk_setAt h 0 x) 1 y) 2 z) 3 u

theorem openD_any (a : Option Addr) (n c : Nat) (xs : List Int) (off : Int) (w : World) (h1 : SI w a n c xs) :
    Calls Try.prog 113 #[.agg #[.slice a n c, .int .i64 off]] w fun e w' => ∃ a' L c' a0 n0 c0 o0, e = .returned (.tuple #[.agg #[.slice a0 n0 c0, .int .i64 o0, .slice a' L c'], .int .i64 (decayE xs off)]) ∧
      (decayE xs off = 0 → a0 = a ∧ n0 = n ∧ c0 = c ∧ o0 = off ∧ OwR w' w.heap.size a' L c' (crossF off 0 (-1) xs)) ∧ (decayE xs off ≠ 0 → a' = none ∧ L = 0 ∧ c' = 0) ∧ L ≤ 100 ∧ Below w.heap.size w w' := by
  by_cases hE : decayE xs off = 0
  · refine (openDecay_ok a n c xs off w h1 hE).mono ?_
    rintro e w' ⟨a', L, c', rfl, ho, hb⟩
    have := ho.len
    have h2 := crossF_len off 0 (-1) xs
    have h3 := (decayE_ok hE).2.1
    exact ⟨a', L, c', a, n, c, off, by rw [hE], fun _ => ⟨rfl, rfl, rfl, rfl, ho⟩, fun h => absurd hE h, by omega, hb⟩
  · refine (openDecay_err a n c xs off _ w h1 rfl hE).mono ?_
    rintro e w' ⟨rfl, hb⟩
    exact ⟨none, 0, 0, none, 0, 0, 0, rfl, fun h => absurd h hE, fun _ => ⟨rfl, rfl, rfl⟩, by omega, hb⟩

theorem periodE_eq {xs : List Int} {off : Int} {L : Nat} (h1 : decayE xs off = 0 → L = (crossF off 0 (-1) xs).length) : firstE [decayE xs off, unlessE (decide (1 ≤ (L : Int) - 1)) 12] = periodE xs off := by
  unfold periodE
  by_cases h : decayE xs off = 0
  · rw [h1 h]
  · rw [firstE_two, firstE_two, if_neg h, if_neg h]

theorem crossF_bd (off : Int) (l : List Int) (i b : Int) (hi : 0 ≤ i) (hb : b ≤ i) : ∀ p ∈ crossF off i b l, 0 ≤ p.1 ∧ p.1 ≤ p.2 ∧ p.2 ≤ i + l.length := by
  induction l generalizing i b with
  | nil => simp [crossF]
  | cons x l ih =>
    intro p hp
    unfold crossF at hp
    split at hp
    · have := ih (i + 1) i (by omega) (by omega) p hp
      simp; omega
    · split at hp
      · rename_i h2
        rcases List.mem_cons.1 hp with rfl | hp
        · simp; omega
        · have := ih (i + 1) (-1) (by omega) (by omega) p hp
          simp; omega
      · have := ih (i + 1) b (by omega) (by omega) p hp
        simp; omega
theorem crossF_at {off : Int} {xs : List Int} (hE : decayE xs off = 0) (j : Nat) : 0 ≤ ((crossF off 0 (-1) xs)[j]?.getD (0, 0)).1 ∧ ((crossF off 0 (-1) xs)[j]?.getD (0, 0)).1 ≤ 60 ∧ 0 ≤ ((crossF off 0 (-1) xs)[j]?.getD (0, 0)).2 ∧ ((crossF off 0 (-1) xs)[j]?.getD (0, 0)).2 ≤ 60 := by
  rcases Nat.lt_or_ge j (crossF off 0 (-1) xs).length with h | h
  · rw [List.getElem?_eq_getElem h]
    have := crossF_bd off xs 0 (-1) (by omega) (by omega) _ (List.getElem_mem h)
    have h2 := (decayE_ok hE).2.1
    simp only [Option.getD_some]
    omega
  · rw [List.getElem?_eq_none h]
    decide

set_option maxRecDepth 100000 in
set_option maxHeartbeats 4000000 in
theorem PeriodIn_any (a : Option Addr) (n c : Nat) (xs : List Int) (off E p q r s : Int) (w : World) (h1 : SI w a n c xs) (hE : periodE xs off = E) (hz : E ≠ 0 → p = 0 ∧ q = 0 ∧ r = 0 ∧ s = 0) (hok : E = 0 → periodF xs off = ((p, q), (r, s))) :
    Calls Try.prog 57 #[.agg #[.slice a n c, .int .i64 off]] w fun e w' => e = .returned (.tuple #[.agg #[.int .i64 p, .int .i64 q, .int .i64 r, .int .i64 s], .int .i64 E]) ∧ Below w.heap.size w w' := by
  have hb : Below w.heap.size w ((w.alloc (.cells #[.slice a n c, .int .i64 off] 87)).alloc (.cells #[.int .i64 0, .int .i64 0, .int .i64 0, .int .i64 0] 93)) := ((Below.refl _ _).alloc (Nat.le_refl _) _).alloc (by simp) _
  have HE := Lib.hid hE
  have HZ := Lib.hid hz
  have HOK := Lib.hid hok
  clear hE hz hok
  go_enter Try.func57, Try.ntmps57
  go_wp2_with fail
  refine (openD_any a n c xs off _ (h1.keep hb)).mono ?_
  rintro e w1 ⟨a', L, c', a0, n0, c0, o0, rfl, hyes, hno, hL, hb1⟩
  have HYES := Lib.hid hyes
  have HNO := Lib.hid hno
  clear hyes hno
  obtain ⟨x1, x2⟩ := box2 (w := w) (o := .cells #[.slice a n c, .int .i64 off] 87) (o' := .cells #[.int .i64 0, .int .i64 0, .int .i64 0, .int .i64 0] 93) hb1
  have hs0 := blk_lt x1
  have hs1 := blk_lt x2
  go_wp2_with fail
  refine (unless_any _ _ _).mono ?_
  rintro e w' ⟨rfl, rfl⟩
  go_wp2_with fail
  refine (first_any _ 2 2 _ _ (SI.two _ _ _ _ (by simp))).mono ?_
  rintro e w' ⟨rfl, rfl⟩
  have hE1 : firstE [decayE xs off, unlessE (decide (1 ≤ (L : Int) - 1)) 12] = E := (periodE_eq (fun h => (HYES.out h).2.2.2.2.len)).trans HE.out
  rw [hE1]
  clear hE1
  have hbw : Below w.heap.size w w1 := hb.trans (hb1.mono (by simp; omega))
  have hA : ∀ (A : World) (o o' : Obj), Below A.heap.size A ((A.alloc o).alloc o') := fun A o o' => ((Below.refl _ _).alloc (Nat.le_refl _) _).alloc (by simp) _
  by_cases hz : E = 0
  · subst hz
    have hd0 : decayE xs off = 0 := by
      have := HE.out
      unfold periodE at this
      rw [firstE_two] at this
      split at this
      · assumption
      · exact absurd this (by assumption)
    obtain ⟨rfl, rfl, rfl, rfl, hown⟩ := HYES.out hd0
    have hL2 : 2 ≤ L := by
      have := HE.out
      unfold periodE at this
      rw [firstE_two, if_pos hd0, ← hown.len] at this
      by_cases h : (1 : Int) ≤ (L : Int) - 1
      · omega
      · simp [unlessE, h] at this
    obtain ⟨cb, co, rfl, hcc⟩ := hown.sr.at_ (by omega)
    obtain ⟨e0, e1⟩ := hcc 0 (by omega)
    obtain ⟨e2, e3⟩ := hcc (L - 1) (by omega)
    simp only [Nat.zero_mul, Nat.add_zero] at e0 e1
    obtain ⟨z1, z2, z3, z4⟩ := crossF_at hd0 0
    obtain ⟨z5, z6, z7, z8⟩ := crossF_at hd0 (L - 1)
    have hpq := HOK.out rfl
    unfold periodF at hpq
    simp only [← hown.len] at hpq
    have HPQ := Lib.hid hpq
    clear hpq
    obtain ⟨p0, hp0⟩ : ∃ p0, (crossF o0 0 (-1) xs)[0]?.getD (0, 0) = p0 := ⟨_, rfl⟩
    obtain ⟨p1, hp1⟩ : ∃ p1, (crossF o0 0 (-1) xs)[L - 1]?.getD (0, 0) = p1 := ⟨_, rfl⟩
    obtain ⟨x0, y0⟩ := p0
    obtain ⟨x1', y1⟩ := p1
    rw [hp0] at e0 e1 z1 z2 z3 z4 HPQ
    rw [hp1] at e2 e3 z5 z6 z7 z8 HPQ
    clear hp0 hp1
    dsimp only at e0 e1 e2 e3 z1 z2 z3 z4 z5 z6 z7 z8 HPQ
    have hlt := cell_lt e0
    have HD0 := Lib.hid hd0
    clear hd0
    have hLi : ((L : Int) - 1).toNat = L - 1 := by omega
    have hL0 : (1 : Int) ≤ (L : Int) := by omega
    have hLL : (0 : Int) < (L : Int) := by omega
    go_wp2_with fail
    refine Calmly.wp_region_mix 12 (.fl 0 <| .fl 1 <| .fl 2 <| .fl 3 <| .fl 4 <| .fl 5 <| .fl 6 <| .fl 7 <| .fl 8 <| .alt 9 (.eff 10 <| .eff 11 <| .tail [12]) (.eff 10 (.eff 9 <| .eff 11 <| .tail [12]))) (by kernel_rfl) (by kernel_rfl) ?_
    have hk := Below.refl ((w1.alloc (.cells #[.slice a0 n0 c0, .int .i64 o0, .slice (some ⟨cb, co, none⟩) L c'] 163)).alloc (.cells #[.int .i64 (decayE xs o0), .int .i64 (unlessE (decide (1 ≤ (L : Int) - 1)) 12)] 27)).drew.heap.size ((w1.alloc (.cells #[.slice a0 n0 c0, .int .i64 o0, .slice (some ⟨cb, co, none⟩) L c'] 163)).alloc (.cells #[.int .i64 (decayE xs o0), .int .i64 (unlessE (decide (1 ≤ (L : Int) - 1)) 12)] 27)).drew
    go_wp2_with (first | ((with_reducible refine Calmly.is_fl ?_); refine Calmly.mix_fl rfl ?_ (fun _ _ => ?_); (first | exact .move _ | exact .load _ _ | exact .fieldAddr _ _ _ (by kernel_rfl) | exact .assign _ | exact .binOp _ _ _ _ _ rfl | exact .indexAddr _ _ _ | exact .len _ _ (by kernel_rfl) | exact .field _ _ _ | exact .extract _ _ | exact .pick _ _ _ | exact .build _ _ | exact .slice _ _ _ _ _ | exact .unOp _ _ _ rfl | exact .index _ _ _ | exact .max _ _ _ rfl rfl | exact .min _ _ _ rfl rfl)) | ((with_reducible refine Calmly.is_gl ?_); refine Calmly.mix_gl rfl rfl rfl ?_; first | ((first | with_reducible refine Calmly.gl_tt ?_ (fun _ _ => ?_) | with_reducible refine Calmly.gl_ff ?_ (fun _ _ => ?_)); (first | exact .move _ | exact .load _ _ | exact .fieldAddr _ _ _ (by kernel_rfl) | exact .assign _ | exact .binOp _ _ _ _ _ rfl | exact .indexAddr _ _ _ | exact .len _ _ (by kernel_rfl) | exact .field _ _ _ | exact .extract _ _ | exact .pick _ _ _ | exact .build _ _ | exact .slice _ _ _ _ _ | exact .unOp _ _ _ rfl | exact .index _ _ _ | exact .max _ _ _ rfl rfl | exact .min _ _ _ rfl rfl)) | with_reducible refine Calmly.gl_tf (fun _ _ => ?_) | with_reducible refine Calmly.gl_ft (fun _ _ => ?_)) | ((with_reducible refine Calmly.is_eff ?_); refine Calmly.mix_eff rfl (fun _ _ => ?_)) | ((with_reducible refine Calmly.is_gf ?_); refine Calmly.mix_gf rfl rfl rfl ?_; first | with_reducible refine Calmly.gf_tt (fun _ _ => ?_) | with_reducible refine Calmly.gf_ff (fun _ _ => ?_) | with_reducible refine Calmly.gf_tf (kept_of hk) (fun _ _ => ?_) | with_reducible refine Calmly.gf_ft (kept_of hk) (fun _ _ => ?_)) | ((with_reducible refine Calmly.is_kept ?_); refine ⟨kept_of hk, ?_⟩) | (with_reducible refine Calmly.mix_alt ?_ ?_) | (refine kept_alloc hk (fun hk' hblk hge => ?_); replace hk := hk'; clear hk'))
    all_goals (refine ⟨kept_two _ _ _, ?_⟩; go_wp2_with (first | ((with_reducible refine Calmly.is_fl ?_); refine Calmly.mix_fl rfl ?_ (fun _ _ => ?_); (first | exact .move _ | exact .load _ _ | exact .fieldAddr _ _ _ (by kernel_rfl) | exact .assign _ | exact .binOp _ _ _ _ _ rfl | exact .indexAddr _ _ _ | exact .len _ _ (by kernel_rfl) | exact .field _ _ _ | exact .extract _ _ | exact .pick _ _ _ | exact .build _ _ | exact .slice _ _ _ _ _ | exact .unOp _ _ _ rfl | exact .index _ _ _ | exact .max _ _ _ rfl rfl | exact .min _ _ _ rfl rfl)) | ((with_reducible refine Calmly.is_gl ?_); refine Calmly.mix_gl rfl rfl rfl ?_; first | ((first | with_reducible refine Calmly.gl_tt ?_ (fun _ _ => ?_) | with_reducible refine Calmly.gl_ff ?_ (fun _ _ => ?_)); (first | exact .move _ | exact .load _ _ | exact .fieldAddr _ _ _ (by kernel_rfl) | exact .assign _ | exact .binOp _ _ _ _ _ rfl | exact .indexAddr _ _ _ | exact .len _ _ (by kernel_rfl) | exact .field _ _ _ | exact .extract _ _ | exact .pick _ _ _ | exact .build _ _ | exact .slice _ _ _ _ _ | exact .unOp _ _ _ rfl | exact .index _ _ _ | exact .max _ _ _ rfl rfl | exact .min _ _ _ rfl rfl)) | with_reducible refine Calmly.gl_tf (fun _ _ => ?_) | with_reducible refine Calmly.gl_ft (fun _ _ => ?_)) | ((with_reducible refine Calmly.is_eff ?_); refine Calmly.mix_eff rfl (fun _ _ => ?_)) | ((with_reducible refine Calmly.is_gf ?_); refine Calmly.mix_gf rfl rfl rfl ?_; first | with_reducible refine Calmly.gf_tt (fun _ _ => ?_) | with_reducible refine Calmly.gf_ff (fun _ _ => ?_) | with_reducible refine Calmly.gf_tf (kept_of hk) (fun _ _ => ?_) | with_reducible refine Calmly.gf_ft (kept_of hk) (fun _ _ => ?_)) | ((with_reducible refine Calmly.is_tail ?_); first | refine Calmly.mix_tail_nil ?_ | refine Calmly.mix_tail rfl (fun _ _ => ?_)) | ((with_reducible refine Calmly.is_kept ?_); refine ⟨kept_of hk, ?_⟩) | (with_reducible refine Calmly.mix_alt ?_ ?_)))
    · refine wp_gen (fun v => Below w1.heap.size w1 v ∧ w1.heap.size + 2 < v.heap.size ∧ w1.heap.size + 3 < v.heap.size ∧ v.heap[w1.heap.size + 1 + 1]? = some (.cells #[.int .i64 x0, .int .i64 y0] 63) ∧ v.heap[w1.heap.size + 1 + 1 + 1]? = some (.cells #[.int .i64 x1', .int .i64 y1] 63)) ?_ ?_
      · obtain ⟨hq1, hq2⟩ := allocs_below [(.cells #[.slice a0 n0 c0, .int .i64 o0, .slice (some ⟨cb, co, none⟩) L c'] 163), (.cells #[.int .i64 (decayE xs o0), .int .i64 (unlessE (decide (1 ≤ (L : Int) - 1)) 12)] 27), (.cells #[.int .i64 x0, .int .i64 y0] 63), (.cells #[.int .i64 x1', .int .i64 y1] 63)] w1
        have hq3 := allocs_at [(.cells #[.slice a0 n0 c0, .int .i64 o0, .slice (some ⟨cb, co, none⟩) L c'] 163), (.cells #[.int .i64 (decayE xs o0), .int .i64 (unlessE (decide (1 ≤ (L : Int) - 1)) 12)] 27), (.cells #[.int .i64 x0, .int .i64 y0] 63), (.cells #[.int .i64 x1', .int .i64 y1] 63)] w1
        simp only [List.length_cons, List.length_nil, Nat.reduceAdd] at hq2
        exact ⟨hq1.drew, by show _ < (List.foldl World.alloc w1 [(.cells #[.slice a0 n0 c0, .int .i64 o0, .slice (some ⟨cb, co, none⟩) L c'] 163), (.cells #[.int .i64 (decayE xs o0), .int .i64 (unlessE (decide (1 ≤ (L : Int) - 1)) 12)] 27), (.cells #[.int .i64 x0, .int .i64 y0] 63), (.cells #[.int .i64 x1', .int .i64 y1] 63)]).heap.size; omega, by show _ < (List.foldl World.alloc w1 [(.cells #[.slice a0 n0 c0, .int .i64 o0, .slice (some ⟨cb, co, none⟩) L c'] 163), (.cells #[.int .i64 (decayE xs o0), .int .i64 (unlessE (decide (1 ≤ (L : Int) - 1)) 12)] 27), (.cells #[.int .i64 x0, .int .i64 y0] 63), (.cells #[.int .i64 x1', .int .i64 y1] 63)]).heap.size; omega, hq3 2 (by simp), hq3 3 (by simp)⟩
      rintro v ⟨hbv, hsv2, hsv3, hv2, hv3⟩
      have d0 : v.cell? ⟨w1.heap.size + 1 + 1, 0, none⟩ = some (.int .i64 x0) := cell_block hv2 0
      have d1 : v.cell? ⟨w1.heap.size + 1 + 1, 1, none⟩ = some (.int .i64 y0) := cell_block hv2 1
      have d2 : v.cell? ⟨w1.heap.size + 1 + 1 + 1, 0, none⟩ = some (.int .i64 x1') := cell_block hv3 0
      have d3 : v.cell? ⟨w1.heap.size + 1 + 1 + 1, 1, none⟩ = some (.int .i64 y1) := cell_block hv3 1
      refine Calmly.wp_region_mix 14 (.fl 0 <| .fl 1 <| .fl 2 <| .fl 3 <| .fl 4 <| .fl 5 <| .fl 7 <| .fl 8 <| .fl 9 <| .fl 10 <| .fl 11 <| .fl 12 <| .eff 6 <| .eff 13 <| .tail [14, 15, 16]) (by kernel_rfl) (by kernel_rfl) ?_
      have hk := Below.refl v.drew.heap.size v.drew
      go_wp2_with (first | ((with_reducible refine Calmly.is_fl ?_); refine Calmly.mix_fl rfl ?_ (fun _ _ => ?_); (first | exact .move _ | exact .load _ _ | exact .fieldAddr _ _ _ (by kernel_rfl) | exact .assign _ | exact .binOp _ _ _ _ _ rfl | exact .indexAddr _ _ _ | exact .len _ _ (by kernel_rfl) | exact .field _ _ _ | exact .extract _ _ | exact .pick _ _ _ | exact .build _ _ | exact .slice _ _ _ _ _ | exact .unOp _ _ _ rfl | exact .index _ _ _ | exact .max _ _ _ rfl rfl | exact .min _ _ _ rfl rfl)) | ((with_reducible refine Calmly.is_gl ?_); refine Calmly.mix_gl rfl rfl rfl ?_; first | ((first | with_reducible refine Calmly.gl_tt ?_ (fun _ _ => ?_) | with_reducible refine Calmly.gl_ff ?_ (fun _ _ => ?_)); (first | exact .move _ | exact .load _ _ | exact .fieldAddr _ _ _ (by kernel_rfl) | exact .assign _ | exact .binOp _ _ _ _ _ rfl | exact .indexAddr _ _ _ | exact .len _ _ (by kernel_rfl) | exact .field _ _ _ | exact .extract _ _ | exact .pick _ _ _ | exact .build _ _ | exact .slice _ _ _ _ _ | exact .unOp _ _ _ rfl | exact .index _ _ _ | exact .max _ _ _ rfl rfl | exact .min _ _ _ rfl rfl)) | with_reducible refine Calmly.gl_tf (fun _ _ => ?_) | with_reducible refine Calmly.gl_ft (fun _ _ => ?_)) | ((with_reducible refine Calmly.is_eff ?_); refine Calmly.mix_eff rfl (fun _ _ => ?_)) | ((with_reducible refine Calmly.is_gf ?_); refine Calmly.mix_gf rfl rfl rfl ?_; first | with_reducible refine Calmly.gf_tt (fun _ _ => ?_) | with_reducible refine Calmly.gf_ff (fun _ _ => ?_) | with_reducible refine Calmly.gf_tf (kept_of hk) (fun _ _ => ?_) | with_reducible refine Calmly.gf_ft (kept_of hk) (fun _ _ => ?_)) | ((with_reducible refine Calmly.is_tail ?_); first | refine Calmly.mix_tail_nil ?_ | refine Calmly.mix_tail rfl (fun _ _ => ?_)) | ((with_reducible refine Calmly.is_kept ?_); refine ⟨kept_of hk, ?_⟩) | (with_reducible refine Calmly.mix_alt ?_ ?_))
      refine (fraction_any _ _ _ (by omega) (by omega) (by omega) (by omega)).mono ?_
      rintro e w4 ⟨rfl, hb4⟩
      replace hk := step_of hk hb4
      go_wp2_with (first | ((with_reducible refine Calmly.is_fl ?_); refine Calmly.mix_fl rfl ?_ (fun _ _ => ?_); (first | exact .move _ | exact .load _ _ | exact .fieldAddr _ _ _ (by kernel_rfl) | exact .assign _ | exact .binOp _ _ _ _ _ rfl | exact .indexAddr _ _ _ | exact .len _ _ (by kernel_rfl) | exact .field _ _ _ | exact .extract _ _ | exact .pick _ _ _ | exact .build _ _ | exact .slice _ _ _ _ _ | exact .unOp _ _ _ rfl | exact .index _ _ _ | exact .max _ _ _ rfl rfl | exact .min _ _ _ rfl rfl)) | ((with_reducible refine Calmly.is_gl ?_); refine Calmly.mix_gl rfl rfl rfl ?_; first | ((first | with_reducible refine Calmly.gl_tt ?_ (fun _ _ => ?_) | with_reducible refine Calmly.gl_ff ?_ (fun _ _ => ?_)); (first | exact .move _ | exact .load _ _ | exact .fieldAddr _ _ _ (by kernel_rfl) | exact .assign _ | exact .binOp _ _ _ _ _ rfl | exact .indexAddr _ _ _ | exact .len _ _ (by kernel_rfl) | exact .field _ _ _ | exact .extract _ _ | exact .pick _ _ _ | exact .build _ _ | exact .slice _ _ _ _ _ | exact .unOp _ _ _ rfl | exact .index _ _ _ | exact .max _ _ _ rfl rfl | exact .min _ _ _ rfl rfl)) | with_reducible refine Calmly.gl_tf (fun _ _ => ?_) | with_reducible refine Calmly.gl_ft (fun _ _ => ?_)) | ((with_reducible refine Calmly.is_eff ?_); refine Calmly.mix_eff rfl (fun _ _ => ?_)) | ((with_reducible refine Calmly.is_gf ?_); refine Calmly.mix_gf rfl rfl rfl ?_; first | with_reducible refine Calmly.gf_tt (fun _ _ => ?_) | with_reducible refine Calmly.gf_ff (fun _ _ => ?_) | with_reducible refine Calmly.gf_tf (kept_of hk) (fun _ _ => ?_) | with_reducible refine Calmly.gf_ft (kept_of hk) (fun _ _ => ?_)) | ((with_reducible refine Calmly.is_tail ?_); first | refine Calmly.mix_tail_nil ?_ | refine Calmly.mix_tail rfl (fun _ _ => ?_)) | ((with_reducible refine Calmly.is_kept ?_); refine ⟨kept_of hk, ?_⟩) | (with_reducible refine Calmly.mix_alt ?_ ?_))
      refine (fraction_any _ _ _ (by omega) (by omega) (by omega) (by omega)).mono ?_
      rintro e w5 ⟨rfl, hb5⟩
      replace hk := step_of hk hb5
      have x2v := blk_keep x2 hbv
      have x5 := blk_keep (w := v.drew) x2v hk
      have g0 : w5.cell? ⟨w.heap.size + 1, 0, none⟩ = some (.int .i64 0) := cell_block x5 0
      have g1 : w5.cell? ⟨w.heap.size + 1, 1, none⟩ = some (.int .i64 0) := cell_block x5 1
      have g2 : w5.cell? ⟨w.heap.size + 1, 2, none⟩ = some (.int .i64 0) := cell_block x5 2
      have g3 : w5.cell? ⟨w.heap.size + 1, 3, none⟩ = some (.int .i64 0) := cell_block x5 3
      have r0 := frozen_block x5 0
      have r1 := frozen_block x5 1
      have r2 := frozen_block x5 2
      have r3 := frozen_block x5 3
      have hlast : ∀ i j k l : Int, Below w.heap.size w ((((w5.setCell ⟨w.heap.size + 1, 0, none⟩ (.int .i64 i)).setCell ⟨w.heap.size + 1, 1, none⟩ (.int .i64 j)).setCell ⟨w.heap.size + 1, 2, none⟩ (.int .i64 k)).setCell ⟨w.heap.size + 1, 3, none⟩ (.int .i64 l)) := fun i j k l =>
        (((((hbw.trans (hbv.mono (by omega))).drew.trans (hk.mono (by have := hbv.size; show _ ≤ v.heap.size; omega))).setCell (by simp) _).setCell (by simp) _).setCell (by simp) _).setCell (by simp) _
      go_wp2_with (first | ((with_reducible refine Calmly.is_fl ?_); refine Calmly.mix_fl rfl ?_ (fun _ _ => ?_); (first | exact .move _ | exact .load _ _ | exact .fieldAddr _ _ _ (by kernel_rfl) | exact .assign _ | exact .binOp _ _ _ _ _ rfl | exact .indexAddr _ _ _ | exact .len _ _ (by kernel_rfl) | exact .field _ _ _ | exact .extract _ _ | exact .pick _ _ _ | exact .build _ _ | exact .slice _ _ _ _ _ | exact .unOp _ _ _ rfl | exact .index _ _ _ | exact .max _ _ _ rfl rfl | exact .min _ _ _ rfl rfl)) | ((with_reducible refine Calmly.is_gl ?_); refine Calmly.mix_gl rfl rfl rfl ?_; first | ((first | with_reducible refine Calmly.gl_tt ?_ (fun _ _ => ?_) | with_reducible refine Calmly.gl_ff ?_ (fun _ _ => ?_)); (first | exact .move _ | exact .load _ _ | exact .fieldAddr _ _ _ (by kernel_rfl) | exact .assign _ | exact .binOp _ _ _ _ _ rfl | exact .indexAddr _ _ _ | exact .len _ _ (by kernel_rfl) | exact .field _ _ _ | exact .extract _ _ | exact .pick _ _ _ | exact .build _ _ | exact .slice _ _ _ _ _ | exact .unOp _ _ _ rfl | exact .index _ _ _ | exact .max _ _ _ rfl rfl | exact .min _ _ _ rfl rfl)) | with_reducible refine Calmly.gl_tf (fun _ _ => ?_) | with_reducible refine Calmly.gl_ft (fun _ _ => ?_)) | ((with_reducible refine Calmly.is_eff ?_); refine Calmly.mix_eff rfl (fun _ _ => ?_)) | ((with_reducible refine Calmly.is_gf ?_); refine Calmly.mix_gf rfl rfl rfl ?_; first | with_reducible refine Calmly.gf_tt (fun _ _ => ?_) | with_reducible refine Calmly.gf_ff (fun _ _ => ?_) | with_reducible refine Calmly.gf_tf (kept_of hk) (fun _ _ => ?_) | with_reducible refine Calmly.gf_ft (kept_of hk) (fun _ _ => ?_)) | ((with_reducible refine Calmly.is_tail ?_); first | refine Calmly.mix_tail_nil ?_ | refine Calmly.mix_tail rfl (fun _ _ => ?_)) | ((with_reducible refine Calmly.is_kept ?_); refine ⟨kept_of hk, ?_⟩) | (with_reducible refine Calmly.mix_alt ?_ ?_))
      have hpq := HPQ.out
      rw [show ((L - 1 : Nat) : Int) = (L : Int) - 1 by omega] at hpq
      simp only [fracF, Prod.mk.injEq] at hpq
      obtain ⟨⟨u1, u2⟩, u3, u4⟩ := hpq
      rw [u1, u2, u3, u4]
      have hx4 := set4 (x := .int .i64 p) (y := .int .i64 q) (z := .int .i64 r) (u := .int .i64 s) x5
      have t0 := cell_block hx4 0
      have t1 := cell_block hx4 1
      have t2 := cell_block hx4 2
      have t3 := cell_block hx4 3
      simp only [List.getElem?_toArray, List.getElem?_cons_zero, List.getElem?_cons_succ] at t0 t1 t2 t3
      refine bodyPost_ret (v := .tuple #[.agg #[.int .i64 p, .int .i64 q, .int .i64 r, .int .i64 s], .int .i64 0]) (by simp [results, Try.results57, go_sem, t0, t1, t2, t3]) rfl ⟨rfl, hlast _ _ _ _⟩
    · refine wp_gen (fun v => Below w1.heap.size w1 v ∧ w1.heap.size + 2 < v.heap.size ∧ w1.heap.size + 3 < v.heap.size ∧ v.heap[w1.heap.size + 1 + 1]? = some (.cells #[.int .i64 x1', .int .i64 y1] 63) ∧ v.heap[w1.heap.size + 1 + 1 + 1]? = some (.cells #[.int .i64 x0, .int .i64 y0] 63)) ?_ ?_
      · obtain ⟨hq1, hq2⟩ := allocs_below [(.cells #[.slice a0 n0 c0, .int .i64 o0, .slice (some ⟨cb, co, none⟩) L c'] 163), (.cells #[.int .i64 (decayE xs o0), .int .i64 (unlessE (decide (1 ≤ (L : Int) - 1)) 12)] 27), (.cells #[.int .i64 x1', .int .i64 y1] 63), (.cells #[.int .i64 x0, .int .i64 y0] 63)] w1
        have hq3 := allocs_at [(.cells #[.slice a0 n0 c0, .int .i64 o0, .slice (some ⟨cb, co, none⟩) L c'] 163), (.cells #[.int .i64 (decayE xs o0), .int .i64 (unlessE (decide (1 ≤ (L : Int) - 1)) 12)] 27), (.cells #[.int .i64 x1', .int .i64 y1] 63), (.cells #[.int .i64 x0, .int .i64 y0] 63)] w1
        simp only [List.length_cons, List.length_nil, Nat.reduceAdd] at hq2
        exact ⟨hq1.drew, by show _ < (List.foldl World.alloc w1 [(.cells #[.slice a0 n0 c0, .int .i64 o0, .slice (some ⟨cb, co, none⟩) L c'] 163), (.cells #[.int .i64 (decayE xs o0), .int .i64 (unlessE (decide (1 ≤ (L : Int) - 1)) 12)] 27), (.cells #[.int .i64 x1', .int .i64 y1] 63), (.cells #[.int .i64 x0, .int .i64 y0] 63)]).heap.size; omega, by show _ < (List.foldl World.alloc w1 [(.cells #[.slice a0 n0 c0, .int .i64 o0, .slice (some ⟨cb, co, none⟩) L c'] 163), (.cells #[.int .i64 (decayE xs o0), .int .i64 (unlessE (decide (1 ≤ (L : Int) - 1)) 12)] 27), (.cells #[.int .i64 x1', .int .i64 y1] 63), (.cells #[.int .i64 x0, .int .i64 y0] 63)]).heap.size; omega, hq3 2 (by simp), hq3 3 (by simp)⟩
      rintro v ⟨hbv, hsv2, hsv3, hv2, hv3⟩
      have d0 : v.cell? ⟨w1.heap.size + 1 + 1, 0, none⟩ = some (.int .i64 x1') := cell_block hv2 0
      have d1 : v.cell? ⟨w1.heap.size + 1 + 1, 1, none⟩ = some (.int .i64 y1) := cell_block hv2 1
      have d2 : v.cell? ⟨w1.heap.size + 1 + 1 + 1, 0, none⟩ = some (.int .i64 x0) := cell_block hv3 0
      have d3 : v.cell? ⟨w1.heap.size + 1 + 1 + 1, 1, none⟩ = some (.int .i64 y0) := cell_block hv3 1
      refine Calmly.wp_region_mix 14 (.fl 0 <| .fl 1 <| .fl 2 <| .fl 3 <| .fl 4 <| .fl 5 <| .fl 7 <| .fl 8 <| .fl 9 <| .fl 10 <| .fl 11 <| .fl 12 <| .eff 6 <| .eff 13 <| .tail [14, 15, 16]) (by kernel_rfl) (by kernel_rfl) ?_
      have hk := Below.refl v.drew.heap.size v.drew
      go_wp2_with (first | ((with_reducible refine Calmly.is_fl ?_); refine Calmly.mix_fl rfl ?_ (fun _ _ => ?_); (first | exact .move _ | exact .load _ _ | exact .fieldAddr _ _ _ (by kernel_rfl) | exact .assign _ | exact .binOp _ _ _ _ _ rfl | exact .indexAddr _ _ _ | exact .len _ _ (by kernel_rfl) | exact .field _ _ _ | exact .extract _ _ | exact .pick _ _ _ | exact .build _ _ | exact .slice _ _ _ _ _ | exact .unOp _ _ _ rfl | exact .index _ _ _ | exact .max _ _ _ rfl rfl | exact .min _ _ _ rfl rfl)) | ((with_reducible refine Calmly.is_gl ?_); refine Calmly.mix_gl rfl rfl rfl ?_; first | ((first | with_reducible refine Calmly.gl_tt ?_ (fun _ _ => ?_) | with_reducible refine Calmly.gl_ff ?_ (fun _ _ => ?_)); (first | exact .move _ | exact .load _ _ | exact .fieldAddr _ _ _ (by kernel_rfl) | exact .assign _ | exact .binOp _ _ _ _ _ rfl | exact .indexAddr _ _ _ | exact .len _ _ (by kernel_rfl) | exact .field _ _ _ | exact .extract _ _ | exact .pick _ _ _ | exact .build _ _ | exact .slice _ _ _ _ _ | exact .unOp _ _ _ rfl | exact .index _ _ _ | exact .max _ _ _ rfl rfl | exact .min _ _ _ rfl rfl)) | with_reducible refine Calmly.gl_tf (fun _ _ => ?_) | with_reducible refine Calmly.gl_ft (fun _ _ => ?_)) | ((with_reducible refine Calmly.is_eff ?_); refine Calmly.mix_eff rfl (fun _ _ => ?_)) | ((with_reducible refine Calmly.is_gf ?_); refine Calmly.mix_gf rfl rfl rfl ?_; first | with_reducible refine Calmly.gf_tt (fun _ _ => ?_) | with_reducible refine Calmly.gf_ff (fun _ _ => ?_) | with_reducible refine Calmly.gf_tf (kept_of hk) (fun _ _ => ?_) | with_reducible refine Calmly.gf_ft (kept_of hk) (fun _ _ => ?_)) | ((with_reducible refine Calmly.is_tail ?_); first | refine Calmly.mix_tail_nil ?_ | refine Calmly.mix_tail rfl (fun _ _ => ?_)) | ((with_reducible refine Calmly.is_kept ?_); refine ⟨kept_of hk, ?_⟩) | (with_reducible refine Calmly.mix_alt ?_ ?_))
      refine (fraction_any _ _ _ (by omega) (by omega) (by omega) (by omega)).mono ?_
      rintro e w4 ⟨rfl, hb4⟩
      replace hk := step_of hk hb4
      go_wp2_with (first | ((with_reducible refine Calmly.is_fl ?_); refine Calmly.mix_fl rfl ?_ (fun _ _ => ?_); (first | exact .move _ | exact .load _ _ | exact .fieldAddr _ _ _ (by kernel_rfl) | exact .assign _ | exact .binOp _ _ _ _ _ rfl | exact .indexAddr _ _ _ | exact .len _ _ (by kernel_rfl) | exact .field _ _ _ | exact .extract _ _ | exact .pick _ _ _ | exact .build _ _ | exact .slice _ _ _ _ _ | exact .unOp _ _ _ rfl | exact .index _ _ _ | exact .max _ _ _ rfl rfl | exact .min _ _ _ rfl rfl)) | ((with_reducible refine Calmly.is_gl ?_); refine Calmly.mix_gl rfl rfl rfl ?_; first | ((first | with_reducible refine Calmly.gl_tt ?_ (fun _ _ => ?_) | with_reducible refine Calmly.gl_ff ?_ (fun _ _ => ?_)); (first | exact .move _ | exact .load _ _ | exact .fieldAddr _ _ _ (by kernel_rfl) | exact .assign _ | exact .binOp _ _ _ _ _ rfl | exact .indexAddr _ _ _ | exact .len _ _ (by kernel_rfl) | exact .field _ _ _ | exact .extract _ _ | exact .pick _ _ _ | exact .build _ _ | exact .slice _ _ _ _ _ | exact .unOp _ _ _ rfl | exact .index _ _ _ | exact .max _ _ _ rfl rfl | exact .min _ _ _ rfl rfl)) | with_reducible refine Calmly.gl_tf (fun _ _ => ?_) | with_reducible refine Calmly.gl_ft (fun _ _ => ?_)) | ((with_reducible refine Calmly.is_eff ?_); refine Calmly.mix_eff rfl (fun _ _ => ?_)) | ((with_reducible refine Calmly.is_gf ?_); refine Calmly.mix_gf rfl rfl rfl ?_; first | with_reducible refine Calmly.gf_tt (fun _ _ => ?_) | with_reducible refine Calmly.gf_ff (fun _ _ => ?_) | with_reducible refine Calmly.gf_tf (kept_of hk) (fun _ _ => ?_) | with_reducible refine Calmly.gf_ft (kept_of hk) (fun _ _ => ?_)) | ((with_reducible refine Calmly.is_tail ?_); first | refine Calmly.mix_tail_nil ?_ | refine Calmly.mix_tail rfl (fun _ _ => ?_)) | ((with_reducible refine Calmly.is_kept ?_); refine ⟨kept_of hk, ?_⟩) | (with_reducible refine Calmly.mix_alt ?_ ?_))
      refine (fraction_any _ _ _ (by omega) (by omega) (by omega) (by omega)).mono ?_
      rintro e w5 ⟨rfl, hb5⟩
      replace hk := step_of hk hb5
      have x2v := blk_keep x2 hbv
      have x5 := blk_keep (w := v.drew) x2v hk
      have g0 : w5.cell? ⟨w.heap.size + 1, 0, none⟩ = some (.int .i64 0) := cell_block x5 0
      have g1 : w5.cell? ⟨w.heap.size + 1, 1, none⟩ = some (.int .i64 0) := cell_block x5 1
      have g2 : w5.cell? ⟨w.heap.size + 1, 2, none⟩ = some (.int .i64 0) := cell_block x5 2
      have g3 : w5.cell? ⟨w.heap.size + 1, 3, none⟩ = some (.int .i64 0) := cell_block x5 3
      have r0 := frozen_block x5 0
      have r1 := frozen_block x5 1
      have r2 := frozen_block x5 2
      have r3 := frozen_block x5 3
      have hlast : ∀ i j k l : Int, Below w.heap.size w ((((w5.setCell ⟨w.heap.size + 1, 0, none⟩ (.int .i64 i)).setCell ⟨w.heap.size + 1, 1, none⟩ (.int .i64 j)).setCell ⟨w.heap.size + 1, 2, none⟩ (.int .i64 k)).setCell ⟨w.heap.size + 1, 3, none⟩ (.int .i64 l)) := fun i j k l =>
        (((((hbw.trans (hbv.mono (by omega))).drew.trans (hk.mono (by have := hbv.size; show _ ≤ v.heap.size; omega))).setCell (by simp) _).setCell (by simp) _).setCell (by simp) _).setCell (by simp) _
      go_wp2_with (first | ((with_reducible refine Calmly.is_fl ?_); refine Calmly.mix_fl rfl ?_ (fun _ _ => ?_); (first | exact .move _ | exact .load _ _ | exact .fieldAddr _ _ _ (by kernel_rfl) | exact .assign _ | exact .binOp _ _ _ _ _ rfl | exact .indexAddr _ _ _ | exact .len _ _ (by kernel_rfl) | exact .field _ _ _ | exact .extract _ _ | exact .pick _ _ _ | exact .build _ _ | exact .slice _ _ _ _ _ | exact .unOp _ _ _ rfl | exact .index _ _ _ | exact .max _ _ _ rfl rfl | exact .min _ _ _ rfl rfl)) | ((with_reducible refine Calmly.is_gl ?_); refine Calmly.mix_gl rfl rfl rfl ?_; first | ((first | with_reducible refine Calmly.gl_tt ?_ (fun _ _ => ?_) | with_reducible refine Calmly.gl_ff ?_ (fun _ _ => ?_)); (first | exact .move _ | exact .load _ _ | exact .fieldAddr _ _ _ (by kernel_rfl) | exact .assign _ | exact .binOp _ _ _ _ _ rfl | exact .indexAddr _ _ _ | exact .len _ _ (by kernel_rfl) | exact .field _ _ _ | exact .extract _ _ | exact .pick _ _ _ | exact .build _ _ | exact .slice _ _ _ _ _ | exact .unOp _ _ _ rfl | exact .index _ _ _ | exact .max _ _ _ rfl rfl | exact .min _ _ _ rfl rfl)) | with_reducible refine Calmly.gl_tf (fun _ _ => ?_) | with_reducible refine Calmly.gl_ft (fun _ _ => ?_)) | ((with_reducible refine Calmly.is_eff ?_); refine Calmly.mix_eff rfl (fun _ _ => ?_)) | ((with_reducible refine Calmly.is_gf ?_); refine Calmly.mix_gf rfl rfl rfl ?_; first | with_reducible refine Calmly.gf_tt (fun _ _ => ?_) | with_reducible refine Calmly.gf_ff (fun _ _ => ?_) | with_reducible refine Calmly.gf_tf (kept_of hk) (fun _ _ => ?_) | with_reducible refine Calmly.gf_ft (kept_of hk) (fun _ _ => ?_)) | ((with_reducible refine Calmly.is_tail ?_); first | refine Calmly.mix_tail_nil ?_ | refine Calmly.mix_tail rfl (fun _ _ => ?_)) | ((with_reducible refine Calmly.is_kept ?_); refine ⟨kept_of hk, ?_⟩) | (with_reducible refine Calmly.mix_alt ?_ ?_))
      have hpq := HPQ.out
      rw [show ((L - 1 : Nat) : Int) = (L : Int) - 1 by omega] at hpq
      simp only [fracF, Prod.mk.injEq] at hpq
      obtain ⟨⟨u1, u2⟩, u3, u4⟩ := hpq
      rw [u1, u2, u3, u4]
      have hx4 := set4 (x := .int .i64 p) (y := .int .i64 q) (z := .int .i64 r) (u := .int .i64 s) x5
      have t0 := cell_block hx4 0
      have t1 := cell_block hx4 1
      have t2 := cell_block hx4 2
      have t3 := cell_block hx4 3
      simp only [List.getElem?_toArray, List.getElem?_cons_zero, List.getElem?_cons_succ] at t0 t1 t2 t3
      refine bodyPost_ret (v := .tuple #[.agg #[.int .i64 p, .int .i64 q, .int .i64 r, .int .i64 s], .int .i64 0]) (by simp [results, Try.results57, go_sem, t0, t1, t2, t3]) rfl ⟨rfl, hlast _ _ _ _⟩
  · have hz1 : (E != 0) = true := by simpa using hz
    obtain ⟨rfl, rfl, rfl, rfl⟩ := HZ.out hz
    clear hz
    have hx4 := set4 (x := .int .i64 0) (y := .int .i64 0) (z := .int .i64 0) (u := .int .i64 0) x2
    have g0 : w1.cell? ⟨w.heap.size + 1, 0, none⟩ = some (.int .i64 0) := cell_block x2 0
    have g1 : w1.cell? ⟨w.heap.size + 1, 1, none⟩ = some (.int .i64 0) := cell_block x2 1
    have g2 : w1.cell? ⟨w.heap.size + 1, 2, none⟩ = some (.int .i64 0) := cell_block x2 2
    have g3 : w1.cell? ⟨w.heap.size + 1, 3, none⟩ = some (.int .i64 0) := cell_block x2 3
    have r0 := frozen_block x2 0
    have r1 := frozen_block x2 1
    have r2 := frozen_block x2 2
    have r3 := frozen_block x2 3
    have hx5 := blk_keep hx4 (hA _ (.cells #[.slice a0 n0 c0, .int .i64 o0, .slice a' L c'] 163) (.cells #[.int .i64 (decayE xs off), .int .i64 (unlessE (decide (1 ≤ (L : Int) - 1)) 12)] 27))
    have t0 := cell_block hx5 0
    have t1 := cell_block hx5 1
    have t2 := cell_block hx5 2
    have t3 := cell_block hx5 3
    simp only [List.getElem?_toArray, List.getElem?_cons_zero, List.getElem?_cons_succ] at t0 t1 t2 t3
    go_wp2_with fail
    refine bodyPost_ret (v := .tuple #[.agg #[.int .i64 0, .int .i64 0, .int .i64 0, .int .i64 0], .int .i64 E]) (by simp [results, Try.results57, go_sem, t0, t1, t2, t3]) rfl ⟨rfl, ?_⟩
    exact (((((hbw.setCell (by simp) _).setCell (by simp) _).setCell (by simp) _).setCell (by simp) _).alloc (by simp; omega) _).alloc (by simp; omega) _
end Go.Proofs.Ytmaidjankakppaa
