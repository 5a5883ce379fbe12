/- Contracts of chapter 6: a decay opened. -/
import Derived.Test.YtmaidjankakppaaDa
import Derived.Test.YtmaidjankakppaaRr
namespace Go.Proofs.Ytmaidjankakppaa
open Go.RowKit
open Calmly (Kept)

/-- The crossings from a sample on, the last sample that was surely below being known, or -1. -/
def crossF (off : Int) : Int → Int → List Int → List (Int × Int)
  | _, _, [] => []
  | i, b, x :: l => if x < -off then crossF off (i + 1) i l else if off < x ∧ 0 ≤ b then (b, i) :: crossF off (i + 1) (-1) l else crossF off (i + 1) b l
theorem crossF_drop (off : Int) (xs : List Int) (k : Nat) (b : Int) (h : k < xs.length) : crossF off k b (xs.drop k) =
    if xs[k]?.getD 0 < -off then crossF off (k + 1 : Nat) k (xs.drop (k + 1)) else if off < xs[k]?.getD 0 ∧ 0 ≤ b then (b, (k : Int)) :: crossF off (k + 1 : Nat) (-1) (xs.drop (k + 1)) else crossF off (k + 1 : Nat) b (xs.drop (k + 1)) := by
  rw [List.drop_eq_getElem_cons h]
  simp [crossF, h]
theorem crossF_len (off i b : Int) (l : List Int) : (crossF off i b l).length ≤ l.length := by
  induction l generalizing i b with
  | nil => simp [crossF]
  | cons x l ih =>
    unfold crossF
    split
    · have := ih (i + 1) i; simp; omega
    · split
      · have := ih (i + 1) (-1); simp; omega
      · have := ih (i + 1) b; simp; omega
theorem blk_set3 {W : World} {b : Nat} {x y z : Value} {t : TypeId} (h : W.heap[b]? = some (.cells #[x, y, z] t)) (v : Value) : (W.setCell ⟨b, 2, none⟩ v).heap[b]? = some (.cells #[x, y, v] t) := by
  simp [World.setCell, Array.getElem?_modify, h]
/-- Three cells of a block are stored into. -/
theorem set3 {v : World} {r : Nat} {x y z u0 u1 u2 : Value} (h0 : v.cell? ⟨r, 0, none⟩ = some u0) (h1 : v.cell? ⟨r, 1, none⟩ = some u1) (h2 : v.cell? ⟨r, 2, none⟩ = some u2) :
    (((v.setCell ⟨r, 0, none⟩ x).setCell ⟨r, 1, none⟩ y).setCell ⟨r, 2, none⟩ z).cell? ⟨r, 0, none⟩ = some x ∧ (((v.setCell ⟨r, 0, none⟩ x).setCell ⟨r, 1, none⟩ y).setCell ⟨r, 2, none⟩ z).cell? ⟨r, 1, none⟩ = some y ∧
      (((v.setCell ⟨r, 0, none⟩ x).setCell ⟨r, 1, none⟩ y).setCell ⟨r, 2, none⟩ z).cell? ⟨r, 2, none⟩ = some z := by
  obtain ⟨s1, s2, _, _⟩ := set2 (x := x) (y := y) h0 h1
  have e0 : (v.setCell ⟨r, 0, none⟩ x).cell? ⟨r, 2, none⟩ = some u2 := by rw [World.cell?_setCell_other _ _ _ _ (by simp)]; exact h2
  have e1 : ((v.setCell ⟨r, 0, none⟩ x).setCell ⟨r, 1, none⟩ y).cell? ⟨r, 2, none⟩ = some u2 := by rw [World.cell?_setCell_other _ _ _ _ (by simp)]; exact e0
  refine ⟨?_, ?_, World.cell?_setCell_same _ _ _ e1⟩
  · rw [World.cell?_setCell_other _ _ _ _ (by simp)]; exact s1
  · rw [World.cell?_setCell_other _ _ _ _ (by simp)]; exact s2
theorem decayE_ok {xs : List Int} {off : Int} (h : decayE xs off = 0) : 0 < xs.length ∧ xs.length ≤ 60 ∧ (∀ j : Nat, -10000 ≤ xs[j]?.getD 0 ∧ xs[j]?.getD 0 ≤ 10000) ∧ 0 ≤ off ∧ off ≤ 10000 := by
  have hu : ∀ (b : Bool) (x : Int), x ≠ 0 → unlessE b x = 0 → b = true := fun b x hx hb => by
    cases b
    · exact absurd hb hx
    · rfl
  have h4 : ∀ x y z u : Int, firstE [x, y, z, u] = 0 → x = 0 ∧ y = 0 ∧ z = 0 ∧ u = 0 := fun x y z u hh => by
    unfold firstE at hh
    split at hh
    · rw [firstE_three] at hh
      rename_i hx
      refine ⟨hx, ?_⟩
      split at hh
      · split at hh
        · exact ⟨by assumption, by assumption, hh⟩
        · exact absurd hh (by assumption)
      · exact absurd hh (by assumption)
    · exact absurd hh (by assumption)
  obtain ⟨a1, a2, a3, a4⟩ := h4 _ _ _ _ h
  have b1 := hu _ _ (by decide) a1
  have b2 := hu _ _ (by decide) a2
  have b3 := hu _ _ (by decide) a3
  have b4 := hu _ _ (by decide) a4
  simp only [decide_eq_true_eq] at b1 b2
  refine ⟨b1, by omega, fun j => ?_, wIn_iff.1 b4⟩
  rcases Nat.lt_or_ge j xs.length with hj | hj
  · rw [List.getElem?_eq_getElem hj]
    simp only [Bool.not_eq_true', List.any_eq_false] at b3
    have := b3 _ (List.getElem_mem hj)
    unfold odd1 at this
    simp only [Bool.not_eq_true, Bool.not_eq_false'] at this
    simpa using wIn_iff.1 this
  · rw [List.getElem?_eq_none hj]
    decide

set_option maxRecDepth 100000 in
set_option maxHeartbeats 4000000 in
theorem openDecay_err (a : Option Addr) (n c : Nat) (xs : List Int) (off E : Int) (w : World) (h1 : SI w a n c xs) (hE : decayE xs off = E) (hz : E ≠ 0) :
    Calls Try.prog 113 #[.agg #[.slice a n c, .int .i64 off]] w fun e w' => e = .returned (.tuple #[.agg #[.slice none 0 0, .int .i64 0, .slice none 0 0], .int .i64 E]) ∧ Below w.heap.size w w' := by
  have hb : Below w.heap.size w ((w.alloc (.cells #[.slice a n c, .int .i64 off] 87)).alloc (.cells #[.slice none 0 0, .int .i64 0, .slice none 0 0] 163)) := ((Below.refl _ _).alloc (Nat.le_refl _) _).alloc (by simp) _
  have HE := Lib.hid hE
  clear hE
  have hz1 : (E != 0) = true := by simpa using hz
  clear hz
  go_enter Try.func113, Try.ntmps113
  go_wp2_with fail
  refine (decayErr_any a n c xs off _ (h1.keep hb)).mono ?_
  rintro e w1 ⟨rfl, hb1⟩
  obtain ⟨x1, x2⟩ := box2 (w := w) (o := .cells #[.slice a n c, .int .i64 off] 87) (o' := .cells #[.slice none 0 0, .int .i64 0, .slice none 0 0] 163) hb1
  rw [HE.out]
  have g0 : w1.cell? ⟨w.heap.size + 1, 0, none⟩ = some (.slice none 0 0) := cell_block x2 0
  have g1 : w1.cell? ⟨w.heap.size + 1, 1, none⟩ = some (.int .i64 0) := cell_block x2 1
  have g2 : w1.cell? ⟨w.heap.size + 1, 2, none⟩ = some (.slice none 0 0) := cell_block x2 2
  have r0 := frozen_block x2 0
  have r1 := frozen_block x2 1
  have r2 := frozen_block x2 2
  obtain ⟨s0, s1, s2⟩ := set3 (x := .slice none 0 0) (y := .int .i64 0) (z := .slice none 0 0) g0 g1 g2
  have hbw := hb.trans (hb1.mono (by simp; omega))
  go_wp2_with fail
  refine bodyPost_ret (v := .tuple #[.agg #[.slice none 0 0, .int .i64 0, .slice none 0 0], .int .i64 E]) (by simp [results, Try.results113, go_sem, s0, s1, s2]) rfl ⟨rfl, ?_⟩
  exact ((hbw.setCell (by simp) _).setCell (by simp) _).setCell (by simp) _

set_option maxRecDepth 100000 in
set_option maxHeartbeats 4000000 in
theorem openDecay_ok (a : Option Addr) (n c : Nat) (xs : List Int) (off : Int) (w : World) (h1 : SI w a n c xs) (hE : decayE xs off = 0) :
    Calls Try.prog 113 #[.agg #[.slice a n c, .int .i64 off]] w fun e w' => ∃ a' L c', e = .returned (.tuple #[.agg #[.slice a n c, .int .i64 off, .slice a' L c'], .int .i64 0]) ∧ OwR w' w.heap.size a' L c' (crossF off 0 (-1) xs) ∧ Below w.heap.size w w' := by
  have hb : Below w.heap.size w ((w.alloc (.cells #[.slice a n c, .int .i64 off] 87)).alloc (.cells #[.slice none 0 0, .int .i64 0, .slice none 0 0] 163)) := ((Below.refl _ _).alloc (Nat.le_refl _) _).alloc (by simp) _
  obtain ⟨l1, l2⟩ : n ≤ xs.length ∧ xs.length ≤ n := by have := h1.len; omega
  obtain ⟨v1, v2, v3, v4, v5⟩ := decayE_ok hE
  have HE := Lib.hid hE
  have V3 := Lib.hid v3
  clear hE v3
  go_enter Try.func113, Try.ntmps113
  go_wp2_with fail
  refine (decayErr_any a n c xs off _ (h1.keep hb)).mono ?_
  rintro e w1 ⟨rfl, hb1⟩
  obtain ⟨x1, x2⟩ := box2 (w := w) (o := .cells #[.slice a n c, .int .i64 off] 87) (o' := .cells #[.slice none 0 0, .int .i64 0, .slice none 0 0] 163) hb1
  rw [HE.out]
  have hs0 := blk_lt x1
  have hs1 := blk_lt x2
  have f0 : w1.cell? ⟨w.heap.size, 0, none⟩ = some (.slice a n c) := cell_block x1 0
  have f1 : w1.cell? ⟨w.heap.size, 1, none⟩ = some (.int .i64 off) := cell_block x1 1
  go_wp2_with fail
  have hbw : Below w.heap.size w w1 := hb.trans (hb1.mono (by simp; omega))
  have ba : Below w1.heap.size w1 (w1.alloc (.cells #[.slice a n c, .int .i64 off, .slice none 0 0] 163)) := (Below.refl _ _).alloc (Nat.le_refl _) _
  go_loopw [6, 20] (fun x z wr => ∃ (k L c' : Nat) (bl : Int) (a' : Option Addr) (acc : List (Int × Int)), k ≤ n ∧ x = .int .i64 bl ∧ z = .int .i64 k ∧ -1 ≤ bl ∧ bl < k ∧ L ≤ k ∧ wr.heap[w1.heap.size]? = some (.cells #[.slice a n c, .int .i64 off, .slice a' L c'] 163) ∧ OwR wr (w1.heap.size + 1) a' L c' acc ∧ acc ++ crossF off k bl (xs.drop k) = crossF off 0 (-1) xs ∧ Below w1.heap.size w1 wr) (fun _ z _ => n - (intOf z).toNat)
  case atStart => exact ⟨0, 0, 0, -1, none, [], by omega, rfl, rfl, by omega, by omega, by omega, alloc_new _ _, OwR.nil _ _, rfl, ba⟩
  case round =>
    obtain ⟨k, L, c', bl, a', acc, hk, rfl, rfl, hb0, hb1', hL, hblk, hown, hcr, hbr⟩ := hrel
    have HCR := Lib.hid hcr
    clear hcr
    have hbw' := hbw.trans (hbr.mono (by omega))
    have f0' := cell_keep f0 hbr
    have f1' := cell_keep f1 hbr
    have hsD := blk_lt hblk
    by_cases hlt : k < n
    · obtain ⟨b1, o1, rfl, hc1⟩ := h1.at_ (by omega)
      have e1 := cell_keep (hc1 k hlt) hbw'
      clear hc1
      have hd := crossF_drop off xs k bl (by omega)
      have hv := V3.out k
      have HD := Lib.hid hd
      clear hd
      obtain ⟨x, hx⟩ : ∃ x, xs[k]?.getD 0 = x := ⟨_, rfl⟩
      rw [hx] at e1 hv HD
      clear hx
      have hi : (k : Int) < (n : Int) := by omega
      have hi0 : (0 : Int) ≤ (k : Int) := by omega
      by_cases t1 : x < -off
      · rw [if_pos t1] at HD
        go_wp2_with fail
        go_roundw
        case rel => exact ⟨k + 1, L, c', k, a', acc, by omega, rfl, by go_num, by omega, by omega, by omega, hblk, hown, by rw [← HD.out]; exact HCR.out, hbr⟩
        case measure => simp [intOf]; omega
      · rw [if_neg t1] at HD
        have t1' : -off ≤ x := by omega
        clear t1
        by_cases t2 : off < x
        · by_cases t3 : 0 ≤ bl
          · rw [if_pos ⟨t2, t3⟩] at HD
            have d2 : wr.cell? ⟨w1.heap.size, 2, none⟩ = some (.slice a' L c') := cell_block hblk 2
            go_wp2_with (refine appR (B := w1.heap.size + 1) (l := acc) rfl _ _ rfl hown rfl rfl (by omega) (by omega) ?_; intro a2 c2 w5 ho5 hb5 hs5; have hblk5 := (hb5.block _ (Nat.lt_succ_self _)).trans hblk; have d5 : w5.cell? ⟨w1.heap.size, 2, none⟩ = some (.slice a' L c') := cell_block hblk5 2; have r5 := frozen_block hblk5 2)
            go_roundw
            case rel =>
              refine ⟨k + 1, L + 1, c2, -1, a2, acc ++ [(bl, (k : Int))], by omega, rfl, by go_num, by omega, by omega, by omega, blk_set3 hblk5 _, ho5.under (by omega) _, ?_, (hbr.trans (hb5.mono (by omega))).setCell (by simp) _⟩
              rw [List.append_assoc]
              exact (congrArg (acc ++ ·) HD.out.symm).trans HCR.out
            case measure => simp [intOf]; omega
          · rw [if_neg (fun h => t3 h.2)] at HD
            have t3' : bl < 0 := by omega
            clear t3
            go_wp2_with fail
            go_roundw
            case rel => exact ⟨k + 1, L, c', bl, a', acc, by omega, rfl, by go_num, by omega, by omega, by omega, hblk, hown, by rw [← HD.out]; exact HCR.out, hbr⟩
            case measure => simp [intOf]; omega
        · rw [if_neg (fun h => t2 h.1)] at HD
          have t2' : x ≤ off := by omega
          clear t2
          go_wp2_with fail
          go_roundw
          case rel => exact ⟨k + 1, L, c', bl, a', acc, by omega, rfl, by go_num, by omega, by omega, by omega, hblk, hown, by rw [← HD.out]; exact HCR.out, hbr⟩
          case measure => simp [intOf]; omega
    · have hle : (n : Int) ≤ (k : Int) := by omega
      have hacc : acc = crossF off 0 (-1) xs := by
        have := HCR.out
        rw [List.drop_eq_nil_of_le (by omega)] at this
        simpa [crossF] using this
      have x2' := blk_keep x2 hbr
      have d0 : wr.cell? ⟨w1.heap.size, 0, none⟩ = some (.slice a n c) := cell_block hblk 0
      have d1 : wr.cell? ⟨w1.heap.size, 1, none⟩ = some (.int .i64 off) := cell_block hblk 1
      have d2 : wr.cell? ⟨w1.heap.size, 2, none⟩ = some (.slice a' L c') := cell_block hblk 2
      have g0 : wr.cell? ⟨w.heap.size + 1, 0, none⟩ = some (.slice none 0 0) := cell_block x2' 0
      have g1 : wr.cell? ⟨w.heap.size + 1, 1, none⟩ = some (.int .i64 0) := cell_block x2' 1
      have g2 : wr.cell? ⟨w.heap.size + 1, 2, none⟩ = some (.slice none 0 0) := cell_block x2' 2
      have r0 := frozen_block x2' 0
      have r1 := frozen_block x2' 1
      have r2 := frozen_block x2' 2
      obtain ⟨s0, s1, s2⟩ := set3 (x := .slice a n c) (y := .int .i64 off) (z := .slice a' L c') g0 g1 g2
      go_wp2_with fail
      refine bodyPost_ret (v := .tuple #[.agg #[.slice a n c, .int .i64 off, .slice a' L c'], .int .i64 0]) (by simp [results, Try.results113, go_sem, s0, s1, s2]) rfl ⟨a', L, c', rfl, ?_, ?_⟩
      · rw [← hacc]
        exact (((hown.under (by omega) _).under (by omega) _).under (by omega) _).weak (by omega)
      · exact ((hbw'.setCell (by simp) _).setCell (by simp) _).setCell (by simp) _
end Go.Proofs.Ytmaidjankakppaa
