/- Contracts of chapter 6: the enclosure of a mode. -/
import Derived.Test.YtmaidjankakppaaMg
namespace Go.Proofs.Ytmaidjankakppaa
open Go.RowKit
open Calmly (Kept)

/-- The search for the last whole number that, divided by the denominator, is not greater than the square. -/
def encLoop (ms ks : List Int) (mode den : Int) : Nat → Int → Int → Int
  | 0, lo, _ => lo
  | f + 1, lo, hi => if lo < hi then (if mode < belowF ms ks (((lo + hi + 1) / 2)) den then encLoop ms ks mode den f lo (((lo + hi + 1) / 2) - 1) else encLoop ms ks mode den f (((lo + hi + 1) / 2)) hi) else lo
def encLo (ms ks : List Int) (mode den : Int) : Int := encLoop ms ks mode den 4000 0 (80 * den)
def encF (ms ks : List Int) (mode den : Int) : Int × Int :=
  if modeF ms ks (encLo ms ks mode den) den = true ∧ belowF ms ks (encLo ms ks mode den) den = mode then (encLo ms ks mode den, encLo ms ks mode den) else (encLo ms ks mode den, encLo ms ks mode den + 1)
theorem encLoop_end {ms ks : List Int} {mode den lo hi : Int} (f : Nat) (h : hi ≤ lo) : encLoop ms ks mode den f lo hi = lo := by
  cases f with
  | zero => rfl
  | succ f => rw [encLoop, if_neg (by omega)]
set_option maxRecDepth 100000 in
set_option maxHeartbeats 4000000 in
theorem enclosure_any (a b : Option Addr) (m c d : Nat) (ms ks : List Int) (mode den : Int) (w : World) (h1 : SI w a m c ms) (h2 : SI w b m d ks) (he : (checkF ms ks).2 = 0) (hd1 : 1 ≤ den) (hd2 : den ≤ 50) :
    Calls Try.prog 105 #[.agg #[.slice a m c, .slice b m d], .int .i64 mode, .int .i64 den] w fun e w' => e = .returned (.agg #[.int .i64 (encF ms ks mode den).1, .int .i64 (encF ms ks mode den).2]) ∧ Below w.heap.size w w' := by
  have hb2 : Below w.heap.size w ((w.alloc (.cells #[.slice a m c, .slice b m d] 141)).alloc (.cells #[.int .i64 0, .int .i64 0] 63)) := ((Below.refl _ _).alloc (Nat.le_refl _) _).alloc (by simp) _
  go_enter Try.func105, Try.ntmps105
  go_wp2_with fail
  refine wp_gen (fun v => Below w.heap.size w v ∧ v.heap[w.heap.size]? = some (.cells #[.slice a m c, .slice b m d] 141) ∧ v.heap[w.heap.size + 1]? = some (.cells #[.int .i64 0, .int .i64 0] 63)) ⟨hb2, box2 (Below.refl _ _)⟩ ?_
  clear hb2
  rintro v ⟨hbv, hx, hy⟩
  go_loopw [7, 8] (fun x y wr => ∃ (f : Nat) (lo hi : Int), x = .int .i64 lo ∧ y = .int .i64 hi ∧ 0 ≤ lo ∧ lo ≤ hi ∧ hi ≤ 80 * den ∧ hi - lo ≤ f ∧ encLoop ms ks mode den f lo hi = encLo ms ks mode den ∧ Below (w.heap.size + 2) v wr) (fun x y _ => (intOf y - intOf x).toNat)
  case atStart => exact ⟨4000, 0, 80 * den, rfl, rfl, by omega, by omega, by omega, by omega, rfl, Below.refl _ _⟩
  case round =>
    obtain ⟨f, lo, hi, rfl, rfl, i1, i2, i3, i4, hE, hbr⟩ := hrel
    have hsz := blk_lt hy
    have hsr := hbr.size
    have hbw := hbv.trans (hbr.mono (by omega))
    have hx' : wr.heap[w.heap.size]? = some (.cells #[.slice a m c, .slice b m d] 141) := (hbr.block _ (by omega)).trans hx
    have hy' : wr.heap[w.heap.size + 1]? = some (.cells #[.int .i64 0, .int .i64 0] 63) := (hbr.block _ (by omega)).trans hy
    have f0 : wr.cell? ⟨w.heap.size, 0, none⟩ = some (.slice a m c) := cell_block hx' 0
    have f1 : wr.cell? ⟨w.heap.size, 1, none⟩ = some (.slice b m d) := cell_block hx' 1
    have HE := Lib.hid hE
    clear hE
    by_cases hlt : lo < hi
    · have hst : encLoop ms ks mode den f lo hi = if mode < belowF ms ks ((lo + hi + 1) / 2) den then encLoop ms ks mode den (f - 1) lo ((lo + hi + 1) / 2 - 1) else encLoop ms ks mode den (f - 1) ((lo + hi + 1) / 2) hi := by
        obtain ⟨f', rfl⟩ : ∃ f', f = f' + 1 := ⟨f - 1, by omega⟩
        rw [encLoop, if_pos hlt]
        rfl
      have HS := Lib.hid hst
      clear hst
      go_wp2_with fail
      refine (below_any a b m c d ms ks ((lo + hi + 1) / 2) den wr (h1.keep hbw) (h2.keep hbw) he ⟨by omega, by omega, by omega, by omega⟩).mono ?_
      rintro e w5 ⟨rfl, hb5⟩
      have hbr5 := hbr.trans (hb5.mono (by omega))
      by_cases hgt : mode < belowF ms ks ((lo + hi + 1) / 2) den
      · rw [if_pos hgt] at HS
        go_wp2_with fail
        go_roundw
        case rel => exact ⟨f - 1, lo, (lo + hi + 1) / 2 - 1, rfl, rfl, by omega, by omega, by omega, by omega, by rw [← HS.out]; exact HE.out, hbr5⟩
        case measure => simp [intOf]; omega
      · rw [if_neg hgt] at HS
        have hle : belowF ms ks ((lo + hi + 1) / 2) den ≤ mode := by omega
        clear hgt
        go_wp2_with fail
        go_roundw
        case rel => exact ⟨f - 1, (lo + hi + 1) / 2, hi, rfl, rfl, by omega, by omega, by omega, by omega, by rw [← HS.out]; exact HE.out, hbr5⟩
        case measure => simp [intOf]; omega
    · have hle : hi ≤ lo := by omega
      have hlo := HE.out
      rw [encLoop_end f hle] at hlo
      subst hlo
      go_wp2_with fail
      refine (below_any a b m c d ms ks (encLo ms ks mode den) den wr (h1.keep hbw) (h2.keep hbw) he ⟨by omega, by omega, by omega, by omega⟩).mono ?_
      rintro e w5 ⟨rfl, hb5⟩
      have hy5 := blk_keep hy' hb5
      have g0 : w5.cell? ⟨w.heap.size + 1, 0, none⟩ = some (.int .i64 0) := cell_block hy5 0
      have g1 : w5.cell? ⟨w.heap.size + 1, 1, none⟩ = some (.int .i64 0) := cell_block hy5 1
      have g2 := frozen_block hy5 0
      have g3 := frozen_block hy5 1
      have hb6 : Below w.heap.size w w5 := hbw.trans (hb5.mono (by omega))
      have hfin : ∀ x y : Int, Below w.heap.size w ((w5.setCell ⟨w.heap.size + 1, 0, none⟩ (.int .i64 x)).setCell ⟨w.heap.size + 1, 1, none⟩ (.int .i64 y)) := fun x y => (hb6.setCell (by simp) _).setCell (by simp) _
      have hs2 : ∀ x y : Int, _ := fun x y => set2 (x := .int .i64 x) (y := .int .i64 y) g0 g1
      cases hm : modeF ms ks (encLo ms ks mode den) den
      · have hr : encF ms ks mode den = (encLo ms ks mode den, encLo ms ks mode den + 1) := by
          unfold encF
          rw [if_neg (fun h => by rw [hm] at h; cases h.1)]
        go_wp2_with fail
        rw [hr]
        obtain ⟨s1, s2, s3, s4⟩ := hs2 (encLo ms ks mode den) (encLo ms ks mode den + 1)
        refine bodyPost_ret (v := .agg #[.int .i64 (encLo ms ks mode den), .int .i64 (encLo ms ks mode den + 1)]) (by simp [results, Try.results105, go_sem, s1, s2]) rfl ⟨rfl, hfin _ _⟩
      · by_cases hc : belowF ms ks (encLo ms ks mode den) den = mode
        · have hc1 : (belowF ms ks (encLo ms ks mode den) den == mode) = true := by simp [hc]
          have hr : encF ms ks mode den = (encLo ms ks mode den, encLo ms ks mode den) := by
            unfold encF
            rw [if_pos ⟨hm, hc⟩]
          clear hc
          go_wp2_with fail
          rw [hr]
          obtain ⟨s1, s2, s3, s4⟩ := hs2 (encLo ms ks mode den) (encLo ms ks mode den)
          refine bodyPost_ret (v := .agg #[.int .i64 (encLo ms ks mode den), .int .i64 (encLo ms ks mode den)]) (by simp [results, Try.results105, go_sem, s1, s2]) rfl ⟨rfl, hfin _ _⟩
        · have hc1 : (belowF ms ks (encLo ms ks mode den) den == mode) = false := by simp [hc]
          have hr : encF ms ks mode den = (encLo ms ks mode den, encLo ms ks mode den + 1) := by
            unfold encF
            rw [if_neg (fun h => hc h.2)]
          clear hc
          go_wp2_with fail
          rw [hr]
          obtain ⟨s1, s2, s3, s4⟩ := hs2 (encLo ms ks mode den) (encLo ms ks mode den + 1)
          refine bodyPost_ret (v := .agg #[.int .i64 (encLo ms ks mode den), .int .i64 (encLo ms ks mode den + 1)]) (by simp [results, Try.results105, go_sem, s1, s2]) rfl ⟨rfl, hfin _ _⟩

end Go.Proofs.Ytmaidjankakppaa
