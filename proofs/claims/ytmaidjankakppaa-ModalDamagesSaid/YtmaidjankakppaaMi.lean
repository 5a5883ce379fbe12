/- Contracts of chapter 6: EnclosureOf. -/
import Derived.Test.YtmaidjankakppaaMh
namespace Go.Proofs.Ytmaidjankakppaa
open Go.RowKit
open Calmly (Kept)

/-- The error of an enclosure. -/
def encErr (ms ks : List Int) (mode den : Int) : Int := firstE [(checkF ms ks).2, unlessE (wIn mode 0 ((ms.length : Int) - 1)) 6, unlessE (wIn den 1 50) 2]
theorem firstE_three (x y z : Int) : firstE [x, y, z] = if x = 0 then (if y = 0 then z else y) else x := by
  unfold firstE
  split
  · exact firstE_two y z
  · rfl
theorem encErr_ok {ms ks : List Int} {mode den : Int} (h : encErr ms ks mode den = 0) : (checkF ms ks).2 = 0 ∧ 0 ≤ mode ∧ mode ≤ (ms.length : Int) - 1 ∧ 1 ≤ den ∧ den ≤ 50 := by
  unfold encErr at h
  rw [firstE_three] at h
  split at h
  · rename_i h1
    split at h
    · rename_i h2
      refine ⟨h1, ?_⟩
      have h3 : wIn mode 0 ((ms.length : Int) - 1) = true := by
        cases hw : wIn mode 0 ((ms.length : Int) - 1)
        · rw [hw] at h2; cases h2
        · rfl
      have h4 : wIn den 1 50 = true := by
        cases hw : wIn den 1 50
        · rw [hw] at h; cases h
        · rfl
      have := wIn_iff.1 h3
      have := wIn_iff.1 h4
      omega
    · rename_i h2
      exact absurd h h2
  · rename_i h1
    exact absurd h h1

set_option maxRecDepth 100000 in
set_option maxHeartbeats 4000000 in
theorem EnclosureOf_any (a b : Option Addr) (n c m d : Nat) (ms ks : List Int) (mode den : Int) (w : World) (h1 : SI w a n c ms) (h2 : SI w b m d ks)
    (E lo hi : Int) (hE : encErr ms ks mode den = E) (hok : E = 0 → encF ms ks mode den = (lo, hi)) (hno : E ≠ 0 → lo = 0 ∧ hi = 0) :
    Calls Try.prog 37 #[.agg #[.slice a n c, .slice b m d], .int .i64 mode, .int .i64 den] w fun e w' => e = .returned (.tuple #[.agg #[.int .i64 lo, .int .i64 hi], .int .i64 E]) ∧ Below w.heap.size w w' := by
  have HE := Lib.hid hE
  have HOK := Lib.hid hok
  have HNO := Lib.hid hno
  clear hE hok hno
  have hb2 : Below w.heap.size w ((w.alloc (.cells #[.slice a n c, .slice b m d] 24)).alloc (.cells #[.int .i64 0, .int .i64 0] 63)) := ((Below.refl _ _).alloc (Nat.le_refl _) _).alloc (by simp) _
  obtain ⟨k1, k2⟩ : m ≤ ks.length ∧ ks.length ≤ m := by have := h2.len; omega
  obtain ⟨l1, l2⟩ : n ≤ ms.length ∧ ms.length ≤ n := by have := h1.len; omega
  have m1 := h1.max
  have c1 := h1.cap
  go_enter Try.func37, Try.ntmps37
  go_wp2_with fail
  refine (open_any a b n c m d ms ks _ (h1.keep hb2) (h2.keep hb2)).mono ?_
  rintro e w1 ⟨rfl, hb1⟩
  obtain ⟨x1, x2⟩ := box2 (w := w) (o := .cells #[.slice a n c, .slice b m d] 24) (o' := .cells #[.int .i64 0, .int .i64 0] 63) hb1
  have hs1 := blk_lt x2
  have hs0 := blk_lt x1
  have f0 : w1.cell? ⟨w.heap.size, 0, none⟩ = some (.slice a n c) := cell_block x1 0
  have g0 : w1.cell? ⟨w.heap.size + 1, 0, none⟩ = some (.int .i64 0) := cell_block x2 0
  have g1 : w1.cell? ⟨w.heap.size + 1, 1, none⟩ = some (.int .i64 0) := cell_block x2 1
  have g2 := frozen_block x2 0
  have g3 := frozen_block x2 1
  have hbw : Below w.heap.size w w1 := hb2.trans (hb1.mono (by simp; omega))
  go_wp2_with fail
  refine (mWithin_any _ _ _ _).mono ?_
  rintro e w' ⟨rfl, rfl⟩
  go_wp2_with fail
  refine (unless_any _ _ _).mono ?_
  rintro e w' ⟨rfl, rfl⟩
  go_wp2_with fail
  refine (isDen_any _ _).mono ?_
  rintro e w' ⟨rfl, rfl⟩
  go_wp2_with fail
  refine (unless_any _ _ _).mono ?_
  rintro e w' ⟨rfl, rfl⟩
  go_wp2_with fail
  have hE1 : firstE [(checkF ms ks).2, unlessE (wIn mode 0 ((n : Int) - 1)) 6, unlessE (wIn den 1 50) 2] = E := by
    rw [show (n : Int) = (ms.length : Int) by omega]
    exact HE.out
  refine (first_any _ 3 3 _ _ (SI.three _ _ _ _ _ (by simp))).mono ?_
  rintro e w' ⟨rfl, rfl⟩
  rw [hE1]
  clear hE1
  have hu : ∀ o, Below w1.heap.size w1 ((w1.alloc (.cells #[.slice a n c, .slice b m d] 141)).alloc o) := fun o => ((Below.refl _ _).alloc (Nat.le_refl _) _).alloc (by simp) _
  by_cases hz : E = 0
  · subst hz
    have hlh := HOK.out rfl
    obtain ⟨he0, hm0, hm1, hd0, hd1⟩ := encErr_ok HE.out
    obtain ⟨q1, q2, q3, q4, q5⟩ := checkF_ok he0
    have hmn : m = n := by omega
    subst hmn
    have HLH := Lib.hid hlh
    have HE0 := Lib.hid he0
    clear hlh he0 q4 q5 q1
    go_wp2_with fail
    refine (enclosure_any a b m c d ms ks mode den _ ((h1.keep hbw).keep (hu _)) ((h2.keep hbw).keep (hu _)) HE0.out hd0 hd1).mono ?_
    rintro e w3 ⟨rfl, hb3⟩
    rw [HLH.out]
    have hb4 := (hu (.cells #[.int .i64 (checkF ms ks).2, .int .i64 (unlessE (wIn mode 0 ((m : Int) - 1)) 6), .int .i64 (unlessE (wIn den 1 50) 2)] 27)).trans (hb3.mono (by simp; omega))
    have x3 := blk_keep x2 hb4
    have g0 : w3.cell? ⟨w.heap.size + 1, 0, none⟩ = some (.int .i64 0) := cell_block x3 0
    have g1 : w3.cell? ⟨w.heap.size + 1, 1, none⟩ = some (.int .i64 0) := cell_block x3 1
    have g2 := frozen_block x3 0
    have g3 := frozen_block x3 1
    obtain ⟨s1, s2, s3, s4⟩ := set2 (x := .int .i64 lo) (y := .int .i64 hi) g0 g1
    have hb5 := hbw.trans (hb4.mono (by omega))
    go_wp2_with fail
    refine bodyPost_ret (v := .tuple #[.agg #[.int .i64 lo, .int .i64 hi], .int .i64 0]) (by simp [results, Try.results37, go_sem, s1, s2]) rfl ⟨rfl, ?_⟩
    exact (hb5.setCell (by simp) _).setCell (by simp) _
  · have hz1 : (E != 0) = true := by simpa using hz
    obtain ⟨rfl, rfl⟩ := HNO.out hz
    clear hz
    go_wp2_with fail
    obtain ⟨s1, s2, s3, s4⟩ := set2 (x := .int .i64 0) (y := .int .i64 0) g0 g1
    have hA : ∀ (A : World) (o o' : Obj), Below A.heap.size A ((A.alloc o).alloc o') := fun A o o' => ((Below.refl _ _).alloc (Nat.le_refl _) _).alloc (by simp) _
    have t1 := cell_keep s1 (hA _ (.cells #[.slice a n c, .slice b m d] 141) (.cells #[.int .i64 (checkF ms ks).2, .int .i64 (unlessE (wIn mode 0 ((n : Int) - 1)) 6), .int .i64 (unlessE (wIn den 1 50) 2)] 27))
    have t2 := cell_keep s2 (hA _ (.cells #[.slice a n c, .slice b m d] 141) (.cells #[.int .i64 (checkF ms ks).2, .int .i64 (unlessE (wIn mode 0 ((n : Int) - 1)) 6), .int .i64 (unlessE (wIn den 1 50) 2)] 27))
    refine bodyPost_ret (v := .tuple #[.agg #[.int .i64 0, .int .i64 0], .int .i64 E]) (by simp [results, Try.results37, go_sem, t1, t2]) rfl ⟨rfl, ?_⟩
    exact (((hbw.setCell (by simp) _).setCell (by simp) _).alloc (by simp; omega) _).alloc (by simp; omega) _
end Go.Proofs.Ytmaidjankakppaa
