/- The distance of a rest as a fraction; copies of parts. The law MotionRecords, walked. Contracts of chapter 2: the reference's errors of oscillators, bands, waves and times. -/
import Derived.Test.YtiibdndchkbefaaK18
namespace Go.Proofs.Ytiibdndchkbefaa
open Go.RowKit Go.Wides
open Calmly (Kept)

/-- How long the numbers of the distance may become. -/
def LK : Nat → Nat
  | 0 => 46
  | k + 1 => 2 * LK k + 6
theorem LK_bd (k : Nat) (h : k ≤ 24) : 46 ≤ LK k ∧ LK k ≤ 1000000000 := by
  have key : ∀ k : Fin 25, 46 ≤ LK k ∧ LK k ≤ 1000000000 := by decide
  exact key ⟨k, by omega⟩
/-- The distance of parts from samples. -/
def qS (xs ps : List Int) (D : Int) : Nat → Rat
  | 0 => ((0 : Int) : Rat)
  | k + 1 => qS xs ps D k + (Rat.divInt (ps[k]?.getD 0) D - ((xs[k]?.getD 0 : Int) : Rat)) * (Rat.divInt (ps[k]?.getD 0) D - ((xs[k]?.getD 0 : Int) : Rat))
theorem rat_sq (y x D p : Rat) (h : y * D = p) : (y - x) * (y - x) * (D * D) = (p - x * D) * (p - x * D) := by
  subst h
  grind
theorem rat_div (p D : Int) (h : D ≠ 0) : Rat.divInt p D * (D : Rat) = (p : Rat) := by
  have : (D : Rat) ≠ 0 := by simpa using h
  rw [Rat.divInt_eq_div]
  grind
theorem rat_cancel (a b c : Rat) (h : a * c ≤ b * c) (hc : 0 < c) : a ≤ b := by
  rcases (Rat.le_total (a := a) (b := b)) with h1 | h1
  · exact h1
  · have h2 := Rat.mul_le_mul_of_nonneg_right h1 (Rat.le_of_lt hc)
    have h3 : a * c = b * c := Rat.le_antisymm h h2
    have : c ≠ 0 := fun h => by rw [h] at hc; exact absurd hc (by decide)
    have h4 : a = b := by grind
    rw [h4]
    exact Rat.le_refl
theorem qS_eq (xs ps : List Int) (D : Int) (hD : 0 < D) (k : Nat) : qS xs ps D k * ((D : Rat) * (D : Rat)) = ((sF (fun t => (ps[t]?.getD 0 - xs[t]?.getD 0 * D) * (ps[t]?.getD 0 - xs[t]?.getD 0 * D)) k : Int) : Rat) := by
  induction k with
  | zero => simp [qS, sF]
  | succ k ih =>
    rw [qS, sF, Rat.add_mul, ih, rat_sq _ _ _ _ (rat_div (ps[k]?.getD 0) D (by omega))]
    push_cast
    rfl
/-- The comparison at the end. -/
theorem qS_cmp {xs ps : List Int} {D : Int} (hD : 0 < D) {n : Nat} {F : Int} (h : sF (fun t => (ps[t]?.getD 0 - xs[t]?.getD 0 * D) * (ps[t]?.getD 0 - xs[t]?.getD 0 * D)) n ≤ D * D * F) :
    cmpI ((qS xs ps D n).num * (((F : Rat).den : Nat) : Int)) ((F : Rat).num * ((qS xs ps D n).den : Int)) ≤ 0 := by
  have hle : qS xs ps D n ≤ (F : Rat) := by
    have hD' : (0 : Rat) < (D : Rat) := by exact_mod_cast hD
    refine rat_cancel _ _ ((D : Rat) * (D : Rat)) ?_ (Rat.mul_pos hD' hD')
    rw [qS_eq xs ps D hD n]
    have h2 : ((sF (fun t => (ps[t]?.getD 0 - xs[t]?.getD 0 * D) * (ps[t]?.getD 0 - xs[t]?.getD 0 * D)) n : Int) : Rat) ≤ ((D * D * F : Int) : Rat) := by exact_mod_cast h
    have h3 : ((D * D * F : Int) : Rat) = (F : Rat) * ((D : Rat) * (D : Rat)) := by push_cast; grind
    rw [h3] at h2
    exact h2
  have := (Rat.le_iff _ _).1 hle
  unfold cmpI
  split
  · decide
  · split
    · decide
    · omega

set_option maxRecDepth 100000 in
set_option maxHeartbeats 1000000 in
theorem copyParts_any (step : Int) (a : Option Addr) (n c : Nat) (xs : List Int) (w : World) (h1 : SI w a n c xs) (hn : n ≤ 1099511627776) :
    Calls Try.prog 66 #[.agg #[.int .i64 step, .slice a n c]] w fun e w' => ∃ a' c', e = .returned (.agg #[.int .i64 step, .slice a' n c']) ∧ OwI w' (w.heap.size + 2) a' n c' xs ∧ Below w.heap.size w w' := by
  have hb2 : Below w.heap.size w ((w.alloc (.cells #[.int .i64 step, .slice a n c] 106)).alloc (.cells #[.int .i64 0, .slice none 0 0] 106)) := ((Below.refl _ _).alloc (Nat.le_refl _) _).alloc (by simp) _
  go_enter Try.func66, Try.ntmps66
  go_wp2_with fail
  refine (copyInts_any a n c xs _ (h1.keep hb2) hn).mono ?_
  rintro e w1 ⟨a', c', rfl, o1, hs⟩
  obtain ⟨x1, x2⟩ := box2 (w := w) (o := .cells #[.int .i64 step, .slice a n c] 106) (o' := .cells #[.int .i64 0, .slice none 0 0] 106) hs
  have BW := hb2.trans (hs.mono hb2.size)
  have hl := blk_lt x2
  replace o1 := o1.weak (B' := w.heap.size + 2) (by simp)
  clear hs
  have f0 := cell_block x1 0
  have f1 := cell_block x1 1
  have f2 := frozen_block x1 1
  have g0 := cell_block x2 0
  have g1 := cell_block x2 1
  have g2 := frozen_block x2 0
  have g3 := frozen_block x2 1
  go_wp2_with fail
  have hne : w.heap.size ≠ w.heap.size + 1 := by omega
  have z1 : ((w1.setCell ⟨w.heap.size, 1, none⟩ (.slice a' n c')).heap[w.heap.size]?) = some (.cells #[.int .i64 step, .slice a' n c'] 106) := blk_setAt x1 1 _
  have z2 : ((w1.setCell ⟨w.heap.size, 1, none⟩ (.slice a' n c')).heap[w.heap.size + 1]?) = some (.cells #[.int .i64 0, .slice none 0 0] 106) := by
    rw [Below.heap_setCell _ _ _ _ (by show w.heap.size + 1 ≠ w.heap.size; omega)]
    exact x2
  replace o1 := o1.under (r := w.heap.size) (o := 1) (by omega) (.slice a' n c')
  replace BW := BW.setCell (p := ⟨w.heap.size, 1, none⟩) (Nat.le_refl _) (.slice a' n c')
  obtain ⟨s1, s2, s3, s4⟩ := set2 (x := .int .i64 step) (y := .slice a' n c') (cell_block z2 0) (cell_block z2 1)
  refine bodyPost_ret (v := .agg #[.int .i64 step, .slice a' n c']) (by simp [results, Try.results66, go_sem, s1, s2]) rfl ⟨a', c', rfl, ?_, ?_⟩
  · exact o1.under2 (by omega) _ _
  · exact (BW.setCell (by simp) _).setCell (by simp) _
end Go.Proofs.Ytiibdndchkbefaa

namespace Go.Proofs.Ytiibdndchkbefaa
open Go.RowKit
open Calmly (Kept)

theorem decide_refl (l : List Int) : decide (l = l) = true := by simp

set_option maxRecDepth 100000 in
set_option maxHeartbeats 4000000 in
theorem MotionRecords_walk (step : Int) (a : Option Addr) (n c : Nat) (xs : List Int) (w : World) (h1 : SI w a n c xs) :
    Calls Try.prog 5 #[.agg #[.int .i64 step, .slice a n c]] w fun e w' => e = .returned (.bool true) ∧ Below w.heap.size w w' := by
  have hA : ∀ (A : World) (o : Obj), Below A.heap.size A (A.alloc o) := fun A o => (Below.refl _ _).alloc (Nat.le_refl _) _
  obtain ⟨l1, l2⟩ : n ≤ xs.length ∧ xs.length ≤ n := by have := h1.len; omega
  have m1 := h1.max
  have c1 := h1.cap
  have x1 := alloc_new w (.cells #[.int .i64 step, .slice a n c] 24)
  have BW := hA w (.cells #[.int .i64 step, .slice a n c] 24)
  go_enter Try.func5, Try.ntmps5
  go_wp2_with fail
  refine (awake_any _).mono ?_
  rintro e w1 ⟨rfl, hs⟩
  replace x1 := blk_keep x1 hs
  replace BW := BW.trans (hs.mono BW.size)
  clear hs
  have f0 := cell_block x1 0
  have f1 := cell_block x1 1
  go_wp2_with fail
  refine (few_any step a n c _ c1 m1).mono ?_
  rintro e w2 ⟨rfl, hs⟩
  replace x1 := blk_keep x1 hs
  replace BW := BW.trans (hs.mono BW.size)
  clear hs f0 f1
  have f0 := cell_block x1 0
  have f1 := cell_block x1 1
  by_cases hn : n ≤ 26
  case neg =>
    rw [show decide (n ≤ 26) = false from by simpa using hn]
    go_wp2_with fail
    go_ret
    exact ⟨rfl, BW⟩
  rw [show decide (n ≤ 26) = true from by simpa using hn]
  obtain ⟨I, E, hR⟩ : ∃ I E, recF step xs = (I, E) := ⟨_, _, rfl⟩
  obtain ⟨X1, hX1, hX1'⟩ : ∃ X : List Int, (E ≠ 0 → X = []) ∧ (E = 0 → X = sumsF xs) := by
    by_cases h : E = 0
    · exact ⟨_, fun hh => absurd h hh, fun _ => rfl⟩
    · exact ⟨_, fun _ => rfl, fun hh => absurd hh h⟩
  obtain ⟨X2, hX2, hX2'⟩ : ∃ X : List Int, (E ≠ 0 → X = []) ∧ (E = 0 → X = sumsF (sumsF xs)) := by
    by_cases h : E = 0
    · exact ⟨_, fun hh => absurd h hh, fun _ => rfl⟩
    · exact ⟨_, fun _ => rfl, fun hh => absurd hh h⟩
  obtain ⟨V, D, hV, hV'⟩ : ∃ V D : Int, (E ≠ 0 → V = 0 ∧ D = 0) ∧ (E = 0 → sumT xs n = V ∧ sumT (sumsF xs) n = D) := by
    by_cases h : E = 0
    · exact ⟨_, _, fun hh => absurd h hh, fun _ => ⟨rfl, rfl⟩⟩
    · exact ⟨_, _, fun _ => ⟨rfl, rfl⟩, fun hh => absurd hh h⟩
  have HR := Lib.hid hR
  have HX1 := Lib.hid hX1
  have HX1' := Lib.hid hX1'
  have HX2 := Lib.hid hX2
  have HX2' := Lib.hid hX2'
  have HV := Lib.hid hV
  have HV' := Lib.hid hV'
  clear hR hX1 hX1' hX2 hX2' hV hV'
  go_wp2_with fail
  refine (copy_any step a n c xs _ (h1.keep BW) (by omega)).mono ?_
  rintro e w3 ⟨a3, c3, rfl, s3, hs⟩
  replace x1 := blk_keep x1 hs
  replace BW := BW.trans (hs.mono BW.size)
  clear hs f0 f1
  have f0 := cell_block x1 0
  have f1 := cell_block x1 1
  go_wp2_with fail
  refine (CheckRecord_any step a3 n c3 xs _ s3 I E HR.out).mono ?_
  rintro e w4 ⟨rfl, hs⟩
  replace x1 := blk_keep x1 hs
  replace BW := BW.trans (hs.mono BW.size)
  clear hs f0 f1 s3
  have f0 := cell_block x1 0
  have f1 := cell_block x1 1
  go_wp2_with fail
  refine (copy_any step a n c xs _ (h1.keep BW) (by omega)).mono ?_
  rintro e w5 ⟨a5, c5, rfl, s5, hs⟩
  replace x1 := blk_keep x1 hs
  replace BW := BW.trans (hs.mono BW.size)
  clear hs f0 f1
  have f0 := cell_block x1 0
  have f1 := cell_block x1 1
  go_wp2_with fail
  refine (VelocitiesOf_any step a5 n c5 xs _ s5 E X1 (by rw [HR.out]) HX1.out HX1'.out).mono ?_
  rintro e w6 ⟨av, nv, cv, rfl, sv, hs⟩
  replace x1 := blk_keep x1 hs
  replace BW := BW.trans (hs.mono BW.size)
  clear hs f0 f1 s5
  have f0 := cell_block x1 0
  have f1 := cell_block x1 1
  go_wp2_with fail
  refine (copy_any step a n c xs _ (h1.keep BW) (by omega)).mono ?_
  rintro e w7 ⟨a7, c7, rfl, s7, hs⟩
  replace x1 := blk_keep x1 hs
  replace BW := BW.trans (hs.mono BW.size)
  replace sv := sv.keep hs
  clear hs f0 f1
  have f0 := cell_block x1 0
  have f1 := cell_block x1 1
  go_wp2_with fail
  refine (DisplacementsOf_any step a7 n c7 xs _ s7 E X2 (by rw [HR.out]) HX2.out HX2'.out).mono ?_
  rintro e w8 ⟨ad, nd, cd, rfl, sd, hs⟩
  replace x1 := blk_keep x1 hs
  replace BW := BW.trans (hs.mono BW.size)
  replace sv := sv.keep hs
  clear hs f0 f1 s7
  have f0 := cell_block x1 0
  have f1 := cell_block x1 1
  go_wp2_with fail
  refine (copy_any step a n c xs _ (h1.keep BW) (by omega)).mono ?_
  rintro e w9 ⟨a9, c9, rfl, s9, hs⟩
  replace x1 := blk_keep x1 hs
  replace BW := BW.trans (hs.mono BW.size)
  replace sv := sv.keep hs
  replace sd := sd.keep hs
  clear hs f0 f1
  have f0 := cell_block x1 0
  have f1 := cell_block x1 1
  go_wp2_with fail
  refine (EndOf_any step a9 n c9 xs _ s9 E V D (by rw [HR.out]) HV.out HV'.out).mono ?_
  rintro e w10 ⟨rfl, hs⟩
  replace x1 := blk_keep x1 hs
  have hbl := blk_lt x1
  have hk := hA w10 (.cells #[.int .i64 V, .int .i64 D] 58)
  have y1 := alloc_new w10 (.cells #[.int .i64 V, .int .i64 D] 58)
  replace x1 := blk_keep x1 hk
  replace BW := BW.trans (hs.mono BW.size)
  replace BW := BW.trans (hk.mono BW.size)
  replace sv := (sv.keep hs).keep hk
  replace sd := (sd.keep hs).keep hk
  clear hs f0 f1 s9 hk
  have f0 := cell_block x1 0
  have f1 := cell_block x1 1
  go_wp2_with fail
  obtain ⟨bx, hbx⟩ : ∃ b, w10.heap.size = b := ⟨_, rfl⟩
  obtain ⟨W, hW⟩ : ∃ W, w10.alloc (.cells #[.int .i64 V, .int .i64 D] 58) = W := ⟨_, rfl⟩
  rw [hW] at x1 y1 BW sv sd f0 f1 ⊢
  rw [hbx] at y1 hbl ⊢
  clear hW hbx
  refine (rCheckRecord_any step a n c xs _ (h1.keep BW) I E HR.out).mono ?_
  rintro e w11 ⟨rfl, hs⟩
  replace x1 := blk_keep x1 hs
  replace y1 := blk_keep y1 hs
  replace BW := BW.trans (hs.mono BW.size)
  replace sv := sv.keep hs
  replace sd := sd.keep hs
  clear hs f0 f1
  have f0 := cell_block x1 0
  have f1 := cell_block x1 1
  have f2 := cell_block y1 0
  have f3 := cell_block y1 1
  by_cases hz : E = 0
  case neg =>
    obtain ⟨rfl, rfl⟩ := HV.out hz
    have e1 := sv.len
    have e2 := sd.len
    rw [HX1.out hz] at e1
    rw [HX2.out hz] at e2
    obtain rfl : nv = 0 := e1
    obtain rfl : nd = 0 := e2
    have b1 : (E != 0) = true := by simpa using hz
    clear hz
    go_wp2_with fail
    go_ret
    exact ⟨rfl, BW⟩
  subst hz
  have e1 := sv.len
  have e2 := sd.len
  have q1 := HX1'.out rfl
  have q2 := HX2'.out rfl
  obtain ⟨q3, q4⟩ := HV'.out rfl
  subst q1 q2
  rw [sumsF_len] at e1
  rw [sumsF_len, sumsF_len] at e2
  obtain rfl : n = nv := by omega
  obtain rfl : n = nd := by omega
  obtain ⟨g1, g2, g3, g4, g5⟩ := recF_ok (step := step) (xs := xs) (by rw [HR.out])
  have H5 := Lib.hid g5
  have Q3 := Lib.hid q3
  have Q4 := Lib.hid q4
  have hn0 : 0 < n := by omega
  have hlv : (sumsF xs)[n - 1]?.getD 0 = V := by rw [sumsF_get xs (n - 1) (by omega), ← q3]; congr 1; omega
  have hld : (sumsF (sumsF xs))[n - 1]?.getD 0 = D := by rw [sumsF_get (sumsF xs) (n - 1) (by rw [sumsF_len]; omega), ← q4]; congr 1; omega
  have HLV := Lib.hid hlv
  have HLD := Lib.hid hld
  clear g1 g2 g3 g4 g5 q3 q4 e1 e2 hlv hld
  go_wp2_with fail
  refine Calmly.wp_region_mix 33 (.fl 0 <| .fl 1 <| .fl 2 <| .gl 3 <| .gl 4 <| .gl 5 <| .gf 6 <| .gf 7 <| .gl 8 <| .fl 9 <| .fl 10 <| .gl 11 <| .gl 12 <| .fl 13 <| .fl 14 <| .gl 15 <| .gl 16 <| .gl 17 <| .gf 18 <| .gf 19 <| .gl 20 <| .fl 21 <| .fl 22 <| .gl 23 <| .gl 24 <| .fl 25 <| .fl 26 <| .gl 27 <| .gl 28 <| .gl 29 <| .gf 30 <| .gf 31 <| .fl 32 <| .tail []) (by kernel_rfl) (by kernel_rfl) ?_
  have hkd : Below w11.heap.size w11 w11.drew := (Below.refl _ _).drew
  generalize w11.drew = U at hkd ⊢
  replace x1 := blk_keep x1 hkd
  replace y1 := blk_keep y1 hkd
  replace BW := BW.trans (hkd.mono BW.size)
  replace sv := sv.keep hkd
  replace sd := sd.keep hkd
  clear f0 f1 f2 f3 hkd
  have f0 := cell_block x1 0
  have f1 := cell_block x1 1
  have f2 := cell_block y1 0
  have f3 := cell_block y1 1
  have hk := Below.refl U.heap.size U
  have S1 := Lib.hid True.intro
  go_wp2_with (first | ((with_reducible refine Calmly.is_fl ?_); refine Calmly.mix_fl rfl ?_ (fun _ _ => ?_); (first | exact .move _ | exact .load _ _ | exact .fieldAddr _ _ _ (by kernel_rfl) | exact .assign _ | exact .binOp _ _ _ _ _ rfl | exact .indexAddr _ _ _ | exact .len _ _ (by kernel_rfl) | exact .field _ _ _ | exact .extract _ _ | exact .pick _ _ _ | exact .build _ _ | exact .slice _ _ _ _ _ | exact .unOp _ _ _ rfl | exact .index _ _ _ | exact .max _ _ _ rfl rfl | exact .min _ _ _ rfl rfl)) | ((with_reducible refine Calmly.is_gl ?_); refine Calmly.mix_gl rfl rfl rfl ?_; first | ((first | with_reducible refine Calmly.gl_tt ?_ (fun _ _ => ?_) | with_reducible refine Calmly.gl_ff ?_ (fun _ _ => ?_)); (first | exact .move _ | exact .load _ _ | exact .fieldAddr _ _ _ (by kernel_rfl) | exact .assign _ | exact .binOp _ _ _ _ _ rfl | exact .indexAddr _ _ _ | exact .len _ _ (by kernel_rfl) | exact .field _ _ _ | exact .extract _ _ | exact .pick _ _ _ | exact .build _ _ | exact .slice _ _ _ _ _ | exact .unOp _ _ _ rfl | exact .index _ _ _ | exact .max _ _ _ rfl rfl | exact .min _ _ _ rfl rfl)) | with_reducible refine Calmly.gl_tf (fun _ _ => ?_) | with_reducible refine Calmly.gl_ft (fun _ _ => ?_)) | ((with_reducible refine Calmly.is_eff ?_); refine Calmly.mix_eff rfl (fun _ _ => ?_)) | ((with_reducible refine Calmly.is_gf ?_); refine Calmly.mix_gf rfl rfl rfl ?_; first | with_reducible refine Calmly.gf_tt (fun _ _ => ?_) | with_reducible refine Calmly.gf_ff (fun _ _ => ?_) | with_reducible refine Calmly.gf_tf (kept_of hk) (fun _ _ => ?_) | with_reducible refine Calmly.gf_ft (kept_of hk) (fun _ _ => ?_)) | ((with_reducible refine Calmly.is_tail ?_); first | refine Calmly.mix_tail_nil ?_ | refine Calmly.mix_tail rfl (fun _ _ => ?_)) | ((with_reducible refine Calmly.is_kept ?_); refine ⟨kept_of hk, ?_⟩) | (with_reducible refine Calmly.mix_alt ?_ ?_) | (go_at_call 35; refine (rVelocities_any a n c xs _ ((h1.keep BW).keep hk) (by omega) (fun j => by have := H5.out j; omega)).mono ?_; rintro e u1 ⟨a11, c11, rfl, s11, hs1⟩; replace hk := step_of hk hs1) | (go_at_call 25; have _ := S1.out; clear S1; refine (ints_any av a11 n n cv c11 _ _ _ (sv.keep hk) s11).mono ?_; rintro e u2 ⟨rfl, q2, rfl⟩; rw [decide_refl]; replace hk := below_drewN hk q2) | (go_at_call 36; refine (rDisplacements_any a n c xs _ ((h1.keep BW).keep hk) (by omega) H5.out).mono ?_; rintro e u3 ⟨a12, c12, rfl, s12, hs2⟩; replace hk := step_of hk hs2) | (go_at_call 25; refine (ints_any ad a12 n n cd c12 _ _ _ (sd.keep hk) s12).mono ?_; rintro e u2 ⟨rfl, q3, rfl⟩; rw [decide_refl]; replace hk := below_drewN hk q3) | (go_at_call 37; refine (rEnd_any a n c xs _ ((h1.keep BW).keep hk) hn (fun j => by have := H5.out j; omega) V D Q3.out Q4.out).mono ?_; rintro e u4 ⟨rfl, hs3⟩; replace hk := step_of hk hs3))
  have hkd : Below U.heap.size U u4.drew := hk.trans ((Below.refl _ _).drew.mono hk.size)
  replace y1 := blk_keep y1 hkd
  replace BW := BW.trans (hkd.mono BW.size)
  replace sv := sv.keep hkd
  replace sd := sd.keep hkd
  clear f0 f1 f2 f3 hk hs1 hs2 hs3 s11 s12 x1
  obtain ⟨bv, ov, rfl, hcv⟩ := sv.at_ hn0
  obtain ⟨bd, od, rfl, hcd⟩ := sd.at_ hn0
  have ev := hcv (n - 1) (by omega)
  have ed := hcd (n - 1) (by omega)
  rw [HLV.out] at ev
  rw [HLD.out] at ed
  have hn1 : ((n : Int) - 1).toNat = n - 1 := by omega
  have hn2 : (0 : Int) ≤ (n : Int) - 1 := by omega
  have hn3 : (n : Int) - 1 < (n : Int) := by omega
  clear hcv hcd
  refine Calmly.wp_region_mix 19 (.fl 0 <| .fl 1 <| .fl 2 <| .fl 3 <| .fl 4 <| .fl 5 <| .fl 6 <| .fl 7 <| .fl 8 <| .fl 9 <| .gl 10 <| .gl 11 <| .gl 12 <| .gl 13 <| .gl 14 <| .gl 15 <| .gl 16 <| .gl 17 <| .gl 18 <| .tail [19, 20]) (by kernel_rfl) (by kernel_rfl) ?_
  generalize u4.drew = Z at y1 BW sv sd ev ed ⊢
  have f2 := cell_block y1 0
  have f3 := cell_block y1 1
  have hk := Below.refl Z.heap.size Z
  go_wp2_with (first | ((with_reducible refine Calmly.is_fl ?_); refine Calmly.mix_fl rfl ?_ (fun _ _ => ?_); (first | exact .move _ | exact .load _ _ | exact .fieldAddr _ _ _ (by kernel_rfl) | exact .assign _ | exact .binOp _ _ _ _ _ rfl | exact .indexAddr _ _ _ | exact .len _ _ (by kernel_rfl) | exact .field _ _ _ | exact .extract _ _ | exact .pick _ _ _ | exact .build _ _ | exact .slice _ _ _ _ _ | exact .unOp _ _ _ rfl | exact .index _ _ _ | exact .max _ _ _ rfl rfl | exact .min _ _ _ rfl rfl)) | ((with_reducible refine Calmly.is_gl ?_); refine Calmly.mix_gl rfl rfl rfl ?_; first | ((first | with_reducible refine Calmly.gl_tt ?_ (fun _ _ => ?_) | with_reducible refine Calmly.gl_ff ?_ (fun _ _ => ?_)); (first | exact .move _ | exact .load _ _ | exact .fieldAddr _ _ _ (by kernel_rfl) | exact .assign _ | exact .binOp _ _ _ _ _ rfl | exact .indexAddr _ _ _ | exact .len _ _ (by kernel_rfl) | exact .field _ _ _ | exact .extract _ _ | exact .pick _ _ _ | exact .build _ _ | exact .slice _ _ _ _ _ | exact .unOp _ _ _ rfl | exact .index _ _ _ | exact .max _ _ _ rfl rfl | exact .min _ _ _ rfl rfl)) | with_reducible refine Calmly.gl_tf (fun _ _ => ?_) | with_reducible refine Calmly.gl_ft (fun _ _ => ?_)) | ((with_reducible refine Calmly.is_eff ?_); refine Calmly.mix_eff rfl (fun _ _ => ?_)) | ((with_reducible refine Calmly.is_gf ?_); refine Calmly.mix_gf rfl rfl rfl ?_; first | with_reducible refine Calmly.gf_tt (fun _ _ => ?_) | with_reducible refine Calmly.gf_ff (fun _ _ => ?_) | with_reducible refine Calmly.gf_tf (kept_of hk) (fun _ _ => ?_) | with_reducible refine Calmly.gf_ft (kept_of hk) (fun _ _ => ?_)) | ((with_reducible refine Calmly.is_tail ?_); first | refine Calmly.mix_tail_nil ?_ | refine Calmly.mix_tail rfl (fun _ _ => ?_)) | ((with_reducible refine Calmly.is_kept ?_); refine ⟨kept_of hk, ?_⟩) | (with_reducible refine Calmly.mix_alt ?_ ?_))
  go_ret
  exact ⟨rfl, BW⟩
end Go.Proofs.Ytiibdndchkbefaa

namespace Go.Proofs.Ytiibdndchkbefaa
open Go.RowKit
open Calmly (Kept)

theorem bandE_eq (l : List Four) : bandE l = if l.length = 0 then 10 else if 6 < l.length then 8 else firstE (l.map bndE) := by
  unfold bandE
  by_cases h0 : l.length = 0
  · simp [h0, firstE, unlessE]
  · by_cases h1 : 6 < l.length
    · have h2 : decide (0 < l.length) = true := by simp; omega
      have h3 : decide (l.length ≤ 6) = false := by simp; omega
      rw [if_neg h0, if_pos h1, h2, h3]
      rfl
    · have h2 : decide (0 < l.length) = true := by simp; omega
      have h3 : decide (l.length ≤ 6) = true := by simp; omega
      rw [if_neg h0, if_neg h1, h2, h3]
      simp only [firstE, unlessE, if_true]
      split <;> simp_all
theorem wavesE_eq (n : Nat) (ws : List (List Int)) : wavesE n ws = if 3 < ws.length then 8 else firstE (ws.map (wavE n)) := by
  unfold wavesE
  by_cases h1 : 3 < ws.length
  · have h3 : decide (ws.length ≤ 3) = false := by simp; omega
    rw [if_pos h1, h3]
    rfl
  · have h3 : decide (ws.length ≤ 3) = true := by simp; omega
    rw [if_neg h1, h3]
    simp only [firstE, unlessE, if_true]
    split <;> simp_all
theorem timesE_eq (m : Nat) (ts : List Int) : timesE m ts = if ts.length = m then firstE (ts.map timE) else 10 := by
  unfold timesE
  by_cases h1 : ts.length = m
  · rw [if_pos h1]
    simp only [h1, decide_true, firstE, unlessE, if_true]
    split <;> simp_all
  · rw [if_neg h1]
    simp [h1, firstE, unlessE]
/-- The error of oscillators. -/
def specE (l : List (Int × Int)) : Int := if 6 < l.length then 8 else firstE (l.map oscE)
theorem specE_eq (l : List (Int × Int)) : firstE [unlessE (decide (l.length ≤ 6)) 8, firstE (l.map oscE)] = specE l := by
  unfold specE
  by_cases h1 : 6 < l.length
  · have h3 : decide (l.length ≤ 6) = false := by simp; omega
    rw [if_pos h1, h3]
    rfl
  · have h3 : decide (l.length ≤ 6) = true := by simp; omega
    rw [if_neg h1, h3]
    simp only [firstE, unlessE, if_true]
    split <;> simp_all

set_option maxHeartbeats 400000 in
theorem rOscErr_any (st dm : Int) (w : World) : Calls Try.prog 40 #[.agg #[.int .i64 st, .int .i64 dm]] w fun e w' => e = .returned (.int .i64 (oscE (st, dm))) ∧ Below w.heap.size w w' := by
  have BW : Below w.heap.size w (w.alloc (.cells #[.int .i64 st, .int .i64 dm] 49)) := (Below.refl _ _).alloc (Nat.le_refl _) _
  cases hs : wIn st 0 3000
  · have hE : oscE (st, dm) = 2 := by simp [oscE, hs, unlessE]
    rw [hE]
    go_enter Try.func40, Try.ntmps40
    go_wp2_with fail
    refine (within_any _ _ _ _).mono ?_
    rintro e w1 ⟨rfl, rfl⟩
    go_wp2_with fail
    go_ret
    exact ⟨rfl, BW⟩
  · cases hd : wIn dm 0 500
    · have hE : oscE (st, dm) = 2 := by simp [oscE, hs, hd, unlessE]
      rw [hE]
      go_enter Try.func40, Try.ntmps40
      go_wp2_with fail
      refine (within_any _ _ _ _).mono ?_
      rintro e w1 ⟨rfl, rfl⟩
      go_wp2_with fail
      refine (within_any _ _ _ _).mono ?_
      rintro e w1 ⟨rfl, rfl⟩
      go_wp2_with fail
      go_ret
      exact ⟨rfl, BW⟩
    · have hE : oscE (st, dm) = 0 := by simp [oscE, hs, hd, unlessE]
      rw [hE]
      go_enter Try.func40, Try.ntmps40
      go_wp2_with fail
      refine (within_any _ _ _ _).mono ?_
      rintro e w1 ⟨rfl, rfl⟩
      go_wp2_with fail
      refine (within_any _ _ _ _).mono ?_
      rintro e w1 ⟨rfl, rfl⟩
      go_wp2_with fail
      go_ret
      exact ⟨rfl, BW⟩

set_option maxRecDepth 100000 in
set_option maxHeartbeats 1000000 in
theorem rSpecErr_any (a : Option Addr) (n c : Nat) (l : List (Int × Int)) (w : World) (h1 : SR w a n c l) (E : Int) (hE : specE l = E) :
    Calls Try.prog 41 #[.slice a n c] w fun e w' => e = .returned (.int .i64 E) ∧ Below w.heap.size w w' := by
  obtain ⟨l1, l2⟩ : n ≤ l.length ∧ l.length ≤ n := by have := h1.len; omega
  have m1 := h1.max
  have c1 := h1.cap
  unfold specE at hE
  by_cases hn : 6 < n
  · have hn2 : (6 : Int) < (n : Int) := by omega
    rw [if_pos (by omega)] at hE
    subst hE
    go_enter Try.func41, Try.ntmps41
    go_wp2_with fail
    go_ret
    exact ⟨rfl, Below.refl _ _⟩
  have hn2 : (n : Int) ≤ 6 := by omega
  rw [if_neg (by omega)] at hE
  have HR := Lib.hid hE
  clear hE
  go_enter Try.func41, Try.ntmps41
  go_wp2_with fail
  go_loopw [3] (fun i wr => ∃ k : Nat, k ≤ n ∧ i = .int .i64 k ∧ firstE ((l.drop k).map oscE) = E ∧ Below w.heap.size w wr) (fun i _ => n - (intOf i).toNat)
  case atStart => exact ⟨0, by omega, rfl, HR.out, Below.refl _ _⟩
  case round =>
    obtain ⟨k, hk, rfl, ht, hbr⟩ := hrel
    have HT := Lib.hid ht
    clear ht
    have hrs := hbr.size
    by_cases hlt : k < n
    · obtain ⟨cb, co, rfl, hcc⟩ := h1.at_ (by omega)
      obtain ⟨y0, y1⟩ := hcc k hlt
      replace y0 := cell_keep y0 hbr
      replace y1 := cell_keep y1 hbr
      clear hcc
      have hd := eachE_drop oscE l (0, 0) k (by omega)
      rw [HT.out] at hd
      obtain ⟨rr, hrr⟩ : ∃ rr, l[k]?.getD (0, 0) = rr := ⟨_, rfl⟩
      obtain ⟨st, dm⟩ := rr
      rw [hrr] at y0 y1 hd
      clear hrr
      dsimp only at y0 y1
      obtain ⟨F, hF⟩ : ∃ F, oscE (st, dm) = F := ⟨_, rfl⟩
      rw [hF] at hd
      have HD := Lib.hid hd
      have HF := Lib.hid hF
      clear hd hF
      have hi1 : (k : Int) < (n : Int) := by omega
      have hi0 : (0 : Int) ≤ (k : Int) := by omega
      go_wp2_with fail
      refine (rOscErr_any st dm _).mono ?_
      rintro e w1 ⟨rfl, hs⟩
      rw [HF.out]
      have hbn := hbr.trans (hs.mono hrs)
      by_cases hz : F = 0
      · subst hz
        have hE0 : ((0 : Int) != 0) = false := rfl
        go_wp2_with fail
        go_roundw
        case rel => exact ⟨k + 1, by omega, by go_num, by rw [HD.out]; simp, hbn⟩
        case measure => simp [intOf]; omega
      · have b1 : (F != 0) = true := by simpa using hz
        have hRE : E = F := by rw [HD.out, if_neg hz]
        clear hz
        go_wp2_with fail
        go_ret
        exact ⟨ret_int hRE.symm, hbn⟩
    · have hle : (n : Int) ≤ (k : Int) := by omega
      have hR0 : E = 0 := by rw [← HT.out, List.drop_eq_nil_of_le (by omega)]; rfl
      go_wp2_with fail
      go_ret
      exact ⟨ret_int hR0.symm, hbr⟩

set_option maxRecDepth 100000 in
set_option maxHeartbeats 1000000 in
theorem rTimesErr_any (wa : Option Addr) (wn wc : Nat) (a : Option Addr) (n c : Nat) (xs : List Int) (w : World) (h1 : SI w a n c xs) (_hw1 : wn ≤ wc) (_hw2 : wc ≤ 9223372036854775807) (E : Int) (hE : timesE wn xs = E) :
    Calls Try.prog 60 #[.slice wa wn wc, .slice a n c] w fun e w' => e = .returned (.int .i64 E) ∧ w = w' := by
  obtain ⟨l1, l2⟩ : n ≤ xs.length ∧ xs.length ≤ n := by have := h1.len; omega
  have m1 := h1.max
  have c1 := h1.cap
  rw [timesE_eq] at hE
  by_cases hn : n = wn
  case neg =>
    have b1 : ((n : Int) != (wn : Int)) = true := by simp; omega
    rw [if_neg (by omega)] at hE
    subst hE
    clear hn
    go_enter Try.func60, Try.ntmps60
    go_wp2_with fail
    go_ret
    exact ⟨rfl, rfl⟩
  subst hn
  rw [if_pos (by omega)] at hE
  have HR := Lib.hid hE
  clear hE
  go_enter Try.func60, Try.ntmps60
  go_wp2_with fail
  go_loop [5] (fun i => ∃ k : Nat, k ≤ n ∧ i = .int .i64 k ∧ firstE ((xs.drop k).map timE) = E) (fun i => n - (intOf i).toNat)
  case atStart => exact ⟨0, by omega, rfl, HR.out⟩
  case round =>
    obtain ⟨k, hk, rfl, ht⟩ := hrel
    have HT := Lib.hid ht
    clear ht
    by_cases hlt : k < n
    · obtain ⟨cb, co, rfl, hcc⟩ := h1.at_ (by omega)
      have y0 := hcc k hlt
      clear hcc
      have hd := eachE_drop timE xs 0 k (by omega)
      rw [HT.out] at hd
      obtain ⟨x, hxx⟩ : ∃ x, xs[k]?.getD 0 = x := ⟨_, rfl⟩
      rw [hxx] at y0 hd
      unfold timE at hd
      have HD := Lib.hid hd
      clear hd hxx
      have hi1 : (k : Int) < (n : Int) := by omega
      have hi0 : (0 : Int) ≤ (k : Int) := by omega
      go_wp2_with fail
      refine (within_any _ _ _ _).mono ?_
      rintro e w1 ⟨rfl, rfl⟩
      cases hw : wIn x (-2) 2
      · have hRE : E = 2 := by rw [HD.out, hw]; rfl
        go_wp2_with fail
        go_ret
        exact ⟨ret_int hRE.symm, rfl⟩
      · have hRE : firstE ((xs.drop (k + 1)).map timE) = E := by rw [HD.out, hw]; rfl
        have HRE := Lib.hid hRE
        clear hRE
        go_wp2_with fail
        go_round
        case rel => exact ⟨k + 1, by omega, by go_num, HRE.out⟩
        case measure => simp [intOf]; omega
    · have hle : (n : Int) ≤ (k : Int) := by omega
      have hR0 : E = 0 := by rw [← HT.out, List.drop_eq_nil_of_le (by omega)]; rfl
      go_wp2_with fail
      go_ret
      first
        | exact ⟨ret_int hR0.symm, rfl⟩
        | exact ⟨rfl, rfl⟩

theorem bndE_eq (st dm lo hi : Int) : bndE ((st, dm), (lo, hi)) = if oscE (st, dm) = 0 then (if wIn lo 0 1000000 = true then (if wIn hi 0 1000000 = true then (if hi < lo then 9 else 0) else 2) else 2) else oscE (st, dm) := by
  unfold bndE
  dsimp only
  by_cases h : oscE (st, dm) = 0
  · rw [if_pos h, firstE, if_pos h]
    cases wIn lo 0 1000000
    · simp [firstE, unlessE]
    · cases wIn hi 0 1000000
      · simp [firstE, unlessE]
      · by_cases h2 : hi < lo
        · have : decide (lo ≤ hi) = false := by simp; omega
          rw [this]
          simp [firstE, unlessE, h2]
        · have : decide (lo ≤ hi) = true := by simp; omega
          rw [this]
          simp [firstE, unlessE, h2]
  · rw [if_neg h, firstE, if_neg h]

set_option maxRecDepth 100000 in
set_option maxHeartbeats 2000000 in
theorem rBandErr_any (a : Option Addr) (n c : Nat) (l : List Four) (w : World) (h1 : SB w a n c l) (E : Int) (hE : bandE l = E) :
    Calls Try.prog 23 #[.slice a n c] w fun e w' => e = .returned (.int .i64 E) ∧ Below w.heap.size w w' := by
  obtain ⟨l1, l2⟩ : n ≤ l.length ∧ l.length ≤ n := by have := h1.len; omega
  have m1 := h1.max
  have c1 := h1.cap
  have hA : ∀ (A : World) (o : Obj), Below A.heap.size A (A.alloc o) := fun A o => (Below.refl _ _).alloc (Nat.le_refl _) _
  rw [bandE_eq] at hE
  by_cases h0 : n = 0
  · subst h0
    rw [if_pos (by omega)] at hE
    subst hE
    go_enter Try.func23, Try.ntmps23
    go_wp2_with fail
    go_ret
    exact ⟨rfl, Below.refl _ _⟩
  have h00 : ((n : Int) == 0) = false := by simp; omega
  rw [if_neg (by omega)] at hE
  by_cases hn : 6 < n
  · have hn2 : (6 : Int) < (n : Int) := by omega
    rw [if_pos (by omega)] at hE
    subst hE
    clear h0
    go_enter Try.func23, Try.ntmps23
    go_wp2_with fail
    go_ret
    exact ⟨rfl, Below.refl _ _⟩
  have hn2 : (n : Int) ≤ 6 := by omega
  rw [if_neg (by omega)] at hE
  have HR := Lib.hid hE
  clear hE h0
  go_enter Try.func23, Try.ntmps23
  go_wp2_with fail
  go_loopw [3] (fun i wr => ∃ k : Nat, k ≤ n ∧ i = .int .i64 k ∧ firstE ((l.drop k).map bndE) = E ∧ Below w.heap.size w wr) (fun i _ => n - (intOf i).toNat)
  case atStart => exact ⟨0, by omega, rfl, HR.out, Below.refl _ _⟩
  case round =>
    obtain ⟨k, hk, rfl, ht, hbr⟩ := hrel
    have HT := Lib.hid ht
    clear ht
    have hrs := hbr.size
    by_cases hlt : k < n
    · obtain ⟨cb, co, rfl, hcc⟩ := h1.at_ (by omega)
      have h1' := hcc k hlt
      obtain ⟨z0, z1, z2, z3⟩ := h1'
      have y0 := cell_keep z0 hbr
      have y1 := cell_keep z1 hbr
      clear hcc
      have hd := eachE_drop bndE l four0 k (by omega)
      rw [HT.out] at hd
      obtain ⟨rr, hrr⟩ : ∃ rr, l[k]?.getD four0 = rr := ⟨_, rfl⟩
      obtain ⟨⟨st, dm⟩, ⟨lo, hi⟩⟩ := rr
      rw [hrr] at z0 z1 z2 z3 y0 y1 hd
      clear hrr
      dsimp only at z0 z1 z2 z3 y0 y1
      rw [bndE_eq] at hd
      obtain ⟨F, hF⟩ : ∃ F, oscE (st, dm) = F := ⟨_, rfl⟩
      rw [hF] at hd
      have HD := Lib.hid hd
      have HF := Lib.hid hF
      clear hd hF
      have hi1 : (k : Int) < (n : Int) := by omega
      have hi0 : (0 : Int) ≤ (k : Int) := by omega
      go_wp2_with fail
      refine (rOscErr_any st dm _).mono ?_
      rintro e w1 ⟨rfl, hs⟩
      rw [HF.out]
      have hbn := hbr.trans (hs.mono hrs)
      by_cases hz : F = 0
      case neg =>
        have b1 : (F != 0) = true := by simpa using hz
        have hRE : E = F := by rw [HD.out, if_neg hz, if_neg hz]
        clear hz
        go_wp2_with fail
        go_ret
        exact ⟨ret_int hRE.symm, hbn⟩
      subst hz
      have hE0 : ((0 : Int) != 0) = false := rfl
      have y2 := cell_keep z2 hbn
      have y3 := cell_keep z3 hbn
      have hd := HD.out
      rw [if_pos rfl] at hd
      have HD2 := Lib.hid hd
      clear hd
      have hbn2 := hbn.trans ((hA w1 (.cells #[.int .i64 lo, .int .i64 hi] 47)).mono hbn.size)
      cases hlo : wIn lo 0 1000000
      · have hRE : E = 2 := by rw [HD2.out, hlo]; rfl
        go_wp2_with fail
        refine (within_any _ _ _ _).mono ?_
        rintro e w2 ⟨rfl, rfl⟩
        go_wp2_with fail
        go_ret
        exact ⟨ret_int hRE.symm, hbn2⟩
      cases hhi : wIn hi 0 1000000
      · have hRE : E = 2 := by rw [HD2.out, hlo, hhi]; rfl
        go_wp2_with fail
        refine (within_any _ _ _ _).mono ?_
        rintro e w2 ⟨rfl, rfl⟩
        go_wp2_with fail
        refine (within_any _ _ _ _).mono ?_
        rintro e w2 ⟨rfl, rfl⟩
        go_wp2_with fail
        go_ret
        exact ⟨ret_int hRE.symm, hbn2⟩
      by_cases hgt : hi < lo
      · have hRE : E = 9 := by rw [HD2.out, hlo, hhi]; simp [hgt]
        go_wp2_with fail
        refine (within_any _ _ _ _).mono ?_
        rintro e w2 ⟨rfl, rfl⟩
        go_wp2_with fail
        refine (within_any _ _ _ _).mono ?_
        rintro e w2 ⟨rfl, rfl⟩
        go_wp2_with fail
        go_ret
        exact ⟨ret_int hRE.symm, hbn2⟩
      · have hgt2 : lo ≤ hi := by omega
        have hRE : firstE ((l.drop (k + 1)).map bndE) = E := by rw [HD2.out, hlo, hhi]; simp [hgt]
        have HRE := Lib.hid hRE
        clear hRE hgt
        go_wp2_with fail
        refine (within_any _ _ _ _).mono ?_
        rintro e w2 ⟨rfl, rfl⟩
        go_wp2_with fail
        refine (within_any _ _ _ _).mono ?_
        rintro e w2 ⟨rfl, rfl⟩
        go_wp2_with fail
        go_roundw
        case rel => exact ⟨k + 1, by omega, by go_num, HRE.out, hbn2⟩
        case measure => simp [intOf]; omega
    · have hle : (n : Int) ≤ (k : Int) := by omega
      have hR0 : E = 0 := by rw [← HT.out, List.drop_eq_nil_of_le (by omega)]; rfl
      go_wp2_with fail
      go_ret
      exact ⟨ret_int hR0.symm, hbr⟩

theorem wavE_eq (n : Nat) (x : List Int) : wavE n x = if x.length = n then (match badS x 0 with | none => if sumT x n = 0 ∧ sumT (sumsF x) n = 0 then 0 else 21 | some _ => 2) else 10 := by
  unfold wavE
  split
  · cases badS x 0 with
    | none =>
      simp only [if_true, unlessE]
      by_cases h : sumT x n = 0 ∧ sumT (sumsF x) n = 0
      · simp [h]
      · rw [if_neg h, if_neg (by simpa using h)]
    | some i => simp
  · rfl

set_option maxRecDepth 100000 in
set_option maxHeartbeats 2000000 in
theorem rWavesErr_any (count : Nat) (a : Option Addr) (n c : Nat) (l : List (List Int)) (w : World) (h1 : SW w a n c l) (hc : count ≤ 24) (E : Int) (hE : wavesE count l = E) :
    Calls Try.prog 22 #[.int .i64 (count : Int), .slice a n c] w fun e w' => e = .returned (.int .i64 E) ∧ Below w.heap.size w w' := by
  obtain ⟨l1, l2⟩ : n ≤ l.length ∧ l.length ≤ n := by have := h1.len; omega
  have m1 := h1.max
  have c1 := h1.cap
  rw [wavesE_eq] at hE
  by_cases hn : 3 < n
  · have hn2 : (3 : Int) < (n : Int) := by omega
    rw [if_pos (by omega)] at hE
    subst hE
    go_enter Try.func22, Try.ntmps22
    go_wp2_with fail
    go_ret
    exact ⟨rfl, Below.refl _ _⟩
  have hn2 : (n : Int) ≤ 3 := by omega
  rw [if_neg (by omega)] at hE
  have HR := Lib.hid hE
  clear hE
  go_enter Try.func22, Try.ntmps22
  go_wp2_with fail
  go_loopw [5] (fun i wr => ∃ k : Nat, k ≤ n ∧ i = .int .i64 k ∧ firstE ((l.drop k).map (wavE count)) = E ∧ Below w.heap.size w wr) (fun i _ => n - (intOf i).toNat)
  case atStart => exact ⟨0, by omega, rfl, HR.out, Below.refl _ _⟩
  case round =>
    obtain ⟨k, hk, rfl, ht, hbr⟩ := hrel
    have HT := Lib.hid ht
    clear ht
    have hrs := hbr.size
    by_cases hlt : k < n
    · obtain ⟨cb, co, rfl, hcc⟩ := h1.at_ (by omega)
      obtain ⟨ya, yn, yc, y0, s0⟩ := hcc k hlt
      replace y0 := cell_keep y0 hbr
      clear hcc
      have hd := eachE_drop (wavE count) l [] k (by omega)
      rw [HT.out] at hd
      obtain ⟨x, hxx⟩ : ∃ x, l[k]?.getD [] = x := ⟨_, rfl⟩
      rw [hxx] at s0 hd
      clear hxx
      have HD := Lib.hid hd
      clear hd
      have yl := s0.len
      have ym := s0.max
      have yc1 := s0.cap
      have hi1 : (k : Int) < (n : Int) := by omega
      have hi0 : (0 : Int) ≤ (k : Int) := by omega
      by_cases hyn : yn = count
      case neg =>
        have b1 : ((yn : Int) != (count : Int)) = true := by simp; omega
        have hRE : E = 10 := by rw [HD.out, show wavE count x = 10 from by rw [wavE_eq, if_neg (by omega)]]; rfl
        clear hyn yl
        go_wp2_with fail
        go_ret
        exact ⟨ret_int hRE.symm, hbr⟩
      subst hyn
      have hw2 : wavE yn x = (match badS x 0 with | none => if sumT x yn = 0 ∧ sumT (sumsF x) yn = 0 then 0 else 21 | some _ => 2) := by rw [wavE_eq, if_pos yl.symm]
      have HD2 := Lib.hid hw2
      clear hw2
      obtain ⟨yl1, yl2⟩ : yn ≤ x.length ∧ x.length ≤ yn := by omega
      clear yl
      go_wp2_with fail
      go_loopw [6] (fun j wz => ∃ p : Nat, p ≤ yn ∧ j = .int .i64 p ∧ badS x 0 = badS (x.drop p) p ∧ wz = wr) (fun j _ => yn - (intOf j).toNat)
      case atStart => exact ⟨0, by omega, rfl, rfl, rfl⟩
      case round =>
        obtain ⟨p, hp, rfl, hbs, rfl⟩ := hrel
        have HBS := Lib.hid hbs
        clear hbs
        by_cases hpl : p < yn
        · obtain ⟨bx, ox, rfl, hcx⟩ := (s0.keep hbr).at_ (by omega)
          have ex := hcx p hpl
          clear hcx
          have hbd := badS_drop x p (by omega)
          obtain ⟨z, hzz⟩ : ∃ z, x[p]?.getD 0 = z := ⟨_, rfl⟩
          rw [hzz] at ex hbd
          have HBD := Lib.hid hbd
          clear hbd hzz
          have hj : (p : Int) < (yn : Int) := by omega
          have hj0 : (0 : Int) ≤ (p : Int) := by omega
          go_wp2_with fail
          refine (rIsSample_any _ _).mono ?_
          rintro e w2 ⟨rfl, rfl⟩
          cases ho : smp z
          · have hRE : E = 2 := by
              have hd := HD2.out
              rw [HBS.out, HBD.out, ho] at hd
              rw [HD.out, hd]
              rfl
            go_wp2_with fail
            go_ret
            exact ⟨ret_int hRE.symm, hbr⟩
          · go_wp2_with fail
            go_roundw
            case rel => exact ⟨p + 1, by omega, by go_num, by rw [HBS.out, HBD.out, ho]; rfl, by first | rfl | trivial⟩
            case measure => simp [intOf]; omega
        · have hle : (yn : Int) ≤ (p : Int) := by omega
          have hnone : badS x 0 = none := by rw [HBS.out, List.drop_eq_nil_of_le (by omega)]; rfl
          have hq := badS_none hnone
          obtain ⟨V, hV⟩ : ∃ V, sumT x yn = V := ⟨_, rfl⟩
          obtain ⟨D, hD⟩ : ∃ D, sumT (sumsF x) yn = D := ⟨_, rfl⟩
          have hd := HD2.out
          rw [hnone, hV, hD] at hd
          dsimp only at hd
          have hd0 := HD.out
          rw [hd] at hd0
          replace hd := hd0
          clear hd0
          have HD3 := Lib.hid hd
          have HV := Lib.hid hV
          have HDD := Lib.hid hD
          have HQ := Lib.hid hq
          clear hnone hq hV hD hd
          go_wp2_with fail
          refine (rEnd_any ya yn yc x _ (s0.keep hbr) (by omega) (fun j => by have := HQ.out j; omega) V D HV.out HDD.out).mono ?_
          rintro e w3 ⟨rfl, hs3⟩
          have hbn := hbr.trans (hs3.mono hrs)
          by_cases hvd : V = 0 ∧ D = 0
          · obtain ⟨rfl, rfl⟩ := hvd
            have hRE : firstE ((l.drop (k + 1)).map (wavE yn)) = E := by rw [HD3.out]; simp
            have HRE := Lib.hid hRE
            clear hRE
            go_wp2_with fail
            go_roundw
            case rel => exact ⟨k + 1, by omega, by go_num, HRE.out, hbn⟩
            case measure => simp [intOf]; omega
          · have hRE : E = 21 := by rw [HD3.out, if_neg hvd, if_neg (by decide)]
            have HVD := Lib.hid hvd
            clear hvd
            go_wp2_with fail
            all_goals first
              | (exfalso; exact HVD.out ⟨by assumption, by assumption⟩)
              | (go_ret; exact ⟨ret_int hRE.symm, hbn⟩)
    · have hle : (n : Int) ≤ (k : Int) := by omega
      have hR0 : E = 0 := by rw [← HT.out, List.drop_eq_nil_of_le (by omega)]; rfl
      go_wp2_with fail
      go_ret
      exact ⟨ret_int hR0.symm, hbr⟩
end Go.Proofs.Ytiibdndchkbefaa
