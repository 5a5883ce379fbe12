/- The law MotionRecords, walked. Contracts of chapter 2: where a record is outside of a band; whether a list has a number. Plain law of chapter 2: the opposite record, the later one, a record of zeros, and an oscillator that is free. -/
import Derived.Test.YtiibdndchkbefaaK12
namespace Go.Proofs.Ytiibdndchkbefaa
open Go.RowKit
open Calmly (Kept)

theorem decide_refl (l : List Int) : decide (l = l) = true := by simp

set_option maxRecDepth 100000 in
set_option maxHeartbeats 4000000 in
theorem MotionRecords_walk (step : Int) (a : Option Addr) (n c : Nat) (xs : List Int) (w : World) (h1 : SI w a n c xs) :
    Calls Try.prog 5 #[.agg #[.int .i64 step, .slice a n c]] w fun e w' => e = .returned (.bool true) ∧ Below w.heap.size w w' := by
  have hA : ∀ (A : World) (o : Obj), Below A.heap.size A (A.alloc o) := fun A o => (Below.refl _ _).alloc (Nat.le_refl _) _
  obtain ⟨l1, l2⟩ : n ≤ xs.length ∧ xs.length ≤ n := by have := h1.len; omega
  have m1 := h1.max
  have c1 := h1.cap
  have x1 := alloc_new w (.cells #[.int .i64 step, .slice a n c] 24)
  have BW := hA w (.cells #[.int .i64 step, .slice a n c] 24)
  go_enter Try.func5, Try.ntmps5
  go_wp2_with fail
  refine (awake_any _).mono ?_
  rintro e w1 ⟨rfl, hs⟩
  replace x1 := blk_keep x1 hs
  replace BW := BW.trans (hs.mono BW.size)
  clear hs
  have f0 := cell_block x1 0
  have f1 := cell_block x1 1
  go_wp2_with fail
  refine (few_any step a n c _ c1 m1).mono ?_
  rintro e w2 ⟨rfl, hs⟩
  replace x1 := blk_keep x1 hs
  replace BW := BW.trans (hs.mono BW.size)
  clear hs f0 f1
  have f0 := cell_block x1 0
  have f1 := cell_block x1 1
  by_cases hn : n ≤ 26
  case neg =>
    rw [show decide (n ≤ 26) = false from by simpa using hn]
    go_wp2_with fail
    go_ret
    exact ⟨rfl, BW⟩
  rw [show decide (n ≤ 26) = true from by simpa using hn]
  obtain ⟨I, E, hR⟩ : ∃ I E, recF step xs = (I, E) := ⟨_, _, rfl⟩
  obtain ⟨X1, hX1, hX1'⟩ : ∃ X : List Int, (E ≠ 0 → X = []) ∧ (E = 0 → X = sumsF xs) := by
    by_cases h : E = 0
    · exact ⟨_, fun hh => absurd h hh, fun _ => rfl⟩
    · exact ⟨_, fun _ => rfl, fun hh => absurd hh h⟩
  obtain ⟨X2, hX2, hX2'⟩ : ∃ X : List Int, (E ≠ 0 → X = []) ∧ (E = 0 → X = sumsF (sumsF xs)) := by
    by_cases h : E = 0
    · exact ⟨_, fun hh => absurd h hh, fun _ => rfl⟩
    · exact ⟨_, fun _ => rfl, fun hh => absurd hh h⟩
  obtain ⟨V, D, hV, hV'⟩ : ∃ V D : Int, (E ≠ 0 → V = 0 ∧ D = 0) ∧ (E = 0 → sumT xs n = V ∧ sumT (sumsF xs) n = D) := by
    by_cases h : E = 0
    · exact ⟨_, _, fun hh => absurd h hh, fun _ => ⟨rfl, rfl⟩⟩
    · exact ⟨_, _, fun _ => ⟨rfl, rfl⟩, fun hh => absurd hh h⟩
  have HR := Lib.hid hR
  have HX1 := Lib.hid hX1
  have HX1' := Lib.hid hX1'
  have HX2 := Lib.hid hX2
  have HX2' := Lib.hid hX2'
  have HV := Lib.hid hV
  have HV' := Lib.hid hV'
  clear hR hX1 hX1' hX2 hX2' hV hV'
  go_wp2_with fail
  refine (copy_any step a n c xs _ (h1.keep BW) (by omega)).mono ?_
  rintro e w3 ⟨a3, c3, rfl, s3, hs⟩
  replace x1 := blk_keep x1 hs
  replace BW := BW.trans (hs.mono BW.size)
  clear hs f0 f1
  have f0 := cell_block x1 0
  have f1 := cell_block x1 1
  go_wp2_with fail
  refine (CheckRecord_any step a3 n c3 xs _ s3 I E HR.out).mono ?_
  rintro e w4 ⟨rfl, hs⟩
  replace x1 := blk_keep x1 hs
  replace BW := BW.trans (hs.mono BW.size)
  clear hs f0 f1 s3
  have f0 := cell_block x1 0
  have f1 := cell_block x1 1
  go_wp2_with fail
  refine (copy_any step a n c xs _ (h1.keep BW) (by omega)).mono ?_
  rintro e w5 ⟨a5, c5, rfl, s5, hs⟩
  replace x1 := blk_keep x1 hs
  replace BW := BW.trans (hs.mono BW.size)
  clear hs f0 f1
  have f0 := cell_block x1 0
  have f1 := cell_block x1 1
  go_wp2_with fail
  refine (VelocitiesOf_any step a5 n c5 xs _ s5 E X1 (by rw [HR.out]) HX1.out HX1'.out).mono ?_
  rintro e w6 ⟨av, nv, cv, rfl, sv, hs⟩
  replace x1 := blk_keep x1 hs
  replace BW := BW.trans (hs.mono BW.size)
  clear hs f0 f1 s5
  have f0 := cell_block x1 0
  have f1 := cell_block x1 1
  go_wp2_with fail
  refine (copy_any step a n c xs _ (h1.keep BW) (by omega)).mono ?_
  rintro e w7 ⟨a7, c7, rfl, s7, hs⟩
  replace x1 := blk_keep x1 hs
  replace BW := BW.trans (hs.mono BW.size)
  replace sv := sv.keep hs
  clear hs f0 f1
  have f0 := cell_block x1 0
  have f1 := cell_block x1 1
  go_wp2_with fail
  refine (DisplacementsOf_any step a7 n c7 xs _ s7 E X2 (by rw [HR.out]) HX2.out HX2'.out).mono ?_
  rintro e w8 ⟨ad, nd, cd, rfl, sd, hs⟩
  replace x1 := blk_keep x1 hs
  replace BW := BW.trans (hs.mono BW.size)
  replace sv := sv.keep hs
  clear hs f0 f1 s7
  have f0 := cell_block x1 0
  have f1 := cell_block x1 1
  go_wp2_with fail
  refine (copy_any step a n c xs _ (h1.keep BW) (by omega)).mono ?_
  rintro e w9 ⟨a9, c9, rfl, s9, hs⟩
  replace x1 := blk_keep x1 hs
  replace BW := BW.trans (hs.mono BW.size)
  replace sv := sv.keep hs
  replace sd := sd.keep hs
  clear hs f0 f1
  have f0 := cell_block x1 0
  have f1 := cell_block x1 1
  go_wp2_with fail
  refine (EndOf_any step a9 n c9 xs _ s9 E V D (by rw [HR.out]) HV.out HV'.out).mono ?_
  rintro e w10 ⟨rfl, hs⟩
  replace x1 := blk_keep x1 hs
  have hbl := blk_lt x1
  have hk := hA w10 (.cells #[.int .i64 V, .int .i64 D] 58)
  have y1 := alloc_new w10 (.cells #[.int .i64 V, .int .i64 D] 58)
  replace x1 := blk_keep x1 hk
  replace BW := BW.trans (hs.mono BW.size)
  replace BW := BW.trans (hk.mono BW.size)
  replace sv := (sv.keep hs).keep hk
  replace sd := (sd.keep hs).keep hk
  clear hs f0 f1 s9 hk
  have f0 := cell_block x1 0
  have f1 := cell_block x1 1
  go_wp2_with fail
  obtain ⟨bx, hbx⟩ : ∃ b, w10.heap.size = b := ⟨_, rfl⟩
  obtain ⟨W, hW⟩ : ∃ W, w10.alloc (.cells #[.int .i64 V, .int .i64 D] 58) = W := ⟨_, rfl⟩
  rw [hW] at x1 y1 BW sv sd f0 f1 ⊢
  rw [hbx] at y1 hbl ⊢
  clear hW hbx
  refine (rCheckRecord_any step a n c xs _ (h1.keep BW) I E HR.out).mono ?_
  rintro e w11 ⟨rfl, hs⟩
  replace x1 := blk_keep x1 hs
  replace y1 := blk_keep y1 hs
  replace BW := BW.trans (hs.mono BW.size)
  replace sv := sv.keep hs
  replace sd := sd.keep hs
  clear hs f0 f1
  have f0 := cell_block x1 0
  have f1 := cell_block x1 1
  have f2 := cell_block y1 0
  have f3 := cell_block y1 1
  by_cases hz : E = 0
  case neg =>
    obtain ⟨rfl, rfl⟩ := HV.out hz
    have e1 := sv.len
    have e2 := sd.len
    rw [HX1.out hz] at e1
    rw [HX2.out hz] at e2
    obtain rfl : nv = 0 := e1
    obtain rfl : nd = 0 := e2
    have b1 : (E != 0) = true := by simpa using hz
    clear hz
    go_wp2_with fail
    go_ret
    exact ⟨rfl, BW⟩
  subst hz
  have e1 := sv.len
  have e2 := sd.len
  have q1 := HX1'.out rfl
  have q2 := HX2'.out rfl
  obtain ⟨q3, q4⟩ := HV'.out rfl
  subst q1 q2
  rw [sumsF_len] at e1
  rw [sumsF_len, sumsF_len] at e2
  obtain rfl : n = nv := by omega
  obtain rfl : n = nd := by omega
  obtain ⟨g1, g2, g3, g4, g5⟩ := recF_ok (step := step) (xs := xs) (by rw [HR.out])
  have H5 := Lib.hid g5
  have Q3 := Lib.hid q3
  have Q4 := Lib.hid q4
  have hn0 : 0 < n := by omega
  have hlv : (sumsF xs)[n - 1]?.getD 0 = V := by rw [sumsF_get xs (n - 1) (by omega), ← q3]; congr 1; omega
  have hld : (sumsF (sumsF xs))[n - 1]?.getD 0 = D := by rw [sumsF_get (sumsF xs) (n - 1) (by rw [sumsF_len]; omega), ← q4]; congr 1; omega
  have HLV := Lib.hid hlv
  have HLD := Lib.hid hld
  clear g1 g2 g3 g4 g5 q3 q4 e1 e2 hlv hld
  go_wp2_with fail
  refine Calmly.wp_region_mix 33 (.fl 0 <| .fl 1 <| .fl 2 <| .gl 3 <| .gl 4 <| .gl 5 <| .gf 6 <| .gf 7 <| .gl 8 <| .fl 9 <| .fl 10 <| .gl 11 <| .gl 12 <| .fl 13 <| .fl 14 <| .gl 15 <| .gl 16 <| .gl 17 <| .gf 18 <| .gf 19 <| .gl 20 <| .fl 21 <| .fl 22 <| .gl 23 <| .gl 24 <| .fl 25 <| .fl 26 <| .gl 27 <| .gl 28 <| .gl 29 <| .gf 30 <| .gf 31 <| .fl 32 <| .tail []) (by kernel_rfl) (by kernel_rfl) ?_
  have hkd : Below w11.heap.size w11 w11.drew := (Below.refl _ _).drew
  generalize w11.drew = U at hkd ⊢
  replace x1 := blk_keep x1 hkd
  replace y1 := blk_keep y1 hkd
  replace BW := BW.trans (hkd.mono BW.size)
  replace sv := sv.keep hkd
  replace sd := sd.keep hkd
  clear f0 f1 f2 f3 hkd
  have f0 := cell_block x1 0
  have f1 := cell_block x1 1
  have f2 := cell_block y1 0
  have f3 := cell_block y1 1
  have hk := Below.refl U.heap.size U
  have S1 := Lib.hid True.intro
  go_wp2_with (first | ((with_reducible refine Calmly.is_fl ?_); refine Calmly.mix_fl rfl ?_ (fun _ _ => ?_); (first | exact .move _ | exact .load _ _ | exact .fieldAddr _ _ _ (by kernel_rfl) | exact .assign _ | exact .binOp _ _ _ _ _ rfl | exact .indexAddr _ _ _ | exact .len _ _ (by kernel_rfl) | exact .field _ _ _ | exact .extract _ _ | exact .pick _ _ _ | exact .build _ _ | exact .slice _ _ _ _ _ | exact .unOp _ _ _ rfl | exact .index _ _ _ | exact .max _ _ _ rfl rfl | exact .min _ _ _ rfl rfl)) | ((with_reducible refine Calmly.is_gl ?_); refine Calmly.mix_gl rfl rfl rfl ?_; first | ((first | with_reducible refine Calmly.gl_tt ?_ (fun _ _ => ?_) | with_reducible refine Calmly.gl_ff ?_ (fun _ _ => ?_)); (first | exact .move _ | exact .load _ _ | exact .fieldAddr _ _ _ (by kernel_rfl) | exact .assign _ | exact .binOp _ _ _ _ _ rfl | exact .indexAddr _ _ _ | exact .len _ _ (by kernel_rfl) | exact .field _ _ _ | exact .extract _ _ | exact .pick _ _ _ | exact .build _ _ | exact .slice _ _ _ _ _ | exact .unOp _ _ _ rfl | exact .index _ _ _ | exact .max _ _ _ rfl rfl | exact .min _ _ _ rfl rfl)) | with_reducible refine Calmly.gl_tf (fun _ _ => ?_) | with_reducible refine Calmly.gl_ft (fun _ _ => ?_)) | ((with_reducible refine Calmly.is_eff ?_); refine Calmly.mix_eff rfl (fun _ _ => ?_)) | ((with_reducible refine Calmly.is_gf ?_); refine Calmly.mix_gf rfl rfl rfl ?_; first | with_reducible refine Calmly.gf_tt (fun _ _ => ?_) | with_reducible refine Calmly.gf_ff (fun _ _ => ?_) | with_reducible refine Calmly.gf_tf (kept_of hk) (fun _ _ => ?_) | with_reducible refine Calmly.gf_ft (kept_of hk) (fun _ _ => ?_)) | ((with_reducible refine Calmly.is_tail ?_); first | refine Calmly.mix_tail_nil ?_ | refine Calmly.mix_tail rfl (fun _ _ => ?_)) | ((with_reducible refine Calmly.is_kept ?_); refine ⟨kept_of hk, ?_⟩) | (with_reducible refine Calmly.mix_alt ?_ ?_) | (go_at_call 35; refine (rVelocities_any a n c xs _ ((h1.keep BW).keep hk) (by omega) (fun j => by have := H5.out j; omega)).mono ?_; rintro e u1 ⟨a11, c11, rfl, s11, hs1⟩; replace hk := step_of hk hs1) | (go_at_call 25; have _ := S1.out; clear S1; refine (ints_any av a11 n n cv c11 _ _ _ (sv.keep hk) s11).mono ?_; rintro e u2 ⟨rfl, q2, rfl⟩; rw [decide_refl]; replace hk := below_drewN hk q2) | (go_at_call 36; refine (rDisplacements_any a n c xs _ ((h1.keep BW).keep hk) (by omega) H5.out).mono ?_; rintro e u3 ⟨a12, c12, rfl, s12, hs2⟩; replace hk := step_of hk hs2) | (go_at_call 25; refine (ints_any ad a12 n n cd c12 _ _ _ (sd.keep hk) s12).mono ?_; rintro e u2 ⟨rfl, q3, rfl⟩; rw [decide_refl]; replace hk := below_drewN hk q3) | (go_at_call 37; refine (rEnd_any a n c xs _ ((h1.keep BW).keep hk) hn (fun j => by have := H5.out j; omega) V D Q3.out Q4.out).mono ?_; rintro e u4 ⟨rfl, hs3⟩; replace hk := step_of hk hs3))
  have hkd : Below U.heap.size U u4.drew := hk.trans ((Below.refl _ _).drew.mono hk.size)
  replace y1 := blk_keep y1 hkd
  replace BW := BW.trans (hkd.mono BW.size)
  replace sv := sv.keep hkd
  replace sd := sd.keep hkd
  clear f0 f1 f2 f3 hk hs1 hs2 hs3 s11 s12 x1
  obtain ⟨bv, ov, rfl, hcv⟩ := sv.at_ hn0
  obtain ⟨bd, od, rfl, hcd⟩ := sd.at_ hn0
  have ev := hcv (n - 1) (by omega)
  have ed := hcd (n - 1) (by omega)
  rw [HLV.out] at ev
  rw [HLD.out] at ed
  have hn1 : ((n : Int) - 1).toNat = n - 1 := by omega
  have hn2 : (0 : Int) ≤ (n : Int) - 1 := by omega
  have hn3 : (n : Int) - 1 < (n : Int) := by omega
  clear hcv hcd
  refine Calmly.wp_region_mix 19 (.fl 0 <| .fl 1 <| .fl 2 <| .fl 3 <| .fl 4 <| .fl 5 <| .fl 6 <| .fl 7 <| .fl 8 <| .fl 9 <| .gl 10 <| .gl 11 <| .gl 12 <| .gl 13 <| .gl 14 <| .gl 15 <| .gl 16 <| .gl 17 <| .gl 18 <| .tail [19, 20]) (by kernel_rfl) (by kernel_rfl) ?_
  generalize u4.drew = Z at y1 BW sv sd ev ed ⊢
  have f2 := cell_block y1 0
  have f3 := cell_block y1 1
  have hk := Below.refl Z.heap.size Z
  go_wp2_with (first | ((with_reducible refine Calmly.is_fl ?_); refine Calmly.mix_fl rfl ?_ (fun _ _ => ?_); (first | exact .move _ | exact .load _ _ | exact .fieldAddr _ _ _ (by kernel_rfl) | exact .assign _ | exact .binOp _ _ _ _ _ rfl | exact .indexAddr _ _ _ | exact .len _ _ (by kernel_rfl) | exact .field _ _ _ | exact .extract _ _ | exact .pick _ _ _ | exact .build _ _ | exact .slice _ _ _ _ _ | exact .unOp _ _ _ rfl | exact .index _ _ _ | exact .max _ _ _ rfl rfl | exact .min _ _ _ rfl rfl)) | ((with_reducible refine Calmly.is_gl ?_); refine Calmly.mix_gl rfl rfl rfl ?_; first | ((first | with_reducible refine Calmly.gl_tt ?_ (fun _ _ => ?_) | with_reducible refine Calmly.gl_ff ?_ (fun _ _ => ?_)); (first | exact .move _ | exact .load _ _ | exact .fieldAddr _ _ _ (by kernel_rfl) | exact .assign _ | exact .binOp _ _ _ _ _ rfl | exact .indexAddr _ _ _ | exact .len _ _ (by kernel_rfl) | exact .field _ _ _ | exact .extract _ _ | exact .pick _ _ _ | exact .build _ _ | exact .slice _ _ _ _ _ | exact .unOp _ _ _ rfl | exact .index _ _ _ | exact .max _ _ _ rfl rfl | exact .min _ _ _ rfl rfl)) | with_reducible refine Calmly.gl_tf (fun _ _ => ?_) | with_reducible refine Calmly.gl_ft (fun _ _ => ?_)) | ((with_reducible refine Calmly.is_eff ?_); refine Calmly.mix_eff rfl (fun _ _ => ?_)) | ((with_reducible refine Calmly.is_gf ?_); refine Calmly.mix_gf rfl rfl rfl ?_; first | with_reducible refine Calmly.gf_tt (fun _ _ => ?_) | with_reducible refine Calmly.gf_ff (fun _ _ => ?_) | with_reducible refine Calmly.gf_tf (kept_of hk) (fun _ _ => ?_) | with_reducible refine Calmly.gf_ft (kept_of hk) (fun _ _ => ?_)) | ((with_reducible refine Calmly.is_tail ?_); first | refine Calmly.mix_tail_nil ?_ | refine Calmly.mix_tail rfl (fun _ _ => ?_)) | ((with_reducible refine Calmly.is_kept ?_); refine ⟨kept_of hk, ?_⟩) | (with_reducible refine Calmly.mix_alt ?_ ?_))
  go_ret
  exact ⟨rfl, BW⟩
end Go.Proofs.Ytiibdndchkbefaa

namespace Go.Proofs.Ytiibdndchkbefaa
open Go.RowKit
open Calmly (Kept)

set_option maxRecDepth 100000 in
set_option maxHeartbeats 1000000 in
theorem OutsideOf_any (step : Int) (a : Option Addr) (n c : Nat) (xs : List Int) (b : Option Addr) (m d : Nat) (l : List Four) (w : World) (h1 : SI w a n c xs) (h2 : SB w b m d l) (E : Int) (X : List Int) (hE : firstE [(recF step xs).2, bandE l] = E) (hno : E ≠ 0 → X = []) (hok : E = 0 → X = outT xs l l.length) :
    Calls Try.prog 26 #[.agg #[.int .i64 step, .slice a n c], .slice b m d] w fun e w' => ∃ a' n' c', e = .returned (.tuple #[.slice a' n' c', .int .i64 E]) ∧ SI w' a' n' c' X ∧ Below w.heap.size w w' := by
  have BW := (Below.refl w.heap.size w).alloc (Nat.le_refl _) (.cells #[.int .i64 step, .slice a n c] 24)
  obtain ⟨l1, l2⟩ : n ≤ xs.length ∧ xs.length ≤ n := by have := h1.len; omega
  obtain ⟨k1, k2⟩ : m ≤ l.length ∧ l.length ≤ m := by have := h2.len; omega
  have m1 := h1.max
  have c1 := h1.cap
  have m2 := h2.max
  have c2 := h2.cap
  obtain ⟨F, hF⟩ : ∃ F, (recF step xs).2 = F := ⟨_, rfl⟩
  obtain ⟨G, hG⟩ : ∃ G, bandE l = G := ⟨_, rfl⟩
  rw [hF, hG] at hE
  have HE := Lib.hid hE
  have HF := Lib.hid hF
  have HG := Lib.hid hG
  have HNO := Lib.hid hno
  have HOK := Lib.hid hok
  clear hE hF hG hno hok
  have x1 := alloc_new w (.cells #[.int .i64 step, .slice a n c] 24)
  go_enter Try.func26, Try.ntmps26
  go_wp2_with fail
  refine (recordErr_any step a n c xs _ (h1.keep BW) F HF.out).mono ?_
  rintro e w1 ⟨rfl, hs⟩
  replace BW := BW.trans (hs.mono BW.size)
  replace x1 := blk_keep x1 hs
  clear hs
  go_wp2_with fail
  refine (bandErr_any b m d l _ (h2.keep BW) G HG.out).mono ?_
  rintro e w3 ⟨rfl, hs⟩
  replace BW := BW.trans (hs.mono BW.size)
  replace x1 := blk_keep x1 hs
  clear hs
  go_wp2_with fail
  refine (nFirst_any _ 2 2 _ _ (SI.two _ _ _ _ (by simp))).mono ?_
  rintro e w2 ⟨rfl, rfl⟩
  rw [HE.out]
  have hA : ∀ (A : World) (o : Obj), Below A.heap.size A (A.alloc o) := fun A o => (Below.refl _ _).alloc (Nat.le_refl _) _
  have hs := hA w3 (.cells #[.int .i64 F, .int .i64 G] 30)
  replace BW := BW.trans (hs.mono BW.size)
  replace x1 := blk_keep x1 hs
  clear hs
  have f0 := cell_block x1 0
  have f1 := cell_block x1 1
  by_cases hz : E = 0
  case neg =>
    obtain rfl := HNO.out hz
    have b1 : (E != 0) = true := by simpa using hz
    clear hz
    go_wp2_with fail
    go_ret2
    exact ⟨none, 0, 0, rfl, Sl.nil _ 1, BW⟩
  subst hz
  obtain rfl := HOK.out rfl
  have hz2 : F = 0 ∧ G = 0 := ⟨firstE_all HE.out _ (by simp), firstE_all HE.out _ (by simp)⟩
  obtain ⟨rfl, rfl⟩ := hz2
  obtain ⟨q1, q2, q3, q4, q5⟩ := recF_ok HF.out
  obtain ⟨r1, r2, r3⟩ := bandE_ok HG.out
  have hq : n ≤ 26 := by omega
  have hq0 : 0 < n := by omega
  have hm : m ≤ 1000 := by omega
  obtain rfl : l.length = m := by omega
  have H5 := Lib.hid q5
  have HO := Lib.hid (fun k hk => (bndE_ok (r3 k hk)).1)
  clear q1 q2 q3 q4 q5 r1 r2 r3
  go_wp2_with fail
  refine (outside_any a n c xs b _ d l _ (h1.keep BW) (h2.keep BW) hq0 hq H5.out hm HO.out).mono ?_
  rintro e w3 ⟨a', n', c', rfl, o3, hs⟩
  go_wp2_with fail
  go_ret2
  exact ⟨a', n', c', rfl, o3.si, BW.trans (hs.mono BW.size)⟩

theorem mem_get {xs : List Int} {x : Int} : x ∈ xs ↔ ∃ j : Nat, j < xs.length ∧ xs[j]?.getD 0 = x := by
  constructor
  · intro h
    obtain ⟨i, hi, rfl⟩ := List.getElem_of_mem h
    exact ⟨i, hi, by rw [List.getElem?_eq_getElem hi]; rfl⟩
  · rintro ⟨j, hj, rfl⟩
    rw [List.getElem?_eq_getElem hj]
    exact List.getElem_mem hj
set_option maxRecDepth 100000 in
set_option maxHeartbeats 1000000 in
theorem has_any (a : Option Addr) (n c : Nat) (xs : List Int) (x : Int) (w : World) (h1 : SI w a n c xs) (hx : x ∈ xs) :
    Calls Try.prog 29 #[.slice a n c, .int .i64 x] w fun e w' => e = .returned (.bool true) ∧ w = w' := by
  obtain ⟨l1, l2⟩ : n ≤ xs.length ∧ xs.length ≤ n := by have := h1.len; omega
  have m1 := h1.max
  have c1 := h1.cap
  obtain ⟨j, hj, hjx⟩ := mem_get.1 hx
  have HX := Lib.hid hjx
  clear hx hjx
  go_enter Try.func29, Try.ntmps29
  go_wp2_with fail
  go_loopw [5] (fun i wr => ∃ k : Nat, i = .int .i64 (k : Int) ∧ k ≤ j ∧ w = wr) (fun i _ => n - (intOf i).toNat)
  case atStart => exact ⟨0, rfl, by omega, rfl⟩
  case round =>
    obtain ⟨k, rfl, hk, rfl⟩ := hrel
    obtain ⟨cb, co, rfl, hcc⟩ := h1.at_ (by omega)
    have y0 := hcc k (by omega)
    obtain ⟨y, hy⟩ : ∃ y, xs[k]?.getD 0 = y := ⟨_, rfl⟩
    rw [hy] at y0
    have HY := Lib.hid hy
    clear hy hcc
    have hi1 : (k : Int) < (n : Int) := by omega
    have hi0 : (0 : Int) ≤ (k : Int) := by omega
    by_cases hyx : y = x
    · have b1 : (y == x) = true := by simpa using hyx
      clear hyx
      go_wp2_with fail
      go_ret
      exact ⟨rfl, rfl⟩
    · have b1 : (y == x) = false := by simpa using hyx
      have hkj : k ≠ j := by
        rintro rfl
        exact hyx (HY.out.symm.trans HX.out)
      clear hyx
      go_wp2_with fail
      go_roundw
      case rel => exact ⟨k + 1, by go_num, by omega, trivial⟩
      case measure => simp [intOf]; omega
end Go.Proofs.Ytiibdndchkbefaa

namespace Go.Proofs.Ytiibdndchkbefaa

def opp (xs : List Int) : List Int := xs.map (fun x => -x)
theorem opp_len (xs : List Int) : (opp xs).length = xs.length := by simp [opp]
theorem opp_get (xs : List Int) (k : Nat) : (opp xs)[k]?.getD 0 = -(xs[k]?.getD 0) := by
  unfold opp
  rw [List.getElem?_map]
  cases xs[k]? <;> simp
theorem opp_take (xs : List Int) (k : Nat) (h : k < xs.length) : opp (xs.take (k + 1)) = opp (xs.take k) ++ [-(xs[k]?.getD 0)] := by
  unfold opp
  rw [List.take_succ_eq_append_getElem h, List.map_append, List.getElem?_eq_getElem h]
  rfl
theorem rspT_opp (xs : List Int) (st dm : Int) (k : Nat) : rspT (opp xs) st dm k = (-(rspT xs st dm k).1, -(rspT xs st dm k).2) := by
  induction k with
  | zero => rfl
  | succ k ih =>
    show (_, _) = (_, _)
    rw [ih, opp_get]
    dsimp only
    have e : st * -(rspT xs st dm k).1 + dm * (-(rspT xs st dm k).1 - -(rspT xs st dm k).2) = -(st * (rspT xs st dm k).1 + dm * ((rspT xs st dm k).1 - (rspT xs st dm k).2)) := by grind
    rw [e, Int.neg_tdiv]
    congr 1
    show _ = -(2 * (rspT xs st dm k).1 - (rspT xs st dm k).2 - (st * (rspT xs st dm k).1 + dm * ((rspT xs st dm k).1 - (rspT xs st dm k).2)).tdiv 1000 - xs[k]?.getD 0)
    omega
theorem rspT_later (xs : List Int) (st dm : Int) (k : Nat) : rspT (0 :: xs) st dm (k + 1) = rspT xs st dm k := by
  induction k with
  | zero =>
    show (_, _) = (_, _)
    simp [rspT]
  | succ k ih =>
    show (_, _) = (_, _)
    rw [ih]
    rfl
theorem rspT_zero (n : Nat) (st dm : Int) (k : Nat) : rspT (List.replicate n 0) st dm k = (0, 0) := by
  induction k with
  | zero => rfl
  | succ k ih =>
    show (_, _) = (_, _)
    rw [ih]
    have : (List.replicate n (0 : Int))[k]?.getD 0 = 0 := by
      rw [List.getElem?_replicate]
      split <;> rfl
    rw [this]
    simp
theorem rspT_free (xs : List Int) (k : Nat) (h : k ≤ xs.length) : (rspT xs 0 0 k).1 = -(sumT (sumsF xs) k) ∧ (rspT xs 0 0 k).1 - (rspT xs 0 0 k).2 = -(sumT xs k) := by
  induction k with
  | zero => exact ⟨rfl, rfl⟩
  | succ k ih =>
    obtain ⟨h1, h2⟩ := ih (by omega)
    have e : (rspT xs 0 0 (k + 1)) = (2 * (rspT xs 0 0 k).1 - (rspT xs 0 0 k).2 - ((0 : Int) * (rspT xs 0 0 k).1 + 0 * ((rspT xs 0 0 k).1 - (rspT xs 0 0 k).2)).tdiv 1000 - xs[k]?.getD 0, (rspT xs 0 0 k).1) := rfl
    have z : ((0 : Int) * (rspT xs 0 0 k).1 + 0 * ((rspT xs 0 0 k).1 - (rspT xs 0 0 k).2)).tdiv 1000 = 0 := by simp
    rw [z] at e
    have s1 : sumT xs (k + 1) = sumT xs k + xs[k]?.getD 0 := rfl
    have s2 : sumT (sumsF xs) (k + 1) = sumT (sumsF xs) k + (sumsF xs)[k]?.getD 0 := rfl
    rw [sumsF_get xs k (by omega)] at s2
    rw [e]
    dsimp only
    omega
/-- The responses, number by number. -/
theorem rsp_opp {xs : List Int} {st dm : Int} {n k : Nat} (h : k < n) : (rspTo (opp xs) st dm n)[k]?.getD 0 = -((rspTo xs st dm n)[k]?.getD 0) := by
  rw [rspTo_get _ st dm n k h, rspTo_get _ st dm n k h, rspT_opp]
theorem rsp_later {xs : List Int} {st dm : Int} {n k : Nat} (h : k < n) : (rspTo (0 :: xs) st dm (n + 1))[k + 1]?.getD 0 = (rspTo xs st dm n)[k]?.getD 0 := by
  rw [rspTo_get _ st dm (n + 1) (k + 1) (by omega), rspTo_get _ st dm n k h, rspT_later]
theorem rsp_later0 {xs : List Int} {st dm : Int} {n : Nat} : (rspTo (0 :: xs) st dm (n + 1))[0]?.getD 0 = 0 := by
  rw [rspTo_get _ st dm (n + 1) 0 (by omega), rspT_later]
  rfl
theorem rsp_zero {st dm : Int} {n k : Nat} (h : k < n) : (rspTo (List.replicate n 0) st dm n)[k]?.getD 0 = 0 := by
  rw [rspTo_get _ st dm n k h, rspT_zero]
theorem rsp_free {xs : List Int} {k : Nat} (h : k < xs.length) : (rspTo xs 0 0 xs.length)[k]?.getD 0 = -((sumsF (sumsF xs))[k]?.getD 0) := by
  rw [rspTo_get _ 0 0 _ k h, sumsF_get (sumsF xs) k (by rw [sumsF_len]; exact h)]
  exact (rspT_free xs (k + 1) (by omega)).1
theorem rsp_size {xs : List Int} {st dm : Int} (ho : oscE (st, dm) = 0) (hx : ∀ j : Nat, -1000 ≤ xs[j]?.getD 0 ∧ xs[j]?.getD 0 ≤ 1000) {n k : Nat} (hn : n ≤ 23) (h : k < n) :
    -1099511627776 ≤ (rspTo xs st dm n)[k]?.getD 0 ∧ (rspTo xs st dm n)[k]?.getD 0 ≤ 1099511627776 := by
  obtain ⟨h1, h2⟩ := oscE_ok ho
  rw [rspTo_get _ st dm n k h]
  have := (rspT_bd (xs := xs) (st := st) (dm := dm) h1 h2 hx (k + 1)).1
  have h3 := rspB_mono (show k + 1 ≤ 23 by omega)
  have h4 := rspB_num.1
  omega
theorem gsT_opp (xs : List Int) (k : Nat) : gsT (opp xs) k = gsT xs k := by
  induction k with
  | zero => rfl
  | succ k ih =>
    rw [gsT, gsT, ih, opp_get]
    have : sizeOf' (-(xs[k]?.getD 0)) = sizeOf' (xs[k]?.getD 0) := by
      unfold sizeOf'
      split <;> split <;> omega
    rw [this]
theorem sumT_opp (xs : List Int) (k : Nat) : sumT (opp xs) k = -(sumT xs k) := by
  induction k with
  | zero => rfl
  | succ k ih =>
    rw [sumT, sumT, ih, opp_get]
    omega
theorem sumsF_opp (xs : List Int) : sumsF (opp xs) = opp (sumsF xs) := by
  apply List.ext_getElem
  · rw [sumsF_len, opp_len, opp_len, sumsF_len]
  · intro i h1 h2
    have e1 := sumsF_get (opp xs) i (by rw [sumsF_len] at h1; exact h1)
    have e2 := opp_get (sumsF xs) i
    rw [sumsF_get xs i (by rw [sumsF_len, opp_len] at h1; exact h1), ← sumT_opp, ← e1, List.getElem?_eq_getElem h2, List.getElem?_eq_getElem h1] at e2
    exact e2.symm
/-- The opposite record, the later one, and that of zeros are valid. -/
theorem badS_of {xs : List Int} (h : ∀ j : Nat, -1000 ≤ xs[j]?.getD 0 ∧ xs[j]?.getD 0 ≤ 1000) : ∀ i, badS xs i = none := by
  induction xs with
  | nil => intro i; rfl
  | cons x l ih =>
    intro i
    have h0 := h 0
    have : smp x = true := wIn_iff.2 (by simpa using h0)
    rw [badS, if_pos this]
    exact ih (fun j => by simpa using h (j + 1)) (i + 1)
theorem recF_of {step : Int} {xs : List Int} (h1 : 1 < xs.length) (h2 : xs.length ≤ 24) (h3 : 1 ≤ step ∧ step ≤ 1000000) (h : ∀ j : Nat, -1000 ≤ xs[j]?.getD 0 ∧ xs[j]?.getD 0 ≤ 1000) : (recF step xs).2 = 0 := by
  unfold recF
  rw [if_pos (wIn_iff.2 h3), if_pos h1, if_pos h2, badS_of h]
theorem opp_ok {xs : List Int} (h : ∀ j : Nat, -1000 ≤ xs[j]?.getD 0 ∧ xs[j]?.getD 0 ≤ 1000) : ∀ j : Nat, -1000 ≤ (opp xs)[j]?.getD 0 ∧ (opp xs)[j]?.getD 0 ≤ 1000 := by
  intro j
  rw [opp_get]
  have := h j
  omega
theorem later_ok {xs : List Int} (h : ∀ j : Nat, -1000 ≤ xs[j]?.getD 0 ∧ xs[j]?.getD 0 ≤ 1000) : ∀ j : Nat, -1000 ≤ ((0 : Int) :: xs)[j]?.getD 0 ∧ ((0 : Int) :: xs)[j]?.getD 0 ≤ 1000 := by
  intro j
  cases j with
  | zero => simp
  | succ j => simpa using h j
theorem zero_ok (n : Nat) : ∀ j : Nat, -1000 ≤ (List.replicate n (0 : Int))[j]?.getD 0 ∧ (List.replicate n (0 : Int))[j]?.getD 0 ≤ 1000 := by
  intro j
  rw [List.getElem?_replicate]
  split <;> simp
end Go.Proofs.Ytiibdndchkbefaa
