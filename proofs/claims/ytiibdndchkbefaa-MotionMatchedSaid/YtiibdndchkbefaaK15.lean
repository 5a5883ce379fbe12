/- The claim of MotionMatched. -/
import Derived.Test.YtiibdndchkbefaaK14
import Derived.Test.YtiibdndchkbefaaRows
namespace Go.Proofs.Ytiibdndchkbefaa
open Go.RowKit
open Calmly (Kept)


theorem good_of {G B : Bool} (h : firstE [unlessE G 8, unlessE B 22] = 0) : (G && B) = true := by
  revert h
  cases G <;> cases B <;> decide
set_option maxRecDepth 100000 in
set_option maxHeartbeats 8000000 in
theorem MotionMatched_walk (step : Int) (a : Option Addr) (n c : Nat) (xs : List Int) (b : Option Addr) (m d : Nat) (ws : List (List Int)) (t : Option Addr) (p e : Nat) (ts : List Int) (z : Option Addr) (q y : Nat) (l : List Four) (w : World) (h1 : SI w a n c xs) (h2 : SW w b m d ws) (h3 : SI w t p e ts) (h4 : SB w z q y l) :
    Calls Try.prog 11 #[.agg #[.int .i64 step, .slice a n c], .agg #[.slice b m d, .slice t p e], .slice z q y] w fun r w' => r = .returned (.bool true) ∧ Below w.heap.size w w' := by
  have hA : ∀ (A : World) (o : Obj), Below A.heap.size A (A.alloc o) := fun A o => (Below.refl _ _).alloc (Nat.le_refl _) _
  have x1 := box1 (w := w) (o := .cells #[.int .i64 step, .slice a n c] 24) (hA (w.alloc (.cells #[.int .i64 step, .slice a n c] 24)) (.cells #[.slice b m d, .slice t p e] 96))
  have x2 := alloc_new (w.alloc (.cells #[.int .i64 step, .slice a n c] 24)) (.cells #[.slice b m d, .slice t p e] 96)
  have BW : Below w.heap.size w ((w.alloc (.cells #[.int .i64 step, .slice a n c] 24)).alloc (.cells #[.slice b m d, .slice t p e] 96)) := ((Below.refl _ _).alloc (Nat.le_refl _) _).alloc (by simp) _
  simp only [World.size_alloc] at x2
  obtain ⟨l1, l2⟩ : n ≤ xs.length ∧ xs.length ≤ n := by have := h1.len; omega
  obtain ⟨k1, k2⟩ : m ≤ ws.length ∧ ws.length ≤ m := by have := h2.len; omega
  obtain ⟨j1, j2⟩ : p ≤ ts.length ∧ ts.length ≤ p := by have := h3.len; omega
  obtain ⟨i1, i2⟩ : q ≤ l.length ∧ l.length ≤ q := by have := h4.len; omega
  have m1 := h1.max
  have c1 := h1.cap
  have m2 := h2.max
  have c2 := h2.cap
  have m3 := h3.max
  have c3 := h3.cap
  have m4 := h4.max
  have c4 := h4.cap
  go_enter Try.func11, Try.ntmps11
  go_wp2_with fail
  refine (awake_any _).mono ?_
  rintro r w1 ⟨rfl, hs⟩
  replace x1 := blk_keep x1 hs; replace x2 := blk_keep x2 hs; (try replace pA := blk_keep pA hs); replace BW := BW.trans (hs.mono BW.size); (try replace sX := sX.keep hs); (try replace sY := sY.keep hs); clear hs; (try clear f0 f1 f2 f3); have f0 := cell_block x1 0; have f1 := cell_block x1 1; have f2 := cell_block x2 0; have f3 := cell_block x2 1; (try clear zA0 zA1); (try have zA0 := cell_block pA 0); (try have zA1 := cell_block pA 1)
  obtain ⟨rE, hrE⟩ : ∃ x, (recF step xs).2 = x := ⟨_, rfl⟩
  obtain ⟨wE, hwE⟩ : ∃ x, wavesE n ws = x := ⟨_, rfl⟩
  obtain ⟨tE, htE⟩ : ∃ x, timesE m ts = x := ⟨_, rfl⟩
  obtain ⟨bE, hbE⟩ : ∃ x, bandE l = x := ⟨_, rfl⟩
  have HRE := Lib.hid hrE
  have HWE := Lib.hid hwE
  have HTE := Lib.hid htE
  have HBE := Lib.hid hbE
  clear hrE hwE htE hbE
  go_wp2_with fail
  refine (rRecordErr_any step a n c xs _ (h1.keep BW) rE HRE.out).mono ?_
  rintro r w2 ⟨rfl, hs⟩
  replace x1 := blk_keep x1 hs; replace x2 := blk_keep x2 hs; (try replace pA := blk_keep pA hs); replace BW := BW.trans (hs.mono BW.size); (try replace sX := sX.keep hs); (try replace sY := sY.keep hs); clear hs; (try clear f0 f1 f2 f3); have f0 := cell_block x1 0; have f1 := cell_block x1 1; have f2 := cell_block x2 0; have f3 := cell_block x2 1; (try clear zA0 zA1); (try have zA0 := cell_block pA 0); (try have zA1 := cell_block pA 1)
  by_cases hz : rE = 0
  case neg =>
    have b2 : (rE != 0) = true := by simpa using hz
    clear hz
    go_wp2_with fail
    go_ret
    exact ⟨rfl, BW⟩
  subst hz
  by_cases hn : 12 < n
  · have i5 : (12 : Int) < (n : Int) := by omega
    go_wp2_with fail
    go_ret
    exact ⟨rfl, BW⟩
  have i5 : (n : Int) ≤ 12 := by omega
  by_cases hm : 3 < m
  · have i6 : (3 : Int) < (m : Int) := by omega
    go_wp2_with fail
    go_ret
    exact ⟨rfl, BW⟩
  have i6 : (m : Int) ≤ 3 := by omega
  go_wp2_with fail
  refine (rWavesErr_any n b m d ws _ (h2.keep BW) (by omega) wE HWE.out).mono ?_
  rintro r w3 ⟨rfl, hs⟩
  replace x1 := blk_keep x1 hs; replace x2 := blk_keep x2 hs; (try replace pA := blk_keep pA hs); replace BW := BW.trans (hs.mono BW.size); (try replace sX := sX.keep hs); (try replace sY := sY.keep hs); clear hs; (try clear f0 f1 f2 f3); have f0 := cell_block x1 0; have f1 := cell_block x1 1; have f2 := cell_block x2 0; have f3 := cell_block x2 1; (try clear zA0 zA1); (try have zA0 := cell_block pA 0); (try have zA1 := cell_block pA 1)
  by_cases hz : wE = 0
  case neg =>
    have b2 : (wE != 0) = true := by simpa using hz
    clear hz
    go_wp2_with fail
    go_ret
    exact ⟨rfl, BW⟩
  subst hz
  go_wp2_with fail
  refine (rTimesErr_any b m d t p e ts _ (h3.keep BW) c2 m2 tE HTE.out).mono ?_
  rintro r w4 ⟨rfl, rfl⟩
  by_cases hz : tE = 0
  case neg =>
    have b2 : (tE != 0) = true := by simpa using hz
    clear hz
    go_wp2_with fail
    go_ret
    exact ⟨rfl, BW⟩
  subst hz
  go_wp2_with fail
  refine (rBandErr_any z q y l _ (h4.keep BW) bE HBE.out).mono ?_
  rintro r w5 ⟨rfl, hs⟩
  replace x1 := blk_keep x1 hs; replace x2 := blk_keep x2 hs; (try replace pA := blk_keep pA hs); replace BW := BW.trans (hs.mono BW.size); (try replace sX := sX.keep hs); (try replace sY := sY.keep hs); clear hs; (try clear f0 f1 f2 f3); have f0 := cell_block x1 0; have f1 := cell_block x1 1; have f2 := cell_block x2 0; have f3 := cell_block x2 1; (try clear zA0 zA1); (try have zA0 := cell_block pA 0); (try have zA1 := cell_block pA 1)
  by_cases hz : bE = 0
  case neg =>
    have b2 : (bE != 0) = true := by simpa using hz
    clear hz
    go_wp2_with fail
    go_ret
    exact ⟨rfl, BW⟩
  subst hz
  have hOE : openE step xs ws = 0 := by unfold openE; rw [HRE.out, if_pos rfl, show xs.length = n by omega]; exact HWE.out
  have HOE := Lib.hid hOE
  obtain ⟨a1, a2, a3, a4, a5, a6, a7, a8⟩ := add_ok (show ws.length = m by omega) hOE HTE.out
  have hn0 : 0 < n := by omega
  obtain rfl : p = m := by omega
  have hq6 : q ≤ 6 := by have := (bandE_ok HBE.out).2.1; omega
  have HFW : Hid (∀ i, i < p → (ws[i]?.getD []).length ≤ 1000000) := Lib.hid (fun i hi => by have := a5 i (by omega); omega)
  have HX5 := Lib.hid a4
  have HWO : Hid (∀ k, k < ws.length → wavE n (ws[k]?.getD []) = 0) := Lib.hid (wavesE_ok HWE.out).2
  have HT8 := Lib.hid a8
  have HAC : Hid (ts ∈ allC p) := Lib.hid (times_allC a7 a8)
  obtain ⟨st, hst⟩ : ∃ st, mtF (goodM xs ws l) p = st := ⟨_, rfl⟩
  obtain ⟨X, fd⟩ := st
  have HST := Lib.hid hst
  obtain ⟨EM, hEM⟩ : ∃ x, unlessE fd 12 = x := ⟨_, rfl⟩
  have HEM := Lib.hid hEM
  obtain ⟨G, hG⟩ : ∃ G, decide (gsT (adTo xs ws ts p) n ≤ 1000) = G := ⟨_, rfl⟩
  obtain ⟨B, hB⟩ : ∃ B, (outT (adTo xs ws ts p) l l.length).isEmpty = B := ⟨_, rfl⟩
  have hGB : goodM xs ws l ts = (G && B) := by unfold goodM; rw [show ws.length = p by omega, show xs.length = n by omega, hG, hB]
  obtain ⟨E2, hE2⟩ : ∃ E, firstE [unlessE G 8, unlessE B 22] = E := ⟨_, rfl⟩
  obtain ⟨N, hN1, hN2⟩ : ∃ (N : Int), (E2 ≠ 0 → N = 0) ∧ (E2 = 0 → N = szT ts p) := by
    by_cases h : E2 = 0
    · exact ⟨_, fun hh => absurd h hh, fun _ => rfl⟩
    · exact ⟨_, fun _ => rfl, fun hh => absurd hh h⟩
  have HG := Lib.hid hG
  have HB := Lib.hid hB
  have HGB := Lib.hid hGB
  have HE2 := Lib.hid hE2
  have HN1 := Lib.hid hN1
  have HN2 := Lib.hid hN2
  have HF0 : Hid (firstE [openE step xs ws, bandE l] = 0) := Lib.hid (by rw [HOE.out, HBE.out]; rfl)
  have HF3 : Hid (firstE [openE step xs ws, timesE p ts, bandE l] = 0) := Lib.hid (by rw [HOE.out, HTE.out, HBE.out]; rfl)
  clear hOE a1 a2 a3 a4 a5 a6 a7 a8 hst hEM hG hB hGB hE2 hN1 hN2
  go_wp2_with fail
  refine Calmly.wp_region_mix 12 (.fl 0 <| .fl 2 <| .fl 3 <| .fl 5 <| .eff 1 <| .eff 4 <| .eff 6 <| .eff 7 <| .fl 8 <| .fl 9 <| .fl 10 <| .fl 11 <| .tail [12]) (by kernel_rfl) (by kernel_rfl) ?_
  have hs := (Below.refl w5.heap.size w5).drew
  replace x1 := blk_keep x1 hs; replace x2 := blk_keep x2 hs; (try replace pA := blk_keep pA hs); replace BW := BW.trans (hs.mono BW.size); (try replace sX := sX.keep hs); (try replace sY := sY.keep hs); clear hs; (try clear f0 f1 f2 f3); have f0 := cell_block x1 0; have f1 := cell_block x1 1; have f2 := cell_block x2 0; have f3 := cell_block x2 1; (try clear zA0 zA1); (try have zA0 := cell_block pA 0); (try have zA1 := cell_block pA 1)
  generalize w5.drew = v5 at x1 x2 BW f0 f1 f2 f3 ⊢
  have hk := Below.refl v5.heap.size v5
  go_wp2_with (first | ((with_reducible refine Calmly.is_fl ?_); refine Calmly.mix_fl rfl ?_ (fun _ _ => ?_); (first | exact .move _ | exact .load _ _ | exact .fieldAddr _ _ _ (by kernel_rfl) | exact .assign _ | exact .binOp _ _ _ _ _ rfl | exact .indexAddr _ _ _ | exact .len _ _ (by kernel_rfl) | exact .field _ _ _ | exact .extract _ _ | exact .pick _ _ _ | exact .build _ _ | exact .slice _ _ _ _ _ | exact .unOp _ _ _ rfl | exact .index _ _ _ | exact .max _ _ _ rfl rfl | exact .min _ _ _ rfl rfl)) | ((with_reducible refine Calmly.is_gl ?_); refine Calmly.mix_gl rfl rfl rfl ?_; first | ((first | with_reducible refine Calmly.gl_tt ?_ (fun _ _ => ?_) | with_reducible refine Calmly.gl_ff ?_ (fun _ _ => ?_)); (first | exact .move _ | exact .load _ _ | exact .fieldAddr _ _ _ (by kernel_rfl) | exact .assign _ | exact .binOp _ _ _ _ _ rfl | exact .indexAddr _ _ _ | exact .len _ _ (by kernel_rfl) | exact .field _ _ _ | exact .extract _ _ | exact .pick _ _ _ | exact .build _ _ | exact .slice _ _ _ _ _ | exact .unOp _ _ _ rfl | exact .index _ _ _ | exact .max _ _ _ rfl rfl | exact .min _ _ _ rfl rfl)) | with_reducible refine Calmly.gl_tf (fun _ _ => ?_) | with_reducible refine Calmly.gl_ft (fun _ _ => ?_)) | ((with_reducible refine Calmly.is_eff ?_); refine Calmly.mix_eff rfl (fun _ _ => ?_)) | ((with_reducible refine Calmly.is_gf ?_); refine Calmly.mix_gf rfl rfl rfl ?_; first | with_reducible refine Calmly.gf_tt (fun _ _ => ?_) | with_reducible refine Calmly.gf_ff (fun _ _ => ?_) | with_reducible refine Calmly.gf_tf (kept_of hk) (fun _ _ => ?_) | with_reducible refine Calmly.gf_ft (kept_of hk) (fun _ _ => ?_)) | ((with_reducible refine Calmly.is_tail ?_); first | refine Calmly.mix_tail_nil ?_ | refine Calmly.mix_tail rfl (fun _ _ => ?_)) | ((with_reducible refine Calmly.is_kept ?_); refine ⟨kept_of hk, ?_⟩) | (with_reducible refine Calmly.mix_alt ?_ ?_) | (go_at_call 18; refine (copy_any step a n c xs _ ((h1.keep BW).keep hk) (by omega)).mono ?_; rintro r u1 ⟨a1, k1, rfl, s1, hs⟩; replace hk := step_of hk hs; clear hs) | (go_at_call 19; refine (copyLists_any b p d ws _ ((h2.keep BW).keep hk) (by omega) HFW.out).mono ?_; rintro r u2 ⟨b1, d1, rfl, sW, hs⟩; replace hk := step_of hk hs; replace s1 := s1.keep hs; clear hs) | (go_at_call 20; refine (copyBand_any z q y l _ ((h4.keep BW).keep hk) (by omega)).mono ?_; rintro r u3 ⟨z1, y1, rfl, sB, hs⟩; replace hk := step_of hk hs; replace s1 := s1.keep hs; replace sW := sW.keep hs; clear hs) | (go_at_call 17; refine (MatchFor_any step a1 n k1 xs b1 p d1 ws z1 q y1 l _ s1 sW sB 0 EM X HF0.out (fun h => absurd rfl h) (fun _ => by rw [HST.out]; exact ⟨rfl, HEM.out.symm⟩)).mono ?_; rintro r w6 ⟨aX, nX, cX, rfl, sX, hs⟩; replace hk := step_of hk hs; clear s1 sW sB hs))
  have hs := hk
  clear hk
  replace x1 := blk_keep x1 hs; replace x2 := blk_keep x2 hs; replace BW := BW.trans (hs.mono BW.size); clear hs
  (try clear f0 f1 f2 f3); have f0 := cell_block x1 0; have f1 := cell_block x1 1; have f2 := cell_block x2 0; have f3 := cell_block x2 1; (try clear zA0 zA1); (try have zA0 := cell_block pA 0); (try have zA1 := cell_block pA 1)
  cases fd
  case false =>
    have hno := mtF_none HST.out ts HAC.out
    rw [HGB.out] at hno
    have hE : E2 ≠ 0 := by
      rw [← HE2.out]
      cases G <;> cases B <;> first | decide | (cases hno)
    obtain rfl : EM = 12 := HEM.out.symm
    have b2 : (E2 != 0) = true := by simpa using hE
    clear hno hE
    refine Calmly.wp_region_mix 11 (.fl 0 <| .fl 2 <| .fl 4 <| .eff 1 <| .eff 3 <| .eff 5 <| .eff 6 <| .fl 7 <| .fl 8 <| .fl 9 <| .fl 10 <| .tail [11]) (by kernel_rfl) (by kernel_rfl) ?_
    have hs := (Below.refl w6.heap.size w6).drew
    replace x1 := blk_keep x1 hs; replace x2 := blk_keep x2 hs; (try replace pA := blk_keep pA hs); replace BW := BW.trans (hs.mono BW.size); (try replace sX := sX.keep hs); (try replace sY := sY.keep hs); clear hs; (try clear f0 f1 f2 f3); have f0 := cell_block x1 0; have f1 := cell_block x1 1; have f2 := cell_block x2 0; have f3 := cell_block x2 1; (try clear zA0 zA1); (try have zA0 := cell_block pA 0); (try have zA1 := cell_block pA 1)
    generalize w6.drew = v6 at x1 x2 BW sX f0 f1 f2 f3 ⊢
    have hk := Below.refl v6.heap.size v6
    have hE2' := HE2.out
    have M0 := Lib.hid True.intro
    go_wp2_with (first | ((with_reducible refine Calmly.is_fl ?_); refine Calmly.mix_fl rfl ?_ (fun _ _ => ?_); (first | exact .move _ | exact .load _ _ | exact .fieldAddr _ _ _ (by kernel_rfl) | exact .assign _ | exact .binOp _ _ _ _ _ rfl | exact .indexAddr _ _ _ | exact .len _ _ (by kernel_rfl) | exact .field _ _ _ | exact .extract _ _ | exact .pick _ _ _ | exact .build _ _ | exact .slice _ _ _ _ _ | exact .unOp _ _ _ rfl | exact .index _ _ _ | exact .max _ _ _ rfl rfl | exact .min _ _ _ rfl rfl)) | ((with_reducible refine Calmly.is_gl ?_); refine Calmly.mix_gl rfl rfl rfl ?_; first | ((first | with_reducible refine Calmly.gl_tt ?_ (fun _ _ => ?_) | with_reducible refine Calmly.gl_ff ?_ (fun _ _ => ?_)); (first | exact .move _ | exact .load _ _ | exact .fieldAddr _ _ _ (by kernel_rfl) | exact .assign _ | exact .binOp _ _ _ _ _ rfl | exact .indexAddr _ _ _ | exact .len _ _ (by kernel_rfl) | exact .field _ _ _ | exact .extract _ _ | exact .pick _ _ _ | exact .build _ _ | exact .slice _ _ _ _ _ | exact .unOp _ _ _ rfl | exact .index _ _ _ | exact .max _ _ _ rfl rfl | exact .min _ _ _ rfl rfl)) | with_reducible refine Calmly.gl_tf (fun _ _ => ?_) | with_reducible refine Calmly.gl_ft (fun _ _ => ?_)) | ((with_reducible refine Calmly.is_eff ?_); refine Calmly.mix_eff rfl (fun _ _ => ?_)) | ((with_reducible refine Calmly.is_gf ?_); refine Calmly.mix_gf rfl rfl rfl ?_; first | with_reducible refine Calmly.gf_tt (fun _ _ => ?_) | with_reducible refine Calmly.gf_ff (fun _ _ => ?_) | with_reducible refine Calmly.gf_tf (kept_of hk) (fun _ _ => ?_) | with_reducible refine Calmly.gf_ft (kept_of hk) (fun _ _ => ?_)) | ((with_reducible refine Calmly.is_tail ?_); first | refine Calmly.mix_tail_nil ?_ | refine Calmly.mix_tail rfl (fun _ _ => ?_)) | ((with_reducible refine Calmly.is_kept ?_); refine ⟨kept_of hk, ?_⟩) | (with_reducible refine Calmly.mix_alt ?_ ?_) | (have _ := M0.out; clear M0; go_at_call 18; refine (copy_any step a n c xs _ ((h1.keep BW).keep hk) (by omega)).mono ?_; rintro r u1 ⟨a1, k1, rfl, s1, hs⟩; replace hk := step_of hk hs; clear hs) | (go_at_call 59; refine (copyMatch_any b p d ws t p e ts _ ((h2.keep BW).keep hk) ((h3.keep BW).keep hk) (by omega) HFW.out (by omega)).mono ?_; rintro r u2 ⟨b1, d1, t1, e1, rfl, sW, sT, hs⟩; replace hk := step_of hk hs; replace s1 := s1.keep hs; clear hs) | (go_at_call 20; refine (copyBand_any z q y l _ ((h4.keep BW).keep hk) (by omega)).mono ?_; rintro r u3 ⟨z1, y1, rfl, sB, hs⟩; replace hk := step_of hk hs; replace s1 := s1.keep hs; replace sW := sW.keep hs; replace sT := sT.keep hs; clear hs) | (go_at_call 58; refine (CheckMatch_any step a1 _ k1 xs b1 p d1 ws t1 p e1 ts z1 q y1 l _ s1 sW sT sB 0 G B E2 N HF3.out HG.out HB.out (fun h => absurd rfl h) (fun _ => HE2.out) HN1.out HN2.out).mono ?_; rintro r w7 ⟨rfl, hs⟩; replace hk := step_of hk hs; clear s1 sW sT sB hs; replace x1 := blk_keep x1 hk; replace x2 := blk_keep x2 hk; (try clear f0 f1 f2 f3); have f0 := cell_block x1 0; have f1 := cell_block x1 1; have f2 := cell_block x2 0; have f3 := cell_block x2 1; (try clear zA0 zA1); (try have zA0 := cell_block pA 0); (try have zA1 := cell_block pA 1)))
    go_ret
    exact ⟨rfl, BW.trans (hk.mono BW.size)⟩
  case true =>
    obtain rfl : EM = 0 := HEM.out.symm
    obtain ⟨hX1, hX2, hX3⟩ := mtF_best HST.out
    obtain ⟨hX4, hX5⟩ := allC_len hX1
    have hGX : decide (gsT (adTo xs ws X p) n ≤ 1000) = true ∧ (outT (adTo xs ws X p) l l.length).isEmpty = true := by
      have h := hX2
      unfold goodM at h
      rw [show ws.length = p by omega, show xs.length = n by omega, Bool.and_eq_true] at h
      exact h
    have hLT : E2 = 0 → szT X p ≤ N := by
      intro h
      have hg : goodM xs ws l ts = true := by
        rw [HGB.out]
        exact good_of (HE2.out.trans h)
      have h2 := hX3 ts HAC.out hg
      rw [HN2.out h]
      unfold szs at h2
      rw [hX4, show ts.length = p by omega] at h2
      omega
    obtain ⟨N', hN'⟩ : ∃ x, szT X p = x := ⟨_, rfl⟩
    have hbd : 0 ≤ N' ∧ N' ≤ 6 := by
      rw [← hN']
      have := szT_bd hX5 p
      omega
    rw [hN'] at hLT
    have hw : wIn N' 0 6 = true := wIn_iff.2 hbd
    have hTX := timesE_of hX1
    have HGX := Lib.hid hGX.1
    have HOX := Lib.hid hGX.2
    have HFX : Hid (firstE [openE step xs ws, timesE p X, bandE l] = 0) := Lib.hid (by rw [HOE.out, HBE.out, hTX]; rfl)
    have HFA : Hid (firstE [openE step xs ws, timesE p X] = 0) := Lib.hid (by rw [HOE.out, hTX]; rfl)
    have HN' := Lib.hid hN'
    have HLT := Lib.hid hLT
    obtain ⟨V, hV⟩ : ∃ x, sumT xs n = x := ⟨_, rfl⟩
    obtain ⟨D, hD⟩ : ∃ x, sumT (sumsF xs) n = x := ⟨_, rfl⟩
    obtain ⟨r1, r2, r3, r4, r5⟩ := recF_ok HRE.out
    obtain ⟨q1, q2, q3, q4, q5, q6, q7, q8⟩ := add_ok (show ws.length = p by omega) HOE.out hTX
    have hend := ad_end (ts := X) (show xs.length = n by omega) (fun k hk => HWO.out k hk) p (by omega)
    have hGG : ∀ j : Nat, -1000 ≤ (adTo xs ws X p)[j]?.getD 0 ∧ (adTo xs ws X p)[j]?.getD 0 ≤ 1000 := by
      intro j
      rcases Nat.lt_or_ge j n with hj | hj
      · exact (gsT_le _ 1000 (by omega) n).1 (of_decide_eq_true hGX.1) j hj
      · rw [List.getElem?_eq_none (by rw [adTo_len]; omega)]
        simp
    have hRY : (recF step (adTo xs ws X p)).2 = 0 := recF_of (by rw [adTo_len]; omega) (by rw [adTo_len]; omega) r3 hGG
    obtain ⟨Y, hY⟩ : ∃ x, adTo xs ws X p = x := ⟨_, rfl⟩
    have hYl : Y.length = n := by rw [← hY, adTo_len]; omega
    rw [hY, hV, hD] at hend
    rw [hY] at hRY
    have HY := Lib.hid hY
    have HVX : Hid (sumT xs n = V ∧ sumT (sumsF xs) n = D) := Lib.hid ⟨hV, hD⟩
    have HVY := Lib.hid hend
    have HYL := Lib.hid hYl
    have HOO : Hid (firstE [(recF step Y).2, bandE l] = 0) := Lib.hid (by rw [hRY, HBE.out]; rfl)
    have HRY := Lib.hid hRY
    have HOX2 : Hid (([] : List Int) = outT Y l l.length) := Lib.hid (by
      rw [← hY]
      have h := HOX.out
      cases ho : outT (adTo xs ws X p) l l.length with
      | nil => rfl
      | cons v vs => rw [ho] at h; cases h)
    obtain rfl : p = nX := by have := sX.len; omega
    clear hX1 hX2 hX3 hX4 hX5 hGX hLT hN' hTX hV hD r1 r2 r3 r4 r5 q1 q2 q3 q4 q5 q6 q7 q8 hend hGG hRY hY hYl hbd
    refine Calmly.wp_region_mix 11 (.fl 0 <| .fl 2 <| .fl 4 <| .eff 1 <| .eff 3 <| .eff 5 <| .eff 6 <| .fl 7 <| .fl 8 <| .fl 9 <| .fl 10 <| .tail [11]) (by kernel_rfl) (by kernel_rfl) ?_
    have hs := (Below.refl w6.heap.size w6).drew
    replace x1 := blk_keep x1 hs; replace x2 := blk_keep x2 hs; (try replace pA := blk_keep pA hs); replace BW := BW.trans (hs.mono BW.size); (try replace sX := sX.keep hs); (try replace sY := sY.keep hs); clear hs; (try clear f0 f1 f2 f3); have f0 := cell_block x1 0; have f1 := cell_block x1 1; have f2 := cell_block x2 0; have f3 := cell_block x2 1; (try clear zA0 zA1); (try have zA0 := cell_block pA 0); (try have zA1 := cell_block pA 1)
    generalize w6.drew = v6 at x1 x2 BW sX f0 f1 f2 f3 ⊢
    have hk := Below.refl v6.heap.size v6
    have hE2' := HE2.out
    have M0 := Lib.hid True.intro
    go_wp2_with (first | ((with_reducible refine Calmly.is_fl ?_); refine Calmly.mix_fl rfl ?_ (fun _ _ => ?_); (first | exact .move _ | exact .load _ _ | exact .fieldAddr _ _ _ (by kernel_rfl) | exact .assign _ | exact .binOp _ _ _ _ _ rfl | exact .indexAddr _ _ _ | exact .len _ _ (by kernel_rfl) | exact .field _ _ _ | exact .extract _ _ | exact .pick _ _ _ | exact .build _ _ | exact .slice _ _ _ _ _ | exact .unOp _ _ _ rfl | exact .index _ _ _ | exact .max _ _ _ rfl rfl | exact .min _ _ _ rfl rfl)) | ((with_reducible refine Calmly.is_gl ?_); refine Calmly.mix_gl rfl rfl rfl ?_; first | ((first | with_reducible refine Calmly.gl_tt ?_ (fun _ _ => ?_) | with_reducible refine Calmly.gl_ff ?_ (fun _ _ => ?_)); (first | exact .move _ | exact .load _ _ | exact .fieldAddr _ _ _ (by kernel_rfl) | exact .assign _ | exact .binOp _ _ _ _ _ rfl | exact .indexAddr _ _ _ | exact .len _ _ (by kernel_rfl) | exact .field _ _ _ | exact .extract _ _ | exact .pick _ _ _ | exact .build _ _ | exact .slice _ _ _ _ _ | exact .unOp _ _ _ rfl | exact .index _ _ _ | exact .max _ _ _ rfl rfl | exact .min _ _ _ rfl rfl)) | with_reducible refine Calmly.gl_tf (fun _ _ => ?_) | with_reducible refine Calmly.gl_ft (fun _ _ => ?_)) | ((with_reducible refine Calmly.is_eff ?_); refine Calmly.mix_eff rfl (fun _ _ => ?_)) | ((with_reducible refine Calmly.is_gf ?_); refine Calmly.mix_gf rfl rfl rfl ?_; first | with_reducible refine Calmly.gf_tt (fun _ _ => ?_) | with_reducible refine Calmly.gf_ff (fun _ _ => ?_) | with_reducible refine Calmly.gf_tf (kept_of hk) (fun _ _ => ?_) | with_reducible refine Calmly.gf_ft (kept_of hk) (fun _ _ => ?_)) | ((with_reducible refine Calmly.is_tail ?_); first | refine Calmly.mix_tail_nil ?_ | refine Calmly.mix_tail rfl (fun _ _ => ?_)) | ((with_reducible refine Calmly.is_kept ?_); refine ⟨kept_of hk, ?_⟩) | (with_reducible refine Calmly.mix_alt ?_ ?_) | (have _ := M0.out; clear M0; go_at_call 18; refine (copy_any step a n c xs _ ((h1.keep BW).keep hk) (by omega)).mono ?_; rintro r u1 ⟨a1, k1, rfl, s1, hs⟩; replace hk := step_of hk hs; clear hs) | (go_at_call 59; refine (copyMatch_any b p d ws t p e ts _ ((h2.keep BW).keep hk) ((h3.keep BW).keep hk) (by omega) HFW.out (by omega)).mono ?_; rintro r u2 ⟨b1, d1, t1, e1, rfl, sW, sT, hs⟩; replace hk := step_of hk hs; replace s1 := s1.keep hs; clear hs) | (go_at_call 20; refine (copyBand_any z q y l _ ((h4.keep BW).keep hk) (by omega)).mono ?_; rintro r u3 ⟨z1, y1, rfl, sB, hs⟩; replace hk := step_of hk hs; replace s1 := s1.keep hs; replace sW := sW.keep hs; replace sT := sT.keep hs; clear hs) | (go_at_call 58; refine (CheckMatch_any step a1 _ k1 xs b1 p d1 ws t1 p e1 ts z1 q y1 l _ s1 sW sT sB 0 G B E2 N HF3.out HG.out HB.out (fun h => absurd rfl h) (fun _ => HE2.out) HN1.out HN2.out).mono ?_; rintro r w7 ⟨rfl, hs⟩; replace hk := step_of hk hs; clear s1 sW sT sB hs; replace x1 := blk_keep x1 hk; replace x2 := blk_keep x2 hk; (try clear f0 f1 f2 f3); have f0 := cell_block x1 0; have f1 := cell_block x1 1; have f2 := cell_block x2 0; have f3 := cell_block x2 1; (try clear zA0 zA1); (try have zA0 := cell_block pA 0); (try have zA1 := cell_block pA 1)))
    replace BW := BW.trans (hk.mono BW.size)
    replace sX := sX.keep hk
    clear hk
    by_cases hE : E2 = 0
    case' pos =>
      have i7 : N' ≤ N := HLT.out hE
      subst hE
    case' neg =>
      have b3 : (E2 == 0) = false := by simpa using hE
      clear hE
    all_goals
      refine Calmly.wp_region_mix 15 (.fl 0 <| .fl 2 <| .fl 3 <| .fl 5 <| .fl 8 <| .eff 1 <| .eff 4 <| .eff 6 <| .fl 7 <| .eff 9 <| .eff 10 <| .fl 11 <| .fl 12 <| .fl 13 <| .fl 14 <| .tail [15]) (by kernel_rfl) (by kernel_rfl) ?_
      have hs := (Below.refl w7.heap.size w7).drew
      replace x1 := blk_keep x1 hs; replace x2 := blk_keep x2 hs; (try replace pA := blk_keep pA hs); replace BW := BW.trans (hs.mono BW.size); (try replace sX := sX.keep hs); (try replace sY := sY.keep hs); clear hs; (try clear f0 f1 f2 f3); have f0 := cell_block x1 0; have f1 := cell_block x1 1; have f2 := cell_block x2 0; have f3 := cell_block x2 1; (try clear zA0 zA1); (try have zA0 := cell_block pA 0); (try have zA1 := cell_block pA 1)
      generalize w7.drew = v7 at x1 x2 BW sX f0 f1 f2 f3 ⊢
      have hk := Below.refl v7.heap.size v7
      have M0 := Lib.hid True.intro
      go_wp2_with (first | ((with_reducible refine Calmly.is_fl ?_); refine Calmly.mix_fl rfl ?_ (fun _ _ => ?_); (first | exact .move _ | exact .load _ _ | exact .fieldAddr _ _ _ (by kernel_rfl) | exact .assign _ | exact .binOp _ _ _ _ _ rfl | exact .indexAddr _ _ _ | exact .len _ _ (by kernel_rfl) | exact .field _ _ _ | exact .extract _ _ | exact .pick _ _ _ | exact .build _ _ | exact .slice _ _ _ _ _ | exact .unOp _ _ _ rfl | exact .index _ _ _ | exact .max _ _ _ rfl rfl | exact .min _ _ _ rfl rfl)) | ((with_reducible refine Calmly.is_gl ?_); refine Calmly.mix_gl rfl rfl rfl ?_; first | ((first | with_reducible refine Calmly.gl_tt ?_ (fun _ _ => ?_) | with_reducible refine Calmly.gl_ff ?_ (fun _ _ => ?_)); (first | exact .move _ | exact .load _ _ | exact .fieldAddr _ _ _ (by kernel_rfl) | exact .assign _ | exact .binOp _ _ _ _ _ rfl | exact .indexAddr _ _ _ | exact .len _ _ (by kernel_rfl) | exact .field _ _ _ | exact .extract _ _ | exact .pick _ _ _ | exact .build _ _ | exact .slice _ _ _ _ _ | exact .unOp _ _ _ rfl | exact .index _ _ _ | exact .max _ _ _ rfl rfl | exact .min _ _ _ rfl rfl)) | with_reducible refine Calmly.gl_tf (fun _ _ => ?_) | with_reducible refine Calmly.gl_ft (fun _ _ => ?_)) | ((with_reducible refine Calmly.is_eff ?_); refine Calmly.mix_eff rfl (fun _ _ => ?_)) | ((with_reducible refine Calmly.is_gf ?_); refine Calmly.mix_gf rfl rfl rfl ?_; first | with_reducible refine Calmly.gf_tt (fun _ _ => ?_) | with_reducible refine Calmly.gf_ff (fun _ _ => ?_) | with_reducible refine Calmly.gf_tf (kept_of hk) (fun _ _ => ?_) | with_reducible refine Calmly.gf_ft (kept_of hk) (fun _ _ => ?_)) | ((with_reducible refine Calmly.is_tail ?_); first | refine Calmly.mix_tail_nil ?_ | refine Calmly.mix_tail rfl (fun _ _ => ?_)) | ((with_reducible refine Calmly.is_kept ?_); refine ⟨kept_of hk, ?_⟩) | (with_reducible refine Calmly.mix_alt ?_ ?_) | (refine kept_alloc hk (fun hk' hblk hge => ?_); replace hk := hk'; clear hk') | (go_at_call 28; refine (within_any _ _ _ _).mono ?_; rintro e w' ⟨rfl, rfl⟩) | (have _ := M0.out; clear M0; go_at_call 18; refine (copy_any step a n c xs _ ((h1.keep BW).keep hk) (by omega)).mono ?_; rintro r u1 ⟨a1, k1, rfl, s1, hs⟩; replace hk := step_of hk hs; clear hs) | (go_at_call 19; refine (copyLists_any b p d ws _ ((h2.keep BW).keep hk) (by omega) HFW.out).mono ?_; rintro r u2 ⟨b1, d1, rfl, sW, hs⟩; replace hk := step_of hk hs; replace s1 := s1.keep hs; clear hs) | (go_at_call 57; refine (copyInts_any aX p cX X _ (sX.keep hk) (by omega)).mono ?_; rintro r u3 ⟨t1, e1, rfl, oT, hs⟩; have sT := oT.si; replace hk := step_of hk hs; replace s1 := s1.keep hs; replace sW := sW.keep hs; clear hs oT) | (go_at_call 20; refine (copyBand_any z q y l _ ((h4.keep BW).keep hk) (by omega)).mono ?_; rintro r u4 ⟨z1, y1, rfl, sB, hs⟩; replace hk := step_of hk hs; replace s1 := s1.keep hs; replace sW := sW.keep hs; replace sT := sT.keep hs; clear hs) | (go_at_call 58; refine (CheckMatch_any step a1 _ k1 xs b1 p d1 ws t1 p e1 X z1 q y1 l _ s1 sW sT sB 0 true true 0 N' HFX.out HGX.out HOX.out (fun h => absurd rfl h) (fun _ => rfl) (fun h => absurd rfl h) (fun _ => HN'.out.symm)).mono ?_; rintro r w8 ⟨rfl, hs⟩; replace hk := step_of hk hs; clear s1 sW sT sB hs; replace x1 := blk_keep x1 hk; replace x2 := blk_keep x2 hk; (try clear f0 f1 f2 f3); have f0 := cell_block x1 0; have f1 := cell_block x1 1; have f2 := cell_block x2 0; have f3 := cell_block x2 1; (try clear zA0 zA1); (try have zA0 := cell_block pA 0); (try have zA1 := cell_block pA 1)))
      replace BW := BW.trans (hk.mono BW.size)
      replace sX := sX.keep hk
      clear hk
      refine Calmly.wp_region_mix 13 (.fl 0 <| .fl 2 <| .fl 3 <| .fl 5 <| .alt 1 (.alt 4 (.alt 6 (.alt 7 (.fl 8 <| .fl 9 <| .fl 10 <| .eff 11 <| .eff 12 <| .tail [13]) (.eff 11 (.eff 7 <| .fl 8 <| .fl 9 <| .fl 10 <| .eff 12 <| .tail [13]))) (.eff 11 (.eff 6 <| .eff 7 <| .fl 8 <| .fl 9 <| .fl 10 <| .eff 12 <| .tail [13]))) (.eff 11 (.eff 4 <| .eff 6 <| .eff 7 <| .fl 8 <| .fl 9 <| .fl 10 <| .eff 12 <| .tail [13]))) (.eff 11 (.eff 1 <| .eff 4 <| .eff 6 <| .eff 7 <| .fl 8 <| .fl 9 <| .fl 10 <| .eff 12 <| .tail [13]))) (by kernel_rfl) (by kernel_rfl) ?_
      have hs := (Below.refl w8.heap.size w8).drew
      replace x1 := blk_keep x1 hs; replace x2 := blk_keep x2 hs; (try replace pA := blk_keep pA hs); replace BW := BW.trans (hs.mono BW.size); (try replace sX := sX.keep hs); (try replace sY := sY.keep hs); clear hs; (try clear f0 f1 f2 f3); have f0 := cell_block x1 0; have f1 := cell_block x1 1; have f2 := cell_block x2 0; have f3 := cell_block x2 1; (try clear zA0 zA1); (try have zA0 := cell_block pA 0); (try have zA1 := cell_block pA 1)
      generalize w8.drew = w9 at x1 x2 BW sX f0 f1 f2 f3 ⊢
      have hk := Below.refl w9.heap.size w9
      go_wp2_with (first | ((with_reducible refine Calmly.is_fl ?_); refine Calmly.mix_fl rfl ?_ (fun _ _ => ?_); (first | exact .move _ | exact .load _ _ | exact .fieldAddr _ _ _ (by kernel_rfl) | exact .assign _ | exact .binOp _ _ _ _ _ rfl | exact .indexAddr _ _ _ | exact .len _ _ (by kernel_rfl) | exact .field _ _ _ | exact .extract _ _ | exact .pick _ _ _ | exact .build _ _ | exact .slice _ _ _ _ _ | exact .unOp _ _ _ rfl | exact .index _ _ _ | exact .max _ _ _ rfl rfl | exact .min _ _ _ rfl rfl)) | ((with_reducible refine Calmly.is_gl ?_); refine Calmly.mix_gl rfl rfl rfl ?_; first | ((first | with_reducible refine Calmly.gl_tt ?_ (fun _ _ => ?_) | with_reducible refine Calmly.gl_ff ?_ (fun _ _ => ?_)); (first | exact .move _ | exact .load _ _ | exact .fieldAddr _ _ _ (by kernel_rfl) | exact .assign _ | exact .binOp _ _ _ _ _ rfl | exact .indexAddr _ _ _ | exact .len _ _ (by kernel_rfl) | exact .field _ _ _ | exact .extract _ _ | exact .pick _ _ _ | exact .build _ _ | exact .slice _ _ _ _ _ | exact .unOp _ _ _ rfl | exact .index _ _ _ | exact .max _ _ _ rfl rfl | exact .min _ _ _ rfl rfl)) | with_reducible refine Calmly.gl_tf (fun _ _ => ?_) | with_reducible refine Calmly.gl_ft (fun _ _ => ?_)) | ((with_reducible refine Calmly.is_eff ?_); refine Calmly.mix_eff rfl (fun _ _ => ?_)) | ((with_reducible refine Calmly.is_gf ?_); refine Calmly.mix_gf rfl rfl rfl ?_; first | with_reducible refine Calmly.gf_tt (fun _ _ => ?_) | with_reducible refine Calmly.gf_ff (fun _ _ => ?_) | with_reducible refine Calmly.gf_tf (kept_of hk) (fun _ _ => ?_) | with_reducible refine Calmly.gf_ft (kept_of hk) (fun _ _ => ?_)) | ((with_reducible refine Calmly.is_kept ?_); refine ⟨kept_of hk, ?_⟩) | (with_reducible refine Calmly.mix_alt ?_ ?_) | (go_at_call 18; refine (copy_any step a n c xs _ ((h1.keep BW).keep hk) (by omega)).mono ?_; rintro r w' ⟨a1, k1, rfl, s1, hs⟩; replace hk := step_of hk hs; (try replace pA := blk_keep pA hs); clear hs) | (go_at_call 19; refine (copyLists_any b p d ws _ ((h2.keep BW).keep hk) (by omega) HFW.out).mono ?_; rintro r w' ⟨b1, d1, rfl, sW, hs⟩; replace hk := step_of hk hs; replace s1 := s1.keep hs; (try replace pA := blk_keep pA hs); clear hs) | (go_at_call 57; refine (copyInts_any aX p cX X _ (sX.keep hk) (by omega)).mono ?_; rintro r w' ⟨t1, e1, rfl, oT, hs⟩; have sT := oT.si; replace hk := step_of hk hs; replace s1 := s1.keep hs; replace sW := sW.keep hs; (try replace pA := blk_keep pA hs); clear hs oT) | (go_at_call 56; refine (Added_any step a1 n k1 xs b1 p d1 ws t1 p e1 X _ s1 sW sT 0 true 0 step Y HFA.out HGX.out (fun h => absurd rfl h) (fun _ h => by cases h) (fun _ _ => ⟨rfl, rfl, HY.out.symm⟩)).mono ?_; rintro r w' ⟨aY, nY, cY, rfl, sY, iY, hs⟩; replace hk := step_of hk hs; clear s1 sW sT; (try replace pA := blk_keep pA hs); clear hs; (try have zA0 := cell_block pA 0); (try have zA1 := cell_block pA 1); (try have zA2 := frozen_block pA 0); (try have zA3 := frozen_block pA 1)) | (refine kept_setW hk hAge pA sY iY (by decide) (fun hk' h1' h2' => ?_); replace hk := hk'; replace pA := h1'; replace sY := h2'; clear hk' h1' h2' iY zA0 zA1 zA2 zA3; generalize World.setCell (World.setCell _ _ _) _ _ = W' at hk pA sY ⊢) | (have hAge := hk.size; refine kept_allocW hk (fun hs hk' hblk => ?_); (try replace s1 := s1.keep hs); (try replace sW := sW.keep hs); (try replace sT := sT.keep hs); (try replace sY := sY.keep hs); (try replace iY := iY.keep hs); (first | generalize World.alloc _ _ = W' at hs hk' hblk s1 sW sT ⊢ | generalize World.alloc _ _ = W' at hs hk' hblk s1 sW ⊢ | generalize World.alloc _ _ = W' at hs hk' hblk s1 ⊢ | generalize World.alloc _ _ = W' at hs hk' hblk sY iY ⊢ | generalize World.alloc _ _ = W' at hs hk' hblk ⊢); replace hk := hk'; clear hk'; have pA := hblk; clear hs hblk; have zA0 := cell_block pA 0; have zA1 := cell_block pA 1; have zA2 := frozen_block pA 0; have zA3 := frozen_block pA 1))
      all_goals
        as_aux_lemma =>
        (try have zA0 := cell_block pA 0)
        (try have zA1 := cell_block pA 1)
        go_wp2_with (first | ((with_reducible refine Calmly.is_fl ?_); refine Calmly.mix_fl rfl ?_ (fun _ _ => ?_); (first | exact .move _ | exact .load _ _ | exact .fieldAddr _ _ _ (by kernel_rfl) | exact .assign _ | exact .binOp _ _ _ _ _ rfl | exact .indexAddr _ _ _ | exact .len _ _ (by kernel_rfl) | exact .field _ _ _ | exact .extract _ _ | exact .pick _ _ _ | exact .build _ _ | exact .slice _ _ _ _ _ | exact .unOp _ _ _ rfl | exact .index _ _ _ | exact .max _ _ _ rfl rfl | exact .min _ _ _ rfl rfl)) | ((with_reducible refine Calmly.is_gl ?_); refine Calmly.mix_gl rfl rfl rfl ?_; first | ((first | with_reducible refine Calmly.gl_tt ?_ (fun _ _ => ?_) | with_reducible refine Calmly.gl_ff ?_ (fun _ _ => ?_)); (first | exact .move _ | exact .load _ _ | exact .fieldAddr _ _ _ (by kernel_rfl) | exact .assign _ | exact .binOp _ _ _ _ _ rfl | exact .indexAddr _ _ _ | exact .len _ _ (by kernel_rfl) | exact .field _ _ _ | exact .extract _ _ | exact .pick _ _ _ | exact .build _ _ | exact .slice _ _ _ _ _ | exact .unOp _ _ _ rfl | exact .index _ _ _ | exact .max _ _ _ rfl rfl | exact .min _ _ _ rfl rfl)) | with_reducible refine Calmly.gl_tf (fun _ _ => ?_) | with_reducible refine Calmly.gl_ft (fun _ _ => ?_)) | ((with_reducible refine Calmly.is_eff ?_); refine Calmly.mix_eff rfl (fun _ _ => ?_)) | ((with_reducible refine Calmly.is_gf ?_); refine Calmly.mix_gf rfl rfl rfl ?_; first | with_reducible refine Calmly.gf_tt (fun _ _ => ?_) | with_reducible refine Calmly.gf_ff (fun _ _ => ?_) | with_reducible refine Calmly.gf_tf (kept_of hk) (fun _ _ => ?_) | with_reducible refine Calmly.gf_ft (kept_of hk) (fun _ _ => ?_)) | ((with_reducible refine Calmly.is_tail ?_); first | refine Calmly.mix_tail_nil ?_ | refine Calmly.mix_tail rfl (fun _ _ => ?_)) | ((with_reducible refine Calmly.is_kept ?_); refine ⟨kept_of hk, ?_⟩) | (with_reducible refine Calmly.mix_alt ?_ ?_))
        replace x1 := blk_keep x1 hk
        replace x2 := blk_keep x2 hk
        replace BW := BW.trans (hk.mono BW.size)
        clear hk hAge sX
        obtain rfl : n = nY := by have := sY.len; have := HYL.out; omega
        refine (copy_any step aY n cY Y _ sY (by omega)).mono ?_
        rintro r u8 ⟨aV, cV, rfl, sV, hs⟩
        replace x1 := blk_keep x1 hs; replace x2 := blk_keep x2 hs; (try replace pA := blk_keep pA hs); replace BW := BW.trans (hs.mono BW.size); (try replace sX := sX.keep hs); (try replace sY := sY.keep hs); clear hs; (try clear f0 f1 f2 f3); have f0 := cell_block x1 0; have f1 := cell_block x1 1; have f2 := cell_block x2 0; have f3 := cell_block x2 1; (try clear zA0 zA1); (try have zA0 := cell_block pA 0); (try have zA1 := cell_block pA 1)
        go_wp2_with fail
        refine (copyBand_any z q y l _ (h4.keep BW) (by omega)).mono ?_
        rintro r u9 ⟨z1, y1, rfl, sB, hs⟩
        replace sV := sV.keep hs
        replace x1 := blk_keep x1 hs; replace x2 := blk_keep x2 hs; (try replace pA := blk_keep pA hs); replace BW := BW.trans (hs.mono BW.size); (try replace sX := sX.keep hs); (try replace sY := sY.keep hs); clear hs; (try clear f0 f1 f2 f3); have f0 := cell_block x1 0; have f1 := cell_block x1 1; have f2 := cell_block x2 0; have f3 := cell_block x2 1; (try clear zA0 zA1); (try have zA0 := cell_block pA 0); (try have zA1 := cell_block pA 1)
        go_wp2_with fail
        refine (OutsideOf_any step aV n cV Y z1 q y1 l _ sV sB 0 [] HOO.out (fun _ => rfl) (fun _ => HOX2.out)).mono ?_
        rintro r u10 ⟨aO, nO, cO, rfl, sO, hs⟩
        obtain rfl : 0 = nO := sO.len.symm
        have mO := sO.max
        clear sO sV sB
        replace x1 := blk_keep x1 hs; replace x2 := blk_keep x2 hs; (try replace pA := blk_keep pA hs); replace BW := BW.trans (hs.mono BW.size); (try replace sX := sX.keep hs); (try replace sY := sY.keep hs); clear hs; (try clear f0 f1 f2 f3); have f0 := cell_block x1 0; have f1 := cell_block x1 1; have f2 := cell_block x2 0; have f3 := cell_block x2 1; (try clear zA0 zA1); (try have zA0 := cell_block pA 0); (try have zA1 := cell_block pA 1)
        go_wp2_with fail
        refine (copy_any step a n c xs _ (h1.keep BW) (by omega)).mono ?_
        rintro r u11 ⟨a1, k1, rfl, s1, hs⟩
        replace x1 := blk_keep x1 hs; replace x2 := blk_keep x2 hs; (try replace pA := blk_keep pA hs); replace BW := BW.trans (hs.mono BW.size); (try replace sX := sX.keep hs); (try replace sY := sY.keep hs); clear hs; (try clear f0 f1 f2 f3); have f0 := cell_block x1 0; have f1 := cell_block x1 1; have f2 := cell_block x2 0; have f3 := cell_block x2 1; (try clear zA0 zA1); (try have zA0 := cell_block pA 0); (try have zA1 := cell_block pA 1)
        go_wp2_with fail
        refine (EndOf_any step a1 n k1 xs _ s1 0 V D HRE.out (fun h => absurd rfl h) (fun _ => HVX.out)).mono ?_
        rintro r u12 ⟨rfl, hs⟩
        clear s1
        replace x1 := blk_keep x1 hs; replace x2 := blk_keep x2 hs; (try replace pA := blk_keep pA hs); replace BW := BW.trans (hs.mono BW.size); (try replace sX := sX.keep hs); (try replace sY := sY.keep hs); clear hs; (try clear f0 f1 f2 f3); have f0 := cell_block x1 0; have f1 := cell_block x1 1; have f2 := cell_block x2 0; have f3 := cell_block x2 1; (try clear zA0 zA1); (try have zA0 := cell_block pA 0); (try have zA1 := cell_block pA 1)
        have hs := hA u12 (.cells #[.int .i64 V, .int .i64 D] 58)
        have v1 := alloc_new u12 (.cells #[.int .i64 V, .int .i64 D] 58)
        replace x1 := blk_keep x1 hs; replace x2 := blk_keep x2 hs; (try replace pA := blk_keep pA hs); replace BW := BW.trans (hs.mono BW.size); (try replace sX := sX.keep hs); (try replace sY := sY.keep hs); clear hs; (try clear f0 f1 f2 f3); have f0 := cell_block x1 0; have f1 := cell_block x1 1; have f2 := cell_block x2 0; have f3 := cell_block x2 1; (try clear zA0 zA1); (try have zA0 := cell_block pA 0); (try have zA1 := cell_block pA 1)
        go_wp2_with fail
        obtain ⟨bx, hbx⟩ : ∃ b, u12.heap.size = b := ⟨_, rfl⟩
        obtain ⟨W1, hW1⟩ : ∃ W, u12.alloc (.cells #[.int .i64 V, .int .i64 D] 58) = W := ⟨_, rfl⟩
        rw [hW1] at x1 x2 pA BW sY v1 f0 f1 f2 f3 zA0 zA1 ⊢
        rw [hbx] at v1 ⊢
        clear hW1 hbx
        refine (copy_any step aY n cY Y _ sY (by omega)).mono ?_
        rintro r u13 ⟨a2, k2, rfl, s2, hs⟩
        replace v1 := blk_keep v1 hs
        replace x1 := blk_keep x1 hs; replace x2 := blk_keep x2 hs; (try replace pA := blk_keep pA hs); replace BW := BW.trans (hs.mono BW.size); (try replace sX := sX.keep hs); (try replace sY := sY.keep hs); clear hs; (try clear f0 f1 f2 f3); have f0 := cell_block x1 0; have f1 := cell_block x1 1; have f2 := cell_block x2 0; have f3 := cell_block x2 1; (try clear zA0 zA1); (try have zA0 := cell_block pA 0); (try have zA1 := cell_block pA 1)
        go_wp2_with fail
        refine (EndOf_any step a2 n k2 Y _ s2 0 V D HRY.out (fun h => absurd rfl h) (fun _ => HVY.out)).mono ?_
        rintro r u14 ⟨rfl, hs⟩
        clear s2
        replace v1 := blk_keep v1 hs
        replace x1 := blk_keep x1 hs; replace x2 := blk_keep x2 hs; (try replace pA := blk_keep pA hs); replace BW := BW.trans (hs.mono BW.size); (try replace sX := sX.keep hs); (try replace sY := sY.keep hs); clear hs; (try clear f0 f1 f2 f3); have f0 := cell_block x1 0; have f1 := cell_block x1 1; have f2 := cell_block x2 0; have f3 := cell_block x2 1; (try clear zA0 zA1); (try have zA0 := cell_block pA 0); (try have zA1 := cell_block pA 1)
        have hs := hA u14 (.cells #[.int .i64 V, .int .i64 D] 58)
        have v2 := alloc_new u14 (.cells #[.int .i64 V, .int .i64 D] 58)
        replace v1 := blk_keep v1 hs
        replace x1 := blk_keep x1 hs; replace x2 := blk_keep x2 hs; (try replace pA := blk_keep pA hs); replace BW := BW.trans (hs.mono BW.size); (try replace sX := sX.keep hs); (try replace sY := sY.keep hs); clear hs; (try clear f0 f1 f2 f3); have f0 := cell_block x1 0; have f1 := cell_block x1 1; have f2 := cell_block x2 0; have f3 := cell_block x2 1; (try clear zA0 zA1); (try have zA0 := cell_block pA 0); (try have zA1 := cell_block pA 1)
        have e0 := cell_block v1 0
        have e1 := cell_block v1 1
        have e2 := cell_block v2 0
        have e3 := cell_block v2 1
        go_wp2_with fail
        go_ret
        exact ⟨rfl, BW⟩
end Go.Proofs.Ytiibdndchkbefaa

namespace Go.Proofs.Ytiibdndchkbefaa
open Go.ChangeShapes Go.WideShapes Go.ChangeAt Go.RowKit

set_option maxRecDepth 100000 in
set_option maxHeartbeats 1000000 in
theorem MotionMatched_lifted (os : Os) (started : os.Started) (H : Type) (enc : TypeId × Value → H) :
    ReturnsInHanded {} Try.checked os 11 .any (Rows.motionMatchedSpec.pre6 enc Try.prog Try.f11 Rows.motionMatchedRow.domain false) (Rows.motionMatchedSpec.post enc Try.prog Try.f11 false true false false) := by
  refine returnsInHanded_of_change (C := Try.checked) Try.own' started (by kernel_rfl) Try.func11
    (ChangeSpec.witness6 (enc := enc) (C := Try.checked) false ⟨#[], #[.agg #[.int .i64 0, .slice none 0 0], .agg #[.slice none 0 0, .slice none 0 0], .slice none 0 0], []⟩ 8 (by kernel_rfl) (by kernel_rfl) (by kernel_rfl) (by kernel_rfl)) ?_
  intro W base args ds gs before hval0 hW _ _
  have hval : ∀ (j : Nat) t v, Try.f11.params[j]? = some t → args[j]? = some v → Value.okWide Try.prog W .any base t v := hval0
  have hW' := hW
  obtain ⟨p, q, hA0, hV, rfl, _, _⟩ := hW
  have hA : DataW.TrodAll enc Try.prog W 0 (fun _ => true) true Try.f11.params.toList args.toList ds p := hA0
  rw [Try.params11] at hA hval
  obtain ⟨v0, v1, v2, d0, d1, d2, p0, p1, p2, rfl, rfl, rfl, h0, h1, h2⟩ := trodAll_three hA
  obtain ⟨rfl, rfl⟩ := trodVars_none hV
  clear hA0 hA hval0
  have hlt : ∀ x ∈ p0 ++ p1 ++ p2, x.block < W.heap.size := fun x hx => by simpa using hW'.lt x (by simpa using hx)
  obtain ⟨s0, a0, n0, c0, l0, rfl, hw0, hs0, hw0'⟩ := open_record (hval 0 24 v0 rfl rfl) h0
  obtain ⟨a1, n1, c1, ws1, b1, m1, e1, k1, rfl, hs1, hw1, hs1', hw1'⟩ := open_match (hval 1 96 v1 rfl rfl) h1
  obtain ⟨a2, n2, c2, l2, rfl, hs2, hw2⟩ := open_bands (hval 2 26 v2 rfl rfl) h2
  refine (MotionMatched_walk s0 a0 n0 c0 l0 a1 n1 c1 ws1 b1 m1 e1 k1 a2 n2 c2 l2 W hs0 hs1 hs1' hs2).mono fun e W' ⟨he, hb⟩ => ?_
  subst he
  exact ⟨_, rfl, _, _, _, [], _, [], hW', trodAll_mk1 (shut_bool Try.underlying4 _),
    trodAll_mk3 (Below.trod Try.laidOut' (by kernel_rfl) (of_decide_eq_true (by kernel_rfl)) h0 hb (fun x hx => hlt x (List.mem_append_left _ (List.mem_append_left _ hx)))) (Below.trod Try.laidOut' (by kernel_rfl) (of_decide_eq_true (by kernel_rfl)) h1 hb (fun x hx => hlt x (List.mem_append_left _ (List.mem_append_right _ hx)))) (Below.trod Try.laidOut' (by kernel_rfl) (of_decide_eq_true (by kernel_rfl)) h2 hb (fun x hx => hlt x (List.mem_append_right _ hx))),
    rfl, hb.frame _, fun h => by cases h⟩

theorem MotionMatched_holds : Rows.MotionMatchedSaid :=
  OpenClaim.holds_of_wide 11 Try.f11 rfl rfl rfl rfl rfl rfl rfl ⟨rfl, rfl, rfl, rfl, rfl⟩ rfl rfl rfl rfl rfl (by kernel_rfl) Try.func11 (by kernel_rfl)
    (of_decide_eq_true (by kernel_rfl)) (by unfold Func.isWrapper; first | (rw [if_pos (by decide +kernel)]; kernel_rfl) | (rw [if_neg (by decide +kernel)]; exact ⟨rfl, rfl⟩))
    (fun os started H enc _ => MotionMatched_lifted os started H enc)
#print axioms MotionMatched_holds
end Go.Proofs.Ytiibdndchkbefaa
