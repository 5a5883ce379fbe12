/- The check of a state: the reference's. A step of a state: the model's. -/
import Derived.Test.YtaiikekgckjdeaaK23
namespace Go.Proofs.Ytaiikekgckjdeaa
open Go.RowKit
open Calmly (Kept)
set_option maxRecDepth 100000 in
set_option maxHeartbeats 1000000 in
theorem rDriftB_any (a : Option Addr) (n c k : Nat) (xs : List Int) (w : World) (h1 : SI w a n c xs) (hk : k < n) (hb0 : -1000000000000 ≤ xs[k]?.getD 0 ∧ xs[k]?.getD 0 ≤ 1000000000000) (hb : ∀ j : Nat, k = j + 1 → -1000000000000 ≤ xs[j]?.getD 0 ∧ xs[j]?.getD 0 ≤ 1000000000000) :
    Calls Try.prog 91 #[.slice a n c, .int .i64 (k : Int)] w fun e w' => e = .returned (.int .i64 (dr xs k)) ∧ Below w.heap.size w w' := by
  have m1 := h1.max
  have c1 := h1.cap
  obtain ⟨b1, o1, rfl, hc1⟩ := h1.at_ (by omega)
  have p0 := hc1 k hk
  obtain ⟨hb1, hb2⟩ := hb0
  have hi : (k : Int) < (n : Int) := by omega
  have hi0 : (0 : Int) ≤ (k : Int) := by omega
  by_cases h0 : k = 0
  · have hd : dr xs k = xs[k]?.getD 0 := by rw [dr, bel, if_pos h0, Int.sub_zero]
    rw [hd]
    obtain ⟨X, hX⟩ : ∃ X, xs[k]?.getD 0 = X := ⟨_, rfl⟩
    rw [hX] at p0 ⊢
    subst h0
    have hn0 : (0 : Int) < (n : Int) := by omega
    clear hd hX hc1 hb hb1 hb2
    simp only [Nat.add_zero, Int.natCast_zero] at *
    go_enter Try.func91, Try.ntmps91
    go_wp2_with fail
    go_ret
    exact ⟨rfl, Below.refl _ _⟩
  · obtain ⟨j, rfl⟩ : ∃ j, k = j + 1 := ⟨k - 1, by omega⟩
    have hd : dr xs (j + 1) = xs[j + 1]?.getD 0 - xs[j]?.getD 0 := by rw [dr, bel, if_neg h0]; rfl
    rw [hd]
    have p1 := hc1 j (by omega)
    obtain ⟨hb3, hb4⟩ := hb j rfl
    obtain ⟨X, hX⟩ : ∃ X, xs[j + 1]?.getD 0 = X := ⟨_, rfl⟩
    obtain ⟨Y, hY⟩ : ∃ X, xs[j]?.getD 0 = X := ⟨_, rfl⟩
    rw [hX] at p0 hb1 hb2 ⊢
    rw [hY] at p1 hb3 hb4 ⊢
    obtain ⟨K, hK⟩ : ∃ K : Int, ((j + 1 : Nat) : Int) = K := ⟨_, rfl⟩
    have hKj : K - 1 = (j : Int) := by omega
    have hji : (j : Int) < (n : Int) := by omega
    have e1 : (K == 0) = false := by simp; omega
    have hK1 : ((K - 1).toNat) = j := by omega
    have hK2 : K.toNat = j + 1 := by omega
    rw [hK] at hi hi0 ⊢
    have hi1 : (0 : Int) ≤ K - 1 := by omega
    have hi2 : K - 1 < (n : Int) := by omega
    have hi3 : K ≤ 9223372036854775807 := by omega
    have hi4 : -9223372036854775807 ≤ K := by omega
    clear hd hX hY hc1 hb h0 hK
    go_enter Try.func91, Try.ntmps91
    go_wp2_with fail
    refine Calmly.wp_region_mix 9 (.fl 0 <| .fl 1 <| .fl 2 <| .fl 3 <| .fl 4 <| .fl 5 <| .fl 6 <| .fl 7 <| .fl 8 <| .tail [9, 10]) (by kernel_rfl) (by kernel_rfl) ?_
    have BD : Below w.heap.size w w.drew := (Below.refl _ _).drew
    replace p0 := cell_keep p0 BD
    replace p1 := cell_keep p1 BD
    generalize w.drew = V at *
    have hk5 := Below.refl V.heap.size V
    go_wp2_with (first | ((with_reducible refine Calmly.is_fl ?_); refine Calmly.mix_fl rfl ?_ (fun _ _ => ?_); (first | exact .move _ | exact .load _ _ | exact .fieldAddr _ _ _ (by kernel_rfl) | exact .assign _ | exact .binOp _ _ _ _ _ rfl | exact .indexAddr _ _ _ | exact .len _ _ (by kernel_rfl) | exact .field _ _ _ | exact .extract _ _ | exact .pick _ _ _ | exact .build _ _ | exact .slice _ _ _ _ _ | exact .unOp _ _ _ rfl | exact .index _ _ _ | exact .max _ _ _ rfl rfl | exact .min _ _ _ rfl rfl | exact .nilCheck _ _ rfl)) | ((with_reducible refine Calmly.is_gl ?_); refine Calmly.mix_gl rfl rfl rfl ?_; first | ((first | with_reducible refine Calmly.gl_tt ?_ (fun _ _ => ?_) | with_reducible refine Calmly.gl_ff ?_ (fun _ _ => ?_)); (first | exact .move _ | exact .load _ _ | exact .fieldAddr _ _ _ (by kernel_rfl) | exact .assign _ | exact .binOp _ _ _ _ _ rfl | exact .indexAddr _ _ _ | exact .len _ _ (by kernel_rfl) | exact .field _ _ _ | exact .extract _ _ | exact .pick _ _ _ | exact .build _ _ | exact .slice _ _ _ _ _ | exact .unOp _ _ _ rfl | exact .index _ _ _ | exact .max _ _ _ rfl rfl | exact .min _ _ _ rfl rfl | exact .nilCheck _ _ rfl)) | with_reducible refine Calmly.gl_tf (fun _ _ => ?_) | with_reducible refine Calmly.gl_ft (fun _ _ => ?_)) | ((with_reducible refine Calmly.is_eff ?_); refine Calmly.mix_eff rfl (fun _ _ => ?_)) | ((with_reducible refine Calmly.is_gf ?_); refine Calmly.mix_gf rfl rfl rfl ?_; first | with_reducible refine Calmly.gf_tt (fun _ _ => ?_) | with_reducible refine Calmly.gf_ff (fun _ _ => ?_) | with_reducible refine Calmly.gf_tf (kept_of hk) (fun _ _ => ?_) | with_reducible refine Calmly.gf_ft (kept_of hk) (fun _ _ => ?_)) | ((with_reducible refine Calmly.is_tail ?_); first | refine Calmly.mix_tail_nil ?_ | refine Calmly.mix_tail rfl (fun _ _ => ?_)) | ((with_reducible refine Calmly.is_kept ?_); refine ⟨kept_of hk, ?_⟩) | (with_reducible refine Calmly.mix_alt ?_ ?_))
    go_ret
    exact ⟨rfl, BD⟩
set_option maxRecDepth 100000 in
set_option maxHeartbeats 8000000 in
theorem rCheckState_any (a a1 a2 a3 : Option Addr) (n c n1 c1 n2 c2 n3 c3 : Nat) (raw : List FlR) (fs : List Fl) (s : St) (w : World) (h1 : FrV w a n c raw fs) (h2 : StW w ((a1, n1, c1), (a2, n2, c2), (a3, n3, c3)) s) (hz : (frmE fs).2 = 0) :
    Calls Try.prog 60 #[.agg #[.slice a n c], .agg #[.slice a1 n1 c1, .slice a2 n2 c2, .slice a3 n3 c3]] w fun e w' => e = .returned (.tuple #[.int .i64 (stfE fs s).1, .int .i64 (stfE fs s).2]) ∧ Below w.heap.size w w' := by
  have hn := h1.n_
  have l1 := h2.now.len
  have l2 := h2.bef.len
  have m1 := h2.now.max
  have q1 := h2.now.cap
  have m2 := h2.bef.max
  have q2 := h2.bef.cap
  have m0 := h1.row.max
  have q0 := h1.row.cap
  dsimp only at l1 l2 m1 q1 m2 q2
  have hl3 : n3 = s.2.2.length ∧ n3 ≤ c3 ∧ c3 ≤ 9223372036854775807 := by
    obtain ⟨hraw, hH⟩ := h2.hol
    exact ⟨by have := hH.row.len; have := hH.len; dsimp only at *; omega, hH.row.cap, hH.row.max⟩
  obtain ⟨l3, q3, m3⟩ := hl3
  have HN := Lib.hid hn
  have HL := Lib.hid (And.intro l1 (And.intro l2 l3))
  have HFO := Lib.hid (frmE_ok hz)
  obtain ⟨RI, hRI⟩ : ∃ x, (stfE fs s).1 = x := ⟨_, rfl⟩
  obtain ⟨RE, hRE⟩ : ∃ x, (stfE fs s).2 = x := ⟨_, rfl⟩
  rw [hRI, hRE]
  have HRS := Lib.hid (show stfE fs s = (RI, RE) from Prod.ext hRI hRE)
  clear hRI hRE hn l1 l2 l3 hz
  have y2 := blk_keep (alloc_new w (.cells #[.slice a n c] 24)) ((Below.refl _ _).alloc (Nat.le_refl _) (.cells #[.slice a1 n1 c1, .slice a2 n2 c2, .slice a3 n3 c3] 97))
  have y3 := alloc_new (w.alloc (.cells #[.slice a n c] 24)) (.cells #[.slice a1 n1 c1, .slice a2 n2 c2, .slice a3 n3 c3] 97)
  have BW : Below w.heap.size w ((w.alloc (.cells #[.slice a n c] 24)).alloc (.cells #[.slice a1 n1 c1, .slice a2 n2 c2, .slice a3 n3 c3] 97)) := ((Below.refl _ _).alloc (Nat.le_refl _) _).alloc (by simp) _
  simp only [World.size_alloc] at y3
  have f0 := cell_block y2 0
  have g0 := cell_block y3 0
  have g1 := cell_block y3 1
  have g2 := cell_block y3 2
  by_cases hl : n1 = n ∧ n2 = n ∧ n3 = n
  case neg =>
    have hcond : ¬ (s.1.length = fs.length ∧ s.2.1.length = fs.length ∧ s.2.2.length = fs.length) := by
      have h5 := HL.out; have h6 := HN.out
      omega
    have hRS := HRS.out
    rw [stfE, if_neg hcond] at hRS
    injection hRS with e1 e2
    clear hcond HRS
    subst e1 e2
    by_cases e1 : n1 = n
    · have b1 : ((n1 : Int) != (n : Int)) = false := by simp; omega
      by_cases e2 : n2 = n
      · have b2 : ((n2 : Int) != (n : Int)) = false := by simp; omega
        have b3 : ((n3 : Int) != (n : Int)) = true := by simp; omega
        clear e1 e2 hl
        go_enter Try.func60, Try.ntmps60
        go_wp2_with fail
        exact bodyPost_ret (v := .tuple #[.int .i64 0, .int .i64 10]) (by simp [results, Try.results60]) rfl ⟨rfl, BW⟩
      · have b2 : ((n2 : Int) != (n : Int)) = true := by simp; omega
        clear e1 e2 hl
        go_enter Try.func60, Try.ntmps60
        go_wp2_with fail
        exact bodyPost_ret (v := .tuple #[.int .i64 0, .int .i64 10]) (by simp [results, Try.results60]) rfl ⟨rfl, BW⟩
    · have b1 : ((n1 : Int) != (n : Int)) = true := by simp; omega
      clear e1 hl
      go_enter Try.func60, Try.ntmps60
      go_wp2_with fail
      exact bodyPost_ret (v := .tuple #[.int .i64 0, .int .i64 10]) (by simp [results, Try.results60]) rfl ⟨rfl, BW⟩
  case pos =>
    obtain ⟨e1, e2, e3⟩ := hl
    have hcond : s.1.length = fs.length ∧ s.2.1.length = fs.length ∧ s.2.2.length = fs.length := by
      have h5 := HL.out; have h6 := HN.out
      omega
    have hRS := HRS.out
    rw [stfE, if_pos hcond, ← HN.out] at hRS
    subst e1 e2
    have e3' : n3 = n2 := e3
    subst e3'
    have HR := Lib.hid (show eaF (stErr fs s) 0 (n3 - 0) = (RI, RE) from hRS)
    have b1 : ((n3 : Int) != (n3 : Int)) = false := by simp
    clear hcond hRS e3 HRS HL
    go_enter Try.func60, Try.ntmps60
    go_wp2_with fail
    generalize (w.alloc (.cells #[.slice a n3 c] 24)).alloc (.cells #[.slice a1 n3 c1, .slice a2 n3 c2, .slice a3 n3 c3] 97) = W at *
    clear f0 g0 g1 g2 b1
    go_loopw [7] (fun i wr => ∃ k : Nat, k ≤ n3 ∧ i = .int .i64 (k : Int) ∧ eaF (stErr fs s) k (n3 - k) = (RI, RE) ∧ (∀ j, j < k → stErr fs s j = 0) ∧ Below W.heap.size W wr) (fun i _ => n3 - (intOf i).toNat)
    case atStart => exact ⟨0, by omega, rfl, HR.out, fun j hj => absurd hj (by omega), Below.refl _ _⟩
    case round =>
      obtain ⟨k, hk, rfl, ht, hok, hbr⟩ := hrel
      have HT := Lib.hid ht
      have HOK := Lib.hid hok
      clear ht hok
      by_cases hlt : k < n3
      · have hB := BW.trans (hbr.mono BW.size)
        have hF := h1.keep hB
        have hSW := h2.keep hB
        have hkl : k < fs.length := by have := HN.out; omega
        obtain ⟨fb, fo, rfl, hcf⟩ := hF.row.at_ (by omega)
        obtain ⟨q0, q1, q2⟩ := hcf k hlt
        obtain ⟨d0, d1, d2⟩ := hF.fl k hkl
        have hfl := flErr_ok (HFO.out.2 k hkl)
        obtain ⟨hraw, hH⟩ := hSW.hol
        dsimp only at hH
        obtain ⟨b1', o1, e1', hc1⟩ := hSW.now.at_ (show 0 < n3 by omega)
        obtain ⟨b2', o2, e2', hc2⟩ := hSW.bef.at_ (show 0 < n3 by omega)
        obtain ⟨b3', o3, e3', hc3⟩ := hH.row.at_ (show 0 < n3 by omega)
        dsimp only at e1' e2'
        subst e1' e2' e3'
        have p0 := hc1 k hlt
        have r0 := hc2 k hlt
        obtain ⟨t0, t1⟩ := hc3 k hlt
        obtain ⟨k0, k1⟩ := hH.hl k (by have := hH.row.len; have := hH.len; omega)
        have hnow := hSW.now
        dsimp only at hnow
        obtain ⟨rr, hrr⟩ : ∃ rr, raw[k]?.getD flr0 = rr := ⟨_, rfl⟩
        obtain ⟨x0, x1, ⟨u1, u2, u3⟩⟩ := rr
        obtain ⟨hh, hhh⟩ : ∃ rr, hraw[k]?.getD hor0 = rr := ⟨_, rfl⟩
        obtain ⟨T, ⟨v1, v2, v3⟩⟩ := hh
        rw [hrr] at q0 q1 q2 d1 d2
        rw [hhh] at t0 t1 k0 k1
        dsimp only [hv] at q0 q1 q2 d1 d2 t0 t1 k0 k1
        obtain ⟨X, hX⟩ : ∃ X, s.1[k]?.getD 0 = X := ⟨_, rfl⟩
        obtain ⟨Y, hY⟩ : ∃ X, s.2.1[k]?.getD 0 = X := ⟨_, rfl⟩
        obtain ⟨sl, hsl⟩ : ∃ x, (s.2.2[k]?.getD ho0).2 = x := ⟨_, rfl⟩
        obtain ⟨l, hl⟩ : ∃ x, (fs[k]?.getD fl0).2.2 = x := ⟨_, rfl⟩
        obtain ⟨D, hD⟩ : ∃ x, dr s.1 k = x := ⟨_, rfl⟩
        obtain ⟨HE, hHE⟩ : ∃ x, (hldE l T sl).2 = x := ⟨_, rfl⟩
        rw [hX] at p0
        rw [hY] at r0
        rw [hsl] at k1
        rw [hl] at d2 hfl
        rw [← d1] at hfl
        have hst : stErr fs s k = if plc X = true ∧ plc Y = true then (if HE = 0 then (if T = D then (if szd D x1 = true then 0 else 22) else 13) else HE) else 2 := by
          rw [stErr, hX, hY, hl, ← k0, hsl, hD, ← d1, hHE, first3]
          by_cases hT : T = D
          · cases hs : szd D x1 <;> simp [unlessE, hT]
          · simp [unlessE, hT]
        have hbad : ∀ E, stErr fs s k = E → E ≠ 0 → RI = (k : Int) ∧ RE = E := fun E h h0 => by
          have h5 := HT.out
          rw [eaF_bad hlt (by rw [h]; exact h0), h] at h5
          injection h5 with e1 e2
          exact ⟨e1.symm, e2.symm⟩
        have hgood : stErr fs s k = 0 → eaF (stErr fs s) (k + 1) (n3 - (k + 1)) = (RI, RE) := fun h => (eaF_ok hlt h).symm.trans HT.out
        have hprev : ∀ j, k = j + 1 → -1000000000000 ≤ s.1[j]?.getD 0 ∧ s.1[j]?.getD 0 ≤ 1000000000000 := fun j hj => by
          have := plc_ok (stErr_plc (HOK.out j (by omega)))
          omega
        have hbl : -10000 ≤ bel s.1 k ∧ bel s.1 k ≤ 10000 := by
          cases k with
          | zero => simp [bel]
          | succ j =>
            rw [bel_succ]
            have := plc_ok (stErr_plc (HOK.out j (by omega)))
            omega
        have hDX : D = X - bel s.1 k := by rw [← hD, ← hX]; rfl
        have HST := Lib.hid hst
        have HBAD := Lib.hid hbad
        have HGOOD := Lib.hid hgood
        have HPREV := Lib.hid hprev
        have HDX := Lib.hid hDX
        have HD := Lib.hid hD
        have HX := Lib.hid hX
        have HHE := Lib.hid hHE
        have HSP := Lib.hid (sprE_ok hfl.2.2).2
        have HLEN := Lib.hid d2.len
        have hlim := hfl.2.1
        have hC : CkF wr k (w.heap.size + 1) n3 c1 c2 c3 b1' o1 b2' o2 b3' o3 v1 u1 v2 v3 u2 u3 T X Y sl l := ⟨blk_keep y3 hbr, p0, r0, t0, t1, k1, d2⟩
        have hy2 := blk_keep y2 hbr
        have hk9 := hlt
        have hkk := hk
        clear hcf hc1 hc2 hc3 hrr hhh hX hY hsl hl hD hHE hst hbad hgood hprev hDX hfl d0 d1 d2 k0 k1 p0 r0 t0 t1 hH hF hSW q0
        have f10 := cell_block hC.st 0
        have f11 := cell_block hC.st 1
        have p0 := hC.x
        have r0 := hC.y
        have hi1 : (k : Int) < (n3 : Int) := by omega
        have hi0 : (0 : Int) ≤ (k : Int) := by omega
        clear hk hlt
        have hB0 := hB
        go_wp2_with fail
        refine (rPlaceErr_any X _).mono ?_
        rintro e w5 ⟨rfl, rfl⟩
        dsimp only
        by_cases hPX : plc X = true
        case neg =>
          have hPX' : plc X = false := by simpa using hPX
          obtain ⟨e1, e2⟩ := HBAD.out 2 (by rw [HST.out, if_neg (by rw [hPX']; simp)]) (by decide)
          rw [show unlessE (plc X) 2 = 2 by rw [hPX']; rfl]
          clear hPX hPX'
          subst e1 e2
          go_wp2_with fail
          exact bodyPost_ret (v := .tuple #[.int .i64 (k : Int), .int .i64 2]) (by simp [results, Try.results60]) rfl ⟨rfl, hB0⟩
        rw [show unlessE (plc X) 2 = 0 by rw [hPX]; rfl]
        go_wp2_with fail
        refine (rPlaceErr_any Y _).mono ?_
        rintro e w5 ⟨rfl, rfl⟩
        dsimp only
        by_cases hPY : plc Y = true
        case neg =>
          have hPY' : plc Y = false := by simpa using hPY
          obtain ⟨e1, e2⟩ := HBAD.out 2 (by rw [HST.out, if_neg (by rw [hPY']; simp)]) (by decide)
          rw [show unlessE (plc Y) 2 = 2 by rw [hPY']; rfl]
          clear hPY hPY'
          subst e1 e2
          go_wp2_with fail
          exact bodyPost_ret (v := .tuple #[.int .i64 (k : Int), .int .i64 2]) (by simp [results, Try.results60]) rfl ⟨rfl, hB0⟩
        rw [show unlessE (plc Y) 2 = 0 by rw [hPY]; rfl]
        have hST2 : stErr fs s k = if HE = 0 then (if T = D then (if szd D x1 = true then 0 else 22) else 13) else HE := by rw [HST.out, if_pos ⟨hPX, hPY⟩]
        have HST2 := Lib.hid hST2
        have hxb := plc_ok hPX
        have hDb : -20000 ≤ D ∧ D ≤ 20000 := by have := HDX.out; omega
        clear hST2 HST hPX hPY f10 f11 p0 r0
        go_wp2_with fail
        refine Calmly.wp_region_mix 12 (.fl 0 <| .fl 1 <| .fl 2 <| .fl 3 <| .fl 4 <| .fl 5 <| .fl 6 <| .fl 7 <| .fl 8 <| .fl 9 <| .fl 10 <| .eff 11 <| .tail [12]) (by kernel_rfl) (by kernel_rfl) ?_
        have BD : Below wr.heap.size wr wr.drew := (Below.refl _ _).drew
        have hC2 := hC.keep BD
        replace q1 := cell_keep q1 BD
        replace q2 := cell_keep q2 BD
        replace hy2 := blk_keep hy2 BD
        replace hnow := hnow.keep BD
        replace hB := hB.trans (BD.mono hB.size)
        replace hbr := hbr.trans (BD.mono hbr.size)
        clear hC BD hB0
        generalize wr.drew = V at *
        have f0 := cell_block hy2 0
        have f12 := cell_block hC2.st 2
        have t0 := hC2.t0
        have t1 := hC2.t1
        have hk := Below.refl V.heap.size V
        go_wp2_with (first | ((with_reducible refine Calmly.is_fl ?_); refine Calmly.mix_fl rfl ?_ (fun _ _ => ?_); (first | exact .move _ | exact .load _ _ | exact .fieldAddr _ _ _ (by kernel_rfl) | exact .assign _ | exact .binOp _ _ _ _ _ rfl | exact .indexAddr _ _ _ | exact .len _ _ (by kernel_rfl) | exact .field _ _ _ | exact .extract _ _ | exact .pick _ _ _ | exact .build _ _ | exact .slice _ _ _ _ _ | exact .unOp _ _ _ rfl | exact .index _ _ _ | exact .max _ _ _ rfl rfl | exact .min _ _ _ rfl rfl | exact .nilCheck _ _ rfl)) | ((with_reducible refine Calmly.is_gl ?_); refine Calmly.mix_gl rfl rfl rfl ?_; first | ((first | with_reducible refine Calmly.gl_tt ?_ (fun _ _ => ?_) | with_reducible refine Calmly.gl_ff ?_ (fun _ _ => ?_)); (first | exact .move _ | exact .load _ _ | exact .fieldAddr _ _ _ (by kernel_rfl) | exact .assign _ | exact .binOp _ _ _ _ _ rfl | exact .indexAddr _ _ _ | exact .len _ _ (by kernel_rfl) | exact .field _ _ _ | exact .extract _ _ | exact .pick _ _ _ | exact .build _ _ | exact .slice _ _ _ _ _ | exact .unOp _ _ _ rfl | exact .index _ _ _ | exact .max _ _ _ rfl rfl | exact .min _ _ _ rfl rfl | exact .nilCheck _ _ rfl)) | with_reducible refine Calmly.gl_tf (fun _ _ => ?_) | with_reducible refine Calmly.gl_ft (fun _ _ => ?_)) | ((with_reducible refine Calmly.is_eff ?_); refine Calmly.mix_eff rfl (fun _ _ => ?_)) | ((with_reducible refine Calmly.is_gf ?_); refine Calmly.mix_gf rfl rfl rfl ?_; first | with_reducible refine Calmly.gf_tt (fun _ _ => ?_) | with_reducible refine Calmly.gf_ff (fun _ _ => ?_) | with_reducible refine Calmly.gf_tf (kept_of hk) (fun _ _ => ?_) | with_reducible refine Calmly.gf_ft (kept_of hk) (fun _ _ => ?_)) | ((with_reducible refine Calmly.is_tail ?_); first | refine Calmly.mix_tail_nil ?_ | refine Calmly.mix_tail rfl (fun _ _ => ?_)) | ((with_reducible refine Calmly.is_kept ?_); refine ⟨kept_of hk, ?_⟩) | (with_reducible refine Calmly.mix_alt ?_ ?_))
        refine (rHoldErr_any u1 v1 u2 u3 v2 v3 l T sl _ (hC2.el.keep hk) (hC2.sp.keep hk) (fun j hj => HSP.out j (by have := HLEN.out; omega))).mono ?_
        rintro e w5 ⟨rfl, hb5⟩
        replace hk := step_of hk hb5
        rw [HHE.out]
        dsimp only
        have B5 := hB.trans (hk.mono hB.size)
        by_cases hH0 : HE = 0
        case neg =>
          have g1 : (HE != 0) = true := by simpa using hH0
          obtain ⟨e1, e2⟩ := HBAD.out HE (by rw [HST2.out, if_neg hH0]) hH0
          clear HHE HST2 hH0
          subst e1 e2
          go_wp2_with (first | ((with_reducible refine Calmly.is_fl ?_); refine Calmly.mix_fl rfl ?_ (fun _ _ => ?_); (first | exact .move _ | exact .load _ _ | exact .fieldAddr _ _ _ (by kernel_rfl) | exact .assign _ | exact .binOp _ _ _ _ _ rfl | exact .indexAddr _ _ _ | exact .len _ _ (by kernel_rfl) | exact .field _ _ _ | exact .extract _ _ | exact .pick _ _ _ | exact .build _ _ | exact .slice _ _ _ _ _ | exact .unOp _ _ _ rfl | exact .index _ _ _ | exact .max _ _ _ rfl rfl | exact .min _ _ _ rfl rfl | exact .nilCheck _ _ rfl)) | ((with_reducible refine Calmly.is_gl ?_); refine Calmly.mix_gl rfl rfl rfl ?_; first | ((first | with_reducible refine Calmly.gl_tt ?_ (fun _ _ => ?_) | with_reducible refine Calmly.gl_ff ?_ (fun _ _ => ?_)); (first | exact .move _ | exact .load _ _ | exact .fieldAddr _ _ _ (by kernel_rfl) | exact .assign _ | exact .binOp _ _ _ _ _ rfl | exact .indexAddr _ _ _ | exact .len _ _ (by kernel_rfl) | exact .field _ _ _ | exact .extract _ _ | exact .pick _ _ _ | exact .build _ _ | exact .slice _ _ _ _ _ | exact .unOp _ _ _ rfl | exact .index _ _ _ | exact .max _ _ _ rfl rfl | exact .min _ _ _ rfl rfl | exact .nilCheck _ _ rfl)) | with_reducible refine Calmly.gl_tf (fun _ _ => ?_) | with_reducible refine Calmly.gl_ft (fun _ _ => ?_)) | ((with_reducible refine Calmly.is_eff ?_); refine Calmly.mix_eff rfl (fun _ _ => ?_)) | ((with_reducible refine Calmly.is_gf ?_); refine Calmly.mix_gf rfl rfl rfl ?_; first | with_reducible refine Calmly.gf_tt (fun _ _ => ?_) | with_reducible refine Calmly.gf_ff (fun _ _ => ?_) | with_reducible refine Calmly.gf_tf (kept_of hk) (fun _ _ => ?_) | with_reducible refine Calmly.gf_ft (kept_of hk) (fun _ _ => ?_)) | ((with_reducible refine Calmly.is_tail ?_); first | refine Calmly.mix_tail_nil ?_ | refine Calmly.mix_tail rfl (fun _ _ => ?_)) | ((with_reducible refine Calmly.is_kept ?_); refine ⟨kept_of hk, ?_⟩) | (with_reducible refine Calmly.mix_alt ?_ ?_))
          exact bodyPost_ret (v := .tuple #[.int .i64 (k : Int), .int .i64 RE]) (by simp [results, Try.results60]) rfl ⟨rfl, B5⟩
        subst hH0
        go_wp2_with (first | ((with_reducible refine Calmly.is_fl ?_); refine Calmly.mix_fl rfl ?_ (fun _ _ => ?_); (first | exact .move _ | exact .load _ _ | exact .fieldAddr _ _ _ (by kernel_rfl) | exact .assign _ | exact .binOp _ _ _ _ _ rfl | exact .indexAddr _ _ _ | exact .len _ _ (by kernel_rfl) | exact .field _ _ _ | exact .extract _ _ | exact .pick _ _ _ | exact .build _ _ | exact .slice _ _ _ _ _ | exact .unOp _ _ _ rfl | exact .index _ _ _ | exact .max _ _ _ rfl rfl | exact .min _ _ _ rfl rfl | exact .nilCheck _ _ rfl)) | ((with_reducible refine Calmly.is_gl ?_); refine Calmly.mix_gl rfl rfl rfl ?_; first | ((first | with_reducible refine Calmly.gl_tt ?_ (fun _ _ => ?_) | with_reducible refine Calmly.gl_ff ?_ (fun _ _ => ?_)); (first | exact .move _ | exact .load _ _ | exact .fieldAddr _ _ _ (by kernel_rfl) | exact .assign _ | exact .binOp _ _ _ _ _ rfl | exact .indexAddr _ _ _ | exact .len _ _ (by kernel_rfl) | exact .field _ _ _ | exact .extract _ _ | exact .pick _ _ _ | exact .build _ _ | exact .slice _ _ _ _ _ | exact .unOp _ _ _ rfl | exact .index _ _ _ | exact .max _ _ _ rfl rfl | exact .min _ _ _ rfl rfl | exact .nilCheck _ _ rfl)) | with_reducible refine Calmly.gl_tf (fun _ _ => ?_) | with_reducible refine Calmly.gl_ft (fun _ _ => ?_)) | ((with_reducible refine Calmly.is_eff ?_); refine Calmly.mix_eff rfl (fun _ _ => ?_)) | ((with_reducible refine Calmly.is_gf ?_); refine Calmly.mix_gf rfl rfl rfl ?_; first | with_reducible refine Calmly.gf_tt (fun _ _ => ?_) | with_reducible refine Calmly.gf_ff (fun _ _ => ?_) | with_reducible refine Calmly.gf_tf (kept_of hk) (fun _ _ => ?_) | with_reducible refine Calmly.gf_ft (kept_of hk) (fun _ _ => ?_)) | ((with_reducible refine Calmly.is_tail ?_); first | refine Calmly.mix_tail_nil ?_ | refine Calmly.mix_tail rfl (fun _ _ => ?_)) | ((with_reducible refine Calmly.is_kept ?_); refine ⟨kept_of hk, ?_⟩) | (with_reducible refine Calmly.mix_alt ?_ ?_))
        have hC3 := hC2.keep hk
        replace q1 := cell_keep q1 hk
        replace hy2 := blk_keep hy2 hk
        replace hnow := hnow.keep hk
        replace hbr := hbr.trans (hk.mono hbr.size)
        clear hk f0 f12 t0 t1 hC2 q2 hb5 hB
        generalize w5 = V2 at *
        refine Calmly.wp_region_mix 10 (.fl 0 <| .fl 1 <| .fl 2 <| .fl 3 <| .fl 4 <| .fl 5 <| .fl 6 <| .fl 7 <| .fl 8 <| .eff 9 <| .tail [10]) (by kernel_rfl) (by kernel_rfl) ?_
        have BD : Below V2.heap.size V2 V2.drew := (Below.refl _ _).drew
        have hC4 := hC3.keep BD
        replace q1 := cell_keep q1 BD
        replace hy2 := blk_keep hy2 BD
        replace hnow := hnow.keep BD
        replace hbr := hbr.trans (BD.mono hbr.size)
        replace B5 := B5.trans (BD.mono B5.size)
        clear hC3 BD
        generalize V2.drew = V3 at *
        have f10 := cell_block hC4.st 0
        have f12 := cell_block hC4.st 2
        have t0 := hC4.t0
        have hk := Below.refl V3.heap.size V3
        have hxk : -1000000000000 ≤ s.1[k]?.getD 0 ∧ s.1[k]?.getD 0 ≤ 1000000000000 := by rw [HX.out]; omega
        have HXK := Lib.hid hxk
        clear hxk
        go_wp2_with (first | ((with_reducible refine Calmly.is_fl ?_); refine Calmly.mix_fl rfl ?_ (fun _ _ => ?_); (first | exact .move _ | exact .load _ _ | exact .fieldAddr _ _ _ (by kernel_rfl) | exact .assign _ | exact .binOp _ _ _ _ _ rfl | exact .indexAddr _ _ _ | exact .len _ _ (by kernel_rfl) | exact .field _ _ _ | exact .extract _ _ | exact .pick _ _ _ | exact .build _ _ | exact .slice _ _ _ _ _ | exact .unOp _ _ _ rfl | exact .index _ _ _ | exact .max _ _ _ rfl rfl | exact .min _ _ _ rfl rfl | exact .nilCheck _ _ rfl)) | ((with_reducible refine Calmly.is_gl ?_); refine Calmly.mix_gl rfl rfl rfl ?_; first | ((first | with_reducible refine Calmly.gl_tt ?_ (fun _ _ => ?_) | with_reducible refine Calmly.gl_ff ?_ (fun _ _ => ?_)); (first | exact .move _ | exact .load _ _ | exact .fieldAddr _ _ _ (by kernel_rfl) | exact .assign _ | exact .binOp _ _ _ _ _ rfl | exact .indexAddr _ _ _ | exact .len _ _ (by kernel_rfl) | exact .field _ _ _ | exact .extract _ _ | exact .pick _ _ _ | exact .build _ _ | exact .slice _ _ _ _ _ | exact .unOp _ _ _ rfl | exact .index _ _ _ | exact .max _ _ _ rfl rfl | exact .min _ _ _ rfl rfl | exact .nilCheck _ _ rfl)) | with_reducible refine Calmly.gl_tf (fun _ _ => ?_) | with_reducible refine Calmly.gl_ft (fun _ _ => ?_)) | ((with_reducible refine Calmly.is_eff ?_); refine Calmly.mix_eff rfl (fun _ _ => ?_)) | ((with_reducible refine Calmly.is_gf ?_); refine Calmly.mix_gf rfl rfl rfl ?_; first | with_reducible refine Calmly.gf_tt (fun _ _ => ?_) | with_reducible refine Calmly.gf_ff (fun _ _ => ?_) | with_reducible refine Calmly.gf_tf (kept_of hk) (fun _ _ => ?_) | with_reducible refine Calmly.gf_ft (kept_of hk) (fun _ _ => ?_)) | ((with_reducible refine Calmly.is_tail ?_); first | refine Calmly.mix_tail_nil ?_ | refine Calmly.mix_tail rfl (fun _ _ => ?_)) | ((with_reducible refine Calmly.is_kept ?_); refine ⟨kept_of hk, ?_⟩) | (with_reducible refine Calmly.mix_alt ?_ ?_))
        refine (rDriftB_any (some ⟨b1', o1, none⟩) n3 c1 k s.1 _ (hnow.keep hk) hk9 HXK.out HPREV.out).mono ?_
        rintro e w6 ⟨rfl, hb6⟩
        replace hk := step_of hk hb6
        rw [HD.out]
        dsimp only
        have B6 := B5.trans (hk.mono B5.size)
        by_cases hTD : T = D
        case neg =>
          have g1 : (T != D) = true := by simpa using hTD
          obtain ⟨e1, e2⟩ := HBAD.out 13 (by rw [HST2.out]; simp [hTD]) (by decide)
          clear HST2 hTD
          subst e1 e2
          go_wp2_with (first | ((with_reducible refine Calmly.is_fl ?_); refine Calmly.mix_fl rfl ?_ (fun _ _ => ?_); (first | exact .move _ | exact .load _ _ | exact .fieldAddr _ _ _ (by kernel_rfl) | exact .assign _ | exact .binOp _ _ _ _ _ rfl | exact .indexAddr _ _ _ | exact .len _ _ (by kernel_rfl) | exact .field _ _ _ | exact .extract _ _ | exact .pick _ _ _ | exact .build _ _ | exact .slice _ _ _ _ _ | exact .unOp _ _ _ rfl | exact .index _ _ _ | exact .max _ _ _ rfl rfl | exact .min _ _ _ rfl rfl | exact .nilCheck _ _ rfl)) | ((with_reducible refine Calmly.is_gl ?_); refine Calmly.mix_gl rfl rfl rfl ?_; first | ((first | with_reducible refine Calmly.gl_tt ?_ (fun _ _ => ?_) | with_reducible refine Calmly.gl_ff ?_ (fun _ _ => ?_)); (first | exact .move _ | exact .load _ _ | exact .fieldAddr _ _ _ (by kernel_rfl) | exact .assign _ | exact .binOp _ _ _ _ _ rfl | exact .indexAddr _ _ _ | exact .len _ _ (by kernel_rfl) | exact .field _ _ _ | exact .extract _ _ | exact .pick _ _ _ | exact .build _ _ | exact .slice _ _ _ _ _ | exact .unOp _ _ _ rfl | exact .index _ _ _ | exact .max _ _ _ rfl rfl | exact .min _ _ _ rfl rfl | exact .nilCheck _ _ rfl)) | with_reducible refine Calmly.gl_tf (fun _ _ => ?_) | with_reducible refine Calmly.gl_ft (fun _ _ => ?_)) | ((with_reducible refine Calmly.is_eff ?_); refine Calmly.mix_eff rfl (fun _ _ => ?_)) | ((with_reducible refine Calmly.is_gf ?_); refine Calmly.mix_gf rfl rfl rfl ?_; first | with_reducible refine Calmly.gf_tt (fun _ _ => ?_) | with_reducible refine Calmly.gf_ff (fun _ _ => ?_) | with_reducible refine Calmly.gf_tf (kept_of hk) (fun _ _ => ?_) | with_reducible refine Calmly.gf_ft (kept_of hk) (fun _ _ => ?_)) | ((with_reducible refine Calmly.is_tail ?_); first | refine Calmly.mix_tail_nil ?_ | refine Calmly.mix_tail rfl (fun _ _ => ?_)) | ((with_reducible refine Calmly.is_kept ?_); refine ⟨kept_of hk, ?_⟩) | (with_reducible refine Calmly.mix_alt ?_ ?_))
          exact bodyPost_ret (v := .tuple #[.int .i64 (k : Int), .int .i64 13]) (by simp [results, Try.results60]) rfl ⟨rfl, B6⟩
        have g1 : (T != D) = false := by simpa using hTD
        have hST3 : stErr fs s k = if szd D x1 = true then 0 else 22 := by rw [HST2.out]; simp [hTD]
        have HST3 := Lib.hid hST3
        clear hST3 HST2 hTD
        go_wp2_with (first | ((with_reducible refine Calmly.is_fl ?_); refine Calmly.mix_fl rfl ?_ (fun _ _ => ?_); (first | exact .move _ | exact .load _ _ | exact .fieldAddr _ _ _ (by kernel_rfl) | exact .assign _ | exact .binOp _ _ _ _ _ rfl | exact .indexAddr _ _ _ | exact .len _ _ (by kernel_rfl) | exact .field _ _ _ | exact .extract _ _ | exact .pick _ _ _ | exact .build _ _ | exact .slice _ _ _ _ _ | exact .unOp _ _ _ rfl | exact .index _ _ _ | exact .max _ _ _ rfl rfl | exact .min _ _ _ rfl rfl | exact .nilCheck _ _ rfl)) | ((with_reducible refine Calmly.is_gl ?_); refine Calmly.mix_gl rfl rfl rfl ?_; first | ((first | with_reducible refine Calmly.gl_tt ?_ (fun _ _ => ?_) | with_reducible refine Calmly.gl_ff ?_ (fun _ _ => ?_)); (first | exact .move _ | exact .load _ _ | exact .fieldAddr _ _ _ (by kernel_rfl) | exact .assign _ | exact .binOp _ _ _ _ _ rfl | exact .indexAddr _ _ _ | exact .len _ _ (by kernel_rfl) | exact .field _ _ _ | exact .extract _ _ | exact .pick _ _ _ | exact .build _ _ | exact .slice _ _ _ _ _ | exact .unOp _ _ _ rfl | exact .index _ _ _ | exact .max _ _ _ rfl rfl | exact .min _ _ _ rfl rfl | exact .nilCheck _ _ rfl)) | with_reducible refine Calmly.gl_tf (fun _ _ => ?_) | with_reducible refine Calmly.gl_ft (fun _ _ => ?_)) | ((with_reducible refine Calmly.is_eff ?_); refine Calmly.mix_eff rfl (fun _ _ => ?_)) | ((with_reducible refine Calmly.is_gf ?_); refine Calmly.mix_gf rfl rfl rfl ?_; first | with_reducible refine Calmly.gf_tt (fun _ _ => ?_) | with_reducible refine Calmly.gf_ff (fun _ _ => ?_) | with_reducible refine Calmly.gf_tf (kept_of hk) (fun _ _ => ?_) | with_reducible refine Calmly.gf_ft (kept_of hk) (fun _ _ => ?_)) | ((with_reducible refine Calmly.is_tail ?_); first | refine Calmly.mix_tail_nil ?_ | refine Calmly.mix_tail rfl (fun _ _ => ?_)) | ((with_reducible refine Calmly.is_kept ?_); refine ⟨kept_of hk, ?_⟩) | (with_reducible refine Calmly.mix_alt ?_ ?_))
        have hC5 := hC4.keep hk
        replace q1 := cell_keep q1 hk
        replace hy2 := blk_keep hy2 hk
        replace hnow := hnow.keep hk
        replace hbr := hbr.trans (hk.mono hbr.size)
        clear hk f10 f12 t0 hC4 hb6 B5 g1
        generalize w6 = V4 at *
        refine Calmly.wp_region_mix 11 (.fl 0 <| .fl 1 <| .fl 2 <| .fl 5 <| .fl 6 <| .fl 7 <| .fl 8 <| .fl 9 <| .fl 10 <| .eff 3 <| .eff 4 <| .tail [11]) (by kernel_rfl) (by kernel_rfl) ?_
        have BD : Below V4.heap.size V4 V4.drew := (Below.refl _ _).drew
        have hC6 := hC5.keep BD
        replace q1 := cell_keep q1 BD
        replace hy2 := blk_keep hy2 BD
        replace hnow := hnow.keep BD
        replace hbr := hbr.trans (BD.mono hbr.size)
        replace B6 := B6.trans (BD.mono B6.size)
        clear hC5 BD
        generalize V4.drew = V5 at *
        have f10 := cell_block hC6.st 0
        have f0 := cell_block hy2 0
        have hk := Below.refl V5.heap.size V5
        go_wp2_with (first | ((with_reducible refine Calmly.is_fl ?_); refine Calmly.mix_fl rfl ?_ (fun _ _ => ?_); (first | exact .move _ | exact .load _ _ | exact .fieldAddr _ _ _ (by kernel_rfl) | exact .assign _ | exact .binOp _ _ _ _ _ rfl | exact .indexAddr _ _ _ | exact .len _ _ (by kernel_rfl) | exact .field _ _ _ | exact .extract _ _ | exact .pick _ _ _ | exact .build _ _ | exact .slice _ _ _ _ _ | exact .unOp _ _ _ rfl | exact .index _ _ _ | exact .max _ _ _ rfl rfl | exact .min _ _ _ rfl rfl | exact .nilCheck _ _ rfl)) | ((with_reducible refine Calmly.is_gl ?_); refine Calmly.mix_gl rfl rfl rfl ?_; first | ((first | with_reducible refine Calmly.gl_tt ?_ (fun _ _ => ?_) | with_reducible refine Calmly.gl_ff ?_ (fun _ _ => ?_)); (first | exact .move _ | exact .load _ _ | exact .fieldAddr _ _ _ (by kernel_rfl) | exact .assign _ | exact .binOp _ _ _ _ _ rfl | exact .indexAddr _ _ _ | exact .len _ _ (by kernel_rfl) | exact .field _ _ _ | exact .extract _ _ | exact .pick _ _ _ | exact .build _ _ | exact .slice _ _ _ _ _ | exact .unOp _ _ _ rfl | exact .index _ _ _ | exact .max _ _ _ rfl rfl | exact .min _ _ _ rfl rfl | exact .nilCheck _ _ rfl)) | with_reducible refine Calmly.gl_tf (fun _ _ => ?_) | with_reducible refine Calmly.gl_ft (fun _ _ => ?_)) | ((with_reducible refine Calmly.is_eff ?_); refine Calmly.mix_eff rfl (fun _ _ => ?_)) | ((with_reducible refine Calmly.is_gf ?_); refine Calmly.mix_gf rfl rfl rfl ?_; first | with_reducible refine Calmly.gf_tt (fun _ _ => ?_) | with_reducible refine Calmly.gf_ff (fun _ _ => ?_) | with_reducible refine Calmly.gf_tf (kept_of hk) (fun _ _ => ?_) | with_reducible refine Calmly.gf_ft (kept_of hk) (fun _ _ => ?_)) | ((with_reducible refine Calmly.is_tail ?_); first | refine Calmly.mix_tail_nil ?_ | refine Calmly.mix_tail rfl (fun _ _ => ?_)) | ((with_reducible refine Calmly.is_kept ?_); refine ⟨kept_of hk, ?_⟩) | (with_reducible refine Calmly.mix_alt ?_ ?_))
        refine (rDriftB_any (some ⟨b1', o1, none⟩) n3 c1 k s.1 _ (hnow.keep hk) hk9 HXK.out HPREV.out).mono ?_
        rintro e w7 ⟨rfl, hb7⟩
        replace hk := step_of hk hb7
        rw [HD.out]
        dsimp only
        obtain ⟨N, hN⟩ : ∃ N : Int, (D.natAbs : Int) = N := ⟨_, rfl⟩
        have hW : ∀ w, Calls Try.prog 92 #[.int .i64 D] w fun e w' => e = .returned (.int .i64 N) ∧ w = w' := fun w => by
          have h := size_any D w (by omega) (by omega)
          rw [hN] at h
          exact h
        have HW := Lib.hid hW
        have HNN := Lib.hid hN
        clear hW hN
        go_wp2_with (first | ((with_reducible refine Calmly.is_fl ?_); refine Calmly.mix_fl rfl ?_ (fun _ _ => ?_); (first | exact .move _ | exact .load _ _ | exact .fieldAddr _ _ _ (by kernel_rfl) | exact .assign _ | exact .binOp _ _ _ _ _ rfl | exact .indexAddr _ _ _ | exact .len _ _ (by kernel_rfl) | exact .field _ _ _ | exact .extract _ _ | exact .pick _ _ _ | exact .build _ _ | exact .slice _ _ _ _ _ | exact .unOp _ _ _ rfl | exact .index _ _ _ | exact .max _ _ _ rfl rfl | exact .min _ _ _ rfl rfl | exact .nilCheck _ _ rfl)) | ((with_reducible refine Calmly.is_gl ?_); refine Calmly.mix_gl rfl rfl rfl ?_; first | ((first | with_reducible refine Calmly.gl_tt ?_ (fun _ _ => ?_) | with_reducible refine Calmly.gl_ff ?_ (fun _ _ => ?_)); (first | exact .move _ | exact .load _ _ | exact .fieldAddr _ _ _ (by kernel_rfl) | exact .assign _ | exact .binOp _ _ _ _ _ rfl | exact .indexAddr _ _ _ | exact .len _ _ (by kernel_rfl) | exact .field _ _ _ | exact .extract _ _ | exact .pick _ _ _ | exact .build _ _ | exact .slice _ _ _ _ _ | exact .unOp _ _ _ rfl | exact .index _ _ _ | exact .max _ _ _ rfl rfl | exact .min _ _ _ rfl rfl | exact .nilCheck _ _ rfl)) | with_reducible refine Calmly.gl_tf (fun _ _ => ?_) | with_reducible refine Calmly.gl_ft (fun _ _ => ?_)) | ((with_reducible refine Calmly.is_eff ?_); refine Calmly.mix_eff rfl (fun _ _ => ?_)) | ((with_reducible refine Calmly.is_gf ?_); refine Calmly.mix_gf rfl rfl rfl ?_; first | with_reducible refine Calmly.gf_tt (fun _ _ => ?_) | with_reducible refine Calmly.gf_ff (fun _ _ => ?_) | with_reducible refine Calmly.gf_tf (kept_of hk) (fun _ _ => ?_) | with_reducible refine Calmly.gf_ft (kept_of hk) (fun _ _ => ?_)) | ((with_reducible refine Calmly.is_tail ?_); first | refine Calmly.mix_tail_nil ?_ | refine Calmly.mix_tail rfl (fun _ _ => ?_)) | ((with_reducible refine Calmly.is_kept ?_); refine ⟨kept_of hk, ?_⟩) | (with_reducible refine Calmly.mix_alt ?_ ?_))
        refine (HW.out _).mono ?_
        rintro e w8 ⟨rfl, rfl⟩
        dsimp only
        have B7 := B6.trans (hk.mono B6.size)
        by_cases hgt : x1 < N
        · have hsz : szd D x1 = false := by
            cases h : szd D x1
            · rfl
            · have h6 := szd_iff.1 h
              have h7 := HNN.out
              omega
          obtain ⟨e1, e2⟩ := HBAD.out 22 (by rw [HST3.out, hsz]; rfl) (by decide)
          clear HST3 hsz
          subst e1 e2
          go_wp2_with (first | ((with_reducible refine Calmly.is_fl ?_); refine Calmly.mix_fl rfl ?_ (fun _ _ => ?_); (first | exact .move _ | exact .load _ _ | exact .fieldAddr _ _ _ (by kernel_rfl) | exact .assign _ | exact .binOp _ _ _ _ _ rfl | exact .indexAddr _ _ _ | exact .len _ _ (by kernel_rfl) | exact .field _ _ _ | exact .extract _ _ | exact .pick _ _ _ | exact .build _ _ | exact .slice _ _ _ _ _ | exact .unOp _ _ _ rfl | exact .index _ _ _ | exact .max _ _ _ rfl rfl | exact .min _ _ _ rfl rfl | exact .nilCheck _ _ rfl)) | ((with_reducible refine Calmly.is_gl ?_); refine Calmly.mix_gl rfl rfl rfl ?_; first | ((first | with_reducible refine Calmly.gl_tt ?_ (fun _ _ => ?_) | with_reducible refine Calmly.gl_ff ?_ (fun _ _ => ?_)); (first | exact .move _ | exact .load _ _ | exact .fieldAddr _ _ _ (by kernel_rfl) | exact .assign _ | exact .binOp _ _ _ _ _ rfl | exact .indexAddr _ _ _ | exact .len _ _ (by kernel_rfl) | exact .field _ _ _ | exact .extract _ _ | exact .pick _ _ _ | exact .build _ _ | exact .slice _ _ _ _ _ | exact .unOp _ _ _ rfl | exact .index _ _ _ | exact .max _ _ _ rfl rfl | exact .min _ _ _ rfl rfl | exact .nilCheck _ _ rfl)) | with_reducible refine Calmly.gl_tf (fun _ _ => ?_) | with_reducible refine Calmly.gl_ft (fun _ _ => ?_)) | ((with_reducible refine Calmly.is_eff ?_); refine Calmly.mix_eff rfl (fun _ _ => ?_)) | ((with_reducible refine Calmly.is_gf ?_); refine Calmly.mix_gf rfl rfl rfl ?_; first | with_reducible refine Calmly.gf_tt (fun _ _ => ?_) | with_reducible refine Calmly.gf_ff (fun _ _ => ?_) | with_reducible refine Calmly.gf_tf (kept_of hk) (fun _ _ => ?_) | with_reducible refine Calmly.gf_ft (kept_of hk) (fun _ _ => ?_)) | ((with_reducible refine Calmly.is_tail ?_); first | refine Calmly.mix_tail_nil ?_ | refine Calmly.mix_tail rfl (fun _ _ => ?_)) | ((with_reducible refine Calmly.is_kept ?_); refine ⟨kept_of hk, ?_⟩) | (with_reducible refine Calmly.mix_alt ?_ ?_))
          exact bodyPost_ret (v := .tuple #[.int .i64 (k : Int), .int .i64 22]) (by simp [results, Try.results60]) rfl ⟨rfl, B7⟩
        · have hsz : szd D x1 = true := szd_iff.2 (by have h7 := HNN.out; omega)
          have h0 : stErr fs s k = 0 := by rw [HST3.out, hsz]; rfl
          have H0 := Lib.hid h0
          clear HST3 hsz h0
          go_wp2_with (first | ((with_reducible refine Calmly.is_fl ?_); refine Calmly.mix_fl rfl ?_ (fun _ _ => ?_); (first | exact .move _ | exact .load _ _ | exact .fieldAddr _ _ _ (by kernel_rfl) | exact .assign _ | exact .binOp _ _ _ _ _ rfl | exact .indexAddr _ _ _ | exact .len _ _ (by kernel_rfl) | exact .field _ _ _ | exact .extract _ _ | exact .pick _ _ _ | exact .build _ _ | exact .slice _ _ _ _ _ | exact .unOp _ _ _ rfl | exact .index _ _ _ | exact .max _ _ _ rfl rfl | exact .min _ _ _ rfl rfl | exact .nilCheck _ _ rfl)) | ((with_reducible refine Calmly.is_gl ?_); refine Calmly.mix_gl rfl rfl rfl ?_; first | ((first | with_reducible refine Calmly.gl_tt ?_ (fun _ _ => ?_) | with_reducible refine Calmly.gl_ff ?_ (fun _ _ => ?_)); (first | exact .move _ | exact .load _ _ | exact .fieldAddr _ _ _ (by kernel_rfl) | exact .assign _ | exact .binOp _ _ _ _ _ rfl | exact .indexAddr _ _ _ | exact .len _ _ (by kernel_rfl) | exact .field _ _ _ | exact .extract _ _ | exact .pick _ _ _ | exact .build _ _ | exact .slice _ _ _ _ _ | exact .unOp _ _ _ rfl | exact .index _ _ _ | exact .max _ _ _ rfl rfl | exact .min _ _ _ rfl rfl | exact .nilCheck _ _ rfl)) | with_reducible refine Calmly.gl_tf (fun _ _ => ?_) | with_reducible refine Calmly.gl_ft (fun _ _ => ?_)) | ((with_reducible refine Calmly.is_eff ?_); refine Calmly.mix_eff rfl (fun _ _ => ?_)) | ((with_reducible refine Calmly.is_gf ?_); refine Calmly.mix_gf rfl rfl rfl ?_; first | with_reducible refine Calmly.gf_tt (fun _ _ => ?_) | with_reducible refine Calmly.gf_ff (fun _ _ => ?_) | with_reducible refine Calmly.gf_tf (kept_of hk) (fun _ _ => ?_) | with_reducible refine Calmly.gf_ft (kept_of hk) (fun _ _ => ?_)) | ((with_reducible refine Calmly.is_tail ?_); first | refine Calmly.mix_tail_nil ?_ | refine Calmly.mix_tail rfl (fun _ _ => ?_)) | ((with_reducible refine Calmly.is_kept ?_); refine ⟨kept_of hk, ?_⟩) | (with_reducible refine Calmly.mix_alt ?_ ?_))
          go_roundw
          case rel =>
            refine ⟨k + 1, by omega, by go_num, HGOOD.out H0.out, fun j hj => ?_, hbr.trans (hk.mono hbr.size)⟩
            by_cases e : j = k
            · subst e
              exact H0.out
            · exact HOK.out j (by omega)
          case measure => simp [intOf]; omega
      · have hle : (n3 : Int) ≤ (k : Int) := by omega
        have hRS := HT.out
        rw [eaF_end (by omega)] at hRS
        injection hRS with e1 e2
        subst e1 e2
        go_wp2_with fail
        exact bodyPost_ret (v := .tuple #[.int .i64 0, .int .i64 0]) (by simp [results, Try.results60]) rfl ⟨rfl, BW.trans (hbr.mono BW.size)⟩
end Go.Proofs.Ytaiikekgckjdeaa

namespace Go.Proofs.Ytaiikekgckjdeaa
open Go.RowKit
open Calmly (Kept)
/-- The error of a step that is opened; of a step; the state after a step. -/
def opsE (fs : List Fl) (s : St) (g : Int) : Int := firstE [(staE fs s).2, unlessE (grd g) 2]
def stpE (fs : List Fl) (s : St) (g : Int) : Int := if opsE fs s g = 0 then (if colF (badS fs (nxts fs s g)) 0 fs.length < 0 then 0 else 22) else opsE fs s g
def stpS (fs : List Fl) (s : St) (g : Int) : St := if stpE fs s g = 0 then steS fs s (nxts fs s g) else ([], [], [])
theorem sta_frm {fs : List Fl} {s : St} (h : (staE fs s).2 = 0) : (frmE fs).2 = 0 ∧ (stfE fs s).2 = 0 := by
  rw [staE] at h
  split at h
  · rename_i hh
    exact ⟨hh, h⟩
  · rename_i hh
    exact absurd h hh
theorem stf_ok {fs : List Fl} {s : St} (hf : (frmE fs).2 = 0) (h : (stfE fs s).2 = 0) : StOk fs s ∧ ∀ i, i < fs.length → stErr fs s i = 0 := by
  rw [stfE] at h
  split at h
  case isFalse => cases h
  case isTrue hl =>
    obtain ⟨l1, l2, l3⟩ := hl
    have hall : ∀ i, i < fs.length → stErr fs s i = 0 := fun i hi => eaF_all (by omega) h i (by omega) hi
    have hin : ∀ i, i < fs.length → plc (s.1[i]?.getD 0) = true ∧ plc (s.2.1[i]?.getD 0) = true ∧ (hldE (fs[i]?.getD fl0).2.2 (s.2.2[i]?.getD ho0).1 (s.2.2[i]?.getD ho0).2).2 = 0 := by
      intro i hi
      have h5 := hall i hi
      rw [stErr] at h5
      split at h5
      · rename_i hh
        rw [first3] at h5
        refine ⟨hh.1, hh.2, ?_⟩
        split at h5
        · assumption
        · rename_i h6
          exact absurd h5 h6
      · cases h5
    refine ⟨⟨hf, l1, l2, l3, fun i hi => ?_, fun i => ?_, fun i => ?_⟩, hall⟩
    · have h6 := (flErr_ok ((frmE_ok hf).2 i hi)).2.2
      exact chkE_ok (by rw [chkE, if_pos h6]; exact (hin i hi).2.2)
    · rcases Nat.lt_or_ge i fs.length with hi | hi
      · have := plc_ok (hin i hi).1
        omega
      · rw [List.getElem?_eq_none (by omega)]
        simp
    · rcases Nat.lt_or_ge i fs.length with hi | hi
      · have := plc_ok (hin i hi).2.1
        omega
      · rw [List.getElem?_eq_none (by omega)]
        simp
theorem ops_ok {fs : List Fl} {s : St} {g : Int} (h : opsE fs s g = 0) : StOk fs s ∧ (-100 ≤ g ∧ g ≤ 100) ∧ (staE fs s).2 = 0 := by
  rw [opsE] at h
  by_cases h0 : (staE fs s).2 = 0
  · rw [first_ok h0] at h
    have hf := sta_frm h0
    exact ⟨(stf_ok hf.1 hf.2).1, szd_iff.1 (unlessG_zero h (by decide)), h0⟩
  · rw [first_bad h0] at h
    exact absurd h h0
/-- What a step that is opened hands back. -/
structure OpS (w w' : World) (a a1 a2 a3 : Option Addr) (n c c1 c2 c3 : Nat) (fs : List Fl) (s : St) (g : Int) (b : Nat) (pa xa : Option Addr) (pc xc : Nat) : Prop where
  ge : w.heap.size ≤ b
  blk : w'.heap[b]? = some (.cells #[.slice a n c, .slice a1 n c1, .slice a2 n c2, .slice a3 n c3, .int .i64 g, .slice pa n pc, .slice xa n xc] 188)
  ps : OwI w' w.heap.size pa n pc (psF (frS fs s) n n)
  nx : OwI w' w.heap.size xa n xc (nxts fs s g)
structure OpR (w w' : World) (a a1 a2 a3 : Option Addr) (n c n1 c1 n2 c2 n3 c3 : Nat) (fs : List Fl) (s : St) (g : Int) (p : Option Addr) (E : Int) : Prop where
  ok : E = 0 → ∃ b pa xa pc xc, p = some ⟨b, 0, none⟩ ∧ n1 = n ∧ n2 = n ∧ n3 = n ∧ OpS w w' a a1 a2 a3 n c c1 c2 c3 fs s g b pa xa pc xc
set_option maxRecDepth 100000 in
set_option maxHeartbeats 4000000 in
theorem openStep_any (a a1 a2 a3 : Option Addr) (n c n1 c1 n2 c2 n3 c3 : Nat) (raw : List FlR) (fs : List Fl) (s : St) (g : Int) (w : World) (h1 : FrV w a n c raw fs) (h2 : StV w ((a1, n1, c1), (a2, n2, c2), (a3, n3, c3)) s) :
    Calls Try.prog 118 #[.agg #[.slice a n c], .agg #[.slice a1 n1 c1, .slice a2 n2 c2, .slice a3 n3 c3], .int .i64 g] w fun e w' => ∃ p, e = .returned (.tuple #[.pointer p, .int .i64 (opsE fs s g)]) ∧ OpR w w' a a1 a2 a3 n c n1 c1 n2 c2 n3 c3 fs s g p (opsE fs s g) ∧ Below w.heap.size w w' := by
  obtain ⟨SJ, hSI⟩ : ∃ x, (staE fs s).1 = x := ⟨_, rfl⟩
  obtain ⟨SE, hSE⟩ : ∃ x, (staE fs s).2 = x := ⟨_, rfl⟩
  obtain ⟨E, hE⟩ : ∃ x, opsE fs s g = x := ⟨_, rfl⟩
  have hE2 : firstE [SE, unlessE (grd g) 2] = E := by rw [← hE, opsE, hSE]
  have HSI := Lib.hid hSI
  have HSE := Lib.hid hSE
  have HE := Lib.hid hE
  have HE2 := Lib.hid hE2
  rw [hE]
  clear hSI hSE hE hE2
  have y3 := blk_keep (alloc_new w (.cells #[.slice a n c] 24)) ((Below.refl _ _).alloc (Nat.le_refl _) (.cells #[.slice a1 n1 c1, .slice a2 n2 c2, .slice a3 n3 c3] 97))
  have y4 := alloc_new (w.alloc (.cells #[.slice a n c] 24)) (.cells #[.slice a1 n1 c1, .slice a2 n2 c2, .slice a3 n3 c3] 97)
  have BW : Below w.heap.size w ((w.alloc (.cells #[.slice a n c] 24)).alloc (.cells #[.slice a1 n1 c1, .slice a2 n2 c2, .slice a3 n3 c3] 97)) := ((Below.refl _ _).alloc (Nat.le_refl _) _).alloc (by simp) _
  simp only [World.size_alloc] at y4
  have f0 := cell_block y3 0
  have g0 := cell_block y4 0
  have g1 := cell_block y4 1
  have g2 := cell_block y4 2
  go_enter Try.func118, Try.ntmps118
  go_wp2_with fail
  generalize (w.alloc (.cells #[.slice a n c] 24)).alloc (.cells #[.slice a1 n1 c1, .slice a2 n2 c2, .slice a3 n3 c3] 97) = W at *
  refine (CheckState_any a a1 a2 a3 n c n1 c1 n2 c2 n3 c3 raw fs s W (h1.keep BW) (h2.keep BW).w).mono ?_
  rintro e w1 ⟨rfl, hs⟩
  replace y3 := blk_keep y3 hs
  replace y4 := blk_keep y4 hs
  replace BW := BW.trans (hs.mono BW.size)
  clear hs f0 g0 g1 g2
  rw [HSI.out, HSE.out]
  dsimp only
  go_wp2_with fail
  refine (dGround_any g _).mono ?_
  rintro e w2 ⟨rfl, rfl⟩
  dsimp only
  go_wp2_with fail
  refine (dUnless_any _ 2 _).mono ?_
  rintro e w2 ⟨rfl, rfl⟩
  dsimp only
  have hA : Below w1.heap.size w1 (w1.alloc (.cells #[.int .i64 SE, .int .i64 (unlessE (grd g) 2)] 29)) := (Below.refl _ _).alloc (Nat.le_refl _) _
  go_wp2_with fail
  refine (dFirst_any _ 2 2 _ _ (SI.two _ _ _ _ (by simp))).mono ?_
  rintro e w2 ⟨rfl, rfl⟩
  rw [HE2.out]
  dsimp only
  generalize w1.alloc (.cells #[.int .i64 SE, .int .i64 (unlessE (grd g) 2)] 29) = W2 at *
  replace y3 := blk_keep y3 hA
  replace y4 := blk_keep y4 hA
  replace BW := BW.trans (hA.mono BW.size)
  clear hA
  by_cases hz : E = 0
  case neg =>
    have b1 : (E != 0) = true := by simpa using hz
    have HZ := Lib.hid hz
    clear hz
    go_wp2_with fail
    exact bodyPost_ret (v := .tuple #[.pointer none, .int .i64 E]) (by simp [results, Try.results118]) rfl ⟨none, rfl, ⟨fun h => absurd h HZ.out⟩, BW⟩
  case pos =>
    have hok := ops_ok (HE.out.trans hz)
    subst hz
    have f0 := cell_block y3 0
    have g0 := cell_block y4 0
    have g1 := cell_block y4 1
    have g2 := cell_block y4 2
    obtain ⟨hok1, hok2, hok3⟩ := hok
    have hn := h1.n_
    have l1 := h2.now.len
    have l2 := h2.bef.len
    dsimp only at l1 l2
    have l3 : n3 = s.2.2.length := by
      obtain ⟨hraw, hH⟩ := h2.hol
      have := hH.row.len; have := hH.len; dsimp only at *; omega
    have e1 : n1 = n := by rw [l1, hn, hok1.now]
    have e2 : n2 = n := by rw [l2, hn, hok1.bef]
    have e3 : n3 = n := by rw [l3, hn, hok1.hol]
    have hnx : (List.range n).map (nxS fs s g) = nxts fs s g := by rw [nxts, ← hn]
    have HNX := Lib.hid hnx
    have HOK1 := Lib.hid hok1
    clear l1 l2 l3 hn hnx hok1 hok3
    subst e1 e2
    have e3' : n3 = n2 := e3
    subst e3'
    go_wp2_with fail
    refine (newStep_any a a1 a2 a3 n3 c c1 c2 c3 raw fs s g W2 (h1.keep BW) (h2.keep BW) HOK1.out (by omega)).mono ?_
    rintro e w6 ⟨b, pa, pc, xa, xc, rfl, hb1, hbx, hps, hnx, hsA⟩
    dsimp only
    rw [HNX.out] at hnx
    have hws := BW.size
    have B6 := BW.trans (hsA.mono BW.size)
    clear f0 g0 g1 g2
    go_wp2_with fail
    exact bodyPost_ret (v := .tuple #[.pointer (some ⟨b, 0, none⟩), .int .i64 0]) (by simp [results, Try.results118]) rfl ⟨some ⟨b, 0, none⟩, rfl, ⟨fun _ => ⟨b, pa, xa, pc, xc, rfl, rfl, rfl, rfl, ⟨by omega, hbx, owns_lower hps hws, owns_lower hnx hws⟩⟩⟩, B6⟩
theorem StV.zero (w : World) : StV w ((none, 0, 0), (none, 0, 0), (none, 0, 0)) ([], [], []) := ⟨Sl.nil _ _, .inl rfl, Sl.nil _ _, .inl rfl, ⟨[], ⟨SHoR.nil _, rfl, fun i hi => absurd hi (by simp)⟩⟩, .inl rfl⟩
set_option maxRecDepth 100000 in
set_option maxHeartbeats 4000000 in
theorem StepOf_any (a a1 a2 a3 : Option Addr) (n c n1 c1 n2 c2 n3 c3 : Nat) (raw : List FlR) (fs : List Fl) (s : St) (g : Int) (w : World) (h1 : FrV w a n c raw fs) (h2 : StV w ((a1, n1, c1), (a2, n2, c2), (a3, n3, c3)) s) :
    Calls Try.prog 57 #[.agg #[.slice a n c], .agg #[.slice a1 n1 c1, .slice a2 n2 c2, .slice a3 n3 c3], .int .i64 g] w fun e w' => ∃ x : StR, e = .returned (.tuple #[.agg #[hv x.1, hv x.2.1, hv x.2.2], .int .i64 (stpE fs s g)]) ∧ StV w' x (stpS fs s g) ∧ Below w.heap.size w w' := by
  obtain ⟨E, hE⟩ : ∃ x, opsE fs s g = x := ⟨_, rfl⟩
  obtain ⟨RE, hRE⟩ : ∃ x, stpE fs s g = x := ⟨_, rfl⟩
  obtain ⟨RS, hRS⟩ : ∃ x, stpS fs s g = x := ⟨_, rfl⟩
  have hRS2 : (if RE = 0 then steS fs s (nxts fs s g) else ([], [], [])) = RS := by rw [← hRS, stpS, hRE]
  have hRE2 : (if E = 0 then (if colF (badS fs (nxts fs s g)) 0 fs.length < 0 then 0 else 22) else E) = RE := by rw [← hRE, stpE, hE]
  rw [hRE, hRS]
  have HE := Lib.hid hE
  have HRE := Lib.hid hRE2
  have HRS := Lib.hid hRS2
  clear hE hRE hRS hRS2 hRE2
  have y3 := blk_keep (blk_keep (alloc_new w (.cells #[.slice a n c] 24)) ((Below.refl _ _).alloc (Nat.le_refl _) (.cells #[.slice a1 n1 c1, .slice a2 n2 c2, .slice a3 n3 c3] 97))) ((Below.refl _ _).alloc (Nat.le_refl _) (.cells #[.slice none 0 0, .slice none 0 0, .slice none 0 0] 97))
  have y4 := blk_keep (alloc_new (w.alloc (.cells #[.slice a n c] 24)) (.cells #[.slice a1 n1 c1, .slice a2 n2 c2, .slice a3 n3 c3] 97)) ((Below.refl _ _).alloc (Nat.le_refl _) (.cells #[.slice none 0 0, .slice none 0 0, .slice none 0 0] 97))
  have y6 := alloc_new ((w.alloc (.cells #[.slice a n c] 24)).alloc (.cells #[.slice a1 n1 c1, .slice a2 n2 c2, .slice a3 n3 c3] 97)) (.cells #[.slice none 0 0, .slice none 0 0, .slice none 0 0] 97)
  have BW : Below w.heap.size w (((w.alloc (.cells #[.slice a n c] 24)).alloc (.cells #[.slice a1 n1 c1, .slice a2 n2 c2, .slice a3 n3 c3] 97)).alloc (.cells #[.slice none 0 0, .slice none 0 0, .slice none 0 0] 97)) := (((Below.refl _ _).alloc (Nat.le_refl _) _).alloc (by simp) _).alloc (by simp; omega) _
  simp only [World.size_alloc] at y4 y6
  have f0 := cell_block y3 0
  have g0 := cell_block y4 0
  have g1 := cell_block y4 1
  have g2 := cell_block y4 2
  go_enter Try.func57, Try.ntmps57
  go_wp2_with fail
  generalize ((w.alloc (.cells #[.slice a n c] 24)).alloc (.cells #[.slice a1 n1 c1, .slice a2 n2 c2, .slice a3 n3 c3] 97)).alloc (.cells #[.slice none 0 0, .slice none 0 0, .slice none 0 0] 97) = W at *
  refine (openStep_any a a1 a2 a3 n c n1 c1 n2 c2 n3 c3 raw fs s g W (h1.keep BW) (h2.keep BW)).mono ?_
  rintro e w1 ⟨p, rfl, hp, hs⟩
  rw [HE.out] at hp ⊢
  replace y6 := blk_keep y6 hs
  have hWs := BW.size
  replace BW := BW.trans (hs.mono BW.size)
  have hF := h1.keep BW
  have hSt := h2.keep BW
  have HP := Lib.hid hp
  clear hs f0 g0 g1 g2 y3 y4 hp
  dsimp only
  have k0 := cell_block y6 0
  have k1 := cell_block y6 1
  have k2 := cell_block y6 2
  have k3 := frozen_block y6 0
  have k4 := frozen_block y6 1
  have k5 := frozen_block y6 2
  by_cases hz : E = 0
  case neg =>
    have b1 : (E != 0) = true := by simpa using hz
    have e1 : E = RE := by rw [← HRE.out, if_neg hz]
    have e2 : RS = ([], [], []) := by rw [← HRS.out, if_neg (by rw [← e1]; exact hz)]
    have E2 := Lib.hid e2
    clear hz HRE HRS HE HP e2
    subst e1
    go_wp2_with fail
    have q0 := setBlk (setBlk (setBlk y6 0 (.slice none 0 0)) 1 (.slice none 0 0)) 2 (.slice none 0 0)
    simp at q0
    have e0 := cell_block q0 0
    have e1 := cell_block q0 1
    have e2 := cell_block q0 2
    have hw : w.heap.size ≤ w.heap.size + 1 + 1 := by omega
    have B4 := ((BW.setCell (p := ⟨w.heap.size + 1 + 1, 0, none⟩) hw (.slice none 0 0)).setCell (p := ⟨w.heap.size + 1 + 1, 1, none⟩) hw (.slice none 0 0)).setCell (p := ⟨w.heap.size + 1 + 1, 2, none⟩) hw (.slice none 0 0)
    exact bodyPost_ret (v := .tuple #[.agg #[.slice none 0 0, .slice none 0 0, .slice none 0 0], .int .i64 E]) (by simp [results, Try.results57, go_sem, e0, e1, e2]) rfl ⟨((none, 0, 0), (none, 0, 0), (none, 0, 0)), rfl, by rw [E2.out]; exact StV.zero _, B4⟩
  case pos =>
    subst hz
    obtain ⟨hok1, hok2, -⟩ := ops_ok HE.out
    obtain ⟨b, pa, xa, pc, xc, rfl, e1, e2, e3, hO⟩ := HP.out.ok rfl
    obtain ⟨C, hC⟩ : ∃ C, colF (badS fs (nxts fs s g)) 0 fs.length = C := ⟨_, rfl⟩
    have HC := Lib.hid hC
    have hn := h1.n_
    have HN := Lib.hid hn
    have HOK1 := Lib.hid hok1
    subst e1 e2
    have e3' : n3 = n2 := e3
    subst e3'
    have hC' : colF (badS fs (nxts fs s g)) 0 n3 = C := by rw [hn, hC]
    have HC' := Lib.hid hC'
    have hnb := nxts_bd (s := s) (g := g) hok1 (by omega)
    have HNB := Lib.hid hnb
    clear hC hC' hn hok1 e3 hnb HP
    go_wp2_with fail
    refine (collapses_any b a xa n3 c xc _ _ _ _ _ raw fs (nxts fs s g) w1 hF hO.blk hO.nx.si HNB.out HOK1.out.frm).mono ?_
    rintro e w7 ⟨rfl, hsB⟩
    rw [HC'.out]
    dsimp only
    replace y6 := blk_keep y6 hsB
    have B7 := BW.trans (hsB.mono BW.size)
    clear k0 k1 k2 k3 k4 k5
    have k0 := cell_block y6 0
    have k1 := cell_block y6 1
    have k2 := cell_block y6 2
    have k3 := frozen_block y6 0
    have k4 := frozen_block y6 1
    have k5 := frozen_block y6 2
    by_cases hc0 : 0 ≤ C
    · have e1 : (22 : Int) = RE := by rw [← HRE.out, if_neg (show ¬ colF (badS fs (nxts fs s g)) 0 fs.length < 0 by rw [HC.out]; omega)]; simp
      have e2 : RS = ([], [], []) := by rw [← HRS.out, if_neg (by rw [← e1]; decide)]
      have E2 := Lib.hid e2
      have hOb := hO.blk
      clear HRE HRS e2 hO
      subst e1
      go_wp2_with fail
      have q0 := setBlk (setBlk (setBlk y6 0 (.slice none 0 0)) 1 (.slice none 0 0)) 2 (.slice none 0 0)
      simp at q0
      have e0 := cell_block q0 0
      have e1 := cell_block q0 1
      have e2 := cell_block q0 2
      have hw : w.heap.size ≤ w.heap.size + 1 + 1 := by omega
      have B4 := ((B7.setCell (p := ⟨w.heap.size + 1 + 1, 0, none⟩) hw (.slice none 0 0)).setCell (p := ⟨w.heap.size + 1 + 1, 1, none⟩) hw (.slice none 0 0)).setCell (p := ⟨w.heap.size + 1 + 1, 2, none⟩) hw (.slice none 0 0)
      exact bodyPost_ret (v := .tuple #[.agg #[.slice none 0 0, .slice none 0 0, .slice none 0 0], .int .i64 22]) (by simp [results, Try.results57, go_sem, e0, e1, e2]) rfl ⟨((none, 0, 0), (none, 0, 0), (none, 0, 0)), rfl, by rw [E2.out]; exact StV.zero _, B4⟩
    · have e1 : (0 : Int) = RE := by rw [← HRE.out, if_pos (show colF (badS fs (nxts fs s g)) 0 fs.length < 0 by rw [HC.out]; omega)]; simp
      have e2 : RS = steS fs s (nxts fs s g) := by rw [← HRS.out, if_pos e1.symm]
      have E2 := Lib.hid e2
      have hcl : colF (badS fs (nxts fs s g)) 0 fs.length < 0 := by rw [HC.out]; omega
      have hbd := badS_ok HOK1.out.frm hcl
      have HBD := Lib.hid hbd
      clear HRE HRS e2 hcl hbd
      subst e1
      go_wp2_with fail
      obtain ⟨v1, -, -, -, ⟨raw3, v5⟩, -⟩ := hSt.keep hsB
      refine (stateOf_any b a a1 a3 xa n3 c c1 c3 xc _ _ _ raw fs s raw3 (nxts fs s g) w7 (hF.keep hsB) (blk_keep hO.blk hsB) (hO.nx.si.keep hsB) ((In.of_owns hO.nx).keep hsB) v1 v5 HOK1.out HNB.out (fun i hi => plc_iff.2 (by have := HBD.out i (by rw [← HN.out]; exact hi); omega))).mono ?_
      rintro e w8 ⟨ca, cc, ha, hc, rfl, hv8, hs8⟩
      dsimp only
      have hv9 := hv8
      replace y6 := blk_keep y6 hs8
      have B8 := B7.trans (hs8.mono B7.size)
      have HV9 := Lib.hid hv9
      clear k0 k1 k2 k3 k4 k5 hv8 hv9 v1 v5 hO
      have k0 := cell_block y6 0
      have k1 := cell_block y6 1
      have k2 := cell_block y6 2
      have k3 := frozen_block y6 0
      have k4 := frozen_block y6 1
      have k5 := frozen_block y6 2
      go_wp2_with fail
      have q0 := setBlk (setBlk (setBlk y6 0 (.slice xa n3 xc)) 1 (.slice ca n3 cc)) 2 (.slice ha n3 hc)
      simp at q0
      have e0 := cell_block q0 0
      have e1 := cell_block q0 1
      have e2 := cell_block q0 2
      have hw : w.heap.size ≤ w.heap.size + 1 + 1 := by omega
      have B4 := ((B8.setCell (p := ⟨w.heap.size + 1 + 1, 0, none⟩) hw (.slice xa n3 xc)).setCell (p := ⟨w.heap.size + 1 + 1, 1, none⟩) hw (.slice ca n3 cc)).setCell (p := ⟨w.heap.size + 1 + 1, 2, none⟩) hw (.slice ha n3 hc)
      have hBt : But 97 w8 (((w8.setCell ⟨w.heap.size + 1 + 1, 0, none⟩ (.slice xa n3 xc)).setCell ⟨w.heap.size + 1 + 1, 1, none⟩ (.slice ca n3 cc)).setCell ⟨w.heap.size + 1 + 1, 2, none⟩ (.slice ha n3 hc)) := But.set3 y6
      exact bodyPost_ret (v := .tuple #[.agg #[.slice xa n3 xc, .slice ca n3 cc, .slice ha n3 hc], .int .i64 0]) (by simp [results, Try.results57, go_sem, e0, e1, e2]) rfl ⟨((xa, n3, xc), (ca, n3, cc), (ha, n3, hc)), rfl, by rw [E2.out]; exact HV9.out.but hBt, B4⟩
end Go.Proofs.Ytaiikekgckjdeaa
