/- The masses that must be added at a scale. -/
import Derived.Test.YtaiikekgckjdeaaGreatK25
namespace Go.Proofs.YtaiikekgckjdeaaGreat
open Go.RowKit Go.Maps
attribute [local go_sem] Oper.semAt_some
open Calmly (Kept)
set_option maxRecDepth 100000 in
set_option maxHeartbeats 1000000 in
theorem eachAddI_any (p1 p2 p3 : Nat) (a : Option Addr) (n c : Nat) (l : List Int) (w0 w : World) (err : Nat → Int) (Inv : Nat → World → Prop) (h1 : SI w0 a n c l) (h0 : Below w0.heap.size w0 w) (hI : Inv 0 w)
    (_ : ∀ i W W', Inv i W → Below W.heap.size W W' → Inv i W')
    (hcl : ∀ (i : Nat) (W : World), i < n → Inv i W → Below w0.heap.size w0 W → Calls Tryz.prog 47 #[.int .i64 (i : Int), .int .i64 (l[i]?.getD 0), .pointer (some ⟨p1, 0, none⟩), .pointer (some ⟨p2, 0, none⟩), .pointer (some ⟨p3, 0, none⟩)] W fun e w' => e = .returned (.int .i64 (err i)) ∧ Inv (i + 1) w' ∧ Below w0.heap.size W w') :
    Calls Tryz.prog 45 #[.slice a n c, .func (.func 47) #[] #[.pointer (some ⟨p1, 0, none⟩), .pointer (some ⟨p2, 0, none⟩), .pointer (some ⟨p3, 0, none⟩)]] w fun e w' => e = .returned (.tuple #[.int .i64 (eaF err 0 n).1, .int .i64 (eaF err 0 n).2]) ∧ Below w0.heap.size w w' ∧ Hid ((eaF err 0 n).2 = 0 → Inv n w') := by
  have l1 : n ≤ l.length ∧ l.length ≤ n := by have := h1.len; omega
  have m1 := h1.max
  have c1 := h1.cap
  obtain ⟨I, E, hR⟩ : ∃ I E, eaF err 0 n = (I, E) := ⟨_, _, rfl⟩
  rw [hR]
  dsimp only
  have HR := Lib.hid hR
  clear hR
  have hw := h0.size
  go_enter Tryz.func45, Tryz.ntmps45
  go_wp2_with fail
  go_loopw [11] (fun i wr => ∃ k : Nat, k ≤ n ∧ i = .int .i64 k ∧ eaF err k (n - k) = (I, E) ∧ Inv k wr ∧ Below w0.heap.size w wr) (fun i _ => n - (intOf i).toNat)
  case atStart => exact ⟨0, by omega, rfl, HR.out, hI, Below.refl _ _⟩
  case round =>
    obtain ⟨k, hk, rfl, ht, hi, hbr⟩ := hrel
    have HT := Lib.hid ht
    clear ht
    have hb0 := h0.trans hbr
    have hrs := hb0.size
    by_cases hlt : k < n
    · obtain ⟨cb, co, rfl, hcc⟩ := h1.at_ (by omega)
      have y0 := hcc k hlt
      replace y0 := cell_keep y0 hb0
      clear hcc
      have hc := hcl k
      obtain ⟨rr, hrr⟩ : ∃ rr, l[k]?.getD 0 = rr := ⟨_, rfl⟩
      rw [hrr] at y0 hc
      clear hrr
      try dsimp only at y0 hc
      have HC := Lib.hid hc
      clear hc
      have hi1 : (k : Int) < (n : Int) := by omega
      have hi0 : (0 : Int) ≤ (k : Int) := by omega
      obtain ⟨R, hE⟩ : ∃ R, err k = R := ⟨_, rfl⟩
      have HE := Lib.hid hE
      clear hE
      have hi9 := Lib.hid hi
      clear hi
      go_wp2_with fail
      refine (HC.out _ hlt hi9.out hb0).mono ?_
      rintro e w1 ⟨rfl, hi2, hs⟩
      rw [HE.out]
      have hbn := hbr.trans hs
      have hI2 := Lib.hid hi2
      clear hi2
      by_cases hz : R = 0
      · subst hz
        have hE0 : ((0 : Int) != 0) = false := rfl
        go_wp2_with fail
        go_roundw
        case rel => exact ⟨k + 1, by omega, by go_num, (eaF_ok hlt HE.out).symm.trans HT.out, hI2.out, hbn⟩
        case measure => simp [intOf]; omega
      · have b1 : (R != 0) = true := by simpa using hz
        have hRE : (I, E) = ((k : Int), R) := by rw [← HT.out, eaF_bad hlt (by rw [HE.out]; exact hz), HE.out]
        injection hRE with e1 e2
        have E1 := Lib.hid e1
        have E2 := Lib.hid e2
        have HZ := Lib.hid hz
        clear e1 e2 hz
        go_wp2_with fail
        refine bodyPost_ret (v := .tuple #[.int .i64 (k : Int), .int .i64 R]) (by simp [results, Tryz.results45]) rfl ⟨by rw [E1.out, E2.out], hbn, Lib.hid (fun h => absurd (E2.out.symm.trans h) HZ.out)⟩
    · have hle : (n : Int) ≤ (k : Int) := by omega
      have hR0 : (I, E) = (0, 0) := by rw [← HT.out, eaF_end (by omega)]
      injection hR0 with e1 e2
      subst e1 e2
      have hkn : k = n := by omega
      rw [hkn] at hi
      have HK9 := Lib.hid hi
      clear hi hkn
      go_wp2_with fail
      refine bodyPost_ret (v := .tuple #[.int .i64 0, .int .i64 0]) (by simp [results, Tryz.results45]) rfl ⟨rfl, hbr, by first | exact Lib.hid (fun _ => HK9.out) | exact Lib.hid HK9.out⟩

def adH (E : Int) (n m : Nat) : Int := firstE [E, unlessE ((n : Int) == (m : Int)) 10, unlessE (decide ((n : Int) ≤ 5)) 8]
def masE (full own : List Int) : Int × Int := eaF (fun i => unlessE (ms (full[i]?.getD 0) && ms (own[i]?.getD 0)) 2) 0 full.length
def adF (F D : Int) (full own : List Int) (i : Nat) : FcR := adX F D (full[i]?.getD 0) (own[i]?.getD 0)
def adT (F D : Int) (full own : List Int) : Int × Int := eaF (fun i => adR (adF F D full own i)) 0 full.length
def adE (E F D : Int) (full own : List Int) : Int :=
  if adH E full.length own.length ≠ 0 then adH E full.length own.length else if (masE full own).2 ≠ 0 then (masE full own).2 else (adT F D full own).2
def adL (E F D : Int) (full own : List Int) : List FcR := if adE E F D full own = 0 then (List.range full.length).map (adF F D full own) else []
theorem facN_bd {n1 d1 n2 d2 n3 d3 a b c : Int} (h : facE n1 d1 n2 d2 n3 d3 a b c = 0) :
    (0 ≤ qN 0 (facV n1 d1 n2 d2 n3 d3 a b c) ∧ qN 0 (facV n1 d1 n2 d2 n3 d3 a b c) ≤ 1000000000) ∧ (0 < qD 0 (facV n1 d1 n2 d2 n3 d3 a b c) ∧ qD 0 (facV n1 d1 n2 d2 n3 d3 a b c) ≤ 1000000000) := by
  obtain ⟨h1, h2⟩ := facE_ok h
  have hk := facH_ok h1
  have z1 : (0 : Rat) < 1 := by decide
  have ri : ∀ {n : Int}, 1 ≤ n → (0 : Rat) < (n : Rat) := fun {n} h => by
    have h2 : ((0 : Int) : Rat) < (n : Rat) := Rat.intCast_lt_intCast.2 (by omega)
    simpa using h2
  have k : ∀ {n c : Int}, 1 ≤ n → (0 : Rat) < (n : Rat) ^ c := fun h => Rat.zpow_pos (ri h)
  have hp : 0 < facV n1 d1 n2 d2 n3 d3 a b c := Rat.mul_pos (Rat.mul_pos (Rat.mul_pos (Rat.mul_pos (Rat.mul_pos (Rat.mul_pos z1 (k hk.s1.1.1)) (k hk.s1.2.1.1)) (k hk.s2.1.1)) (k hk.s2.2.1.1)) (k hk.s3.1.1)) (k hk.s3.2.1.1)
  generalize facV n1 d1 n2 d2 n3 d3 a b c = V at *
  unfold fcOk at h2
  simp only [Bool.and_eq_true, decide_eq_true_eq] at h2
  have hn : 0 ≤ V.num := Rat.num_nonneg.2 (Rat.le_of_lt hp)
  have hd := V.den_pos
  simp only [qN, qD, if_pos]
  omega
set_option maxRecDepth 100000 in
set_option maxHeartbeats 4000000 in
theorem AddedFor_any (n1 d1 n2 d2 n3 d3 : Int) (fa oa : Option Addr) (fn fc on oc : Nat) (full own : List Int) (w : World) (h1 : F64 n1 d1) (h2 : F64 n2 d2) (h3 : F64 n3 d3) (h4 : SI w fa fn fc full) (h5 : SI w oa on oc own) (E F D : Int) (hE : facE n1 d1 n2 d2 n3 d3 (-1) 2 1 = E) (hF : qN E (facV n1 d1 n2 d2 n3 d3 (-1) 2 1) = F) (hD : qD E (facV n1 d1 n2 d2 n3 d3 (-1) 2 1) = D) :
    Calls Tryz.prog 10 #[.agg #[.int .i64 n1, .int .i64 d1, .int .i64 n2, .int .i64 d2, .int .i64 n3, .int .i64 d3], .slice fa fn fc, .slice oa on oc] w fun e w' => ∃ a n c, e = .returned (.tuple #[.slice a n c, .int .i64 (adE E F D full own)]) ∧ SFcR w' a n c (adL E F D full own) ∧ Below w.heap.size w w' := by
  have hfb : E = 0 → (0 ≤ F ∧ F ≤ 1000000000) ∧ (0 < D ∧ D ≤ 1000000000) := fun h => by
    subst h
    rw [← hF, ← hD]
    exact facN_bd hE
  have HE := Lib.hid hE
  have HF := Lib.hid hF
  have HD := Lib.hid hD
  have HFB := Lib.hid hfb
  have l4 := h4.len
  have l5 := h5.len
  have HL4 := Lib.hid l4
  have HL5 := Lib.hid l5
  have m4 := h4.max
  have m5 := h5.max
  have c4 := h4.cap
  have c5 := h5.cap
  have hA : adE E F D full own = if adH E fn on ≠ 0 then adH E fn on else if (masE full own).2 ≠ 0 then (masE full own).2 else (adT F D full own).2 := by rw [adE, l4, l5]
  have hB : adL E F D full own = if adE E F D full own = 0 then (List.range full.length).map (adF F D full own) else [] := rfl
  obtain ⟨R, hR⟩ : ∃ x, adE E F D full own = x := ⟨_, rfl⟩
  obtain ⟨L, hL⟩ : ∃ x, adL E F D full own = x := ⟨_, rfl⟩
  rw [hR] at hA hB
  rw [hL] at hB
  rw [hR, hL]
  have HA := Lib.hid hA
  have HB := Lib.hid hB
  clear hE hF hD hfb hA hB hR hL l4 l5
  have y5 := blk_keep (alloc_new (w.alloc (.cells #[.int .i64 n1, .int .i64 d1, .int .i64 n2, .int .i64 d2, .int .i64 n3, .int .i64 d3] 28)) (.cells #[.slice oa on oc] 29)) ((Below.refl _ _).alloc (Nat.le_refl _) (.cells #[.int .i64 (-1), .int .i64 2, .int .i64 1] 53))
  have y8 := alloc_new ((w.alloc (.cells #[.int .i64 n1, .int .i64 d1, .int .i64 n2, .int .i64 d2, .int .i64 n3, .int .i64 d3] 28)).alloc (.cells #[.slice oa on oc] 29)) (.cells #[.int .i64 (-1), .int .i64 2, .int .i64 1] 53)
  have BW : Below w.heap.size w (((w.alloc (.cells #[.int .i64 n1, .int .i64 d1, .int .i64 n2, .int .i64 d2, .int .i64 n3, .int .i64 d3] 28)).alloc (.cells #[.slice oa on oc] 29)).alloc (.cells #[.int .i64 (-1), .int .i64 2, .int .i64 1] 53)) := (((Below.refl _ _).alloc (Nat.le_refl _) _).alloc (by simp) _).alloc (by simp; omega) _
  simp only [World.size_alloc] at y5 y8
  go_enter Tryz.func10, Tryz.ntmps10
  go_wp2_with fail
  generalize ((w.alloc (.cells #[.int .i64 n1, .int .i64 d1, .int .i64 n2, .int .i64 d2, .int .i64 n3, .int .i64 d3] 28)).alloc (.cells #[.slice oa on oc] 29)).alloc (.cells #[.int .i64 (-1), .int .i64 2, .int .i64 1] 53) = W at *
  refine (FactorOf_any n1 d1 n2 d2 n3 d3 (-1) 2 1 W h1 h2 h3).mono ?_
  rintro e w1 ⟨rfl, hs⟩
  rw [HE.out, HF.out, HD.out]
  dsimp only
  replace y5 := blk_keep y5 hs
  replace BW := BW.trans (hs.mono BW.size)
  clear y8 hs
  have y9 := alloc_new w1 (.cells #[.int .i64 F, .int .i64 D] 27)
  have BA : Below w1.heap.size w1 (w1.alloc (.cells #[.int .i64 F, .int .i64 D] 27)) := (Below.refl _ _).alloc (Nat.le_refl _) _
  replace y5 := blk_keep y5 BA
  have h9 : w.heap.size ≤ w1.heap.size := BW.size
  replace BW := BW.trans (BA.mono h9)
  clear BA
  have f5 := cell_block y5 0
  go_wp2_with fail
  generalize w1.alloc (.cells #[.int .i64 F, .int .i64 D] 27) = W2 at *
  refine (dUnless_any ((fn : Int) == (on : Int)) 10 _).mono ?_
  rintro e w2 ⟨rfl, rfl⟩
  dsimp only
  obtain ⟨u1, hu1⟩ : ∃ x, unlessE ((fn : Int) == (on : Int)) 10 = x := ⟨_, rfl⟩
  rw [hu1]
  go_wp2_with fail
  refine (dUnless_any (decide ((fn : Int) ≤ 5)) 8 _).mono ?_
  rintro e w2 ⟨rfl, rfl⟩
  dsimp only
  obtain ⟨u2, hu2⟩ : ∃ x, unlessE (decide ((fn : Int) ≤ 5)) 8 = x := ⟨_, rfl⟩
  rw [hu2]
  have hH : adH E fn on = firstE [E, u1, u2] := by rw [adH, hu1, hu2]
  have HU1 := Lib.hid hu1
  have HU2 := Lib.hid hu2
  clear hu1 hu2
  go_wp2_with fail
  refine (dFirst_any _ 3 3 _ _ (SI.three _ _ _ _ _ rfl)).mono ?_
  rintro e w2 ⟨rfl, rfl⟩
  dsimp only
  rw [← hH]
  obtain ⟨H, hHH⟩ : ∃ x, adH E fn on = x := ⟨_, rfl⟩
  rw [hHH] at hH ⊢
  have HH := Lib.hid hH
  have HHH := Lib.hid hHH
  clear hH hHH
  have BA : Below W2.heap.size W2 (W2.alloc (.cells #[.int .i64 E, .int .i64 u1, .int .i64 u2] 33)) := (Below.refl _ _).alloc (Nat.le_refl _) _
  replace y5 := blk_keep y5 BA
  replace y9 := blk_keep y9 BA
  replace BW := BW.trans (BA.mono BW.size)
  clear BA f5
  generalize W2.alloc (.cells #[.int .i64 E, .int .i64 u1, .int .i64 u2] 33) = W3 at *
  by_cases hz : H = 0
  case neg =>
    have b2 : (H != 0) = true := by simpa using hz
    have e1 : R = H := by
      have := HA.out
      rw [HHH.out] at this
      rw [this, if_pos hz]
    have e2 : L = [] := by
      have := HB.out
      rw [this, if_neg (by rw [e1]; exact hz)]
    have E1 := Lib.hid e1
    have E2 := Lib.hid e2
    clear e1 e2 hz
    go_wp2_with fail
    refine bodyPost_ret (v := .tuple #[.slice none 0 0, .int .i64 H]) (by simp [results, Tryz.results10]) rfl ⟨none, 0, 0, by rw [E1.out], by rw [E2.out]; exact SFcR.nil _, BW⟩
  case pos =>
    subst hz
    have hu : E = 0 ∧ u1 = 0 ∧ u2 = 0 := by
      have h := HH.out.symm
      unfold firstE firstE firstE firstE at h
      split at h
      · split at h
        · split at h
          · exact ⟨by assumption, by assumption, by assumption⟩
          · exact absurd h (by assumption)
        · exact absurd h (by assumption)
      · exact absurd h (by assumption)
    obtain ⟨k1, k2, k3⟩ := hu
    have hno : fn = on := by
      have := HU1.out
      rw [k2] at this
      unfold unlessE at this
      split at this
      · rename_i h
        have := eq_of_beq h
        omega
      · cases this
    have hn5 : fn ≤ 5 := by
      have := HU2.out
      rw [k3] at this
      unfold unlessE at this
      split at this
      · rename_i h
        have := of_decide_eq_true h
        omega
      · cases this
    obtain ⟨⟨F1, F2⟩, D1, D2⟩ := HFB.out k1
    have hA2 : R = if (masE full own).2 ≠ 0 then (masE full own).2 else (adT F D full own).2 := by
      have := HA.out
      rw [HHH.out, if_neg (by simp)] at this
      exact this
    subst k1 k2 k3
    have HA2 := Lib.hid hA2
    have HNO := Lib.hid hno
    clear hA2 hno HH HHH HU1 HU2 HA
    have y11 := alloc_new W3 (.cells #[.func (.func 43) #[] #[]] 85)
    have BA : Below W3.heap.size W3 (W3.alloc (.cells #[.func (.func 43) #[] #[]] 85)) := (Below.refl _ _).alloc (Nat.le_refl _) _
    replace y5 := blk_keep y5 BA
    replace y9 := blk_keep y9 BA
    replace BW := BW.trans (BA.mono BW.size)
    clear BA
    go_wp2_with fail
    generalize W3.alloc (.cells #[.func (.func 43) #[] #[]] 85) = W4 at *
    refine (eachMass_any W3.heap.size (w.heap.size + 1) fa fn fc full W4 W4 (fun i => unlessE (ms (full[i]?.getD 0) && ms (own[i]?.getD 0)) 2) (fun _ V => V.heap[W3.heap.size]? = some (.cells #[.func (.func 43) #[] #[]] 85) ∧ V.heap[w.heap.size + 1]? = some (.cells #[.slice oa on oc] 29)) (h4.keep BW) (Below.refl _ _) ⟨y11, y5⟩ (fun _ _ _ h hb => ⟨blk_keep h.1 hb, blk_keep h.2 hb⟩)
      (fun i V hi hI hb => (massErr_any i (i : Int) (full[i]?.getD 0) rfl W3.heap.size (w.heap.size + 1) oa on oc own V hI.1 hI.2 ((h5.keep BW).keep hb) (by rw [← HNO.out]; exact hi)).mono (fun e w' h => ⟨h.1, ⟨blk_keep hI.1 h.2, blk_keep hI.2 h.2⟩, h.2.mono hb.size⟩))).mono ?_
    rintro e w2 ⟨rfl, hs⟩
    have hmas : eaF (fun i => unlessE (ms (full[i]?.getD 0) && ms (own[i]?.getD 0)) 2) 0 fn = masE full own := by rw [masE, HL4.out]
    rw [hmas]
    obtain ⟨M1, M2, hM⟩ : ∃ x y, masE full own = (x, y) := ⟨_, _, rfl⟩
    rw [hM] at hmas ⊢
    have HMA := Lib.hid hmas
    have HM := Lib.hid hM
    clear hmas hM y11
    dsimp only
    replace y5 := blk_keep y5 hs
    replace y9 := blk_keep y9 hs
    replace BW := BW.trans (hs.mono BW.size)
    clear hs
    by_cases hz : M2 = 0
    case neg =>
      have b2 : (M2 != 0) = true := by simpa using hz
      have e1 : R = M2 := by
        have := HA2.out
        rw [HM.out] at this
        rw [this]
        exact if_pos hz
      have e2 : L = [] := by
        have := HB.out
        rw [this, if_neg (by rw [e1]; exact hz)]
      have E1 := Lib.hid e1
      have E2 := Lib.hid e2
      clear e1 e2 hz
      go_wp2_with fail
      refine bodyPost_ret (v := .tuple #[.slice none 0 0, .int .i64 M2]) (by simp [results, Tryz.results10]) rfl ⟨none, 0, 0, by rw [E1.out], by rw [E2.out]; exact SFcR.nil _, BW⟩
    case pos =>
      subst hz
      have hA3 : R = (adT F D full own).2 := by
        have := HA2.out
        rw [HM.out] at this
        rw [this]
        exact if_neg (by simp)
      have hms : ∀ i, i < fn → (0 ≤ full[i]?.getD 0 ∧ full[i]?.getD 0 ≤ 10000) ∧ (0 ≤ own[i]?.getD 0 ∧ own[i]?.getD 0 ≤ 10000) := fun i hi => by
        have := eaF_all (n := fn) (k := 0) (m := fn) (by omega) (by rw [HMA.out]) i (by omega) hi
        unfold unlessE at this
        split at this
        · rename_i h
          rw [Bool.and_eq_true] at h
          exact ⟨wIn_iff.1 h.1, wIn_iff.1 h.2⟩
        · cases this
      have HMS := Lib.hid hms
      have HA3 := Lib.hid hA3
      clear hms hA3 HA2 HM HMA
      have y14 := alloc_new w2 (.cells #[.slice none 0 0] 39)
      have BA : Below w2.heap.size w2 (w2.alloc (.cells #[.slice none 0 0] 39)) := (Below.refl _ _).alloc (Nat.le_refl _) _
      replace y5 := blk_keep y5 BA
      replace y9 := blk_keep y9 BA
      have h14 := BW.size
      replace BW := BW.trans (BA.mono BW.size)
      clear BA
      have BWH := Lib.hid BW
      go_wp2_with fail
      generalize w2.alloc (.cells #[.slice none 0 0] 39) = W5 at *
      refine (eachAddI_any w1.heap.size (w.heap.size + 1) w2.heap.size fa fn fc full w W5 (fun i => adR (adF F D full own i)) (fun i V => AdI w.heap.size w1.heap.size (w.heap.size + 1) w2.heap.size F D oa on oc i ((List.range i).map (adF F D full own)) V) h4 BW ⟨y9, y5, none, 0, y14, OwFcR.nil _ _⟩ (fun _ _ _ h hb => h.keep hb)
        (fun i V hi hI hb => (add_any w.heap.size i w1.heap.size (w.heap.size + 1) w2.heap.size (i : Int) (full[i]?.getD 0) (own[i]?.getD 0) F D rfl oa on oc own _ V hI (h5.keep hb) (by rw [← HNO.out]; exact hi) rfl (by rw [← HNO.out]; omega) ⟨F1, F2⟩ ⟨D1, D2⟩ (HMS.out i hi).1 (HMS.out i hi).2 h14 h9 hb.size).mono (fun e w' h => ⟨h.1, by rw [List.range_succ, List.map_append]; exact h.2.1, h.2.2⟩))).mono ?_
      rintro e w3 ⟨rfl, hs, hin⟩
      have had : eaF (fun i => adR (adF F D full own i)) 0 fn = adT F D full own := by rw [adT, HL4.out]
      rw [had] at hin ⊢
      have hA4 := HA3.out
      obtain ⟨T1, T2, hT⟩ : ∃ x y, adT F D full own = (x, y) := ⟨_, _, rfl⟩
      rw [hT] at hA4 hin ⊢
      dsimp only at hA4
      subst hA4
      clear had hT HA3 y5 y9 y14
      dsimp only
      have BF := BWH.out.trans hs
      clear hs BWH
      by_cases hz : R = 0
      case neg =>
        have b2 : (R != 0) = true := by simpa using hz
        have e2 : L = [] := by
          have := HB.out
          rw [this, if_neg hz]
        have E2 := Lib.hid e2
        clear e2 hz
        go_wp2_with fail
        refine bodyPost_ret (v := .tuple #[.slice none 0 0, .int .i64 R]) (by simp [results, Tryz.results10]) rfl ⟨none, 0, 0, rfl, by rw [E2.out]; exact SFcR.nil _, BF⟩
      case pos =>
        subst hz
        obtain ⟨av, cv, t14, hO⟩ := (hin.out rfl).t14
        have e2 : L = (List.range fn).map (adF F D full own) := by
          have := HB.out
          rw [this, if_pos rfl, HL4.out]
        have f14 := cell_block t14 0
        have E2 := Lib.hid e2
        have HO := Lib.hid hO.sr
        clear e2 hin hO
        go_wp2_with fail
        refine bodyPost_ret (v := .tuple #[.slice av fn cv, .int .i64 0]) (by simp [results, Tryz.results10]) rfl ⟨av, fn, cv, rfl, by rw [E2.out]; exact HO.out, BF⟩
end Go.Proofs.YtaiikekgckjdeaaGreat
