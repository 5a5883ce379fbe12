/- Contracts of chapter 2: the reference's errors of oscillators, bands, waves and times. The law MotionPeaks, walked. -/
import Derived.Test.YtiibdndchkbefaaK12
namespace Go.Proofs.Ytiibdndchkbefaa
open Go.RowKit
open Calmly (Kept)

theorem bandE_eq (l : List Four) : bandE l = if l.length = 0 then 10 else if 6 < l.length then 8 else firstE (l.map bndE) := by
  unfold bandE
  by_cases h0 : l.length = 0
  · simp [h0, firstE, unlessE]
  · by_cases h1 : 6 < l.length
    · have h2 : decide (0 < l.length) = true := by simp; omega
      have h3 : decide (l.length ≤ 6) = false := by simp; omega
      rw [if_neg h0, if_pos h1, h2, h3]
      rfl
    · have h2 : decide (0 < l.length) = true := by simp; omega
      have h3 : decide (l.length ≤ 6) = true := by simp; omega
      rw [if_neg h0, if_neg h1, h2, h3]
      simp only [firstE, unlessE, if_true]
      split <;> simp_all
theorem wavesE_eq (n : Nat) (ws : List (List Int)) : wavesE n ws = if 3 < ws.length then 8 else firstE (ws.map (wavE n)) := by
  unfold wavesE
  by_cases h1 : 3 < ws.length
  · have h3 : decide (ws.length ≤ 3) = false := by simp; omega
    rw [if_pos h1, h3]
    rfl
  · have h3 : decide (ws.length ≤ 3) = true := by simp; omega
    rw [if_neg h1, h3]
    simp only [firstE, unlessE, if_true]
    split <;> simp_all
theorem timesE_eq (m : Nat) (ts : List Int) : timesE m ts = if ts.length = m then firstE (ts.map timE) else 10 := by
  unfold timesE
  by_cases h1 : ts.length = m
  · rw [if_pos h1]
    simp only [h1, decide_true, firstE, unlessE, if_true]
    split <;> simp_all
  · rw [if_neg h1]
    simp [h1, firstE, unlessE]
/-- The error of oscillators. -/
def specE (l : List (Int × Int)) : Int := if 6 < l.length then 8 else firstE (l.map oscE)
theorem specE_eq (l : List (Int × Int)) : firstE [unlessE (decide (l.length ≤ 6)) 8, firstE (l.map oscE)] = specE l := by
  unfold specE
  by_cases h1 : 6 < l.length
  · have h3 : decide (l.length ≤ 6) = false := by simp; omega
    rw [if_pos h1, h3]
    rfl
  · have h3 : decide (l.length ≤ 6) = true := by simp; omega
    rw [if_neg h1, h3]
    simp only [firstE, unlessE, if_true]
    split <;> simp_all

set_option maxHeartbeats 400000 in
theorem rOscErr_any (st dm : Int) (w : World) : Calls Try.prog 40 #[.agg #[.int .i64 st, .int .i64 dm]] w fun e w' => e = .returned (.int .i64 (oscE (st, dm))) ∧ Below w.heap.size w w' := by
  have BW : Below w.heap.size w (w.alloc (.cells #[.int .i64 st, .int .i64 dm] 49)) := (Below.refl _ _).alloc (Nat.le_refl _) _
  cases hs : wIn st 0 3000
  · have hE : oscE (st, dm) = 2 := by simp [oscE, hs, unlessE]
    rw [hE]
    go_enter Try.func40, Try.ntmps40
    go_wp2_with fail
    refine (within_any _ _ _ _).mono ?_
    rintro e w1 ⟨rfl, rfl⟩
    go_wp2_with fail
    go_ret
    exact ⟨rfl, BW⟩
  · cases hd : wIn dm 0 500
    · have hE : oscE (st, dm) = 2 := by simp [oscE, hs, hd, unlessE]
      rw [hE]
      go_enter Try.func40, Try.ntmps40
      go_wp2_with fail
      refine (within_any _ _ _ _).mono ?_
      rintro e w1 ⟨rfl, rfl⟩
      go_wp2_with fail
      refine (within_any _ _ _ _).mono ?_
      rintro e w1 ⟨rfl, rfl⟩
      go_wp2_with fail
      go_ret
      exact ⟨rfl, BW⟩
    · have hE : oscE (st, dm) = 0 := by simp [oscE, hs, hd, unlessE]
      rw [hE]
      go_enter Try.func40, Try.ntmps40
      go_wp2_with fail
      refine (within_any _ _ _ _).mono ?_
      rintro e w1 ⟨rfl, rfl⟩
      go_wp2_with fail
      refine (within_any _ _ _ _).mono ?_
      rintro e w1 ⟨rfl, rfl⟩
      go_wp2_with fail
      go_ret
      exact ⟨rfl, BW⟩

set_option maxRecDepth 100000 in
set_option maxHeartbeats 1000000 in
theorem rSpecErr_any (a : Option Addr) (n c : Nat) (l : List (Int × Int)) (w : World) (h1 : SR w a n c l) (E : Int) (hE : specE l = E) :
    Calls Try.prog 41 #[.slice a n c] w fun e w' => e = .returned (.int .i64 E) ∧ Below w.heap.size w w' := by
  obtain ⟨l1, l2⟩ : n ≤ l.length ∧ l.length ≤ n := by have := h1.len; omega
  have m1 := h1.max
  have c1 := h1.cap
  unfold specE at hE
  by_cases hn : 6 < n
  · have hn2 : (6 : Int) < (n : Int) := by omega
    rw [if_pos (by omega)] at hE
    subst hE
    go_enter Try.func41, Try.ntmps41
    go_wp2_with fail
    go_ret
    exact ⟨rfl, Below.refl _ _⟩
  have hn2 : (n : Int) ≤ 6 := by omega
  rw [if_neg (by omega)] at hE
  have HR := Lib.hid hE
  clear hE
  go_enter Try.func41, Try.ntmps41
  go_wp2_with fail
  go_loopw [3] (fun i wr => ∃ k : Nat, k ≤ n ∧ i = .int .i64 k ∧ firstE ((l.drop k).map oscE) = E ∧ Below w.heap.size w wr) (fun i _ => n - (intOf i).toNat)
  case atStart => exact ⟨0, by omega, rfl, HR.out, Below.refl _ _⟩
  case round =>
    obtain ⟨k, hk, rfl, ht, hbr⟩ := hrel
    have HT := Lib.hid ht
    clear ht
    have hrs := hbr.size
    by_cases hlt : k < n
    · obtain ⟨cb, co, rfl, hcc⟩ := h1.at_ (by omega)
      obtain ⟨y0, y1⟩ := hcc k hlt
      replace y0 := cell_keep y0 hbr
      replace y1 := cell_keep y1 hbr
      clear hcc
      have hd := eachE_drop oscE l (0, 0) k (by omega)
      rw [HT.out] at hd
      obtain ⟨rr, hrr⟩ : ∃ rr, l[k]?.getD (0, 0) = rr := ⟨_, rfl⟩
      obtain ⟨st, dm⟩ := rr
      rw [hrr] at y0 y1 hd
      clear hrr
      dsimp only at y0 y1
      obtain ⟨F, hF⟩ : ∃ F, oscE (st, dm) = F := ⟨_, rfl⟩
      rw [hF] at hd
      have HD := Lib.hid hd
      have HF := Lib.hid hF
      clear hd hF
      have hi1 : (k : Int) < (n : Int) := by omega
      have hi0 : (0 : Int) ≤ (k : Int) := by omega
      go_wp2_with fail
      refine (rOscErr_any st dm _).mono ?_
      rintro e w1 ⟨rfl, hs⟩
      rw [HF.out]
      have hbn := hbr.trans (hs.mono hrs)
      by_cases hz : F = 0
      · subst hz
        have hE0 : ((0 : Int) != 0) = false := rfl
        go_wp2_with fail
        go_roundw
        case rel => exact ⟨k + 1, by omega, by go_num, by rw [HD.out]; simp, hbn⟩
        case measure => simp [intOf]; omega
      · have b1 : (F != 0) = true := by simpa using hz
        have hRE : E = F := by rw [HD.out, if_neg hz]
        clear hz
        go_wp2_with fail
        go_ret
        exact ⟨ret_int hRE.symm, hbn⟩
    · have hle : (n : Int) ≤ (k : Int) := by omega
      have hR0 : E = 0 := by rw [← HT.out, List.drop_eq_nil_of_le (by omega)]; rfl
      go_wp2_with fail
      go_ret
      exact ⟨ret_int hR0.symm, hbr⟩

set_option maxRecDepth 100000 in
set_option maxHeartbeats 1000000 in
theorem rTimesErr_any (wa : Option Addr) (wn wc : Nat) (a : Option Addr) (n c : Nat) (xs : List Int) (w : World) (h1 : SI w a n c xs) (_hw1 : wn ≤ wc) (_hw2 : wc ≤ 9223372036854775807) (E : Int) (hE : timesE wn xs = E) :
    Calls Try.prog 60 #[.slice wa wn wc, .slice a n c] w fun e w' => e = .returned (.int .i64 E) ∧ w = w' := by
  obtain ⟨l1, l2⟩ : n ≤ xs.length ∧ xs.length ≤ n := by have := h1.len; omega
  have m1 := h1.max
  have c1 := h1.cap
  rw [timesE_eq] at hE
  by_cases hn : n = wn
  case neg =>
    have b1 : ((n : Int) != (wn : Int)) = true := by simp; omega
    rw [if_neg (by omega)] at hE
    subst hE
    clear hn
    go_enter Try.func60, Try.ntmps60
    go_wp2_with fail
    go_ret
    exact ⟨rfl, rfl⟩
  subst hn
  rw [if_pos (by omega)] at hE
  have HR := Lib.hid hE
  clear hE
  go_enter Try.func60, Try.ntmps60
  go_wp2_with fail
  go_loop [5] (fun i => ∃ k : Nat, k ≤ n ∧ i = .int .i64 k ∧ firstE ((xs.drop k).map timE) = E) (fun i => n - (intOf i).toNat)
  case atStart => exact ⟨0, by omega, rfl, HR.out⟩
  case round =>
    obtain ⟨k, hk, rfl, ht⟩ := hrel
    have HT := Lib.hid ht
    clear ht
    by_cases hlt : k < n
    · obtain ⟨cb, co, rfl, hcc⟩ := h1.at_ (by omega)
      have y0 := hcc k hlt
      clear hcc
      have hd := eachE_drop timE xs 0 k (by omega)
      rw [HT.out] at hd
      obtain ⟨x, hxx⟩ : ∃ x, xs[k]?.getD 0 = x := ⟨_, rfl⟩
      rw [hxx] at y0 hd
      unfold timE at hd
      have HD := Lib.hid hd
      clear hd hxx
      have hi1 : (k : Int) < (n : Int) := by omega
      have hi0 : (0 : Int) ≤ (k : Int) := by omega
      go_wp2_with fail
      refine (within_any _ _ _ _).mono ?_
      rintro e w1 ⟨rfl, rfl⟩
      cases hw : wIn x (-2) 2
      · have hRE : E = 2 := by rw [HD.out, hw]; rfl
        go_wp2_with fail
        go_ret
        exact ⟨ret_int hRE.symm, rfl⟩
      · have hRE : firstE ((xs.drop (k + 1)).map timE) = E := by rw [HD.out, hw]; rfl
        have HRE := Lib.hid hRE
        clear hRE
        go_wp2_with fail
        go_round
        case rel => exact ⟨k + 1, by omega, by go_num, HRE.out⟩
        case measure => simp [intOf]; omega
    · have hle : (n : Int) ≤ (k : Int) := by omega
      have hR0 : E = 0 := by rw [← HT.out, List.drop_eq_nil_of_le (by omega)]; rfl
      go_wp2_with fail
      go_ret
      first
        | exact ⟨ret_int hR0.symm, rfl⟩
        | exact ⟨rfl, rfl⟩

theorem bndE_eq (st dm lo hi : Int) : bndE ((st, dm), (lo, hi)) = if oscE (st, dm) = 0 then (if wIn lo 0 1000000 = true then (if wIn hi 0 1000000 = true then (if hi < lo then 9 else 0) else 2) else 2) else oscE (st, dm) := by
  unfold bndE
  dsimp only
  by_cases h : oscE (st, dm) = 0
  · rw [if_pos h, firstE, if_pos h]
    cases wIn lo 0 1000000
    · simp [firstE, unlessE]
    · cases wIn hi 0 1000000
      · simp [firstE, unlessE]
      · by_cases h2 : hi < lo
        · have : decide (lo ≤ hi) = false := by simp; omega
          rw [this]
          simp [firstE, unlessE, h2]
        · have : decide (lo ≤ hi) = true := by simp; omega
          rw [this]
          simp [firstE, unlessE, h2]
  · rw [if_neg h, firstE, if_neg h]

set_option maxRecDepth 100000 in
set_option maxHeartbeats 2000000 in
theorem rBandErr_any (a : Option Addr) (n c : Nat) (l : List Four) (w : World) (h1 : SB w a n c l) (E : Int) (hE : bandE l = E) :
    Calls Try.prog 23 #[.slice a n c] w fun e w' => e = .returned (.int .i64 E) ∧ Below w.heap.size w w' := by
  obtain ⟨l1, l2⟩ : n ≤ l.length ∧ l.length ≤ n := by have := h1.len; omega
  have m1 := h1.max
  have c1 := h1.cap
  have hA : ∀ (A : World) (o : Obj), Below A.heap.size A (A.alloc o) := fun A o => (Below.refl _ _).alloc (Nat.le_refl _) _
  rw [bandE_eq] at hE
  by_cases h0 : n = 0
  · subst h0
    rw [if_pos (by omega)] at hE
    subst hE
    go_enter Try.func23, Try.ntmps23
    go_wp2_with fail
    go_ret
    exact ⟨rfl, Below.refl _ _⟩
  have h00 : ((n : Int) == 0) = false := by simp; omega
  rw [if_neg (by omega)] at hE
  by_cases hn : 6 < n
  · have hn2 : (6 : Int) < (n : Int) := by omega
    rw [if_pos (by omega)] at hE
    subst hE
    clear h0
    go_enter Try.func23, Try.ntmps23
    go_wp2_with fail
    go_ret
    exact ⟨rfl, Below.refl _ _⟩
  have hn2 : (n : Int) ≤ 6 := by omega
  rw [if_neg (by omega)] at hE
  have HR := Lib.hid hE
  clear hE h0
  go_enter Try.func23, Try.ntmps23
  go_wp2_with fail
  go_loopw [3] (fun i wr => ∃ k : Nat, k ≤ n ∧ i = .int .i64 k ∧ firstE ((l.drop k).map bndE) = E ∧ Below w.heap.size w wr) (fun i _ => n - (intOf i).toNat)
  case atStart => exact ⟨0, by omega, rfl, HR.out, Below.refl _ _⟩
  case round =>
    obtain ⟨k, hk, rfl, ht, hbr⟩ := hrel
    have HT := Lib.hid ht
    clear ht
    have hrs := hbr.size
    by_cases hlt : k < n
    · obtain ⟨cb, co, rfl, hcc⟩ := h1.at_ (by omega)
      have h1' := hcc k hlt
      obtain ⟨z0, z1, z2, z3⟩ := h1'
      have y0 := cell_keep z0 hbr
      have y1 := cell_keep z1 hbr
      clear hcc
      have hd := eachE_drop bndE l four0 k (by omega)
      rw [HT.out] at hd
      obtain ⟨rr, hrr⟩ : ∃ rr, l[k]?.getD four0 = rr := ⟨_, rfl⟩
      obtain ⟨⟨st, dm⟩, ⟨lo, hi⟩⟩ := rr
      rw [hrr] at z0 z1 z2 z3 y0 y1 hd
      clear hrr
      dsimp only at z0 z1 z2 z3 y0 y1
      rw [bndE_eq] at hd
      obtain ⟨F, hF⟩ : ∃ F, oscE (st, dm) = F := ⟨_, rfl⟩
      rw [hF] at hd
      have HD := Lib.hid hd
      have HF := Lib.hid hF
      clear hd hF
      have hi1 : (k : Int) < (n : Int) := by omega
      have hi0 : (0 : Int) ≤ (k : Int) := by omega
      go_wp2_with fail
      refine (rOscErr_any st dm _).mono ?_
      rintro e w1 ⟨rfl, hs⟩
      rw [HF.out]
      have hbn := hbr.trans (hs.mono hrs)
      by_cases hz : F = 0
      case neg =>
        have b1 : (F != 0) = true := by simpa using hz
        have hRE : E = F := by rw [HD.out, if_neg hz, if_neg hz]
        clear hz
        go_wp2_with fail
        go_ret
        exact ⟨ret_int hRE.symm, hbn⟩
      subst hz
      have hE0 : ((0 : Int) != 0) = false := rfl
      have y2 := cell_keep z2 hbn
      have y3 := cell_keep z3 hbn
      have hd := HD.out
      rw [if_pos rfl] at hd
      have HD2 := Lib.hid hd
      clear hd
      have hbn2 := hbn.trans ((hA w1 (.cells #[.int .i64 lo, .int .i64 hi] 47)).mono hbn.size)
      cases hlo : wIn lo 0 1000000
      · have hRE : E = 2 := by rw [HD2.out, hlo]; rfl
        go_wp2_with fail
        refine (within_any _ _ _ _).mono ?_
        rintro e w2 ⟨rfl, rfl⟩
        go_wp2_with fail
        go_ret
        exact ⟨ret_int hRE.symm, hbn2⟩
      cases hhi : wIn hi 0 1000000
      · have hRE : E = 2 := by rw [HD2.out, hlo, hhi]; rfl
        go_wp2_with fail
        refine (within_any _ _ _ _).mono ?_
        rintro e w2 ⟨rfl, rfl⟩
        go_wp2_with fail
        refine (within_any _ _ _ _).mono ?_
        rintro e w2 ⟨rfl, rfl⟩
        go_wp2_with fail
        go_ret
        exact ⟨ret_int hRE.symm, hbn2⟩
      by_cases hgt : hi < lo
      · have hRE : E = 9 := by rw [HD2.out, hlo, hhi]; simp [hgt]
        go_wp2_with fail
        refine (within_any _ _ _ _).mono ?_
        rintro e w2 ⟨rfl, rfl⟩
        go_wp2_with fail
        refine (within_any _ _ _ _).mono ?_
        rintro e w2 ⟨rfl, rfl⟩
        go_wp2_with fail
        go_ret
        exact ⟨ret_int hRE.symm, hbn2⟩
      · have hgt2 : lo ≤ hi := by omega
        have hRE : firstE ((l.drop (k + 1)).map bndE) = E := by rw [HD2.out, hlo, hhi]; simp [hgt]
        have HRE := Lib.hid hRE
        clear hRE hgt
        go_wp2_with fail
        refine (within_any _ _ _ _).mono ?_
        rintro e w2 ⟨rfl, rfl⟩
        go_wp2_with fail
        refine (within_any _ _ _ _).mono ?_
        rintro e w2 ⟨rfl, rfl⟩
        go_wp2_with fail
        go_roundw
        case rel => exact ⟨k + 1, by omega, by go_num, HRE.out, hbn2⟩
        case measure => simp [intOf]; omega
    · have hle : (n : Int) ≤ (k : Int) := by omega
      have hR0 : E = 0 := by rw [← HT.out, List.drop_eq_nil_of_le (by omega)]; rfl
      go_wp2_with fail
      go_ret
      exact ⟨ret_int hR0.symm, hbr⟩

theorem wavE_eq (n : Nat) (x : List Int) : wavE n x = if x.length = n then (match badS x 0 with | none => if sumT x n = 0 ∧ sumT (sumsF x) n = 0 then 0 else 21 | some _ => 2) else 10 := by
  unfold wavE
  split
  · cases badS x 0 with
    | none =>
      simp only [if_true, unlessE]
      by_cases h : sumT x n = 0 ∧ sumT (sumsF x) n = 0
      · simp [h]
      · rw [if_neg h, if_neg (by simpa using h)]
    | some i => simp
  · rfl

set_option maxRecDepth 100000 in
set_option maxHeartbeats 2000000 in
theorem rWavesErr_any (count : Nat) (a : Option Addr) (n c : Nat) (l : List (List Int)) (w : World) (h1 : SW w a n c l) (hc : count ≤ 24) (E : Int) (hE : wavesE count l = E) :
    Calls Try.prog 22 #[.int .i64 (count : Int), .slice a n c] w fun e w' => e = .returned (.int .i64 E) ∧ Below w.heap.size w w' := by
  obtain ⟨l1, l2⟩ : n ≤ l.length ∧ l.length ≤ n := by have := h1.len; omega
  have m1 := h1.max
  have c1 := h1.cap
  rw [wavesE_eq] at hE
  by_cases hn : 3 < n
  · have hn2 : (3 : Int) < (n : Int) := by omega
    rw [if_pos (by omega)] at hE
    subst hE
    go_enter Try.func22, Try.ntmps22
    go_wp2_with fail
    go_ret
    exact ⟨rfl, Below.refl _ _⟩
  have hn2 : (n : Int) ≤ 3 := by omega
  rw [if_neg (by omega)] at hE
  have HR := Lib.hid hE
  clear hE
  go_enter Try.func22, Try.ntmps22
  go_wp2_with fail
  go_loopw [5] (fun i wr => ∃ k : Nat, k ≤ n ∧ i = .int .i64 k ∧ firstE ((l.drop k).map (wavE count)) = E ∧ Below w.heap.size w wr) (fun i _ => n - (intOf i).toNat)
  case atStart => exact ⟨0, by omega, rfl, HR.out, Below.refl _ _⟩
  case round =>
    obtain ⟨k, hk, rfl, ht, hbr⟩ := hrel
    have HT := Lib.hid ht
    clear ht
    have hrs := hbr.size
    by_cases hlt : k < n
    · obtain ⟨cb, co, rfl, hcc⟩ := h1.at_ (by omega)
      obtain ⟨ya, yn, yc, y0, s0⟩ := hcc k hlt
      replace y0 := cell_keep y0 hbr
      clear hcc
      have hd := eachE_drop (wavE count) l [] k (by omega)
      rw [HT.out] at hd
      obtain ⟨x, hxx⟩ : ∃ x, l[k]?.getD [] = x := ⟨_, rfl⟩
      rw [hxx] at s0 hd
      clear hxx
      have HD := Lib.hid hd
      clear hd
      have yl := s0.len
      have ym := s0.max
      have yc1 := s0.cap
      have hi1 : (k : Int) < (n : Int) := by omega
      have hi0 : (0 : Int) ≤ (k : Int) := by omega
      by_cases hyn : yn = count
      case neg =>
        have b1 : ((yn : Int) != (count : Int)) = true := by simp; omega
        have hRE : E = 10 := by rw [HD.out, show wavE count x = 10 from by rw [wavE_eq, if_neg (by omega)]]; rfl
        clear hyn yl
        go_wp2_with fail
        go_ret
        exact ⟨ret_int hRE.symm, hbr⟩
      subst hyn
      have hw2 : wavE yn x = (match badS x 0 with | none => if sumT x yn = 0 ∧ sumT (sumsF x) yn = 0 then 0 else 21 | some _ => 2) := by rw [wavE_eq, if_pos yl.symm]
      have HD2 := Lib.hid hw2
      clear hw2
      obtain ⟨yl1, yl2⟩ : yn ≤ x.length ∧ x.length ≤ yn := by omega
      clear yl
      go_wp2_with fail
      go_loopw [6] (fun j wz => ∃ p : Nat, p ≤ yn ∧ j = .int .i64 p ∧ badS x 0 = badS (x.drop p) p ∧ wz = wr) (fun j _ => yn - (intOf j).toNat)
      case atStart => exact ⟨0, by omega, rfl, rfl, rfl⟩
      case round =>
        obtain ⟨p, hp, rfl, hbs, rfl⟩ := hrel
        have HBS := Lib.hid hbs
        clear hbs
        by_cases hpl : p < yn
        · obtain ⟨bx, ox, rfl, hcx⟩ := (s0.keep hbr).at_ (by omega)
          have ex := hcx p hpl
          clear hcx
          have hbd := badS_drop x p (by omega)
          obtain ⟨z, hzz⟩ : ∃ z, x[p]?.getD 0 = z := ⟨_, rfl⟩
          rw [hzz] at ex hbd
          have HBD := Lib.hid hbd
          clear hbd hzz
          have hj : (p : Int) < (yn : Int) := by omega
          have hj0 : (0 : Int) ≤ (p : Int) := by omega
          go_wp2_with fail
          refine (rIsSample_any _ _).mono ?_
          rintro e w2 ⟨rfl, rfl⟩
          cases ho : smp z
          · have hRE : E = 2 := by
              have hd := HD2.out
              rw [HBS.out, HBD.out, ho] at hd
              rw [HD.out, hd]
              rfl
            go_wp2_with fail
            go_ret
            exact ⟨ret_int hRE.symm, hbr⟩
          · go_wp2_with fail
            go_roundw
            case rel => exact ⟨p + 1, by omega, by go_num, by rw [HBS.out, HBD.out, ho]; rfl, by first | rfl | trivial⟩
            case measure => simp [intOf]; omega
        · have hle : (yn : Int) ≤ (p : Int) := by omega
          have hnone : badS x 0 = none := by rw [HBS.out, List.drop_eq_nil_of_le (by omega)]; rfl
          have hq := badS_none hnone
          obtain ⟨V, hV⟩ : ∃ V, sumT x yn = V := ⟨_, rfl⟩
          obtain ⟨D, hD⟩ : ∃ D, sumT (sumsF x) yn = D := ⟨_, rfl⟩
          have hd := HD2.out
          rw [hnone, hV, hD] at hd
          dsimp only at hd
          have hd0 := HD.out
          rw [hd] at hd0
          replace hd := hd0
          clear hd0
          have HD3 := Lib.hid hd
          have HV := Lib.hid hV
          have HDD := Lib.hid hD
          have HQ := Lib.hid hq
          clear hnone hq hV hD hd
          go_wp2_with fail
          refine (rEnd_any ya yn yc x _ (s0.keep hbr) (by omega) (fun j => by have := HQ.out j; omega) V D HV.out HDD.out).mono ?_
          rintro e w3 ⟨rfl, hs3⟩
          have hbn := hbr.trans (hs3.mono hrs)
          by_cases hvd : V = 0 ∧ D = 0
          · obtain ⟨rfl, rfl⟩ := hvd
            have hRE : firstE ((l.drop (k + 1)).map (wavE yn)) = E := by rw [HD3.out]; simp
            have HRE := Lib.hid hRE
            clear hRE
            go_wp2_with fail
            go_roundw
            case rel => exact ⟨k + 1, by omega, by go_num, HRE.out, hbn⟩
            case measure => simp [intOf]; omega
          · have hRE : E = 21 := by rw [HD3.out, if_neg hvd, if_neg (by decide)]
            have HVD := Lib.hid hvd
            clear hvd
            go_wp2_with fail
            all_goals first
              | (exfalso; exact HVD.out ⟨by assumption, by assumption⟩)
              | (go_ret; exact ⟨ret_int hRE.symm, hbn⟩)
    · have hle : (n : Int) ≤ (k : Int) := by omega
      have hR0 : E = 0 := by rw [← HT.out, List.drop_eq_nil_of_le (by omega)]; rfl
      go_wp2_with fail
      go_ret
      exact ⟨ret_int hR0.symm, hbr⟩
end Go.Proofs.Ytiibdndchkbefaa

namespace Go.Proofs.Ytiibdndchkbefaa
open Go.RowKit
open Calmly (Kept)


theorem kept_setV {W w : World} {b : Nat} {x y u0 u1 : Value} {t : TypeId} {G : Prop} (h : Below W.heap.size W w) (hb : W.heap.size ≤ b) (p : w.heap[b]? = some (.cells #[u0, u1] t))
    (k : Below W.heap.size W ((w.setCell ⟨b, 0, none⟩ x).setCell ⟨b, 1, none⟩ y) → ((w.setCell ⟨b, 0, none⟩ x).setCell ⟨b, 1, none⟩ y).heap[b]? = some (.cells #[x, y] t) → G) :
    Kept W ((w.setCell ⟨b, 0, none⟩ x).setCell ⟨b, 1, none⟩ y) ∧ G := by
  have h2 := (h.setCell (p := ⟨b, 0, none⟩) hb x).setCell (p := ⟨b, 1, none⟩) hb y
  exact ⟨kept_of h2, k h2 (blk_setAt (blk_setAt p 0 _) 1 _)⟩
theorem kept_allocV {W w : World} {o : Obj} {G : Prop} (h : Below W.heap.size W w) (k : Below w.heap.size w (w.alloc o) → Below W.heap.size W (w.alloc o) → (w.alloc o).heap[w.heap.size]? = some o → G) : Kept W (w.alloc o) ∧ G :=
  ⟨kept_of (h.alloc h.size o), k ((Below.refl _ _).alloc (Nat.le_refl _) _) (h.alloc h.size o) (alloc_new w o)⟩

set_option maxRecDepth 100000 in
set_option maxHeartbeats 8000000 in
theorem MotionPeaks_walk (step : Int) (a : Option Addr) (n c : Nat) (xs : List Int) (xa xv xd : Int) (w : World) (h1 : SI w a n c xs) :
    Calls Try.prog 13 #[.agg #[.int .i64 step, .slice a n c], .agg #[.int .i64 xa, .int .i64 xv, .int .i64 xd]] w fun r w' => r = .returned (.bool true) ∧ Below w.heap.size w w' := by
  have hA : ∀ (A : World) (o : Obj), Below A.heap.size A (A.alloc o) := fun A o => (Below.refl _ _).alloc (Nat.le_refl _) _
  have x1 := box1 (w := w) (o := .cells #[.int .i64 step, .slice a n c] 24) (hA (w.alloc (.cells #[.int .i64 step, .slice a n c] 24)) (.cells #[.int .i64 xa, .int .i64 xv, .int .i64 xd] 75))
  have x2 := alloc_new (w.alloc (.cells #[.int .i64 step, .slice a n c] 24)) (.cells #[.int .i64 xa, .int .i64 xv, .int .i64 xd] 75)
  have BW : Below w.heap.size w ((w.alloc (.cells #[.int .i64 step, .slice a n c] 24)).alloc (.cells #[.int .i64 xa, .int .i64 xv, .int .i64 xd] 75)) := ((Below.refl _ _).alloc (Nat.le_refl _) _).alloc (by simp) _
  simp only [World.size_alloc] at x2
  obtain ⟨l1, l2⟩ : n ≤ xs.length ∧ xs.length ≤ n := by have := h1.len; omega
  have m1 := h1.max
  have c1 := h1.cap
  go_enter Try.func13, Try.ntmps13
  go_wp2_with fail
  refine (awake_any _).mono ?_
  rintro r w1 ⟨rfl, hs⟩
  replace x1 := blk_keep x1 hs; replace x2 := blk_keep x2 hs; (try replace x5 := blk_keep x5 hs); (try replace pA := blk_keep pA hs); (try replace pB := blk_keep pB hs); replace BW := BW.trans (hs.mono BW.size); clear hs; (try clear f0 f1 g0 g1 g2); have f0 := cell_block x1 0; have f1 := cell_block x1 1; have g0 := cell_block x2 0; have g1 := cell_block x2 1; have g2 := cell_block x2 2; (try clear p0 p1 p2); (try have p0 := cell_block x5 0); (try have p1 := cell_block x5 1); (try have p2 := cell_block x5 2); (try clear zA0 zA1); (try have zA0 := cell_block pA 0); (try have zA1 := cell_block pA 1); (try clear zB0 zB1); (try have zB0 := cell_block pB 0); (try have zB1 := cell_block pB 1)
  go_wp2_with fail
  refine (few_any step a n c _ c1 m1).mono ?_
  rintro r w2 ⟨rfl, hs⟩
  replace x1 := blk_keep x1 hs; replace x2 := blk_keep x2 hs; (try replace x5 := blk_keep x5 hs); (try replace pA := blk_keep pA hs); (try replace pB := blk_keep pB hs); replace BW := BW.trans (hs.mono BW.size); clear hs; (try clear f0 f1 g0 g1 g2); have f0 := cell_block x1 0; have f1 := cell_block x1 1; have g0 := cell_block x2 0; have g1 := cell_block x2 1; have g2 := cell_block x2 2; (try clear p0 p1 p2); (try have p0 := cell_block x5 0); (try have p1 := cell_block x5 1); (try have p2 := cell_block x5 2); (try clear zA0 zA1); (try have zA0 := cell_block pA 0); (try have zA1 := cell_block pA 1); (try clear zB0 zB1); (try have zB0 := cell_block pB 0); (try have zB1 := cell_block pB 1)
  by_cases hn : n ≤ 26
  case neg =>
    rw [show decide (n ≤ 26) = false from by simpa using hn]
    go_wp2_with fail
    go_ret
    exact ⟨rfl, BW⟩
  rw [show decide (n ≤ 26) = true from by simpa using hn]
  obtain ⟨rE, hrE⟩ : ∃ x, (recF step xs).2 = x := ⟨_, rfl⟩
  obtain ⟨L, hL⟩ : ∃ x, limB xa xv xd = x := ⟨_, rfl⟩
  obtain ⟨F, hF⟩ : ∃ F, firstE [(recF step xs).2, unlessE (limB xa xv xd) 2] = F := ⟨_, rfl⟩
  obtain ⟨A, hA'⟩ : ∃ x, gsT xs n = x := ⟨_, rfl⟩
  obtain ⟨V, hV⟩ : ∃ x, gsT (sumsF xs) n = x := ⟨_, rfl⟩
  obtain ⟨D, hD⟩ : ∃ x, gsT (sumsF (sumsF xs)) n = x := ⟨_, rfl⟩
  obtain ⟨PA, PV, PD, hP1, hP2⟩ : ∃ (PA PV PD : Int), (rE ≠ 0 → PA = 0 ∧ PV = 0 ∧ PD = 0) ∧ (rE = 0 → A = PA ∧ V = PV ∧ D = PD) := by
    by_cases h : rE = 0
    · exact ⟨_, _, _, fun hh => absurd h hh, fun _ => ⟨rfl, rfl, rfl⟩⟩
    · exact ⟨_, _, _, fun _ => ⟨rfl, rfl, rfl⟩, fun hh => absurd hh h⟩
  obtain ⟨E, P, Q, hE1, hE2, hE3⟩ : ∃ (E P Q : Int), (F ≠ 0 → E = F ∧ P = 0 ∧ Q = 0) ∧ (F = 0 → A = 0 → E = 12 ∧ P = 0 ∧ Q = 0) ∧ (F = 0 → A ≠ 0 → E = 0 ∧ (scF xa xv xd A V D).1 = P ∧ (scF xa xv xd A V D).2 = Q) := by
    by_cases h : F = 0
    · by_cases h0 : A = 0
      · exact ⟨_, _, _, fun hh => absurd h hh, fun _ _ => ⟨rfl, rfl, rfl⟩, fun _ hh => absurd h0 hh⟩
      · exact ⟨_, _, _, fun hh => absurd h hh, fun _ hh => absurd hh h0, fun _ _ => ⟨rfl, rfl, rfl⟩⟩
    · exact ⟨_, _, _, fun _ => ⟨rfl, rfl, rfl⟩, fun hh => absurd hh h, fun hh => absurd hh h⟩
  have HRE := Lib.hid hrE
  have HL := Lib.hid hL
  have HF := Lib.hid hF
  have HA := Lib.hid hA'
  have HV := Lib.hid hV
  have HD := Lib.hid hD
  have HP1 := Lib.hid hP1
  have HP2 := Lib.hid hP2
  have HE1 := Lib.hid hE1
  have HE2 := Lib.hid hE2
  have HE3 := Lib.hid hE3
  have HPO : Hid (rE = 0 → gsT xs n = PA ∧ gsT (sumsF xs) n = PV ∧ gsT (sumsF (sumsF xs)) n = PD) := Lib.hid (fun h => by rw [hA', hV, hD]; exact hP2 h)
  clear hrE hL hF hA' hV hD hP1 hP2 hE1 hE2 hE3
  go_wp2_with fail
  refine (copy_any step a n c xs _ (h1.keep BW) (by omega)).mono ?_
  rintro r w3 ⟨a1, k1, rfl, s1, hs⟩
  replace x1 := blk_keep x1 hs; replace x2 := blk_keep x2 hs; (try replace x5 := blk_keep x5 hs); (try replace pA := blk_keep pA hs); (try replace pB := blk_keep pB hs); replace BW := BW.trans (hs.mono BW.size); clear hs; (try clear f0 f1 g0 g1 g2); have f0 := cell_block x1 0; have f1 := cell_block x1 1; have g0 := cell_block x2 0; have g1 := cell_block x2 1; have g2 := cell_block x2 2; (try clear p0 p1 p2); (try have p0 := cell_block x5 0); (try have p1 := cell_block x5 1); (try have p2 := cell_block x5 2); (try clear zA0 zA1); (try have zA0 := cell_block pA 0); (try have zA1 := cell_block pA 1); (try clear zB0 zB1); (try have zB0 := cell_block pB 0); (try have zB1 := cell_block pB 1)
  go_wp2_with fail
  refine (PeaksOf_any step a1 n k1 xs _ s1 rE PA PV PD HRE.out HP1.out HPO.out).mono ?_
  rintro r w4 ⟨rfl, hs⟩
  clear s1
  replace x1 := blk_keep x1 hs; replace x2 := blk_keep x2 hs; (try replace x5 := blk_keep x5 hs); (try replace pA := blk_keep pA hs); (try replace pB := blk_keep pB hs); replace BW := BW.trans (hs.mono BW.size); clear hs; (try clear f0 f1 g0 g1 g2); have f0 := cell_block x1 0; have f1 := cell_block x1 1; have g0 := cell_block x2 0; have g1 := cell_block x2 1; have g2 := cell_block x2 2; (try clear p0 p1 p2); (try have p0 := cell_block x5 0); (try have p1 := cell_block x5 1); (try have p2 := cell_block x5 2); (try clear zA0 zA1); (try have zA0 := cell_block pA 0); (try have zA1 := cell_block pA 1); (try clear zB0 zB1); (try have zB0 := cell_block pB 0); (try have zB1 := cell_block pB 1)
  have hs := hA w4 (.cells #[.int .i64 PA, .int .i64 PV, .int .i64 PD] 75)
  have x5 := alloc_new w4 (.cells #[.int .i64 PA, .int .i64 PV, .int .i64 PD] 75)
  replace x1 := blk_keep x1 hs
  replace x2 := blk_keep x2 hs
  replace BW := BW.trans (hs.mono BW.size)
  clear hs
  (try clear f0 f1 g0 g1 g2); have f0 := cell_block x1 0; have f1 := cell_block x1 1; have g0 := cell_block x2 0; have g1 := cell_block x2 1; have g2 := cell_block x2 2; (try clear p0 p1 p2); (try have p0 := cell_block x5 0); (try have p1 := cell_block x5 1); (try have p2 := cell_block x5 2); (try clear zA0 zA1); (try have zA0 := cell_block pA 0); (try have zA1 := cell_block pA 1); (try clear zB0 zB1); (try have zB0 := cell_block pB 0); (try have zB1 := cell_block pB 1)
  go_wp2_with fail
  refine Calmly.wp_region_mix 9 (.fl 0 <| .fl 2 <| .alt 1 (.alt 3 (.fl 4 <| .fl 5 <| .fl 6 <| .eff 7 <| .eff 8 <| .tail [9]) (.eff 7 (.eff 3 <| .fl 4 <| .fl 5 <| .fl 6 <| .eff 8 <| .tail [9]))) (.eff 7 (.eff 1 <| .eff 3 <| .fl 4 <| .fl 5 <| .fl 6 <| .eff 8 <| .tail [9]))) (by kernel_rfl) (by kernel_rfl) ?_
  have hs := (Below.refl (w4.alloc (.cells #[.int .i64 PA, .int .i64 PV, .int .i64 PD] 75)).heap.size (w4.alloc (.cells #[.int .i64 PA, .int .i64 PV, .int .i64 PD] 75))).drew
  replace x1 := blk_keep x1 hs; replace x2 := blk_keep x2 hs; (try replace x5 := blk_keep x5 hs); (try replace pA := blk_keep pA hs); (try replace pB := blk_keep pB hs); replace BW := BW.trans (hs.mono BW.size); clear hs; (try clear f0 f1 g0 g1 g2); have f0 := cell_block x1 0; have f1 := cell_block x1 1; have g0 := cell_block x2 0; have g1 := cell_block x2 1; have g2 := cell_block x2 2; (try clear p0 p1 p2); (try have p0 := cell_block x5 0); (try have p1 := cell_block x5 1); (try have p2 := cell_block x5 2); (try clear zA0 zA1); (try have zA0 := cell_block pA 0); (try have zA1 := cell_block pA 1); (try clear zB0 zB1); (try have zB0 := cell_block pB 0); (try have zB1 := cell_block pB 1)
  generalize World.drew _ = w5 at x1 x2 x5 BW f0 f1 g0 g1 g2 p0 p1 p2 ⊢
  generalize w4.heap.size = b5 at x5 p0 p1 p2 ⊢
  have hk := Below.refl w5.heap.size w5
  go_wp2_with (first | ((with_reducible refine Calmly.is_fl ?_); refine Calmly.mix_fl rfl ?_ (fun _ _ => ?_); (first | exact .move _ | exact .load _ _ | exact .fieldAddr _ _ _ (by kernel_rfl) | exact .assign _ | exact .binOp _ _ _ _ _ rfl | exact .indexAddr _ _ _ | exact .len _ _ (by kernel_rfl) | exact .field _ _ _ | exact .extract _ _ | exact .pick _ _ _ | exact .build _ _ | exact .slice _ _ _ _ _ | exact .unOp _ _ _ rfl | exact .index _ _ _ | exact .max _ _ _ rfl rfl | exact .min _ _ _ rfl rfl)) | ((with_reducible refine Calmly.is_gl ?_); refine Calmly.mix_gl rfl rfl rfl ?_; first | ((first | with_reducible refine Calmly.gl_tt ?_ (fun _ _ => ?_) | with_reducible refine Calmly.gl_ff ?_ (fun _ _ => ?_)); (first | exact .move _ | exact .load _ _ | exact .fieldAddr _ _ _ (by kernel_rfl) | exact .assign _ | exact .binOp _ _ _ _ _ rfl | exact .indexAddr _ _ _ | exact .len _ _ (by kernel_rfl) | exact .field _ _ _ | exact .extract _ _ | exact .pick _ _ _ | exact .build _ _ | exact .slice _ _ _ _ _ | exact .unOp _ _ _ rfl | exact .index _ _ _ | exact .max _ _ _ rfl rfl | exact .min _ _ _ rfl rfl)) | with_reducible refine Calmly.gl_tf (fun _ _ => ?_) | with_reducible refine Calmly.gl_ft (fun _ _ => ?_)) | ((with_reducible refine Calmly.is_eff ?_); refine Calmly.mix_eff rfl (fun _ _ => ?_)) | ((with_reducible refine Calmly.is_gf ?_); refine Calmly.mix_gf rfl rfl rfl ?_; first | with_reducible refine Calmly.gf_tt (fun _ _ => ?_) | with_reducible refine Calmly.gf_ff (fun _ _ => ?_) | with_reducible refine Calmly.gf_tf (kept_of hk) (fun _ _ => ?_) | with_reducible refine Calmly.gf_ft (kept_of hk) (fun _ _ => ?_)) | ((with_reducible refine Calmly.is_kept ?_); refine ⟨kept_of hk, ?_⟩) | (with_reducible refine Calmly.mix_alt ?_ ?_) | (go_at_call 18; refine (copy_any step a n c xs _ ((h1.keep BW).keep hk) (by omega)).mono ?_; rintro r w' ⟨a1, k1, rfl, s1, hs⟩; replace hk := step_of hk hs; (try replace pA := blk_keep pA hs); clear hs) | (go_at_call 76; refine (GreatestScale_any step a1 n k1 xs xa xv xd _ s1 F E P Q A V D HF.out HE1.out (fun _ => ⟨HA.out, HV.out, HD.out⟩) HE2.out HE3.out).mono ?_; rintro r w' ⟨rfl, hs⟩; replace hk := step_of hk hs; clear s1; (try replace pA := blk_keep pA hs); clear hs; (try have zA0 := cell_block pA 0); (try have zA1 := cell_block pA 1); (try have zA2 := frozen_block pA 0); (try have zA3 := frozen_block pA 1)) | (refine kept_setV hk hAge pA (fun hk' h1' => ?_); replace hk := hk'; replace pA := h1'; clear hk' h1' zA0 zA1 zA2 zA3; generalize World.setCell (World.setCell _ _ _) _ _ = W' at hk pA ⊢) | (have hAge := hk.size; refine kept_allocV hk (fun hs hk' hblk => ?_); (try replace s1 := s1.keep hs); (first | generalize World.alloc _ _ = W' at hs hk' hblk s1 ⊢ | generalize World.alloc _ _ = W' at hs hk' hblk ⊢); replace hk := hk'; clear hk'; have pA := hblk; clear hs hblk; have zA0 := cell_block pA 0; have zA1 := cell_block pA 1; have zA2 := frozen_block pA 0; have zA3 := frozen_block pA 1))
  all_goals
    as_aux_lemma =>
    replace x1 := blk_keep x1 hk
    replace x2 := blk_keep x2 hk
    replace x5 := blk_keep x5 hk
    replace BW := BW.trans (hk.mono BW.size)
    (try clear f0 f1 g0 g1 g2); have f0 := cell_block x1 0; have f1 := cell_block x1 1; have g0 := cell_block x2 0; have g1 := cell_block x2 1; have g2 := cell_block x2 2; (try clear p0 p1 p2); (try have p0 := cell_block x5 0); (try have p1 := cell_block x5 1); (try have p2 := cell_block x5 2); (try clear zA0 zA1); (try have zA0 := cell_block pA 0); (try have zA1 := cell_block pA 1); (try clear zB0 zB1); (try have zB0 := cell_block pB 0); (try have zB1 := cell_block pB 1)
    go_wp2_with (first | ((with_reducible refine Calmly.is_fl ?_); refine Calmly.mix_fl rfl ?_ (fun _ _ => ?_); (first | exact .move _ | exact .load _ _ | exact .fieldAddr _ _ _ (by kernel_rfl) | exact .assign _ | exact .binOp _ _ _ _ _ rfl | exact .indexAddr _ _ _ | exact .len _ _ (by kernel_rfl) | exact .field _ _ _ | exact .extract _ _ | exact .pick _ _ _ | exact .build _ _ | exact .slice _ _ _ _ _ | exact .unOp _ _ _ rfl | exact .index _ _ _ | exact .max _ _ _ rfl rfl | exact .min _ _ _ rfl rfl)) | ((with_reducible refine Calmly.is_gl ?_); refine Calmly.mix_gl rfl rfl rfl ?_; first | ((first | with_reducible refine Calmly.gl_tt ?_ (fun _ _ => ?_) | with_reducible refine Calmly.gl_ff ?_ (fun _ _ => ?_)); (first | exact .move _ | exact .load _ _ | exact .fieldAddr _ _ _ (by kernel_rfl) | exact .assign _ | exact .binOp _ _ _ _ _ rfl | exact .indexAddr _ _ _ | exact .len _ _ (by kernel_rfl) | exact .field _ _ _ | exact .extract _ _ | exact .pick _ _ _ | exact .build _ _ | exact .slice _ _ _ _ _ | exact .unOp _ _ _ rfl | exact .index _ _ _ | exact .max _ _ _ rfl rfl | exact .min _ _ _ rfl rfl)) | with_reducible refine Calmly.gl_tf (fun _ _ => ?_) | with_reducible refine Calmly.gl_ft (fun _ _ => ?_)) | ((with_reducible refine Calmly.is_eff ?_); refine Calmly.mix_eff rfl (fun _ _ => ?_)) | ((with_reducible refine Calmly.is_gf ?_); refine Calmly.mix_gf rfl rfl rfl ?_; first | with_reducible refine Calmly.gf_tt (fun _ _ => ?_) | with_reducible refine Calmly.gf_ff (fun _ _ => ?_) | with_reducible refine Calmly.gf_tf (kept_of hk) (fun _ _ => ?_) | with_reducible refine Calmly.gf_ft (kept_of hk) (fun _ _ => ?_)) | ((with_reducible refine Calmly.is_tail ?_); first | refine Calmly.mix_tail_nil ?_ | refine Calmly.mix_tail rfl (fun _ _ => ?_)) | ((with_reducible refine Calmly.is_kept ?_); refine ⟨kept_of hk, ?_⟩) | (with_reducible refine Calmly.mix_alt ?_ ?_))
    clear hk hAge
    refine (rRecordErr_any step a n c xs _ (h1.keep BW) rE HRE.out).mono ?_
    rintro r w8 ⟨rfl, hs⟩
    replace x1 := blk_keep x1 hs; replace x2 := blk_keep x2 hs; (try replace x5 := blk_keep x5 hs); (try replace pA := blk_keep pA hs); (try replace pB := blk_keep pB hs); replace BW := BW.trans (hs.mono BW.size); clear hs; (try clear f0 f1 g0 g1 g2); have f0 := cell_block x1 0; have f1 := cell_block x1 1; have g0 := cell_block x2 0; have g1 := cell_block x2 1; have g2 := cell_block x2 2; (try clear p0 p1 p2); (try have p0 := cell_block x5 0); (try have p1 := cell_block x5 1); (try have p2 := cell_block x5 2); (try clear zA0 zA1); (try have zA0 := cell_block pA 0); (try have zA1 := cell_block pA 1); (try clear zB0 zB1); (try have zB0 := cell_block pB 0); (try have zB1 := cell_block pB 1)
    by_cases hz : rE = 0
    case neg =>
      have hFe : F = rE := by rw [← HF.out, HRE.out, firstE, if_neg hz]
      obtain ⟨u1, u2, u3⟩ := HP1.out hz
      obtain ⟨v1, v2, v3⟩ := HE1.out (by rw [hFe]; exact hz)
      have b2 : (rE != 0) = true := by simpa using hz
      rw [hFe] at v1
      subst u1 u2 u3 v1 v2 v3
      clear hz hFe
      go_wp2_with fail
      go_ret
      exact ⟨rfl, BW⟩
    subst hz
    obtain ⟨u1, u2, u3⟩ := HP2.out rfl
    subst u1 u2 u3
    obtain ⟨r1, r2, r3, r4, r5⟩ := recF_ok HRE.out
    have H5 := Lib.hid r5
    have hp : 0 ≤ A ∧ A ≤ 1000000 ∧ 0 ≤ V ∧ V ≤ 1000000 ∧ 0 ≤ D ∧ D ≤ 1000000 := by
      obtain ⟨p1, p2⟩ := pk_bd (xs := xs) (by omega) r5
      rw [← HA.out, ← HV.out, ← HD.out]
      refine ⟨gsT_nn _ _, ?_, gsT_nn _ _, ?_, gsT_nn _ _, ?_⟩ <;> refine (gsT_le _ 1000000 (by omega) n).2 fun j _ => ?_
      · have := r5 j; omega
      · have := p1 j; omega
      · have := p2 j; omega
    obtain ⟨pa0, pa1, pv0, pv1, pd0, pd1⟩ := hp
    clear r1 r2 r3 r4 r5 HP1 HP2 HPO
    go_wp2_with fail
    refine Calmly.wp_region_mix 8 (.fl 0 <| .fl 1 <| .fl 2 <| .gl 3 <| .gl 4 <| .gl 5 <| .gf 6 <| .gf 7 <| .tail [8]) (by kernel_rfl) (by kernel_rfl) ?_
    have hs := (Below.refl w8.heap.size w8).drew
    replace x1 := blk_keep x1 hs; replace x2 := blk_keep x2 hs; (try replace x5 := blk_keep x5 hs); (try replace pA := blk_keep pA hs); (try replace pB := blk_keep pB hs); replace BW := BW.trans (hs.mono BW.size); clear hs; (try clear f0 f1 g0 g1 g2); have f0 := cell_block x1 0; have f1 := cell_block x1 1; have g0 := cell_block x2 0; have g1 := cell_block x2 1; have g2 := cell_block x2 2; (try clear p0 p1 p2); (try have p0 := cell_block x5 0); (try have p1 := cell_block x5 1); (try have p2 := cell_block x5 2); (try clear zA0 zA1); (try have zA0 := cell_block pA 0); (try have zA1 := cell_block pA 1); (try clear zB0 zB1); (try have zB0 := cell_block pB 0); (try have zB1 := cell_block pB 1)
    generalize w8.drew = w9 at x1 x2 x5 pA BW f0 f1 g0 g1 g2 p0 p1 p2 zA0 zA1 ⊢
    have hk := Below.refl w9.heap.size w9
    go_wp2_with (first | ((with_reducible refine Calmly.is_fl ?_); refine Calmly.mix_fl rfl ?_ (fun _ _ => ?_); (first | exact .move _ | exact .load _ _ | exact .fieldAddr _ _ _ (by kernel_rfl) | exact .assign _ | exact .binOp _ _ _ _ _ rfl | exact .indexAddr _ _ _ | exact .len _ _ (by kernel_rfl) | exact .field _ _ _ | exact .extract _ _ | exact .pick _ _ _ | exact .build _ _ | exact .slice _ _ _ _ _ | exact .unOp _ _ _ rfl | exact .index _ _ _ | exact .max _ _ _ rfl rfl | exact .min _ _ _ rfl rfl)) | ((with_reducible refine Calmly.is_gl ?_); refine Calmly.mix_gl rfl rfl rfl ?_; first | ((first | with_reducible refine Calmly.gl_tt ?_ (fun _ _ => ?_) | with_reducible refine Calmly.gl_ff ?_ (fun _ _ => ?_)); (first | exact .move _ | exact .load _ _ | exact .fieldAddr _ _ _ (by kernel_rfl) | exact .assign _ | exact .binOp _ _ _ _ _ rfl | exact .indexAddr _ _ _ | exact .len _ _ (by kernel_rfl) | exact .field _ _ _ | exact .extract _ _ | exact .pick _ _ _ | exact .build _ _ | exact .slice _ _ _ _ _ | exact .unOp _ _ _ rfl | exact .index _ _ _ | exact .max _ _ _ rfl rfl | exact .min _ _ _ rfl rfl)) | with_reducible refine Calmly.gl_tf (fun _ _ => ?_) | with_reducible refine Calmly.gl_ft (fun _ _ => ?_)) | ((with_reducible refine Calmly.is_eff ?_); refine Calmly.mix_eff rfl (fun _ _ => ?_)) | ((with_reducible refine Calmly.is_gf ?_); refine Calmly.mix_gf rfl rfl rfl ?_; first | with_reducible refine Calmly.gf_tt (fun _ _ => ?_) | with_reducible refine Calmly.gf_ff (fun _ _ => ?_) | with_reducible refine Calmly.gf_tf (kept_of hk) (fun _ _ => ?_) | with_reducible refine Calmly.gf_ft (kept_of hk) (fun _ _ => ?_)) | ((with_reducible refine Calmly.is_tail ?_); first | refine Calmly.mix_tail_nil ?_ | refine Calmly.mix_tail rfl (fun _ _ => ?_)) | ((with_reducible refine Calmly.is_kept ?_); refine ⟨kept_of hk, ?_⟩) | (with_reducible refine Calmly.mix_alt ?_ ?_) | (go_at_call 77; refine (rPeaks_any a n c xs _ ((h1.keep BW).keep hk) hn H5.out A V D HA.out HV.out HD.out).mono ?_; rintro r w10 ⟨rfl, hs⟩; replace hk := step_of hk hs; replace x1 := blk_keep x1 hs; replace x2 := blk_keep x2 hs; replace x5 := blk_keep x5 hs; replace pA := blk_keep pA hs; clear hs; (try clear f0 f1 g0 g1 g2); have f0 := cell_block x1 0; have f1 := cell_block x1 1; have g0 := cell_block x2 0; have g1 := cell_block x2 1; have g2 := cell_block x2 2; (try clear p0 p1 p2); (try have p0 := cell_block x5 0); (try have p1 := cell_block x5 1); (try have p2 := cell_block x5 2); (try clear zA0 zA1); (try have zA0 := cell_block pA 0); (try have zA1 := cell_block pA 1); (try clear zB0 zB1); (try have zB0 := cell_block pB 0); (try have zB1 := cell_block pB 1)))
    replace BW := BW.trans (hk.mono BW.size)
    clear hk
    cases L
    · have hFe : F = 2 := by rw [← HF.out, HRE.out, HL.out]; rfl
      obtain ⟨v1, v2, v3⟩ := HE1.out (by rw [hFe]; decide)
      rw [hFe] at v1
      subst v1 v2 v3
      clear hFe
      refine (rLimitsErr_any xa xv xd _ 2 (by rw [HL.out]; rfl)).mono ?_
      rintro r w11 ⟨rfl, hs⟩
      replace x1 := blk_keep x1 hs; replace x2 := blk_keep x2 hs; (try replace x5 := blk_keep x5 hs); (try replace pA := blk_keep pA hs); (try replace pB := blk_keep pB hs); replace BW := BW.trans (hs.mono BW.size); clear hs; (try clear f0 f1 g0 g1 g2); have f0 := cell_block x1 0; have f1 := cell_block x1 1; have g0 := cell_block x2 0; have g1 := cell_block x2 1; have g2 := cell_block x2 2; (try clear p0 p1 p2); (try have p0 := cell_block x5 0); (try have p1 := cell_block x5 1); (try have p2 := cell_block x5 2); (try clear zA0 zA1); (try have zA0 := cell_block pA 0); (try have zA1 := cell_block pA 1); (try clear zB0 zB1); (try have zB0 := cell_block pB 0); (try have zB1 := cell_block pB 1)
      go_wp2_with fail
      go_ret
      exact ⟨rfl, BW⟩
    · have hFe : F = 0 := by rw [← HF.out, HRE.out, HL.out]; rfl
      have hlim : (0 ≤ xa ∧ xa ≤ 1000000) ∧ (0 ≤ xv ∧ xv ≤ 1000000) ∧ (0 ≤ xd ∧ xd ≤ 1000000) := by
        have h := HL.out
        unfold limB at h
        rw [Bool.and_eq_true, Bool.and_eq_true] at h
        exact ⟨wIn_iff.1 h.1.1, wIn_iff.1 h.1.2, wIn_iff.1 h.2⟩
      obtain ⟨la, lv, ld⟩ := hlim
      refine (rLimitsErr_any xa xv xd _ 0 (by rw [HL.out]; rfl)).mono ?_
      rintro r w11 ⟨rfl, hs⟩
      replace x1 := blk_keep x1 hs; replace x2 := blk_keep x2 hs; (try replace x5 := blk_keep x5 hs); (try replace pA := blk_keep pA hs); (try replace pB := blk_keep pB hs); replace BW := BW.trans (hs.mono BW.size); clear hs; (try clear f0 f1 g0 g1 g2); have f0 := cell_block x1 0; have f1 := cell_block x1 1; have g0 := cell_block x2 0; have g1 := cell_block x2 1; have g2 := cell_block x2 2; (try clear p0 p1 p2); (try have p0 := cell_block x5 0); (try have p1 := cell_block x5 1); (try have p2 := cell_block x5 2); (try clear zA0 zA1); (try have zA0 := cell_block pA 0); (try have zA1 := cell_block pA 1); (try clear zB0 zB1); (try have zB0 := cell_block pB 0); (try have zB1 := cell_block pB 1)
      by_cases hA0 : A = 0
      · obtain ⟨v1, v2, v3⟩ := HE2.out hFe hA0
        subst v1 v2 v3
        have HAA := Lib.hid hA0
        clear hFe hA0
        go_wp2_with fail
        refine (rScale_any a n c xs xa xv xd _ (h1.keep BW) hn H5.out la lv ld A V D 0 0 false HA.out HV.out HD.out (fun _ => ⟨rfl, rfl, rfl⟩) (fun h => absurd HAA.out h)).mono ?_
        rintro r w12 ⟨rfl, hs⟩
        replace x1 := blk_keep x1 hs; replace x2 := blk_keep x2 hs; (try replace x5 := blk_keep x5 hs); (try replace pA := blk_keep pA hs); (try replace pB := blk_keep pB hs); replace BW := BW.trans (hs.mono BW.size); clear hs; (try clear f0 f1 g0 g1 g2); have f0 := cell_block x1 0; have f1 := cell_block x1 1; have g0 := cell_block x2 0; have g1 := cell_block x2 1; have g2 := cell_block x2 2; (try clear p0 p1 p2); (try have p0 := cell_block x5 0); (try have p1 := cell_block x5 1); (try have p2 := cell_block x5 2); (try clear zA0 zA1); (try have zA0 := cell_block pA 0); (try have zA1 := cell_block pA 1); (try clear zB0 zB1); (try have zB0 := cell_block pB 0); (try have zB1 := cell_block pB 1)
        have hs := hA w12 (.cells #[.int .i64 0, .int .i64 0] 86)
        replace x1 := blk_keep x1 hs; replace x2 := blk_keep x2 hs; (try replace x5 := blk_keep x5 hs); (try replace pA := blk_keep pA hs); (try replace pB := blk_keep pB hs); replace BW := BW.trans (hs.mono BW.size); clear hs; (try clear f0 f1 g0 g1 g2); have f0 := cell_block x1 0; have f1 := cell_block x1 1; have g0 := cell_block x2 0; have g1 := cell_block x2 1; have g2 := cell_block x2 2; (try clear p0 p1 p2); (try have p0 := cell_block x5 0); (try have p1 := cell_block x5 1); (try have p2 := cell_block x5 2); (try clear zA0 zA1); (try have zA0 := cell_block pA 0); (try have zA1 := cell_block pA 1); (try clear zB0 zB1); (try have zB0 := cell_block pB 0); (try have zB1 := cell_block pB 1)
        go_wp2_with fail
        go_ret
        exact ⟨rfl, BW⟩
      · obtain ⟨v1, v2, v3⟩ := HE3.out hFe hA0
        have hA1 : 0 < A := by omega
        obtain ⟨k1, k2, k3, k4⟩ := scF_ok hA1 pv0 pd0 la.1 lv.1 ld.1 v2 v3
        obtain ⟨k5, k6, k7, k8⟩ := scF_bd hA1 la.1 lv.1 ld.1 la.2 lv.2 ld.2 pa1 pv1 pd1 v2 v3
        obtain ⟨la0, la1⟩ := la
        obtain ⟨lv0, lv1⟩ := lv
        obtain ⟨ld0, ld1⟩ := ld
        obtain ⟨j1, j2⟩ := frac_mul k5 k6 (show -1000000 ≤ A by omega) pa1
        obtain ⟨j3, j4⟩ := frac_mul k5 k6 (show -1000000 ≤ V by omega) pv1
        obtain ⟨j5, j6⟩ := frac_mul k5 k6 (show -1000000 ≤ D by omega) pd1
        obtain ⟨j7, j8⟩ := frac_mul (show -1000000 ≤ xa by omega) la1 (show -1000000 ≤ Q by omega) k8
        obtain ⟨j9, j10⟩ := frac_mul (show -1000000 ≤ xv by omega) lv1 (show -1000000 ≤ Q by omega) k8
        obtain ⟨j11, j12⟩ := frac_mul (show -1000000 ≤ xd by omega) ld1 (show -1000000 ≤ Q by omega) k8
        subst v1
        have HK := Lib.hid k4
        have HOK : Hid (A ≠ 0 → true = true ∧ (scF xa xv xd A V D).1 = P ∧ (scF xa xv xd A V D).2 = Q) := Lib.hid (fun _ => ⟨rfl, v2, v3⟩)
        have HN0 : Hid (A ≠ 0) := Lib.hid hA0
        clear hFe hA0 v2 v3 k4
        go_wp2_with fail
        refine (rScale_any a n c xs xa xv xd _ (h1.keep BW) hn H5.out ⟨la0, la1⟩ ⟨lv0, lv1⟩ ⟨ld0, ld1⟩ A V D P Q true HA.out HV.out HD.out (fun h => absurd h HN0.out) (fun _ => ⟨rfl, (HOK.out HN0.out).2⟩)).mono ?_
        rintro r w12 ⟨rfl, hs⟩
        replace x1 := blk_keep x1 hs; replace x2 := blk_keep x2 hs; (try replace x5 := blk_keep x5 hs); (try replace pA := blk_keep pA hs); (try replace pB := blk_keep pB hs); replace BW := BW.trans (hs.mono BW.size); clear hs; (try clear f0 f1 g0 g1 g2); have f0 := cell_block x1 0; have f1 := cell_block x1 1; have g0 := cell_block x2 0; have g1 := cell_block x2 1; have g2 := cell_block x2 2; (try clear p0 p1 p2); (try have p0 := cell_block x5 0); (try have p1 := cell_block x5 1); (try have p2 := cell_block x5 2); (try clear zA0 zA1); (try have zA0 := cell_block pA 0); (try have zA1 := cell_block pA 1); (try clear zB0 zB1); (try have zB0 := cell_block pB 0); (try have zB1 := cell_block pB 1)
        have hs := hA w12 (.cells #[.int .i64 P, .int .i64 Q] 86)
        have pB := alloc_new w12 (.cells #[.int .i64 P, .int .i64 Q] 86)
        replace x1 := blk_keep x1 hs
        replace x2 := blk_keep x2 hs
        replace x5 := blk_keep x5 hs
        replace pA := blk_keep pA hs
        replace BW := BW.trans (hs.mono BW.size)
        clear hs
        (try clear f0 f1 g0 g1 g2); have f0 := cell_block x1 0; have f1 := cell_block x1 1; have g0 := cell_block x2 0; have g1 := cell_block x2 1; have g2 := cell_block x2 2; (try clear p0 p1 p2); (try have p0 := cell_block x5 0); (try have p1 := cell_block x5 1); (try have p2 := cell_block x5 2); (try clear zA0 zA1); (try have zA0 := cell_block pA 0); (try have zA1 := cell_block pA 1); (try clear zB0 zB1); (try have zB0 := cell_block pB 0); (try have zB1 := cell_block pB 1)
        go_wp2_with fail
        refine Calmly.wp_region_mix 17 (.fl 0 <| .fl 1 <| .fl 2 <| .fl 3 <| .fl 4 <| .fl 5 <| .fl 6 <| .fl 7 <| .fl 8 <| .fl 9 <| .fl 10 <| .fl 11 <| .fl 12 <| .fl 13 <| .fl 14 <| .fl 15 <| .fl 16 <| .tail [17]) (by kernel_rfl) (by kernel_rfl) ?_
        clear pB zB0 zB1
        have hs := (Below.refl (w12.alloc (.cells #[.int .i64 P, .int .i64 Q] 86)).heap.size (w12.alloc (.cells #[.int .i64 P, .int .i64 Q] 86))).drew
        replace x1 := blk_keep x1 hs; replace x2 := blk_keep x2 hs; (try replace x5 := blk_keep x5 hs); (try replace pA := blk_keep pA hs); (try replace pB := blk_keep pB hs); replace BW := BW.trans (hs.mono BW.size); clear hs; (try clear f0 f1 g0 g1 g2); have f0 := cell_block x1 0; have f1 := cell_block x1 1; have g0 := cell_block x2 0; have g1 := cell_block x2 1; have g2 := cell_block x2 2; (try clear p0 p1 p2); (try have p0 := cell_block x5 0); (try have p1 := cell_block x5 1); (try have p2 := cell_block x5 2); (try clear zA0 zA1); (try have zA0 := cell_block pA 0); (try have zA1 := cell_block pA 1); (try clear zB0 zB1); (try have zB0 := cell_block pB 0); (try have zB1 := cell_block pB 1)
        generalize World.drew _ = w13 at x1 x2 x5 pA BW f0 f1 g0 g1 g2 p0 p1 p2 zA0 zA1 ⊢
        have hk := Below.refl w13.heap.size w13
        clear HOK HN0 HE1 HE2 HE3 HF HL
        by_cases e1 : P * A = xa * Q
        · have b1 : (P * A == xa * Q) = true := by simpa using e1
          clear e1
          go_wp2_with (first | ((with_reducible refine Calmly.is_fl ?_); refine Calmly.mix_fl rfl ?_ (fun _ _ => ?_); (first | exact .move _ | exact .load _ _ | exact .fieldAddr _ _ _ (by kernel_rfl) | exact .assign _ | exact .binOp _ _ _ _ _ rfl | exact .indexAddr _ _ _ | exact .len _ _ (by kernel_rfl) | exact .field _ _ _ | exact .extract _ _ | exact .pick _ _ _ | exact .build _ _ | exact .slice _ _ _ _ _ | exact .unOp _ _ _ rfl | exact .index _ _ _ | exact .max _ _ _ rfl rfl | exact .min _ _ _ rfl rfl)) | ((with_reducible refine Calmly.is_gl ?_); refine Calmly.mix_gl rfl rfl rfl ?_; first | ((first | with_reducible refine Calmly.gl_tt ?_ (fun _ _ => ?_) | with_reducible refine Calmly.gl_ff ?_ (fun _ _ => ?_)); (first | exact .move _ | exact .load _ _ | exact .fieldAddr _ _ _ (by kernel_rfl) | exact .assign _ | exact .binOp _ _ _ _ _ rfl | exact .indexAddr _ _ _ | exact .len _ _ (by kernel_rfl) | exact .field _ _ _ | exact .extract _ _ | exact .pick _ _ _ | exact .build _ _ | exact .slice _ _ _ _ _ | exact .unOp _ _ _ rfl | exact .index _ _ _ | exact .max _ _ _ rfl rfl | exact .min _ _ _ rfl rfl)) | with_reducible refine Calmly.gl_tf (fun _ _ => ?_) | with_reducible refine Calmly.gl_ft (fun _ _ => ?_)) | ((with_reducible refine Calmly.is_eff ?_); refine Calmly.mix_eff rfl (fun _ _ => ?_)) | ((with_reducible refine Calmly.is_gf ?_); refine Calmly.mix_gf rfl rfl rfl ?_; first | with_reducible refine Calmly.gf_tt (fun _ _ => ?_) | with_reducible refine Calmly.gf_ff (fun _ _ => ?_) | with_reducible refine Calmly.gf_tf (kept_of hk) (fun _ _ => ?_) | with_reducible refine Calmly.gf_ft (kept_of hk) (fun _ _ => ?_)) | ((with_reducible refine Calmly.is_tail ?_); first | refine Calmly.mix_tail_nil ?_ | refine Calmly.mix_tail rfl (fun _ _ => ?_)) | ((with_reducible refine Calmly.is_kept ?_); refine ⟨kept_of hk, ?_⟩) | (with_reducible refine Calmly.mix_alt ?_ ?_))
          go_ret
          exact ⟨rfl, BW⟩
        · have b1 : (P * A == xa * Q) = false := by simpa using e1
          have hk2 := HK.out.resolve_left e1
          clear e1 HK
          by_cases hv : 0 < V
          · by_cases e2 : P * V = xv * Q
            · have b2 : (P * V == xv * Q) = true := by simpa using e2
              clear e2 hk2
              go_wp2_with (first | ((with_reducible refine Calmly.is_fl ?_); refine Calmly.mix_fl rfl ?_ (fun _ _ => ?_); (first | exact .move _ | exact .load _ _ | exact .fieldAddr _ _ _ (by kernel_rfl) | exact .assign _ | exact .binOp _ _ _ _ _ rfl | exact .indexAddr _ _ _ | exact .len _ _ (by kernel_rfl) | exact .field _ _ _ | exact .extract _ _ | exact .pick _ _ _ | exact .build _ _ | exact .slice _ _ _ _ _ | exact .unOp _ _ _ rfl | exact .index _ _ _ | exact .max _ _ _ rfl rfl | exact .min _ _ _ rfl rfl)) | ((with_reducible refine Calmly.is_gl ?_); refine Calmly.mix_gl rfl rfl rfl ?_; first | ((first | with_reducible refine Calmly.gl_tt ?_ (fun _ _ => ?_) | with_reducible refine Calmly.gl_ff ?_ (fun _ _ => ?_)); (first | exact .move _ | exact .load _ _ | exact .fieldAddr _ _ _ (by kernel_rfl) | exact .assign _ | exact .binOp _ _ _ _ _ rfl | exact .indexAddr _ _ _ | exact .len _ _ (by kernel_rfl) | exact .field _ _ _ | exact .extract _ _ | exact .pick _ _ _ | exact .build _ _ | exact .slice _ _ _ _ _ | exact .unOp _ _ _ rfl | exact .index _ _ _ | exact .max _ _ _ rfl rfl | exact .min _ _ _ rfl rfl)) | with_reducible refine Calmly.gl_tf (fun _ _ => ?_) | with_reducible refine Calmly.gl_ft (fun _ _ => ?_)) | ((with_reducible refine Calmly.is_eff ?_); refine Calmly.mix_eff rfl (fun _ _ => ?_)) | ((with_reducible refine Calmly.is_gf ?_); refine Calmly.mix_gf rfl rfl rfl ?_; first | with_reducible refine Calmly.gf_tt (fun _ _ => ?_) | with_reducible refine Calmly.gf_ff (fun _ _ => ?_) | with_reducible refine Calmly.gf_tf (kept_of hk) (fun _ _ => ?_) | with_reducible refine Calmly.gf_ft (kept_of hk) (fun _ _ => ?_)) | ((with_reducible refine Calmly.is_tail ?_); first | refine Calmly.mix_tail_nil ?_ | refine Calmly.mix_tail rfl (fun _ _ => ?_)) | ((with_reducible refine Calmly.is_kept ?_); refine ⟨kept_of hk, ?_⟩) | (with_reducible refine Calmly.mix_alt ?_ ?_))
              go_ret
              exact ⟨rfl, BW⟩
            · have b2 : (P * V == xv * Q) = false := by simpa using e2
              obtain ⟨hd, e3⟩ := hk2.resolve_left (fun h => e2 h.2)
              have b3 : (P * D == xd * Q) = true := by simpa using e3
              clear e2 e3 hk2
              go_wp2_with (first | ((with_reducible refine Calmly.is_fl ?_); refine Calmly.mix_fl rfl ?_ (fun _ _ => ?_); (first | exact .move _ | exact .load _ _ | exact .fieldAddr _ _ _ (by kernel_rfl) | exact .assign _ | exact .binOp _ _ _ _ _ rfl | exact .indexAddr _ _ _ | exact .len _ _ (by kernel_rfl) | exact .field _ _ _ | exact .extract _ _ | exact .pick _ _ _ | exact .build _ _ | exact .slice _ _ _ _ _ | exact .unOp _ _ _ rfl | exact .index _ _ _ | exact .max _ _ _ rfl rfl | exact .min _ _ _ rfl rfl)) | ((with_reducible refine Calmly.is_gl ?_); refine Calmly.mix_gl rfl rfl rfl ?_; first | ((first | with_reducible refine Calmly.gl_tt ?_ (fun _ _ => ?_) | with_reducible refine Calmly.gl_ff ?_ (fun _ _ => ?_)); (first | exact .move _ | exact .load _ _ | exact .fieldAddr _ _ _ (by kernel_rfl) | exact .assign _ | exact .binOp _ _ _ _ _ rfl | exact .indexAddr _ _ _ | exact .len _ _ (by kernel_rfl) | exact .field _ _ _ | exact .extract _ _ | exact .pick _ _ _ | exact .build _ _ | exact .slice _ _ _ _ _ | exact .unOp _ _ _ rfl | exact .index _ _ _ | exact .max _ _ _ rfl rfl | exact .min _ _ _ rfl rfl)) | with_reducible refine Calmly.gl_tf (fun _ _ => ?_) | with_reducible refine Calmly.gl_ft (fun _ _ => ?_)) | ((with_reducible refine Calmly.is_eff ?_); refine Calmly.mix_eff rfl (fun _ _ => ?_)) | ((with_reducible refine Calmly.is_gf ?_); refine Calmly.mix_gf rfl rfl rfl ?_; first | with_reducible refine Calmly.gf_tt (fun _ _ => ?_) | with_reducible refine Calmly.gf_ff (fun _ _ => ?_) | with_reducible refine Calmly.gf_tf (kept_of hk) (fun _ _ => ?_) | with_reducible refine Calmly.gf_ft (kept_of hk) (fun _ _ => ?_)) | ((with_reducible refine Calmly.is_tail ?_); first | refine Calmly.mix_tail_nil ?_ | refine Calmly.mix_tail rfl (fun _ _ => ?_)) | ((with_reducible refine Calmly.is_kept ?_); refine ⟨kept_of hk, ?_⟩) | (with_reducible refine Calmly.mix_alt ?_ ?_))
              go_ret
              exact ⟨rfl, BW⟩
          · obtain ⟨hd, e3⟩ := hk2.resolve_left (fun h => hv h.1)
            have hv' : V ≤ 0 := by omega
            have b3 : (P * D == xd * Q) = true := by simpa using e3
            clear e3 hk2 hv
            go_wp2_with (first | ((with_reducible refine Calmly.is_fl ?_); refine Calmly.mix_fl rfl ?_ (fun _ _ => ?_); (first | exact .move _ | exact .load _ _ | exact .fieldAddr _ _ _ (by kernel_rfl) | exact .assign _ | exact .binOp _ _ _ _ _ rfl | exact .indexAddr _ _ _ | exact .len _ _ (by kernel_rfl) | exact .field _ _ _ | exact .extract _ _ | exact .pick _ _ _ | exact .build _ _ | exact .slice _ _ _ _ _ | exact .unOp _ _ _ rfl | exact .index _ _ _ | exact .max _ _ _ rfl rfl | exact .min _ _ _ rfl rfl)) | ((with_reducible refine Calmly.is_gl ?_); refine Calmly.mix_gl rfl rfl rfl ?_; first | ((first | with_reducible refine Calmly.gl_tt ?_ (fun _ _ => ?_) | with_reducible refine Calmly.gl_ff ?_ (fun _ _ => ?_)); (first | exact .move _ | exact .load _ _ | exact .fieldAddr _ _ _ (by kernel_rfl) | exact .assign _ | exact .binOp _ _ _ _ _ rfl | exact .indexAddr _ _ _ | exact .len _ _ (by kernel_rfl) | exact .field _ _ _ | exact .extract _ _ | exact .pick _ _ _ | exact .build _ _ | exact .slice _ _ _ _ _ | exact .unOp _ _ _ rfl | exact .index _ _ _ | exact .max _ _ _ rfl rfl | exact .min _ _ _ rfl rfl)) | with_reducible refine Calmly.gl_tf (fun _ _ => ?_) | with_reducible refine Calmly.gl_ft (fun _ _ => ?_)) | ((with_reducible refine Calmly.is_eff ?_); refine Calmly.mix_eff rfl (fun _ _ => ?_)) | ((with_reducible refine Calmly.is_gf ?_); refine Calmly.mix_gf rfl rfl rfl ?_; first | with_reducible refine Calmly.gf_tt (fun _ _ => ?_) | with_reducible refine Calmly.gf_ff (fun _ _ => ?_) | with_reducible refine Calmly.gf_tf (kept_of hk) (fun _ _ => ?_) | with_reducible refine Calmly.gf_ft (kept_of hk) (fun _ _ => ?_)) | ((with_reducible refine Calmly.is_tail ?_); first | refine Calmly.mix_tail_nil ?_ | refine Calmly.mix_tail rfl (fun _ _ => ?_)) | ((with_reducible refine Calmly.is_kept ?_); refine ⟨kept_of hk, ?_⟩) | (with_reducible refine Calmly.mix_alt ?_ ?_))
            go_ret
            exact ⟨rfl, BW⟩
end Go.Proofs.Ytiibdndchkbefaa
