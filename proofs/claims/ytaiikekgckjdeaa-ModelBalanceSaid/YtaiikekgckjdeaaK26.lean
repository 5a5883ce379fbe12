/- Whether rows of states are equal. All states of a run; the errors of a motion. Plain law of balances: each step balances. The balance of a step: the model's walk. The balance of a step: the model's, whole. -/
import Derived.Test.YtaiikekgckjdeaaK25
namespace Go.Proofs.Ytaiikekgckjdeaa
open Go.RowKit
open Calmly (Kept)
def st0' : St := ([], [], [])
instance decHo : DecidableEq Ho := inferInstanceAs (DecidableEq (Int × List (Int × Bool)))
instance decSt : DecidableEq St := inferInstanceAs (DecidableEq (List Int × List Int × List Ho))
instance decSts : DecidableEq (List St) := inferInstance
/-- A row of states that reads as such. -/
structure StsV (w : World) (a : Option Addr) (n c : Nat) (raw : List StR) (ss : List St) : Prop where
  row : SStR w a n c raw
  len : raw.length = ss.length
  st : ∀ i, i < ss.length → StV w (raw[i]?.getD str0) (ss[i]?.getD st0')
theorem StsV.keep {w w' : World} {a : Option Addr} {n c : Nat} {raw : List StR} {ss : List St} (h : StsV w a n c raw ss) (hb : Below w.heap.size w w') : StsV w' a n c raw ss := ⟨h.row.keep hb, h.len, fun i hi => (h.st i hi).keep hb⟩
theorem Sts.sv {w : World} {B : Nat} {a : Option Addr} {n c : Nat} {raw : List StR} {ss : List St} (h : Sts w B a n c raw ss) : StsV w a n c raw ss := ⟨h.row.sr, h.len, h.st⟩
set_option maxRecDepth 100000 in
set_option maxHeartbeats 2000000 in
theorem rSameStates_any (a b : Option Addr) (n c m d : Nat) (raw raw' : List StR) (ss ts : List St) (w : World) (h1 : StsV w a n c raw ss) (h2 : StsV w b m d raw' ts) :
    Calls Try.prog 20 #[.slice a n c, .slice b m d] w fun e w' => e = .returned (.bool (decide (ss = ts))) ∧ Below w.heap.size w w' := by
  have hl : n = ss.length := by rw [h1.row.len, h1.len]
  have hl' : m = ts.length := by rw [h2.row.len, h2.len]
  have x1 := h1.row.max
  have x2 := h1.row.cap
  have x3 := h2.row.max
  have x4 := h2.row.cap
  have HL := Lib.hid hl
  have HL' := Lib.hid hl'
  clear hl hl'
  obtain ⟨R, hR⟩ : ∃ R, decide (ss = ts) = R := ⟨_, rfl⟩
  rw [hR]
  have HR := Lib.hid hR
  clear hR
  by_cases e3 : n = m
  case neg =>
    have b1 : ((n : Int) != (m : Int)) = true := by simp; omega
    go_enter Try.func20, Try.ntmps20
    go_wp2_with fail
    go_ret
    refine ⟨ret_bool ?_, Below.refl _ _⟩
    have hne : ¬ ss = ts := fun h => e3 (by rw [HL.out, HL'.out, h])
    rw [← HR.out]
    simp [hne]
  case pos =>
    subst e3
    have bq : ((n : Int) != (n : Int)) = false := by simp
    go_enter Try.func20, Try.ntmps20
    go_wp2_with fail
    go_loopw [5] (fun i wr => ∃ k : Nat, k ≤ n ∧ i = .int .i64 k ∧ ss.take k = ts.take k ∧ Below w.heap.size w wr) (fun i _ => n - (intOf i).toNat)
    case atStart => exact ⟨0, by omega, rfl, rfl, Below.refl _ _⟩
    case round =>
      obtain ⟨k, hk, rfl, ht, hb⟩ := hrel
      have HT := Lib.hid ht
      clear ht
      by_cases hlt : k < n
      · have hi : (k : Int) < (n : Int) := by omega
        have hi0 : (0 : Int) ≤ (k : Int) := by omega
        go_wp2_with fail
        refine Calmly.wp_region_mix 9 (.fl 0 <| .fl 1 <| .fl 2 <| .fl 3 <| .fl 4 <| .fl 5 <| .fl 6 <| .fl 7 <| .eff 8 <| .tail [9]) (by kernel_rfl) (by kernel_rfl) ?_
        have BD : Below wr.heap.size wr wr.drew := (Below.refl _ _).drew
        have hb3 := hb.trans (BD.mono hb.size)
        clear BD
        generalize wr.drew = V at *
        have kH := h1.keep hb3
        have kH' := h2.keep hb3
        obtain ⟨b1', o1, r1, hc1⟩ := kH.row.at_ (by omega)
        obtain ⟨b2', o2, r2, hc2⟩ := kH'.row.at_ (by omega)
        subst r1 r2
        obtain ⟨p0, p1, p2⟩ := hc1 k hlt
        obtain ⟨q0, q1, q2⟩ := hc2 k hlt
        have u1 := kH.st k (by have := HL.out; omega)
        have v1 := kH'.st k (by have := HL'.out; omega)
        obtain ⟨xx, hxx⟩ : ∃ x, raw[k]?.getD str0 = x := ⟨_, rfl⟩
        obtain ⟨yy, hyy⟩ : ∃ x, raw'[k]?.getD str0 = x := ⟨_, rfl⟩
        obtain ⟨X, hX⟩ : ∃ x, ss[k]?.getD st0' = x := ⟨_, rfl⟩
        obtain ⟨Y, hY⟩ : ∃ x, ts[k]?.getD st0' = x := ⟨_, rfl⟩
        rw [hxx] at p0 p1 p2 u1
        rw [hyy] at q0 q1 q2 v1
        rw [hX] at u1
        rw [hY] at v1
        obtain ⟨⟨xa1, xn1, xc1⟩, ⟨xa2, xn2, xc2⟩, ⟨xa3, xn3, xc3⟩⟩ := xx
        obtain ⟨⟨ya1, yn1, yc1⟩, ⟨ya2, yn2, yc2⟩, ⟨ya3, yn3, yc3⟩⟩ := yy
        dsimp only [hv] at p0 p1 p2 q0 q1 q2
        have HX := Lib.hid hX
        have HY := Lib.hid hY
        have U1 := Lib.hid u1
        have V1 := Lib.hid v1
        clear hc1 hc2 hxx hyy hX hY kH kH' u1 v1
        have hkn := hlt
        have hkl := hk
        clear hk hlt
        have hk := Below.refl V.heap.size V
        by_cases he : X = Y
        · have HE := Lib.hid he
          clear he
          go_wp2_with (first | ((with_reducible refine Calmly.is_fl ?_); refine Calmly.mix_fl rfl ?_ (fun _ _ => ?_); (first | exact .move _ | exact .load _ _ | exact .fieldAddr _ _ _ (by kernel_rfl) | exact .assign _ | exact .binOp _ _ _ _ _ rfl | exact .indexAddr _ _ _ | exact .len _ _ (by kernel_rfl) | exact .field _ _ _ | exact .extract _ _ | exact .pick _ _ _ | exact .build _ _ | exact .slice _ _ _ _ _ | exact .unOp _ _ _ rfl | exact .index _ _ _ | exact .max _ _ _ rfl rfl | exact .min _ _ _ rfl rfl | exact .nilCheck _ _ rfl)) | ((with_reducible refine Calmly.is_gl ?_); refine Calmly.mix_gl rfl rfl rfl ?_; first | ((first | with_reducible refine Calmly.gl_tt ?_ (fun _ _ => ?_) | with_reducible refine Calmly.gl_ff ?_ (fun _ _ => ?_)); (first | exact .move _ | exact .load _ _ | exact .fieldAddr _ _ _ (by kernel_rfl) | exact .assign _ | exact .binOp _ _ _ _ _ rfl | exact .indexAddr _ _ _ | exact .len _ _ (by kernel_rfl) | exact .field _ _ _ | exact .extract _ _ | exact .pick _ _ _ | exact .build _ _ | exact .slice _ _ _ _ _ | exact .unOp _ _ _ rfl | exact .index _ _ _ | exact .max _ _ _ rfl rfl | exact .min _ _ _ rfl rfl | exact .nilCheck _ _ rfl)) | with_reducible refine Calmly.gl_tf (fun _ _ => ?_) | with_reducible refine Calmly.gl_ft (fun _ _ => ?_)) | ((with_reducible refine Calmly.is_eff ?_); refine Calmly.mix_eff rfl (fun _ _ => ?_)) | ((with_reducible refine Calmly.is_gf ?_); refine Calmly.mix_gf rfl rfl rfl ?_; first | with_reducible refine Calmly.gf_tt (fun _ _ => ?_) | with_reducible refine Calmly.gf_ff (fun _ _ => ?_) | with_reducible refine Calmly.gf_tf (kept_of hk) (fun _ _ => ?_) | with_reducible refine Calmly.gf_ft (kept_of hk) (fun _ _ => ?_)) | ((with_reducible refine Calmly.is_tail ?_); first | refine Calmly.mix_tail_nil ?_ | refine Calmly.mix_tail rfl (fun _ _ => ?_)) | ((with_reducible refine Calmly.is_kept ?_); refine ⟨kept_of hk, ?_⟩) | (with_reducible refine Calmly.mix_alt ?_ ?_) | (go_at_call 62; refine (rSameState_any xa1 xa2 xa3 ya1 ya2 ya3 xn1 xc1 xn2 xc2 xn3 xc3 yn1 yc1 yn2 yc2 yn3 yc3 X Y _ (U1.out.keep hk) (V1.out.keep hk)).mono ?_; rintro e w5 ⟨rfl, hb5⟩; replace hk := step_of hk hb5; rw [show decide (X = Y) = true by simp [HE.out]]))
          go_roundw
          case rel => exact ⟨k + 1, by omega, by go_num, takeG_step st0' HT.out (by have := HL.out; omega) (by have := HL'.out; omega) (by rw [HX.out, HY.out, HE.out]), hb3.trans (hk.mono hb3.size)⟩
          case measure => simp [intOf]; omega
        · have HE := Lib.hid he
          clear he
          go_wp2_with (first | ((with_reducible refine Calmly.is_fl ?_); refine Calmly.mix_fl rfl ?_ (fun _ _ => ?_); (first | exact .move _ | exact .load _ _ | exact .fieldAddr _ _ _ (by kernel_rfl) | exact .assign _ | exact .binOp _ _ _ _ _ rfl | exact .indexAddr _ _ _ | exact .len _ _ (by kernel_rfl) | exact .field _ _ _ | exact .extract _ _ | exact .pick _ _ _ | exact .build _ _ | exact .slice _ _ _ _ _ | exact .unOp _ _ _ rfl | exact .index _ _ _ | exact .max _ _ _ rfl rfl | exact .min _ _ _ rfl rfl | exact .nilCheck _ _ rfl)) | ((with_reducible refine Calmly.is_gl ?_); refine Calmly.mix_gl rfl rfl rfl ?_; first | ((first | with_reducible refine Calmly.gl_tt ?_ (fun _ _ => ?_) | with_reducible refine Calmly.gl_ff ?_ (fun _ _ => ?_)); (first | exact .move _ | exact .load _ _ | exact .fieldAddr _ _ _ (by kernel_rfl) | exact .assign _ | exact .binOp _ _ _ _ _ rfl | exact .indexAddr _ _ _ | exact .len _ _ (by kernel_rfl) | exact .field _ _ _ | exact .extract _ _ | exact .pick _ _ _ | exact .build _ _ | exact .slice _ _ _ _ _ | exact .unOp _ _ _ rfl | exact .index _ _ _ | exact .max _ _ _ rfl rfl | exact .min _ _ _ rfl rfl | exact .nilCheck _ _ rfl)) | with_reducible refine Calmly.gl_tf (fun _ _ => ?_) | with_reducible refine Calmly.gl_ft (fun _ _ => ?_)) | ((with_reducible refine Calmly.is_eff ?_); refine Calmly.mix_eff rfl (fun _ _ => ?_)) | ((with_reducible refine Calmly.is_gf ?_); refine Calmly.mix_gf rfl rfl rfl ?_; first | with_reducible refine Calmly.gf_tt (fun _ _ => ?_) | with_reducible refine Calmly.gf_ff (fun _ _ => ?_) | with_reducible refine Calmly.gf_tf (kept_of hk) (fun _ _ => ?_) | with_reducible refine Calmly.gf_ft (kept_of hk) (fun _ _ => ?_)) | ((with_reducible refine Calmly.is_tail ?_); first | refine Calmly.mix_tail_nil ?_ | refine Calmly.mix_tail rfl (fun _ _ => ?_)) | ((with_reducible refine Calmly.is_kept ?_); refine ⟨kept_of hk, ?_⟩) | (with_reducible refine Calmly.mix_alt ?_ ?_) | (go_at_call 62; refine (rSameState_any xa1 xa2 xa3 ya1 ya2 ya3 xn1 xc1 xn2 xc2 xn3 xc3 yn1 yc1 yn2 yc2 yn3 yc3 X Y _ (U1.out.keep hk) (V1.out.keep hk)).mono ?_; rintro e w5 ⟨rfl, hb5⟩; replace hk := step_of hk hb5; rw [show decide (X = Y) = false by simpa using HE.out]))
          go_ret
          refine ⟨ret_bool ?_, hb3.trans (hk.mono hb3.size)⟩
          have hne : ¬ ss = ts := fun h => by
            subst h
            exact HE.out (HX.out.symm.trans HY.out)
          rw [← HR.out]
          simp [hne]
      · have hle : (n : Int) ≤ (k : Int) := by omega
        obtain rfl : n = k := by omega
        clear hlt hk
        go_wp2_with fail
        go_ret
        refine ⟨ret_bool ?_, hb⟩
        have h5 := HT.out
        rw [List.take_of_length_le (by have := HL.out; omega), List.take_of_length_le (by have := HL'.out; omega)] at h5
        rw [← HR.out]
        simp [h5]
end Go.Proofs.Ytaiikekgckjdeaa

namespace Go.Proofs.Ytaiikekgckjdeaa
open Go.RowKit
open Calmly (Kept)
/-- All states of a run. -/
def allS (fs : List Fl) (m : List Int) : List St := bgSt fs :: (runS fs (bgSt fs) m).1
theorem allS_ok {fs : List Fl} (ok : (frmE fs).2 = 0) (m : List Int) {s : St} (h : s ∈ allS fs m) : s.1.length = fs.length ∧ ∀ j : Nat, -1000000 ≤ s.1[j]?.getD 0 ∧ s.1[j]?.getD 0 ≤ 1000000 := by
  have h5 := (frmE_ok ok).1
  rcases List.mem_cons.1 h with rfl | h
  · refine ⟨by simp [bgSt], fun j => ?_⟩
    have e : (bgSt fs).1[j]?.getD 0 = 0 := by
      simp only [bgSt, List.getElem?_replicate]
      split <;> rfl
    rw [e]
    omega
  · have hl := runS_len h
    refine ⟨hl, fun j => ?_⟩
    have := dr_bd (runS_dr ok h) hl j
    omega
theorem allS_at {fs : List Fl} (ok : (frmE fs).2 = 0) (m : List Int) {i : Nat} (hi : i < (allS fs m).length) : ((allS fs m)[i]?.getD st0').1.length = fs.length ∧ ∀ j : Nat, -1000000 ≤ ((allS fs m)[i]?.getD st0').1[j]?.getD 0 ∧ ((allS fs m)[i]?.getD st0').1[j]?.getD 0 ≤ 1000000 := by
  have e : (allS fs m)[i]?.getD st0' = (allS fs m)[i] := by simp [hi]
  rw [e]
  exact allS_ok ok m (List.getElem_mem hi)
theorem runE_two (fs : List Fl) (m : List Int) : runE fs m = if (frmE fs).2 = 0 then rmoE m else (frmE fs).2 := by
  by_cases h : (frmE fs).2 = 0
  · rw [if_pos h, runE, first_ok h, rmoE]
    by_cases h6 : (m.length : Int) ≤ 60
    · simp [h6, unlessE]
    · simp [h6, unlessE]
  · rw [if_neg h, runE, first_bad h, if_neg h]
theorem rmoE_ok {m : List Int} (h : rmoE m = 0) : (m.length : Int) ≤ 60 ∧ ∀ j, j < m.length → -100 ≤ m[j]?.getD 0 ∧ m[j]?.getD 0 ≤ 100 := by
  rw [rmoE] at h
  split at h
  · rename_i h6
    refine ⟨h6, fun j hj => ?_⟩
    have h5 := eaF_all (n := m.length) (k := 0) (m := m.length) (by omega) h j (by omega) hj
    exact szd_iff.1 (unlessG_zero h5 (by decide))
  · cases h
/-- Which storey collapses lies within the frame. -/
theorem colF_lt {bad : Nat → Bool} : ∀ {k m : Nat}, colF bad k m < (k : Int) + (m : Int)
  | k, 0 => by rw [colF]; omega
  | k, m + 1 => by
    rw [colF]
    split
    · omega
    · have := colF_lt (bad := bad) (k := k + 1) (m := m)
      omega
theorem colF_ge {bad : Nat → Bool} : ∀ {k m : Nat}, -1 ≤ colF bad k m
  | k, 0 => by rw [colF]; omega
  | k, m + 1 => by
    rw [colF]
    split
    · omega
    · exact colF_ge
/-- How a run goes: step by step, to its end or to a collapse. -/
theorem runS_steps {fs : List Fl} : ∀ (m : List Int) (s : St), (runS fs s m).1.length ≤ m.length ∧ ((runS fs s m).2 < 0 → (runS fs s m).1.length = m.length) ∧ (runS fs s m).2 < (fs.length : Int) ∧
    (∀ i, i < (runS fs s m).1.length → colF (badS fs (nxts fs ((s :: (runS fs s m).1)[i]?.getD st0') (m[i]?.getD 0))) 0 fs.length < 0 ∧ (runS fs s m).1[i]?.getD st0' = steS fs ((s :: (runS fs s m).1)[i]?.getD st0') (nxts fs ((s :: (runS fs s m).1)[i]?.getD st0') (m[i]?.getD 0))) ∧
    ((runS fs s m).1.length < m.length → 0 ≤ (runS fs s m).2 ∧ ¬ colF (badS fs (nxts fs ((s :: (runS fs s m).1)[(runS fs s m).1.length]?.getD st0') (m[(runS fs s m).1.length]?.getD 0))) 0 fs.length < 0)
  | [], s => by
    refine ⟨by simp [runS], fun _ => by simp [runS], by simp [runS]; omega, fun i hi => absurd hi (by simp [runS]), fun h => absurd h (by simp [runS])⟩
  | g :: m, s => by
    rw [runS]
    split
    · rename_i hc
      obtain ⟨h1, h2, h3, h4, h5⟩ := runS_steps m (steS fs s (nxts fs s g))
      refine ⟨by simpa using h1, fun h => by simpa using h2 h, h3, fun i hi => ?_, fun h => ?_⟩
      · cases i with
        | zero => exact ⟨hc, rfl⟩
        | succ i => exact h4 i (by simpa using hi)
      · exact h5 (by simpa using h)
    · rename_i hc
      refine ⟨by simp, fun h => absurd h hc, ?_, fun i hi => absurd hi (by simp), fun _ => ⟨?_, hc⟩⟩
      · have := colF_lt (bad := badS fs (nxts fs s g)) (k := 0) (m := fs.length)
        show colF (badS fs (nxts fs s g)) 0 fs.length < _
        omega
      · show 0 ≤ colF (badS fs (nxts fs s g)) 0 fs.length
        omega
/-- A longer motion has the same states before. -/
theorem runS_more {fs : List Fl} (g : Int) : ∀ (m : List Int) (s : St), ∃ R, (runS fs s (m ++ [g])).1 = (runS fs s m).1 ++ R ∧ (0 ≤ (runS fs s m).2 → R = [] ∧ (runS fs s (m ++ [g])).2 = (runS fs s m).2)
  | [], s => ⟨(runS fs s [g]).1, by simp [runS], fun h => by simp [runS] at h⟩
  | x :: m, s => by
    rw [List.cons_append, runS, runS]
    split
    · obtain ⟨R, h1, h2⟩ := runS_more g m (steS fs s (nxts fs s x))
      exact ⟨R, by simp [h1], h2⟩
    · exact ⟨[], by simp, fun _ => ⟨rfl, rfl⟩⟩
/-- The errors of a motion that is one longer. -/
theorem rmoE_more {m : List Int} {g : Int} (h : rmoE m = 0) (hl : m.length ≤ 20) (hg : grd g = true) : rmoE (m ++ [g]) = 0 := by
  have h1 := rmoE_ok h
  rw [rmoE, if_pos (by simp; omega), motE]
  have h2 : ∀ i, 0 ≤ i → i < 0 + (m ++ [g]).length → unlessE (grd ((m ++ [g])[i]?.getD 0)) 2 = 0 := by
    intro i _ hi
    rw [List.length_append] at hi
    simp at hi
    by_cases e : i < m.length
    · rw [List.getElem?_append_left e]
      have h5 := h1.2 i e
      have : grd (m[i]?.getD 0) = true := szd_iff.2 h5
      rw [this]
      rfl
    · have e2 : i = m.length := by omega
      subst e2
      rw [List.getElem?_append_right (Nat.le_refl _), Nat.sub_self]
      show unlessE (grd g) 2 = 0
      rw [hg]
      rfl
  have h3 : ∀ {k m' : Nat} {err : Nat → Int}, (∀ j, k ≤ j → j < k + m' → err j = 0) → eaF err k m' = (0, 0) := by
    intro k m'
    induction m' generalizing k with
    | zero => intro err _; rfl
    | succ m' ih =>
      intro err h
      rw [eaF, if_pos (h k (by omega) (by omega))]
      exact ih (fun j h1 h2 => h j (by omega) (by omega))
  rw [h3 (fun j hj1 hj2 => h2 j hj1 hj2)]
end Go.Proofs.Ytaiikekgckjdeaa

namespace Go.Proofs.Ytaiikekgckjdeaa
open Go.RowKit
theorem baK_eq (fs : List Fl) (s : St) (g : Int) (i : Nat) : baK fs s g i = baS fs s g i - baG fs s g i - baR fs s g i := by
  have hV : baV fs s g i = baU s i + baP fs s i / baM fs i - g := by
    unfold baV baU baP baM nxS
    omega
  have hP := Int.mul_ediv_add_emod (baP fs s i) (baM fs i)
  unfold baK baS baG baR
  rw [hV]
  generalize baU s i = U at *
  generalize baM fs i = M at *
  generalize baP fs s i = P at *
  generalize P / M = q at *
  generalize P % M = r at *
  subst hP
  grind
theorem bal_sum (fs : List Fl) (s : St) (g : Int) (n : Nat) : sumR (baK fs s g) n = sumR (baS fs s g) n + -sumR (baG fs s g) n - sumR (baR fs s g) n := by
  induction n with
  | zero => rfl
  | succ n ih =>
    rw [sumR, sumR, sumR, sumR, ih, baK_eq]
    omega
/-- What the springs gave, floor by floor from below. -/
def spT (fs : List Fl) (s : St) (g : Int) (j : Nat) : Int := -(frS fs s j * (baV fs s g j + baU s j)) + if j = 0 then 0 else frS fs s j * (baV fs s g (j - 1) + baU s (j - 1))
theorem spT_sum (fs : List Fl) (s : St) (g : Int) : ∀ k, k ≤ fs.length → sumR (baS fs s g) k = sumR (spT fs s g) k + (if k = 0 then 0 else if k < fs.length then frS fs s k * (baV fs s g (k - 1) + baU s (k - 1)) else 0) := by
  intro k
  induction k with
  | zero => intro _; rfl
  | succ k ih =>
    intro hk
    have h := ih (by omega)
    rw [sumR, sumR, h, if_neg (show ¬ k + 1 = 0 by omega), Nat.add_sub_cancel]
    unfold baS spT baP psA
    by_cases h1 : k + 1 < fs.length
    · rw [if_pos h1, if_pos h1]
      by_cases h0 : k = 0
      · subst h0
        simp only [if_pos]
        grind
      · rw [if_neg h0, if_pos (show k < fs.length by omega)]
        simp only [h0, if_false]
        grind
    · rw [if_neg h1, if_pos (show k + 1 = fs.length by omega), if_neg h1]
      by_cases h0 : k = 0
      · subst h0
        simp only [if_pos]
        grind
      · rw [if_neg h0, if_pos (show k < fs.length by omega)]
        simp only [h0, if_false]
        grind
theorem spT_all (fs : List Fl) (s : St) (g : Int) : sumR (spT fs s g) fs.length = sumR (baS fs s g) fs.length := by
  have h := spT_sum fs s g fs.length (Nat.le_refl _)
  rw [h]
  by_cases h0 : fs.length = 0
  · rw [if_pos h0]
    omega
  · rw [if_neg h0, if_neg (by omega)]
    omega
theorem rest_ones {fs : List Fl} {s : St} {g : Int} : ∀ n, (∀ i, i < n → baM fs i = 1) → sumR (baR fs s g) n = 0 := by
  intro n
  induction n with
  | zero => intro _; rfl
  | succ n ih =>
    intro h
    rw [sumR, ih (fun i hi => h i (by omega)), baR, h n (by omega), Int.emod_one]
    simp
/-- A state that fits is valid. -/
theorem stf_zero {fs : List Fl} {s : St} (ok : StOk fs s) (h1 : ∀ i, i < fs.length → plc (s.1[i]?.getD 0) = true) (h2 : ∀ i, i < fs.length → plc (s.2.1[i]?.getD 0) = true) (h3 : ∀ i, i < fs.length → (s.2.2[i]?.getD ho0).1 = dr s.1 i) (h4 : ∀ i, i < fs.length → szd (dr s.1 i) (fs[i]?.getD fl0).2.1 = true) : (stfE fs s).2 = 0 := by
  rw [stfE, if_pos ⟨ok.now, ok.bef, ok.hol⟩, eaF_nil (fun i _ hi => ?_)]
  have hi' : i < fs.length := by omega
  rw [stErr, if_pos ⟨h1 i hi', h2 i hi'⟩, first3, (ok.ok i hi').hld, h3 i hi', h4 i hi']
  simp [unlessE]
theorem bg_stf {fs : List Fl} (hf : (frmE fs).2 = 0) : (stfE fs (bgSt fs)).2 = 0 := by
  have hz : ∀ i : Nat, (List.replicate fs.length (0 : Int))[i]?.getD 0 = 0 := by
    intro j
    simp only [List.getElem?_replicate]
    split <;> rfl
  refine stf_zero (bgSt_ok hf) (fun i hi => ?_) (fun i hi => ?_) (fun i hi => ?_) (fun i hi => ?_)
  · rw [show (bgSt fs).1[i]?.getD 0 = 0 from hz i]
    decide
  · rw [show (bgSt fs).2.1[i]?.getD 0 = 0 from hz i]
    decide
  · rw [dr_bg]
    simp [bgSt, hi]
  · rw [dr_bg]
    have := (flErr_ok ((frmE_ok hf).2 i hi)).2.1
    exact szd_iff.2 (by omega)
theorem ste_stf {fs : List Fl} {s : St} {g : Int} (ok : StOk fs s) (hs : (stfE fs s).2 = 0) (hc : colF (badS fs (nxts fs s g)) 0 fs.length < 0) : StOk fs (steS fs s (nxts fs s g)) ∧ (stfE fs (steS fs s (nxts fs s g))).2 = 0 := by
  have ok2 := steS_ok ok hc
  have h5 := (frmE_ok ok.frm).1
  have hb := badS_ok ok.frm hc
  refine ⟨ok2, stf_zero ok2 (fun i hi => ?_) (fun i hi => ?_) (fun i hi => ?_) (fun i hi => ?_)⟩
  · have := dr_bd hb (nxts_len fs s g) i
    exact plc_iff.2 (by show -10000 ≤ (nxts fs s g)[i]?.getD 0 ∧ (nxts fs s g)[i]?.getD 0 ≤ 10000; omega)
  · exact stErr_plc ((stf_ok ok.frm hs).2 i hi)
  · simp [steS, hi, hoS]
  · have h1 := colF_bd hc i (by omega) (by omega)
    unfold badS at h1
    show szd (dr (nxts fs s g) i) (fs[i]?.getD fl0).2.1 = true
    simpa using h1
theorem run_stf {fs : List Fl} : ∀ (m : List Int) (s : St), StOk fs s → (stfE fs s).2 = 0 → ∀ t ∈ s :: (runS fs s m).1, StOk fs t ∧ (stfE fs t).2 = 0
  | [], s, ok, hs, t, ht => by
    simp [runS] at ht
    subst ht
    exact ⟨ok, hs⟩
  | g :: m, s, ok, hs, t, ht => by
    rcases List.mem_cons.1 ht with rfl | ht
    · exact ⟨ok, hs⟩
    · rw [runS] at ht
      split at ht
      · rename_i hc
        obtain ⟨k1, k2⟩ := ste_stf ok hs hc
        exact run_stf m _ k1 k2 t ht
      · cases ht
theorem all_stf {fs : List Fl} (hf : (frmE fs).2 = 0) (m : List Int) {i : Nat} (hi : i < (allS fs m).length) : StOk fs ((allS fs m)[i]?.getD st0') ∧ (stfE fs ((allS fs m)[i]?.getD st0')).2 = 0 := by
  have e : (allS fs m)[i]?.getD st0' = (allS fs m)[i] := by simp [hi]
  rw [e]
  exact run_stf m _ (bgSt_ok hf) (bg_stf hf) _ (List.getElem_mem hi)
end Go.Proofs.Ytaiikekgckjdeaa

namespace Go.Proofs.Ytaiikekgckjdeaa
open Go.RowKit
open Calmly (Kept)
/-- What lies between two rounds. -/
structure BlI (w : World) (K S G R : Int) (W : World) : Prop where
  bel : Below w.heap.size w W
  t2 : W.heap[w.heap.size]? = some (.cells #[.int .i64 0, .int .i64 0, .int .i64 0, .int .i64 0] 103)
  t3 : W.heap[w.heap.size + 1]? = some (.cells #[.int .i64 K, .int .i64 S, .int .i64 G, .int .i64 R] 103)
theorem BlI.keep {w W W' : World} {K S G R : Int} (h : BlI w K S G R W) (hb : Below W.heap.size W W') : BlI w K S G R W' := ⟨h.bel.trans (hb.mono h.bel.size), blk_keep h.t2 hb, blk_keep h.t3 hb⟩
theorem BlI.set0 {w W : World} {K S G R : Int} (h : BlI w K S G R W) (x : Int) : BlI w x S G R (W.setCell ⟨w.heap.size + 1, 0, none⟩ (.int .i64 x)) :=
  ⟨h.bel.setCell (by show w.heap.size ≤ w.heap.size + 1; omega) _, (Below.heap_setCell _ _ _ _ (by show w.heap.size ≠ w.heap.size + 1; omega)).trans h.t2, by have q := setBlk h.t3 0 (.int .i64 x); simpa using q⟩
theorem BlI.set1 {w W : World} {K S G R : Int} (h : BlI w K S G R W) (x : Int) : BlI w K x G R (W.setCell ⟨w.heap.size + 1, 1, none⟩ (.int .i64 x)) :=
  ⟨h.bel.setCell (by show w.heap.size ≤ w.heap.size + 1; omega) _, (Below.heap_setCell _ _ _ _ (by show w.heap.size ≠ w.heap.size + 1; omega)).trans h.t2, by have q := setBlk h.t3 1 (.int .i64 x); simpa using q⟩
theorem BlI.set2 {w W : World} {K S G R : Int} (h : BlI w K S G R W) (x : Int) : BlI w K S x R (W.setCell ⟨w.heap.size + 1, 2, none⟩ (.int .i64 x)) :=
  ⟨h.bel.setCell (by show w.heap.size ≤ w.heap.size + 1; omega) _, (Below.heap_setCell _ _ _ _ (by show w.heap.size ≠ w.heap.size + 1; omega)).trans h.t2, by have q := setBlk h.t3 2 (.int .i64 x); simpa using q⟩
theorem BlI.set3 {w W : World} {K S G R : Int} (h : BlI w K S G R W) (x : Int) : BlI w K S G x (W.setCell ⟨w.heap.size + 1, 3, none⟩ (.int .i64 x)) :=
  ⟨h.bel.setCell (by show w.heap.size ≤ w.heap.size + 1; omega) _, (Below.heap_setCell _ _ _ _ (by show w.heap.size ≠ w.heap.size + 1; omega)).trans h.t2, by have q := setBlk h.t3 3 (.int .i64 x); simpa using q⟩
set_option maxRecDepth 100000 in
set_option maxHeartbeats 4000000 in
theorem balance_any (b : Nat) (a a1 a2 a3 pa xa : Option Addr) (n c c1 c2 c3 pc xc : Nat) (g : Int) (raw : List FlR) (fs : List Fl) (s : St) (w : World) (h1 : FrV w a n c raw fs) (hx : w.heap[b]? = some (.cells #[.slice a n c, .slice a1 n c1, .slice a2 n c2, .slice a3 n c3, .int .i64 g, .slice pa n pc, .slice xa n xc] 188)) (v1 : SI w a1 n c1 s.1) (v2 : SI w a2 n c2 s.2.1) (vp : SI w pa n pc (psF (frS fs s) n n)) (vx : SI w xa n xc (nxts fs s g))
    (ok : StOk fs s) (hg : -100 ≤ g ∧ g ≤ 100) (hp1 : ∀ i : Nat, -10000 ≤ s.1[i]?.getD 0 ∧ s.1[i]?.getD 0 ≤ 10000) (hp2 : ∀ i : Nat, -10000 ≤ s.2.1[i]?.getD 0 ∧ s.2.1[i]?.getD 0 ≤ 10000) :
    Calls Try.prog 119 #[.pointer (some ⟨b, 0, none⟩)] w fun e w' => e = .returned (.agg #[.int .i64 (sumR (baK fs s g) n), .int .i64 (sumR (baS fs s g) n), .int .i64 (-sumR (baG fs s g) n), .int .i64 (sumR (baR fs s g) n)]) ∧ Below w.heap.size w w' := by
  have hn := h1.n_
  have m0 := h1.row.max
  have q0 := h1.row.cap
  have m1 := v1.max
  have q1 := v1.cap
  have m2 := v2.max
  have q2 := v2.cap
  have m3 := vp.max
  have q3 := vp.cap
  have m4 := vx.max
  have q4 := vx.cap
  have HN := Lib.hid hn
  have HAT := Lib.hid (fun (i : Nat) (hi : i < fs.length) => baF_at (g := g) ok hg hp1 hp2 hi)
  have HBD := Lib.hid (fun (k : Nat) (hk : k ≤ fs.length) => bal_bd (g := g) ok hg hp1 hp2 hk)
  have hbw := blk_lt hx
  clear hn ok hp1 hp2
  have y2 := blk_keep (alloc_new w (.cells #[.int .i64 0, .int .i64 0, .int .i64 0, .int .i64 0] 103)) ((Below.refl _ _).alloc (Nat.le_refl _) (.cells #[.int .i64 0, .int .i64 0, .int .i64 0, .int .i64 0] 103))
  have y3 := alloc_new (w.alloc (.cells #[.int .i64 0, .int .i64 0, .int .i64 0, .int .i64 0] 103)) (.cells #[.int .i64 0, .int .i64 0, .int .i64 0, .int .i64 0] 103)
  have BW : Below w.heap.size w ((w.alloc (.cells #[.int .i64 0, .int .i64 0, .int .i64 0, .int .i64 0] 103)).alloc (.cells #[.int .i64 0, .int .i64 0, .int .i64 0, .int .i64 0] 103)) := ((Below.refl _ _).alloc (Nat.le_refl _) _).alloc (by simp) _
  simp only [World.size_alloc] at y3
  have f0 := cell_block (blk_keep hx BW) 0
  go_enter Try.func119, Try.ntmps119
  go_wp2_with fail
  have hI0 : BlI w 0 0 0 0 ((w.alloc (.cells #[.int .i64 0, .int .i64 0, .int .i64 0, .int .i64 0] 103)).alloc (.cells #[.int .i64 0, .int .i64 0, .int .i64 0, .int .i64 0] 103)) := ⟨BW, y2, y3⟩
  clear y2 y3 BW f0
  generalize (w.alloc (.cells #[.int .i64 0, .int .i64 0, .int .i64 0, .int .i64 0] 103)).alloc (.cells #[.int .i64 0, .int .i64 0, .int .i64 0, .int .i64 0] 103) = W at *
  go_loopw [15] (fun i wr => ∃ k : Nat, k ≤ n ∧ i = .int .i64 (k : Int) ∧ BlI w (sumR (baK fs s g) k) (sumR (baS fs s g) k) (-sumR (baG fs s g) k) (sumR (baR fs s g) k) wr) (fun i _ => n - (intOf i).toNat)
  case atStart => exact ⟨0, by omega, rfl, hI0⟩
  case round =>
    clear hI0
    obtain ⟨k, hk, rfl, hI⟩ := hrel
    by_cases hlt : k < n
    · have hkl : k < fs.length := by have := HN.out; omega
      obtain ⟨V, U, Wv, VV, UU, DV, KF, SF, MG, GF, FQ, MQ, RR, RF, hF, e1, e2, e3, e4⟩ := HAT.out k hkl
      obtain ⟨bK, bS, bG, bR⟩ := HBD.out k (by omega)
      have s1 : sumR (baK fs s g) (k + 1) = sumR (baK fs s g) k + KF := by rw [sumR, e1]
      have s2 : sumR (baS fs s g) (k + 1) = sumR (baS fs s g) k + SF := by rw [sumR, e2]
      have s3 : -sumR (baG fs s g) (k + 1) = -sumR (baG fs s g) k - GF := by rw [sumR, e3]; omega
      have s4 : sumR (baR fs s g) (k + 1) = sumR (baR fs s g) k + RF := by rw [sumR, e4]
      have bG2 : -3000000000000000000 ≤ -sumR (baG fs s g) k ∧ -sumR (baG fs s g) k ≤ 3000000000000000000 := by omega
      have S1 := Lib.hid s1
      have S2 := Lib.hid s2
      have S3 := Lib.hid s3
      have S4 := Lib.hid s4
      obtain ⟨K0, hK0⟩ : ∃ x, sumR (baK fs s g) k = x := ⟨_, rfl⟩
      obtain ⟨S0, hS0⟩ : ∃ x, sumR (baS fs s g) k = x := ⟨_, rfl⟩
      obtain ⟨G0, hG0⟩ : ∃ x, -sumR (baG fs s g) k = x := ⟨_, rfl⟩
      obtain ⟨R0, hR0⟩ : ∃ x, sumR (baR fs s g) k = x := ⟨_, rfl⟩
      rw [hK0] at hI bK
      rw [hS0] at hI bS
      rw [hG0] at hI bG2
      rw [hR0] at hI bR
      have T1 := Lib.hid (s1.trans (by rw [hK0]))
      have T2 := Lib.hid (s2.trans (by rw [hS0]))
      have T3 := Lib.hid (s3.trans (by rw [hG0]))
      have T4 := Lib.hid (s4.trans (by rw [hR0]))
      clear e1 e2 e3 e4 s1 s2 s3 s4 bG hK0 hS0 hG0 hR0 S1 S2 S3 S4
      -- the rows at w
      obtain ⟨fb, fo, rfl, hcf⟩ := h1.row.at_ (by omega)
      obtain ⟨z0, z1, z2⟩ := hcf k hlt
      obtain ⟨d0, -, -⟩ := h1.fl k hkl
      obtain ⟨gb1, o1, rfl, hc1⟩ := v1.at_ (by omega)
      obtain ⟨gb2, o2, rfl, hc2⟩ := v2.at_ (by omega)
      obtain ⟨gb3, o3, rfl, hc3⟩ := vp.at_ (by omega)
      obtain ⟨gb4, o4, rfl, hc4⟩ := vx.at_ (by omega)
      have r1 := hc1 k hlt
      have r2 := hc2 k hlt
      have r3 := hc3 k hlt
      have r4 := hc4 k hlt
      rw [psF_get _ hlt] at r3
      have hnx : (nxts fs s g)[k]?.getD 0 = nxS fs s g k := by simp [nxts, hkl]
      rw [hnx] at r4
      have hps : psA (frS fs s) n k = baP fs s k := by rw [baP, HN.out]
      rw [hps] at r3
      obtain ⟨rr, hrr⟩ : ∃ rr, raw[k]?.getD flr0 = rr := ⟨_, rfl⟩
      obtain ⟨x0, x1, ⟨u1, u2, u3⟩⟩ := rr
      rw [hrr] at z0 z1 z2 d0
      dsimp only [hv] at z0 z1 z2 d0
      have hmm : baM fs k = x0 := d0.symm
      rw [hmm] at hF
      obtain ⟨X, hX⟩ : ∃ x, nxS fs s g k = x := ⟨_, rfl⟩
      obtain ⟨NW, hNW⟩ : ∃ x, s.1[k]?.getD 0 = x := ⟨_, rfl⟩
      obtain ⟨BF, hBF⟩ : ∃ x, s.2.1[k]?.getD 0 = x := ⟨_, rfl⟩
      obtain ⟨P, hP⟩ : ∃ x, baP fs s k = x := ⟨_, rfl⟩
      rw [hX] at r4 hF
      rw [hNW] at r1 hF
      rw [hBF] at r2 hF
      rw [hP] at r3 hF
      clear hcf hc1 hc2 hc3 hc4 hnx hps hrr hmm d0 hX hNW hBF hP
      obtain ⟨q1', q2', q3', q4', q5', q6', q7', q8', q9', q10', q11', q12', q13', -, q15', bv, bu, bw, bvv, buu, bkf, bsf, bmg, bgf, bfq, bmq, brr, brf, bm, bp, bg, bx, bnw, bbf⟩ := hF
      obtain ⟨bK1, bK2⟩ := bK
      obtain ⟨bS1, bS2⟩ := bS
      obtain ⟨bG1, bG2⟩ := bG2
      obtain ⟨bR1, bR2⟩ := bR
      have hi1 : (k : Int) < (n : Int) := by omega
      have hi0 : (0 : Int) ≤ (k : Int) := by omega
      have hB := hI.bel
      have zz0 := cell_keep z0 hB
      have zz1 := cell_keep z1 hB
      have zz2 := cell_keep z2 hB
      have BA : Below wr.heap.size wr (wr.alloc (.cells #[.int .i64 x0, .int .i64 x1, .slice u1 u2 u3] 130)) := (Below.refl _ _).alloc (Nat.le_refl _) _
      have y5 := alloc_new wr (.cells #[.int .i64 x0, .int .i64 x1, .slice u1 u2 u3] 130)
      go_wp2_with fail
      obtain ⟨p5, hp5⟩ : ∃ p, wr.heap.size = p := ⟨_, rfl⟩
      have hne : p5 ≠ w.heap.size + 1 := by have := blk_lt hI.t3; omega
      rw [hp5] at y5 ⊢
      refine Calmly.wp_region_mix 34 (.fl 0 <| .fl 1 <| .fl 2 <| .fl 3 <| .fl 4 <| .fl 5 <| .fl 6 <| .fl 7 <| .fl 8 <| .fl 9 <| .fl 10 <| .fl 11 <| .fl 12 <| .fl 13 <| .fl 14 <| .fl 15 <| .fl 16 <| .fl 17 <| .fl 18 <| .fl 19 <| .fl 20 <| .fl 21 <| .fl 22 <| .fl 23 <| .fl 24 <| .fl 25 <| .fl 26 <| .fl 27 <| .fl 28 <| .fl 29 <| .fl 30 <| .fl 31 <| .fl 32 <| .fl 33 <| .tail [34]) (by kernel_rfl) (by kernel_rfl) ?_
      have hIV := (hI.keep BA).keep ((Below.refl _ _).drew)
      replace y5 := blk_keep y5 ((Below.refl _ _).drew)
      clear BA hI hB zz0 zz1 zz2
      generalize World.drew _ = V5 at *
      have hBV := hIV.bel
      have hxV := blk_keep hx hBV
      have cb1 := cell_block hxV 1
      have cb2 := cell_block hxV 2
      have cb6 := cell_block hxV 6
      have w1' := cell_keep r1 hBV
      have w2' := cell_keep r2 hBV
      have w3' := cell_keep r3 hBV
      have w4' := cell_keep r4 hBV
      have c50 := cell_block y5 0
      have c3 := cell_block hIV.t3 0
      have n3 := frozen_block hIV.t3 0
      have hk := Below.refl V5.heap.size V5
      go_wp2_with (first | ((with_reducible refine Calmly.is_fl ?_); refine Calmly.mix_fl rfl ?_ (fun _ _ => ?_); (first | exact .move _ | exact .load _ _ | exact .fieldAddr _ _ _ (by kernel_rfl) | exact .assign _ | exact .binOp _ _ _ _ _ rfl | exact .indexAddr _ _ _ | exact .len _ _ (by kernel_rfl) | exact .field _ _ _ | exact .extract _ _ | exact .pick _ _ _ | exact .build _ _ | exact .slice _ _ _ _ _ | exact .unOp _ _ _ rfl | exact .index _ _ _ | exact .max _ _ _ rfl rfl | exact .min _ _ _ rfl rfl | exact .nilCheck _ _ rfl)) | ((with_reducible refine Calmly.is_gl ?_); refine Calmly.mix_gl rfl rfl rfl ?_; first | ((first | with_reducible refine Calmly.gl_tt ?_ (fun _ _ => ?_) | with_reducible refine Calmly.gl_ff ?_ (fun _ _ => ?_)); (first | exact .move _ | exact .load _ _ | exact .fieldAddr _ _ _ (by kernel_rfl) | exact .assign _ | exact .binOp _ _ _ _ _ rfl | exact .indexAddr _ _ _ | exact .len _ _ (by kernel_rfl) | exact .field _ _ _ | exact .extract _ _ | exact .pick _ _ _ | exact .build _ _ | exact .slice _ _ _ _ _ | exact .unOp _ _ _ rfl | exact .index _ _ _ | exact .max _ _ _ rfl rfl | exact .min _ _ _ rfl rfl | exact .nilCheck _ _ rfl)) | with_reducible refine Calmly.gl_tf (fun _ _ => ?_) | with_reducible refine Calmly.gl_ft (fun _ _ => ?_)) | ((with_reducible refine Calmly.is_eff ?_); refine Calmly.mix_eff rfl (fun _ _ => ?_)) | ((with_reducible refine Calmly.is_gf ?_); refine Calmly.mix_gf rfl rfl rfl ?_; first | with_reducible refine Calmly.gf_tt (fun _ _ => ?_) | with_reducible refine Calmly.gf_ff (fun _ _ => ?_) | with_reducible refine Calmly.gf_tf (kept_of hk) (fun _ _ => ?_) | with_reducible refine Calmly.gf_ft (kept_of hk) (fun _ _ => ?_)) | ((with_reducible refine Calmly.is_tail ?_); first | refine Calmly.mix_tail_nil ?_ | refine Calmly.mix_tail rfl (fun _ _ => ?_)) | ((with_reducible refine Calmly.is_kept ?_); refine ⟨kept_of hk, ?_⟩) | (with_reducible refine Calmly.mix_alt ?_ ?_))
      clear hk
      clear hBV hxV cb1 cb2 cb6 w1' w2' w3' w4' c3 n3 c50
      replace hIV := hIV.set0 (K0 + KF)
      replace y5 : (V5.setCell ⟨w.heap.size + 1, 0, none⟩ (.int .i64 (K0 + KF))).heap[p5]? = _ := (Below.heap_setCell _ _ _ _ hne).trans y5
      refine Calmly.wp_region_mix 11 (.fl 0 <| .fl 1 <| .fl 2 <| .fl 3 <| .fl 4 <| .fl 5 <| .fl 6 <| .fl 7 <| .fl 8 <| .fl 9 <| .fl 10 <| .tail [11, 12, 13]) (by kernel_rfl) (by kernel_rfl) ?_
      replace hIV := hIV.keep ((Below.refl _ _).drew)
      replace y5 := blk_keep y5 ((Below.refl _ _).drew)
      generalize World.drew _ = V8 at *
      have hBV := hIV.bel
      have hxV := blk_keep hx hBV
      have cb5 := cell_block hxV 5
      have w1' := cell_keep r1 hBV
      have w2' := cell_keep r2 hBV
      have w3' := cell_keep r3 hBV
      have w4' := cell_keep r4 hBV
      have c50 := cell_block y5 0
      have c3 := cell_block hIV.t3 1
      have n3 := frozen_block hIV.t3 1
      have hk := Below.refl V8.heap.size V8
      go_wp2_with (first | ((with_reducible refine Calmly.is_fl ?_); refine Calmly.mix_fl rfl ?_ (fun _ _ => ?_); (first | exact .move _ | exact .load _ _ | exact .fieldAddr _ _ _ (by kernel_rfl) | exact .assign _ | exact .binOp _ _ _ _ _ rfl | exact .indexAddr _ _ _ | exact .len _ _ (by kernel_rfl) | exact .field _ _ _ | exact .extract _ _ | exact .pick _ _ _ | exact .build _ _ | exact .slice _ _ _ _ _ | exact .unOp _ _ _ rfl | exact .index _ _ _ | exact .max _ _ _ rfl rfl | exact .min _ _ _ rfl rfl | exact .nilCheck _ _ rfl)) | ((with_reducible refine Calmly.is_gl ?_); refine Calmly.mix_gl rfl rfl rfl ?_; first | ((first | with_reducible refine Calmly.gl_tt ?_ (fun _ _ => ?_) | with_reducible refine Calmly.gl_ff ?_ (fun _ _ => ?_)); (first | exact .move _ | exact .load _ _ | exact .fieldAddr _ _ _ (by kernel_rfl) | exact .assign _ | exact .binOp _ _ _ _ _ rfl | exact .indexAddr _ _ _ | exact .len _ _ (by kernel_rfl) | exact .field _ _ _ | exact .extract _ _ | exact .pick _ _ _ | exact .build _ _ | exact .slice _ _ _ _ _ | exact .unOp _ _ _ rfl | exact .index _ _ _ | exact .max _ _ _ rfl rfl | exact .min _ _ _ rfl rfl | exact .nilCheck _ _ rfl)) | with_reducible refine Calmly.gl_tf (fun _ _ => ?_) | with_reducible refine Calmly.gl_ft (fun _ _ => ?_)) | ((with_reducible refine Calmly.is_eff ?_); refine Calmly.mix_eff rfl (fun _ _ => ?_)) | ((with_reducible refine Calmly.is_gf ?_); refine Calmly.mix_gf rfl rfl rfl ?_; first | with_reducible refine Calmly.gf_tt (fun _ _ => ?_) | with_reducible refine Calmly.gf_ff (fun _ _ => ?_) | with_reducible refine Calmly.gf_tf (kept_of hk) (fun _ _ => ?_) | with_reducible refine Calmly.gf_ft (kept_of hk) (fun _ _ => ?_)) | ((with_reducible refine Calmly.is_tail ?_); first | refine Calmly.mix_tail_nil ?_ | refine Calmly.mix_tail rfl (fun _ _ => ?_)) | ((with_reducible refine Calmly.is_kept ?_); refine ⟨kept_of hk, ?_⟩) | (with_reducible refine Calmly.mix_alt ?_ ?_))
      clear hk
      clear hBV hxV cb5 w1' w2' w3' w4' c3 n3 c50
      replace hIV := hIV.set1 (S0 + SF)
      replace y5 : (V8.setCell ⟨w.heap.size + 1, 1, none⟩ (.int .i64 (S0 + SF))).heap[p5]? = _ := (Below.heap_setCell _ _ _ _ hne).trans y5
      refine Calmly.wp_region_mix 11 (.fl 0 <| .fl 1 <| .fl 2 <| .fl 3 <| .fl 4 <| .fl 5 <| .fl 6 <| .fl 7 <| .fl 8 <| .fl 9 <| .fl 10 <| .tail [11, 12, 13]) (by kernel_rfl) (by kernel_rfl) ?_
      replace hIV := hIV.keep ((Below.refl _ _).drew)
      replace y5 := blk_keep y5 ((Below.refl _ _).drew)
      generalize World.drew _ = V9 at *
      have hBV := hIV.bel
      have hxV := blk_keep hx hBV
      have cb4 := cell_block hxV 4
      have w1' := cell_keep r1 hBV
      have w2' := cell_keep r2 hBV
      have w3' := cell_keep r3 hBV
      have w4' := cell_keep r4 hBV
      have c50 := cell_block y5 0
      have c3 := cell_block hIV.t3 2
      have n3 := frozen_block hIV.t3 2
      have hk := Below.refl V9.heap.size V9
      go_wp2_with (first | ((with_reducible refine Calmly.is_fl ?_); refine Calmly.mix_fl rfl ?_ (fun _ _ => ?_); (first | exact .move _ | exact .load _ _ | exact .fieldAddr _ _ _ (by kernel_rfl) | exact .assign _ | exact .binOp _ _ _ _ _ rfl | exact .indexAddr _ _ _ | exact .len _ _ (by kernel_rfl) | exact .field _ _ _ | exact .extract _ _ | exact .pick _ _ _ | exact .build _ _ | exact .slice _ _ _ _ _ | exact .unOp _ _ _ rfl | exact .index _ _ _ | exact .max _ _ _ rfl rfl | exact .min _ _ _ rfl rfl | exact .nilCheck _ _ rfl)) | ((with_reducible refine Calmly.is_gl ?_); refine Calmly.mix_gl rfl rfl rfl ?_; first | ((first | with_reducible refine Calmly.gl_tt ?_ (fun _ _ => ?_) | with_reducible refine Calmly.gl_ff ?_ (fun _ _ => ?_)); (first | exact .move _ | exact .load _ _ | exact .fieldAddr _ _ _ (by kernel_rfl) | exact .assign _ | exact .binOp _ _ _ _ _ rfl | exact .indexAddr _ _ _ | exact .len _ _ (by kernel_rfl) | exact .field _ _ _ | exact .extract _ _ | exact .pick _ _ _ | exact .build _ _ | exact .slice _ _ _ _ _ | exact .unOp _ _ _ rfl | exact .index _ _ _ | exact .max _ _ _ rfl rfl | exact .min _ _ _ rfl rfl | exact .nilCheck _ _ rfl)) | with_reducible refine Calmly.gl_tf (fun _ _ => ?_) | with_reducible refine Calmly.gl_ft (fun _ _ => ?_)) | ((with_reducible refine Calmly.is_eff ?_); refine Calmly.mix_eff rfl (fun _ _ => ?_)) | ((with_reducible refine Calmly.is_gf ?_); refine Calmly.mix_gf rfl rfl rfl ?_; first | with_reducible refine Calmly.gf_tt (fun _ _ => ?_) | with_reducible refine Calmly.gf_ff (fun _ _ => ?_) | with_reducible refine Calmly.gf_tf (kept_of hk) (fun _ _ => ?_) | with_reducible refine Calmly.gf_ft (kept_of hk) (fun _ _ => ?_)) | ((with_reducible refine Calmly.is_tail ?_); first | refine Calmly.mix_tail_nil ?_ | refine Calmly.mix_tail rfl (fun _ _ => ?_)) | ((with_reducible refine Calmly.is_kept ?_); refine ⟨kept_of hk, ?_⟩) | (with_reducible refine Calmly.mix_alt ?_ ?_))
      clear hk
      clear hBV hxV cb4 w1' w2' w3' w4' c3 n3 c50
      replace hIV := hIV.set2 (G0 - GF)
      replace y5 : (V9.setCell ⟨w.heap.size + 1, 2, none⟩ (.int .i64 (G0 - GF))).heap[p5]? = _ := (Below.heap_setCell _ _ _ _ hne).trans y5
      refine Calmly.wp_region_mix 26 (.fl 0 <| .fl 1 <| .fl 2 <| .fl 3 <| .fl 4 <| .fl 5 <| .fl 6 <| .fl 7 <| .fl 8 <| .fl 9 <| .fl 10 <| .fl 11 <| .fl 12 <| .fl 13 <| .fl 14 <| .fl 15 <| .fl 16 <| .fl 17 <| .fl 18 <| .fl 19 <| .fl 23 <| .eff 20 <| .fl 21 <| .fl 22 <| .fl 24 <| .fl 25 <| .tail [26, 27]) (by kernel_rfl) (by kernel_rfl) ?_
      replace hIV := hIV.keep ((Below.refl _ _).drew)
      replace y5 := blk_keep y5 ((Below.refl _ _).drew)
      generalize World.drew _ = V10 at *
      have hBV := hIV.bel
      have hxV := blk_keep hx hBV
      have cb5 := cell_block hxV 5
      have w1' := cell_keep r1 hBV
      have w2' := cell_keep r2 hBV
      have w3' := cell_keep r3 hBV
      have w4' := cell_keep r4 hBV
      have c50 := cell_block y5 0
      have c3 := cell_block hIV.t3 3
      have n3 := frozen_block hIV.t3 3
      have hk := Below.refl V10.heap.size V10
      go_wp2_with (first | ((with_reducible refine Calmly.is_fl ?_); refine Calmly.mix_fl rfl ?_ (fun _ _ => ?_); (first | exact .move _ | exact .load _ _ | exact .fieldAddr _ _ _ (by kernel_rfl) | exact .assign _ | exact .binOp _ _ _ _ _ rfl | exact .indexAddr _ _ _ | exact .len _ _ (by kernel_rfl) | exact .field _ _ _ | exact .extract _ _ | exact .pick _ _ _ | exact .build _ _ | exact .slice _ _ _ _ _ | exact .unOp _ _ _ rfl | exact .index _ _ _ | exact .max _ _ _ rfl rfl | exact .min _ _ _ rfl rfl | exact .nilCheck _ _ rfl)) | ((with_reducible refine Calmly.is_gl ?_); refine Calmly.mix_gl rfl rfl rfl ?_; first | ((first | with_reducible refine Calmly.gl_tt ?_ (fun _ _ => ?_) | with_reducible refine Calmly.gl_ff ?_ (fun _ _ => ?_)); (first | exact .move _ | exact .load _ _ | exact .fieldAddr _ _ _ (by kernel_rfl) | exact .assign _ | exact .binOp _ _ _ _ _ rfl | exact .indexAddr _ _ _ | exact .len _ _ (by kernel_rfl) | exact .field _ _ _ | exact .extract _ _ | exact .pick _ _ _ | exact .build _ _ | exact .slice _ _ _ _ _ | exact .unOp _ _ _ rfl | exact .index _ _ _ | exact .max _ _ _ rfl rfl | exact .min _ _ _ rfl rfl | exact .nilCheck _ _ rfl)) | with_reducible refine Calmly.gl_tf (fun _ _ => ?_) | with_reducible refine Calmly.gl_ft (fun _ _ => ?_)) | ((with_reducible refine Calmly.is_eff ?_); refine Calmly.mix_eff rfl (fun _ _ => ?_)) | ((with_reducible refine Calmly.is_gf ?_); refine Calmly.mix_gf rfl rfl rfl ?_; first | with_reducible refine Calmly.gf_tt (fun _ _ => ?_) | with_reducible refine Calmly.gf_ff (fun _ _ => ?_) | with_reducible refine Calmly.gf_tf (kept_of hk) (fun _ _ => ?_) | with_reducible refine Calmly.gf_ft (kept_of hk) (fun _ _ => ?_)) | ((with_reducible refine Calmly.is_tail ?_); first | refine Calmly.mix_tail_nil ?_ | refine Calmly.mix_tail rfl (fun _ _ => ?_)) | ((with_reducible refine Calmly.is_kept ?_); refine ⟨kept_of hk, ?_⟩) | (with_reducible refine Calmly.mix_alt ?_ ?_))
      refine (dFloor_any P x0 _ (by omega) (by omega) (by omega) (by omega)).mono ?_
      rintro e w5 ⟨rfl, rfl⟩
      rw [q11']
      dsimp only
      go_wp2_with (first | ((with_reducible refine Calmly.is_fl ?_); refine Calmly.mix_fl rfl ?_ (fun _ _ => ?_); (first | exact .move _ | exact .load _ _ | exact .fieldAddr _ _ _ (by kernel_rfl) | exact .assign _ | exact .binOp _ _ _ _ _ rfl | exact .indexAddr _ _ _ | exact .len _ _ (by kernel_rfl) | exact .field _ _ _ | exact .extract _ _ | exact .pick _ _ _ | exact .build _ _ | exact .slice _ _ _ _ _ | exact .unOp _ _ _ rfl | exact .index _ _ _ | exact .max _ _ _ rfl rfl | exact .min _ _ _ rfl rfl | exact .nilCheck _ _ rfl)) | ((with_reducible refine Calmly.is_gl ?_); refine Calmly.mix_gl rfl rfl rfl ?_; first | ((first | with_reducible refine Calmly.gl_tt ?_ (fun _ _ => ?_) | with_reducible refine Calmly.gl_ff ?_ (fun _ _ => ?_)); (first | exact .move _ | exact .load _ _ | exact .fieldAddr _ _ _ (by kernel_rfl) | exact .assign _ | exact .binOp _ _ _ _ _ rfl | exact .indexAddr _ _ _ | exact .len _ _ (by kernel_rfl) | exact .field _ _ _ | exact .extract _ _ | exact .pick _ _ _ | exact .build _ _ | exact .slice _ _ _ _ _ | exact .unOp _ _ _ rfl | exact .index _ _ _ | exact .max _ _ _ rfl rfl | exact .min _ _ _ rfl rfl | exact .nilCheck _ _ rfl)) | with_reducible refine Calmly.gl_tf (fun _ _ => ?_) | with_reducible refine Calmly.gl_ft (fun _ _ => ?_)) | ((with_reducible refine Calmly.is_eff ?_); refine Calmly.mix_eff rfl (fun _ _ => ?_)) | ((with_reducible refine Calmly.is_gf ?_); refine Calmly.mix_gf rfl rfl rfl ?_; first | with_reducible refine Calmly.gf_tt (fun _ _ => ?_) | with_reducible refine Calmly.gf_ff (fun _ _ => ?_) | with_reducible refine Calmly.gf_tf (kept_of hk) (fun _ _ => ?_) | with_reducible refine Calmly.gf_ft (kept_of hk) (fun _ _ => ?_)) | ((with_reducible refine Calmly.is_tail ?_); first | refine Calmly.mix_tail_nil ?_ | refine Calmly.mix_tail rfl (fun _ _ => ?_)) | ((with_reducible refine Calmly.is_kept ?_); refine ⟨kept_of hk, ?_⟩) | (with_reducible refine Calmly.mix_alt ?_ ?_))
      go_roundw
      case rel =>
        refine ⟨k + 1, by omega, by go_num, ?_⟩
        rw [T1.out, T2.out, T3.out, T4.out]
        exact hIV.set3 (R0 + RF)
      case measure => simp [intOf]; omega
    · have hle : (n : Int) ≤ (k : Int) := by omega
      obtain rfl : n = k := by omega
      have t30 := cell_block hI.t3 0
      have t31 := cell_block hI.t3 1
      have t32 := cell_block hI.t3 2
      have t33 := cell_block hI.t3 3
      have t20 := cell_block hI.t2 0
      have t21 := cell_block hI.t2 1
      have t22 := cell_block hI.t2 2
      have t23 := cell_block hI.t2 3
      have n20 := frozen_block hI.t2 0
      have n21 := frozen_block hI.t2 1
      have n22 := frozen_block hI.t2 2
      have n23 := frozen_block hI.t2 3
      obtain ⟨K0, hK0⟩ : ∃ x, sumR (baK fs s g) n = x := ⟨_, rfl⟩
      obtain ⟨S0, hS0⟩ : ∃ x, sumR (baS fs s g) n = x := ⟨_, rfl⟩
      obtain ⟨G0, hG0⟩ : ∃ x, -sumR (baG fs s g) n = x := ⟨_, rfl⟩
      obtain ⟨R0, hR0⟩ : ∃ x, sumR (baR fs s g) n = x := ⟨_, rfl⟩
      rw [hK0, hS0, hG0, hR0] at hI
      rw [hK0] at t30
      rw [hS0] at t31
      rw [hG0] at t32
      rw [hR0] at t33
      have HK0 := Lib.hid hK0
      have HS0 := Lib.hid hS0
      have HG0 := Lib.hid hG0
      have HR0 := Lib.hid hR0
      clear hK0 hS0 hG0 hR0
      go_wp2_with fail
      have q0 := setBlk (setBlk (setBlk (setBlk hI.t2 0 (.int .i64 K0)) 1 (.int .i64 S0)) 2 (.int .i64 G0)) 3 (.int .i64 R0)
      simp at q0
      have e0 := cell_block q0 0
      have e1 := cell_block q0 1
      have e2 := cell_block q0 2
      have e3 := cell_block q0 3
      have B4 := (((hI.bel.setCell (p := ⟨w.heap.size, 0, none⟩) (Nat.le_refl _) (.int .i64 K0)).setCell (p := ⟨w.heap.size, 1, none⟩) (Nat.le_refl _) (.int .i64 S0)).setCell (p := ⟨w.heap.size, 2, none⟩) (Nat.le_refl _) (.int .i64 G0)).setCell (p := ⟨w.heap.size, 3, none⟩) (Nat.le_refl _) (.int .i64 R0)
      exact bodyPost_ret (v := .agg #[.int .i64 K0, .int .i64 S0, .int .i64 G0, .int .i64 R0]) (by simp [results, Try.results119, go_sem, e0, e1, e2, e3]) rfl ⟨by rw [HK0.out, HS0.out, HG0.out, HR0.out], B4⟩
end Go.Proofs.Ytaiikekgckjdeaa

namespace Go.Proofs.Ytaiikekgckjdeaa
open Go.RowKit
open Calmly (Kept)
theorem stErr_plc2 {fs : List Fl} {s : St} {i : Nat} (h : stErr fs s i = 0) : plc (s.2.1[i]?.getD 0) = true := by
  unfold stErr at h
  split at h
  · rename_i hh
    exact hh.2
  · cases h
theorem stf_bd {fs : List Fl} {s : St} (hf : (frmE fs).2 = 0) (h : (stfE fs s).2 = 0) : (∀ i : Nat, -10000 ≤ s.1[i]?.getD 0 ∧ s.1[i]?.getD 0 ≤ 10000) ∧ (∀ i : Nat, -10000 ≤ s.2.1[i]?.getD 0 ∧ s.2.1[i]?.getD 0 ≤ 10000) := by
  obtain ⟨ok, hall⟩ := stf_ok hf h
  refine ⟨fun i => ?_, fun i => ?_⟩
  · rcases Nat.lt_or_ge i fs.length with hi | hi
    · exact plc_ok (stErr_plc (hall i hi))
    · rw [List.getElem?_eq_none (by have := ok.now; omega)]
      simp
  · rcases Nat.lt_or_ge i fs.length with hi | hi
    · exact plc_ok (stErr_plc2 (hall i hi))
    · rw [List.getElem?_eq_none (by have := ok.bef; omega)]
      simp
/-- The balance of a step, zero if there is an error. -/
def bal4 (fs : List Fl) (s : St) (g : Int) : Int × Int × Int × Int := if opsE fs s g = 0 then (sumR (baK fs s g) fs.length, sumR (baS fs s g) fs.length, -sumR (baG fs s g) fs.length, sumR (baR fs s g) fs.length) else (0, 0, 0, 0)
set_option maxRecDepth 100000 in
set_option maxHeartbeats 4000000 in
theorem BalanceOf_any (a a1 a2 a3 : Option Addr) (n c n1 c1 n2 c2 n3 c3 : Nat) (raw : List FlR) (fs : List Fl) (s : St) (g : Int) (w : World) (h1 : FrV w a n c raw fs) (h2 : StV w ((a1, n1, c1), (a2, n2, c2), (a3, n3, c3)) s) :
    Calls Try.prog 58 #[.agg #[.slice a n c], .agg #[.slice a1 n1 c1, .slice a2 n2 c2, .slice a3 n3 c3], .int .i64 g] w fun e w' => e = .returned (.tuple #[.agg #[.int .i64 (bal4 fs s g).1, .int .i64 (bal4 fs s g).2.1, .int .i64 (bal4 fs s g).2.2.1, .int .i64 (bal4 fs s g).2.2.2], .int .i64 (opsE fs s g)]) ∧ Below w.heap.size w w' := by
  obtain ⟨E, hE⟩ : ∃ x, opsE fs s g = x := ⟨_, rfl⟩
  obtain ⟨⟨B1, B2, B3, B4⟩, hB⟩ : ∃ x, bal4 fs s g = x := ⟨_, rfl⟩
  have hB2 : (if E = 0 then (sumR (baK fs s g) fs.length, sumR (baS fs s g) fs.length, -sumR (baG fs s g) fs.length, sumR (baR fs s g) fs.length) else (0, 0, 0, 0)) = (B1, B2, B3, B4) := by rw [← hB, bal4, hE]
  rw [hE, hB]
  dsimp only
  have HE := Lib.hid hE
  have HB := Lib.hid hB2
  clear hE hB hB2
  have y3 := blk_keep (blk_keep (alloc_new w (.cells #[.slice a n c] 24)) ((Below.refl _ _).alloc (Nat.le_refl _) (.cells #[.slice a1 n1 c1, .slice a2 n2 c2, .slice a3 n3 c3] 97))) ((Below.refl _ _).alloc (Nat.le_refl _) (.cells #[.int .i64 0, .int .i64 0, .int .i64 0, .int .i64 0] 103))
  have y4 := blk_keep (alloc_new (w.alloc (.cells #[.slice a n c] 24)) (.cells #[.slice a1 n1 c1, .slice a2 n2 c2, .slice a3 n3 c3] 97)) ((Below.refl _ _).alloc (Nat.le_refl _) (.cells #[.int .i64 0, .int .i64 0, .int .i64 0, .int .i64 0] 103))
  have y6 := alloc_new ((w.alloc (.cells #[.slice a n c] 24)).alloc (.cells #[.slice a1 n1 c1, .slice a2 n2 c2, .slice a3 n3 c3] 97)) (.cells #[.int .i64 0, .int .i64 0, .int .i64 0, .int .i64 0] 103)
  have BW : Below w.heap.size w (((w.alloc (.cells #[.slice a n c] 24)).alloc (.cells #[.slice a1 n1 c1, .slice a2 n2 c2, .slice a3 n3 c3] 97)).alloc (.cells #[.int .i64 0, .int .i64 0, .int .i64 0, .int .i64 0] 103)) := (((Below.refl _ _).alloc (Nat.le_refl _) _).alloc (by simp) _).alloc (by simp; omega) _
  simp only [World.size_alloc] at y4 y6
  have f0 := cell_block y3 0
  have g0 := cell_block y4 0
  have g1 := cell_block y4 1
  have g2 := cell_block y4 2
  go_enter Try.func58, Try.ntmps58
  go_wp2_with fail
  generalize ((w.alloc (.cells #[.slice a n c] 24)).alloc (.cells #[.slice a1 n1 c1, .slice a2 n2 c2, .slice a3 n3 c3] 97)).alloc (.cells #[.int .i64 0, .int .i64 0, .int .i64 0, .int .i64 0] 103) = W at *
  refine (openStep_any a a1 a2 a3 n c n1 c1 n2 c2 n3 c3 raw fs s g W (h1.keep BW) (h2.keep BW)).mono ?_
  rintro e w1 ⟨p, rfl, hp, hs⟩
  rw [HE.out] at hp ⊢
  replace y6 := blk_keep y6 hs
  replace BW := BW.trans (hs.mono BW.size)
  have hF := h1.keep BW
  have hSt := h2.keep BW
  have HP := Lib.hid hp
  clear hs f0 g0 g1 g2 y3 y4 hp
  dsimp only
  have k0 := cell_block y6 0
  have k1 := cell_block y6 1
  have k2 := cell_block y6 2
  have k3 := cell_block y6 3
  have k4 := frozen_block y6 0
  have k5 := frozen_block y6 1
  have k6 := frozen_block y6 2
  have k7 := frozen_block y6 3
  have hw : w.heap.size ≤ w.heap.size + 1 + 1 := by omega
  by_cases hz : E = 0
  case neg =>
    have b1 : (E != 0) = true := by simpa using hz
    have e2 := HB.out
    rw [if_neg hz] at e2
    injection e2 with e3 e4
    injection e4 with e4 e5
    injection e5 with e5 e6
    clear hz HE HP HB
    subst e3 e4 e5 e6
    go_wp2_with fail
    have q0 := setBlk (setBlk (setBlk (setBlk y6 0 (.int .i64 0)) 1 (.int .i64 0)) 2 (.int .i64 0)) 3 (.int .i64 0)
    simp at q0
    have e0 := cell_block q0 0
    have e1 := cell_block q0 1
    have e2 := cell_block q0 2
    have e3 := cell_block q0 3
    have B9 := (((BW.setCell (p := ⟨w.heap.size + 1 + 1, 0, none⟩) hw (.int .i64 0)).setCell (p := ⟨w.heap.size + 1 + 1, 1, none⟩) hw (.int .i64 0)).setCell (p := ⟨w.heap.size + 1 + 1, 2, none⟩) hw (.int .i64 0)).setCell (p := ⟨w.heap.size + 1 + 1, 3, none⟩) hw (.int .i64 0)
    exact bodyPost_ret (v := .tuple #[.agg #[.int .i64 0, .int .i64 0, .int .i64 0, .int .i64 0], .int .i64 E]) (by simp [results, Try.results58, go_sem, e0, e1, e2, e3]) rfl ⟨rfl, B9⟩
  case pos =>
    subst hz
    obtain ⟨hok1, hok2, hok3⟩ := ops_ok HE.out
    have hsta := sta_frm hok3
    have hbd := stf_bd hsta.1 hsta.2
    obtain ⟨b, pa, xa, pc, xc, rfl, e1, e2, e3, hO⟩ := HP.out.ok rfl
    have hn := h1.n_
    have hB4 := HB.out
    rw [if_pos rfl, ← hn] at hB4
    injection hB4 with r3 r4
    injection r4 with r4 r5
    injection r5 with r5 r6
    have R3 := Lib.hid r3
    have R4 := Lib.hid r4
    have R5 := Lib.hid r5
    have R6 := Lib.hid r6
    have HOK1 := Lib.hid hok1
    have HBD := Lib.hid hbd
    have hnow := hSt.now
    have hbef := hSt.bef
    dsimp only at hnow hbef
    subst e1 e2
    have e3' : n3 = n2 := e3
    subst e3'
    clear hok1 hok3 hbd r3 r4 r5 r6 hn hsta HP HB e3
    go_wp2_with fail
    refine (balance_any b a a1 a2 a3 pa xa n3 c c1 c2 c3 pc xc g raw fs s w1 hF hO.blk hnow hbef hO.ps.si hO.nx.si HOK1.out hok2 HBD.out.1 HBD.out.2).mono ?_
    rintro e w7 ⟨rfl, hsB⟩
    rw [R3.out, R4.out, R5.out, R6.out]
    dsimp only
    replace y6 := blk_keep y6 hsB
    have B7 := BW.trans (hsB.mono BW.size)
    clear k0 k1 k2 k3 k4 k5 k6 k7 hO
    have k0 := cell_block y6 0
    have k1 := cell_block y6 1
    have k2 := cell_block y6 2
    have k3 := cell_block y6 3
    have k4 := frozen_block y6 0
    have k5 := frozen_block y6 1
    have k6 := frozen_block y6 2
    have k7 := frozen_block y6 3
    go_wp2_with fail
    have q0 := setBlk (setBlk (setBlk (setBlk y6 0 (.int .i64 B1)) 1 (.int .i64 B2)) 2 (.int .i64 B3)) 3 (.int .i64 B4)
    simp at q0
    have e0 := cell_block q0 0
    have e1 := cell_block q0 1
    have e2 := cell_block q0 2
    have e3 := cell_block q0 3
    have B9 := (((B7.setCell (p := ⟨w.heap.size + 1 + 1, 0, none⟩) hw (.int .i64 B1)).setCell (p := ⟨w.heap.size + 1 + 1, 1, none⟩) hw (.int .i64 B2)).setCell (p := ⟨w.heap.size + 1 + 1, 2, none⟩) hw (.int .i64 B3)).setCell (p := ⟨w.heap.size + 1 + 1, 3, none⟩) hw (.int .i64 B4)
    exact bodyPost_ret (v := .tuple #[.agg #[.int .i64 B1, .int .i64 B2, .int .i64 B3, .int .i64 B4], .int .i64 0]) (by simp [results, Try.results58, go_sem, e0, e1, e2, e3]) rfl ⟨rfl, B9⟩
end Go.Proofs.Ytaiikekgckjdeaa
