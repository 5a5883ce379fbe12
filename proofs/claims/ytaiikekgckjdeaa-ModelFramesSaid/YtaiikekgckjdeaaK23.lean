/- Whether states are equal. Whether rows of states are equal. Rows of fractions, and rows of rows of integers; base.Fracs, base.Lists. Printed by gen_f1.py. -/
import Derived.Test.YtaiikekgckjdeaaK22
namespace Go.Proofs.Ytaiikekgckjdeaa
open Go.RowKit
open Calmly (Kept)
set_option maxRecDepth 100000 in
set_option maxHeartbeats 2000000 in
theorem rSameState_any (a1 a2 a3 b1 b2 b3 : Option Addr) (n1 c1 n2 c2 n3 c3 m1 d1 m2 d2 m3 d3 : Nat) (s t : St) (w : World) (h1 : StV w ((a1, n1, c1), (a2, n2, c2), (a3, n3, c3)) s) (h2 : StV w ((b1, m1, d1), (b2, m2, d2), (b3, m3, d3)) t) :
    Calls Try.prog 62 #[.agg #[.slice a1 n1 c1, .slice a2 n2 c2, .slice a3 n3 c3], .agg #[.slice b1 m1 d1, .slice b2 m2 d2, .slice b3 m3 d3]] w fun e w' => e = .returned (.bool (decide (s = t))) ∧ Below w.heap.size w w' := by
  obtain ⟨s1, s2, s3⟩ := s
  obtain ⟨t1, t2, t3⟩ := t
  obtain ⟨raw, hH⟩ := h1.hol
  obtain ⟨raw', hH'⟩ := h2.hol
  have i1 := h1.now
  have i2 := h1.bef
  have j1 := h2.now
  have j2 := h2.bef
  dsimp only at hH hH' i1 i2 j1 j2
  have hl3 : n3 = s3.length := by rw [hH.row.len, hH.len]
  have hk3 : m3 = t3.length := by rw [hH'.row.len, hH'.len]
  have HL3 := Lib.hid hl3
  have HK3 := Lib.hid hk3
  have x1 := hH.row.max
  have x2 := hH.row.cap
  have x3 := hH'.row.max
  have x4 := hH'.row.cap
  clear h1 h2 hl3 hk3
  obtain ⟨R, hR⟩ : ∃ R, decide (((s1, s2, s3) : St) = (t1, t2, t3)) = R := ⟨_, rfl⟩
  rw [hR]
  have HR := Lib.hid hR
  clear hR
  have y2 := blk_keep (alloc_new w (.cells #[.slice a1 n1 c1, .slice a2 n2 c2, .slice a3 n3 c3] 97)) ((Below.refl _ _).alloc (Nat.le_refl _) (.cells #[.slice b1 m1 d1, .slice b2 m2 d2, .slice b3 m3 d3] 97))
  have y3 := alloc_new (w.alloc (.cells #[.slice a1 n1 c1, .slice a2 n2 c2, .slice a3 n3 c3] 97)) (.cells #[.slice b1 m1 d1, .slice b2 m2 d2, .slice b3 m3 d3] 97)
  have BW : Below w.heap.size w ((w.alloc (.cells #[.slice a1 n1 c1, .slice a2 n2 c2, .slice a3 n3 c3] 97)).alloc (.cells #[.slice b1 m1 d1, .slice b2 m2 d2, .slice b3 m3 d3] 97)) := ((Below.refl _ _).alloc (Nat.le_refl _) _).alloc (by simp) _
  simp only [World.size_alloc] at y3
  have f0 := cell_block y2 0
  have g0 := cell_block y3 0
  go_enter Try.func62, Try.ntmps62
  go_wp2_with fail
  generalize (w.alloc (.cells #[.slice a1 n1 c1, .slice a2 n2 c2, .slice a3 n3 c3] 97)).alloc (.cells #[.slice b1 m1 d1, .slice b2 m2 d2, .slice b3 m3 d3] 97) = W at *
  refine (ints_any a1 b1 n1 m1 c1 d1 s1 t1 _ (i1.keep BW) (j1.keep BW)).mono ?_
  rintro e w1 ⟨rfl, q1, rfl⟩
  have hd1 := below_drewN (Below.refl W.heap.size W) q1
  replace y2 := blk_keep y2 hd1
  replace y3 := blk_keep y3 hd1
  replace BW := BW.trans (hd1.mono BW.size)
  clear f0 g0 hd1
  generalize W.drewN q1 = W1 at *
  by_cases e1 : s1 = t1
  case neg =>
    rw [show decide (s1 = t1) = false by simp [e1]]
    go_wp2_with fail
    go_ret
    exact ⟨ret_bool (by rw [← HR.out]; simp [e1]), BW⟩
  case pos =>
    rw [show decide (s1 = t1) = true by simp [e1]]
    have f1 := cell_block y2 1
    have g1 := cell_block y3 1
    have E1 := Lib.hid e1
    clear e1
    go_wp2_with fail
    refine (ints_any a2 b2 n2 m2 c2 d2 s2 t2 _ (i2.keep BW) (j2.keep BW)).mono ?_
    rintro e w1 ⟨rfl, q2, rfl⟩
    have hd1 := below_drewN (Below.refl W1.heap.size W1) q2
    replace y2 := blk_keep y2 hd1
    replace y3 := blk_keep y3 hd1
    replace BW := BW.trans (hd1.mono BW.size)
    clear f1 g1 hd1
    generalize W1.drewN q2 = W2 at *
    by_cases e2 : s2 = t2
    case neg =>
      rw [show decide (s2 = t2) = false by simp [e2]]
      go_wp2_with fail
      go_ret
      exact ⟨ret_bool (by rw [← HR.out]; simp [e2]), BW⟩
    case pos =>
      rw [show decide (s2 = t2) = true by simp [e2]]
      have f2 := cell_block y2 2
      have g2 := cell_block y3 2
      have E2 := Lib.hid e2
      clear e2
      by_cases e3 : n3 = m3
      case neg =>
        have b1 : ((n3 : Int) != (m3 : Int)) = true := by simp; omega
        go_wp2_with fail
        go_ret
        refine ⟨ret_bool ?_, BW⟩
        have hne : ¬ s3 = t3 := fun h => e3 (by rw [HL3.out, HK3.out, h])
        rw [← HR.out]
        simp [hne]
      case pos =>
        subst e3
        have bq : ((n3 : Int) != (n3 : Int)) = false := by simp
        go_wp2_with fail
        go_loopw [5] (fun i wr => ∃ k : Nat, k ≤ n3 ∧ i = .int .i64 k ∧ s3.take k = t3.take k ∧ Below W2.heap.size W2 wr) (fun i _ => n3 - (intOf i).toNat)
        case atStart => exact ⟨0, by omega, rfl, rfl, Below.refl _ _⟩
        case round =>
          clear f2 g2
          obtain ⟨k, hk, rfl, ht, hb⟩ := hrel
          have HT := Lib.hid ht
          clear ht
          have hB2 := BW.trans (hb.mono BW.size)
          have z2 := blk_keep y2 hb
          have z3 := blk_keep y3 hb
          have f2 := cell_block z2 2
          have g2 := cell_block z3 2
          by_cases hlt : k < n3
          · have hi : (k : Int) < (n3 : Int) := by omega
            have hi0 : (0 : Int) ≤ (k : Int) := by omega
            go_wp2_with fail
            refine Calmly.wp_region_mix 11 (.fl 0 <| .fl 1 <| .fl 2 <| .fl 3 <| .fl 4 <| .fl 5 <| .fl 6 <| .fl 7 <| .fl 8 <| .fl 9 <| .eff 10 <| .tail [11]) (by kernel_rfl) (by kernel_rfl) ?_
            have BD : Below wr.heap.size wr wr.drew := (Below.refl _ _).drew
            replace f2 := cell_block (blk_keep z2 BD) 2
            replace g2 := cell_block (blk_keep z3 BD) 2
            have hB3 := hB2.trans (BD.mono hB2.size)
            have hb3 := hb.trans (BD.mono hb.size)
            clear BD z2 z3
            generalize wr.drew = V at *
            have kH := hH.keep hB3
            have kH' := hH'.keep hB3
            obtain ⟨b1', o1, r1, hc1⟩ := kH.row.at_ (by omega)
            obtain ⟨b2', o2, r2, hc2⟩ := kH'.row.at_ (by omega)
            subst r1 r2
            obtain ⟨p0, p1⟩ := hc1 k hlt
            obtain ⟨q0, q1⟩ := hc2 k hlt
            obtain ⟨u0, u1, _⟩ := kH.hl k (by have := HL3.out; omega)
            obtain ⟨v0, v1, _⟩ := kH'.hl k (by have := HK3.out; omega)
            rw [u0] at p0
            rw [v0] at q0
            obtain ⟨xx, hxx⟩ : ∃ x, raw[k]?.getD hor0 = x := ⟨_, rfl⟩
            obtain ⟨yy, hyy⟩ : ∃ x, raw'[k]?.getD hor0 = x := ⟨_, rfl⟩
            obtain ⟨X, hX⟩ : ∃ x, s3[k]?.getD ho0 = x := ⟨_, rfl⟩
            obtain ⟨Y, hY⟩ : ∃ x, t3[k]?.getD ho0 = x := ⟨_, rfl⟩
            rw [hxx] at p1 u1
            rw [hyy] at q1 v1
            rw [hX] at p0 u1
            rw [hY] at q0 v1
            obtain ⟨w1, xa, xn, xc⟩ := xx
            obtain ⟨w2, ya, yn, yc⟩ := yy
            obtain ⟨A, xs⟩ := X
            obtain ⟨B, ys⟩ := Y
            dsimp only [hv] at p0 p1 q0 q1 u1 v1
            have HX := Lib.hid hX
            have HY := Lib.hid hY
            clear hc1 hc2 hxx hyy hX hY u0 v0 kH kH'
            have hkn := hlt
            have hkl := hk
            clear hk hlt
            have hk := Below.refl V.heap.size V
            by_cases he : A = B ∧ xs = ys
            · have HE := Lib.hid he
              clear he
              go_wp2_with (first | ((with_reducible refine Calmly.is_fl ?_); refine Calmly.mix_fl rfl ?_ (fun _ _ => ?_); (first | exact .move _ | exact .load _ _ | exact .fieldAddr _ _ _ (by kernel_rfl) | exact .assign _ | exact .binOp _ _ _ _ _ rfl | exact .indexAddr _ _ _ | exact .len _ _ (by kernel_rfl) | exact .field _ _ _ | exact .extract _ _ | exact .pick _ _ _ | exact .build _ _ | exact .slice _ _ _ _ _ | exact .unOp _ _ _ rfl | exact .index _ _ _ | exact .max _ _ _ rfl rfl | exact .min _ _ _ rfl rfl | exact .nilCheck _ _ rfl)) | ((with_reducible refine Calmly.is_gl ?_); refine Calmly.mix_gl rfl rfl rfl ?_; first | ((first | with_reducible refine Calmly.gl_tt ?_ (fun _ _ => ?_) | with_reducible refine Calmly.gl_ff ?_ (fun _ _ => ?_)); (first | exact .move _ | exact .load _ _ | exact .fieldAddr _ _ _ (by kernel_rfl) | exact .assign _ | exact .binOp _ _ _ _ _ rfl | exact .indexAddr _ _ _ | exact .len _ _ (by kernel_rfl) | exact .field _ _ _ | exact .extract _ _ | exact .pick _ _ _ | exact .build _ _ | exact .slice _ _ _ _ _ | exact .unOp _ _ _ rfl | exact .index _ _ _ | exact .max _ _ _ rfl rfl | exact .min _ _ _ rfl rfl | exact .nilCheck _ _ rfl)) | with_reducible refine Calmly.gl_tf (fun _ _ => ?_) | with_reducible refine Calmly.gl_ft (fun _ _ => ?_)) | ((with_reducible refine Calmly.is_eff ?_); refine Calmly.mix_eff rfl (fun _ _ => ?_)) | ((with_reducible refine Calmly.is_gf ?_); refine Calmly.mix_gf rfl rfl rfl ?_; first | with_reducible refine Calmly.gf_tt (fun _ _ => ?_) | with_reducible refine Calmly.gf_ff (fun _ _ => ?_) | with_reducible refine Calmly.gf_tf (kept_of hk) (fun _ _ => ?_) | with_reducible refine Calmly.gf_ft (kept_of hk) (fun _ _ => ?_)) | ((with_reducible refine Calmly.is_tail ?_); first | refine Calmly.mix_tail_nil ?_ | refine Calmly.mix_tail rfl (fun _ _ => ?_)) | ((with_reducible refine Calmly.is_kept ?_); refine ⟨kept_of hk, ?_⟩) | (with_reducible refine Calmly.mix_alt ?_ ?_) | (go_at_call 33; refine (sameHold_any A B xa ya xn yn xc yc xs ys _ (u1.keep hk) (v1.keep hk)).mono ?_; rintro e w5 ⟨rfl, hb5⟩; replace hk := step_of hk hb5; rw [show decide (A = B ∧ xs = ys) = true by simp [HE.out]]))
              go_roundw
              case rel => exact ⟨k + 1, by omega, by go_num, takeG_step ho0 HT.out (by have := HL3.out; omega) (by have := HK3.out; omega) (by rw [HX.out, HY.out, HE.out.1, HE.out.2]), hb3.trans (hk.mono hb3.size)⟩
              case measure => simp [intOf]; omega
            · have HE := Lib.hid he
              clear he
              go_wp2_with (first | ((with_reducible refine Calmly.is_fl ?_); refine Calmly.mix_fl rfl ?_ (fun _ _ => ?_); (first | exact .move _ | exact .load _ _ | exact .fieldAddr _ _ _ (by kernel_rfl) | exact .assign _ | exact .binOp _ _ _ _ _ rfl | exact .indexAddr _ _ _ | exact .len _ _ (by kernel_rfl) | exact .field _ _ _ | exact .extract _ _ | exact .pick _ _ _ | exact .build _ _ | exact .slice _ _ _ _ _ | exact .unOp _ _ _ rfl | exact .index _ _ _ | exact .max _ _ _ rfl rfl | exact .min _ _ _ rfl rfl | exact .nilCheck _ _ rfl)) | ((with_reducible refine Calmly.is_gl ?_); refine Calmly.mix_gl rfl rfl rfl ?_; first | ((first | with_reducible refine Calmly.gl_tt ?_ (fun _ _ => ?_) | with_reducible refine Calmly.gl_ff ?_ (fun _ _ => ?_)); (first | exact .move _ | exact .load _ _ | exact .fieldAddr _ _ _ (by kernel_rfl) | exact .assign _ | exact .binOp _ _ _ _ _ rfl | exact .indexAddr _ _ _ | exact .len _ _ (by kernel_rfl) | exact .field _ _ _ | exact .extract _ _ | exact .pick _ _ _ | exact .build _ _ | exact .slice _ _ _ _ _ | exact .unOp _ _ _ rfl | exact .index _ _ _ | exact .max _ _ _ rfl rfl | exact .min _ _ _ rfl rfl | exact .nilCheck _ _ rfl)) | with_reducible refine Calmly.gl_tf (fun _ _ => ?_) | with_reducible refine Calmly.gl_ft (fun _ _ => ?_)) | ((with_reducible refine Calmly.is_eff ?_); refine Calmly.mix_eff rfl (fun _ _ => ?_)) | ((with_reducible refine Calmly.is_gf ?_); refine Calmly.mix_gf rfl rfl rfl ?_; first | with_reducible refine Calmly.gf_tt (fun _ _ => ?_) | with_reducible refine Calmly.gf_ff (fun _ _ => ?_) | with_reducible refine Calmly.gf_tf (kept_of hk) (fun _ _ => ?_) | with_reducible refine Calmly.gf_ft (kept_of hk) (fun _ _ => ?_)) | ((with_reducible refine Calmly.is_tail ?_); first | refine Calmly.mix_tail_nil ?_ | refine Calmly.mix_tail rfl (fun _ _ => ?_)) | ((with_reducible refine Calmly.is_kept ?_); refine ⟨kept_of hk, ?_⟩) | (with_reducible refine Calmly.mix_alt ?_ ?_) | (go_at_call 33; refine (sameHold_any A B xa ya xn yn xc yc xs ys _ (u1.keep hk) (v1.keep hk)).mono ?_; rintro e w5 ⟨rfl, hb5⟩; replace hk := step_of hk hb5; rw [show decide (A = B ∧ xs = ys) = false by simpa using HE.out]))
              go_ret
              refine ⟨ret_bool ?_, hB3.trans (hk.mono hB3.size)⟩
              have hne : ¬ s3 = t3 := fun h => by
                subst h
                have h5 := HX.out.symm.trans HY.out
                injection h5 with h6 h7
                exact HE.out ⟨h6, h7⟩
              rw [← HR.out]
              simp [hne]
          · have hle : (n3 : Int) ≤ (k : Int) := by omega
            obtain rfl : n3 = k := by omega
            clear hlt hk
            go_wp2_with fail
            go_ret
            refine ⟨ret_bool ?_, hB2⟩
            have h5 := HT.out
            rw [List.take_of_length_le (by have := HL3.out; omega), List.take_of_length_le (by have := HK3.out; omega)] at h5
            rw [← HR.out]
            simp [E1.out, E2.out, h5]
end Go.Proofs.Ytaiikekgckjdeaa

namespace Go.Proofs.Ytaiikekgckjdeaa
open Go.RowKit
open Calmly (Kept)
def st0' : St := ([], [], [])
instance decHo : DecidableEq Ho := inferInstanceAs (DecidableEq (Int × List (Int × Bool)))
instance decSt : DecidableEq St := inferInstanceAs (DecidableEq (List Int × List Int × List Ho))
instance decSts : DecidableEq (List St) := inferInstance
/-- A row of states that reads as such. -/
structure StsV (w : World) (a : Option Addr) (n c : Nat) (raw : List StR) (ss : List St) : Prop where
  row : SStR w a n c raw
  len : raw.length = ss.length
  st : ∀ i, i < ss.length → StV w (raw[i]?.getD str0) (ss[i]?.getD st0')
theorem StsV.keep {w w' : World} {a : Option Addr} {n c : Nat} {raw : List StR} {ss : List St} (h : StsV w a n c raw ss) (hb : Below w.heap.size w w') : StsV w' a n c raw ss := ⟨h.row.keep hb, h.len, fun i hi => (h.st i hi).keep hb⟩
theorem Sts.sv {w : World} {B : Nat} {a : Option Addr} {n c : Nat} {raw : List StR} {ss : List St} (h : Sts w B a n c raw ss) : StsV w a n c raw ss := ⟨h.row.sr, h.len, h.st⟩
set_option maxRecDepth 100000 in
set_option maxHeartbeats 2000000 in
theorem rSameStates_any (a b : Option Addr) (n c m d : Nat) (raw raw' : List StR) (ss ts : List St) (w : World) (h1 : StsV w a n c raw ss) (h2 : StsV w b m d raw' ts) :
    Calls Try.prog 20 #[.slice a n c, .slice b m d] w fun e w' => e = .returned (.bool (decide (ss = ts))) ∧ Below w.heap.size w w' := by
  have hl : n = ss.length := by rw [h1.row.len, h1.len]
  have hl' : m = ts.length := by rw [h2.row.len, h2.len]
  have x1 := h1.row.max
  have x2 := h1.row.cap
  have x3 := h2.row.max
  have x4 := h2.row.cap
  have HL := Lib.hid hl
  have HL' := Lib.hid hl'
  clear hl hl'
  obtain ⟨R, hR⟩ : ∃ R, decide (ss = ts) = R := ⟨_, rfl⟩
  rw [hR]
  have HR := Lib.hid hR
  clear hR
  by_cases e3 : n = m
  case neg =>
    have b1 : ((n : Int) != (m : Int)) = true := by simp; omega
    go_enter Try.func20, Try.ntmps20
    go_wp2_with fail
    go_ret
    refine ⟨ret_bool ?_, Below.refl _ _⟩
    have hne : ¬ ss = ts := fun h => e3 (by rw [HL.out, HL'.out, h])
    rw [← HR.out]
    simp [hne]
  case pos =>
    subst e3
    have bq : ((n : Int) != (n : Int)) = false := by simp
    go_enter Try.func20, Try.ntmps20
    go_wp2_with fail
    go_loopw [5] (fun i wr => ∃ k : Nat, k ≤ n ∧ i = .int .i64 k ∧ ss.take k = ts.take k ∧ Below w.heap.size w wr) (fun i _ => n - (intOf i).toNat)
    case atStart => exact ⟨0, by omega, rfl, rfl, Below.refl _ _⟩
    case round =>
      obtain ⟨k, hk, rfl, ht, hb⟩ := hrel
      have HT := Lib.hid ht
      clear ht
      by_cases hlt : k < n
      · have hi : (k : Int) < (n : Int) := by omega
        have hi0 : (0 : Int) ≤ (k : Int) := by omega
        go_wp2_with fail
        refine Calmly.wp_region_mix 9 (.fl 0 <| .fl 1 <| .fl 2 <| .fl 3 <| .fl 4 <| .fl 5 <| .fl 6 <| .fl 7 <| .eff 8 <| .tail [9]) (by kernel_rfl) (by kernel_rfl) ?_
        have BD : Below wr.heap.size wr wr.drew := (Below.refl _ _).drew
        have hb3 := hb.trans (BD.mono hb.size)
        clear BD
        generalize wr.drew = V at *
        have kH := h1.keep hb3
        have kH' := h2.keep hb3
        obtain ⟨b1', o1, r1, hc1⟩ := kH.row.at_ (by omega)
        obtain ⟨b2', o2, r2, hc2⟩ := kH'.row.at_ (by omega)
        subst r1 r2
        obtain ⟨p0, p1, p2⟩ := hc1 k hlt
        obtain ⟨q0, q1, q2⟩ := hc2 k hlt
        have u1 := kH.st k (by have := HL.out; omega)
        have v1 := kH'.st k (by have := HL'.out; omega)
        obtain ⟨xx, hxx⟩ : ∃ x, raw[k]?.getD str0 = x := ⟨_, rfl⟩
        obtain ⟨yy, hyy⟩ : ∃ x, raw'[k]?.getD str0 = x := ⟨_, rfl⟩
        obtain ⟨X, hX⟩ : ∃ x, ss[k]?.getD st0' = x := ⟨_, rfl⟩
        obtain ⟨Y, hY⟩ : ∃ x, ts[k]?.getD st0' = x := ⟨_, rfl⟩
        rw [hxx] at p0 p1 p2 u1
        rw [hyy] at q0 q1 q2 v1
        rw [hX] at u1
        rw [hY] at v1
        obtain ⟨⟨xa1, xn1, xc1⟩, ⟨xa2, xn2, xc2⟩, ⟨xa3, xn3, xc3⟩⟩ := xx
        obtain ⟨⟨ya1, yn1, yc1⟩, ⟨ya2, yn2, yc2⟩, ⟨ya3, yn3, yc3⟩⟩ := yy
        dsimp only [hv] at p0 p1 p2 q0 q1 q2
        have HX := Lib.hid hX
        have HY := Lib.hid hY
        have U1 := Lib.hid u1
        have V1 := Lib.hid v1
        clear hc1 hc2 hxx hyy hX hY kH kH' u1 v1
        have hkn := hlt
        have hkl := hk
        clear hk hlt
        have hk := Below.refl V.heap.size V
        by_cases he : X = Y
        · have HE := Lib.hid he
          clear he
          go_wp2_with (first | ((with_reducible refine Calmly.is_fl ?_); refine Calmly.mix_fl rfl ?_ (fun _ _ => ?_); (first | exact .move _ | exact .load _ _ | exact .fieldAddr _ _ _ (by kernel_rfl) | exact .assign _ | exact .binOp _ _ _ _ _ rfl | exact .indexAddr _ _ _ | exact .len _ _ (by kernel_rfl) | exact .field _ _ _ | exact .extract _ _ | exact .pick _ _ _ | exact .build _ _ | exact .slice _ _ _ _ _ | exact .unOp _ _ _ rfl | exact .index _ _ _ | exact .max _ _ _ rfl rfl | exact .min _ _ _ rfl rfl | exact .nilCheck _ _ rfl)) | ((with_reducible refine Calmly.is_gl ?_); refine Calmly.mix_gl rfl rfl rfl ?_; first | ((first | with_reducible refine Calmly.gl_tt ?_ (fun _ _ => ?_) | with_reducible refine Calmly.gl_ff ?_ (fun _ _ => ?_)); (first | exact .move _ | exact .load _ _ | exact .fieldAddr _ _ _ (by kernel_rfl) | exact .assign _ | exact .binOp _ _ _ _ _ rfl | exact .indexAddr _ _ _ | exact .len _ _ (by kernel_rfl) | exact .field _ _ _ | exact .extract _ _ | exact .pick _ _ _ | exact .build _ _ | exact .slice _ _ _ _ _ | exact .unOp _ _ _ rfl | exact .index _ _ _ | exact .max _ _ _ rfl rfl | exact .min _ _ _ rfl rfl | exact .nilCheck _ _ rfl)) | with_reducible refine Calmly.gl_tf (fun _ _ => ?_) | with_reducible refine Calmly.gl_ft (fun _ _ => ?_)) | ((with_reducible refine Calmly.is_eff ?_); refine Calmly.mix_eff rfl (fun _ _ => ?_)) | ((with_reducible refine Calmly.is_gf ?_); refine Calmly.mix_gf rfl rfl rfl ?_; first | with_reducible refine Calmly.gf_tt (fun _ _ => ?_) | with_reducible refine Calmly.gf_ff (fun _ _ => ?_) | with_reducible refine Calmly.gf_tf (kept_of hk) (fun _ _ => ?_) | with_reducible refine Calmly.gf_ft (kept_of hk) (fun _ _ => ?_)) | ((with_reducible refine Calmly.is_tail ?_); first | refine Calmly.mix_tail_nil ?_ | refine Calmly.mix_tail rfl (fun _ _ => ?_)) | ((with_reducible refine Calmly.is_kept ?_); refine ⟨kept_of hk, ?_⟩) | (with_reducible refine Calmly.mix_alt ?_ ?_) | (go_at_call 62; refine (rSameState_any xa1 xa2 xa3 ya1 ya2 ya3 xn1 xc1 xn2 xc2 xn3 xc3 yn1 yc1 yn2 yc2 yn3 yc3 X Y _ (U1.out.keep hk) (V1.out.keep hk)).mono ?_; rintro e w5 ⟨rfl, hb5⟩; replace hk := step_of hk hb5; rw [show decide (X = Y) = true by simp [HE.out]]))
          go_roundw
          case rel => exact ⟨k + 1, by omega, by go_num, takeG_step st0' HT.out (by have := HL.out; omega) (by have := HL'.out; omega) (by rw [HX.out, HY.out, HE.out]), hb3.trans (hk.mono hb3.size)⟩
          case measure => simp [intOf]; omega
        · have HE := Lib.hid he
          clear he
          go_wp2_with (first | ((with_reducible refine Calmly.is_fl ?_); refine Calmly.mix_fl rfl ?_ (fun _ _ => ?_); (first | exact .move _ | exact .load _ _ | exact .fieldAddr _ _ _ (by kernel_rfl) | exact .assign _ | exact .binOp _ _ _ _ _ rfl | exact .indexAddr _ _ _ | exact .len _ _ (by kernel_rfl) | exact .field _ _ _ | exact .extract _ _ | exact .pick _ _ _ | exact .build _ _ | exact .slice _ _ _ _ _ | exact .unOp _ _ _ rfl | exact .index _ _ _ | exact .max _ _ _ rfl rfl | exact .min _ _ _ rfl rfl | exact .nilCheck _ _ rfl)) | ((with_reducible refine Calmly.is_gl ?_); refine Calmly.mix_gl rfl rfl rfl ?_; first | ((first | with_reducible refine Calmly.gl_tt ?_ (fun _ _ => ?_) | with_reducible refine Calmly.gl_ff ?_ (fun _ _ => ?_)); (first | exact .move _ | exact .load _ _ | exact .fieldAddr _ _ _ (by kernel_rfl) | exact .assign _ | exact .binOp _ _ _ _ _ rfl | exact .indexAddr _ _ _ | exact .len _ _ (by kernel_rfl) | exact .field _ _ _ | exact .extract _ _ | exact .pick _ _ _ | exact .build _ _ | exact .slice _ _ _ _ _ | exact .unOp _ _ _ rfl | exact .index _ _ _ | exact .max _ _ _ rfl rfl | exact .min _ _ _ rfl rfl | exact .nilCheck _ _ rfl)) | with_reducible refine Calmly.gl_tf (fun _ _ => ?_) | with_reducible refine Calmly.gl_ft (fun _ _ => ?_)) | ((with_reducible refine Calmly.is_eff ?_); refine Calmly.mix_eff rfl (fun _ _ => ?_)) | ((with_reducible refine Calmly.is_gf ?_); refine Calmly.mix_gf rfl rfl rfl ?_; first | with_reducible refine Calmly.gf_tt (fun _ _ => ?_) | with_reducible refine Calmly.gf_ff (fun _ _ => ?_) | with_reducible refine Calmly.gf_tf (kept_of hk) (fun _ _ => ?_) | with_reducible refine Calmly.gf_ft (kept_of hk) (fun _ _ => ?_)) | ((with_reducible refine Calmly.is_tail ?_); first | refine Calmly.mix_tail_nil ?_ | refine Calmly.mix_tail rfl (fun _ _ => ?_)) | ((with_reducible refine Calmly.is_kept ?_); refine ⟨kept_of hk, ?_⟩) | (with_reducible refine Calmly.mix_alt ?_ ?_) | (go_at_call 62; refine (rSameState_any xa1 xa2 xa3 ya1 ya2 ya3 xn1 xc1 xn2 xc2 xn3 xc3 yn1 yc1 yn2 yc2 yn3 yc3 X Y _ (U1.out.keep hk) (V1.out.keep hk)).mono ?_; rintro e w5 ⟨rfl, hb5⟩; replace hk := step_of hk hb5; rw [show decide (X = Y) = false by simpa using HE.out]))
          go_ret
          refine ⟨ret_bool ?_, hb3.trans (hk.mono hb3.size)⟩
          have hne : ¬ ss = ts := fun h => by
            subst h
            exact HE.out (HX.out.symm.trans HY.out)
          rw [← HR.out]
          simp [hne]
      · have hle : (n : Int) ≤ (k : Int) := by omega
        obtain rfl : n = k := by omega
        clear hlt hk
        go_wp2_with fail
        go_ret
        refine ⟨ret_bool ?_, hb⟩
        have h5 := HT.out
        rw [List.take_of_length_le (by have := HL.out; omega), List.take_of_length_le (by have := HL'.out; omega)] at h5
        rw [← HR.out]
        simp [h5]
end Go.Proofs.Ytaiikekgckjdeaa

namespace Go.Proofs.Ytaiikekgckjdeaa
open Go.RowKit
open Calmly (Kept)

/-! ### Fractions -/
abbrev FcR := Int × Int
def encFcR (x : FcR) : List Value := [.int .i64 x.1, .int .i64 x.2]
def fcr0 : FcR := (0, 0)
theorem encFcR_len (x : FcR) : (encFcR x).length = 2 := rfl
def SFcR (w : World) (a : Option Addr) (n c : Nat) (l : List FcR) : Prop := Sl w 2 a n c (l.flatMap encFcR)
theorem SFcR.keep {w w' : World} {a : Option Addr} {n c : Nat} {l : List FcR} (h : SFcR w a n c l) (hb : Below w.heap.size w w') : SFcR w' a n c l := Sl.keep h hb
theorem SFcR.len {w : World} {a : Option Addr} {n c : Nat} {l : List FcR} (h : SFcR w a n c l) : n = l.length := Sl.recsLen encFcR_len (by decide) h
theorem SFcR.cap {w : World} {a : Option Addr} {n c : Nat} {l : List FcR} (h : SFcR w a n c l) : n ≤ c := h.2.1
theorem SFcR.max {w : World} {a : Option Addr} {n c : Nat} {l : List FcR} (h : SFcR w a n c l) : c ≤ 9223372036854775807 := h.2.2.1
theorem SFcR.nil (w : World) : SFcR w none 0 0 [] := Sl.nil w 2
theorem SFcR.at_ {w : World} {a : Option Addr} {n c : Nat} {l : List FcR} (h : SFcR w a n c l) (hn : 0 < n) :
    ∃ b off, a = some ⟨b, off, none⟩ ∧ ∀ i, i < n → w.cell? ⟨b, off + i * 2, none⟩ = some (.int .i64 (l[i]?.getD fcr0).1) ∧ w.cell? ⟨b, off + i * 2 + 1, none⟩ = some (.int .i64 (l[i]?.getD fcr0).2) := by
  obtain ⟨b, off, ha, hc⟩ := Sl.recs encFcR_len (by decide) fcr0 h hn
  exact ⟨b, off, ha, fun i hi => ⟨hc i hi 0 (by omega), hc i hi 1 (by omega)⟩⟩
theorem SFcR.blk {w : World} {a : Option Addr} {n c : Nat} {l : List FcR} (h : SFcR w a n c l) : ∀ b o, 0 < n → a = some ⟨b, o, none⟩ → b < w.heap.size := by
  intro b o hn ha
  obtain ⟨b', o', he, hc⟩ := h.at_ hn
  rw [ha] at he
  cases he
  exact cell_lt (hc 0 hn).1
theorem Try.info_fcr : (Try.prog.info? 77).map (fun i => (i.zero, i.size, i.bytes)) = some (some (.agg #[.int .i64 0, .int .i64 0]), 2, 16) := by kernel_rfl
def OwFcR (w : World) (B : Nat) (a : Option Addr) (n c : Nat) (l : List FcR) : Prop := w.ownsRow B 77 2 (.slice a n c) n (l.flatMap encFcR)
theorem OwFcR.nil (w : World) (B : Nat) : OwFcR w B none 0 0 [] := World.ownsRow_nil w B _ 2
theorem OwFcR.sr {w : World} {B : Nat} {a : Option Addr} {n c : Nat} {l : List FcR} (h : OwFcR w B a n c l) : SFcR w a n c l := by
  obtain ⟨a', c', he, hs⟩ := Sl.of_owns h
  cases he
  exact hs
theorem OwFcR.keep {w w' : World} {B : Nat} {a : Option Addr} {n c : Nat} {l : List FcR} (h : OwFcR w B a n c l) (hb : Below w.heap.size w w') : OwFcR w' B a n c l := owns_keep h hb
theorem OwFcR.lt {w : World} {B : Nat} {a : Option Addr} {n c : Nat} {l : List FcR} (h : OwFcR w B a n c l) : ∀ g o, a = some ⟨g, o, none⟩ → B ≤ g ∧ g < w.heap.size := by
  rintro g o rfl
  exact World.ownsRow.lt h g rfl
theorem oneCell_FcR (x : FcR) : ∀ u ∈ encFcR x, u.oneCell' = true := by
  intro u hu
  simp only [encFcR, List.mem_cons, List.not_mem_nil, or_false] at hu
  rcases hu with rfl | rfl <;> rfl

/-! ### Rows -/
abbrev LsR := Hd
def encLsR (x : LsR) : List Value := [hv x]
def lsr0 : LsR := (hd0)
theorem encLsR_len (x : LsR) : (encLsR x).length = 1 := rfl
def SLsR (w : World) (a : Option Addr) (n c : Nat) (l : List LsR) : Prop := Sl w 1 a n c (l.flatMap encLsR)
theorem SLsR.keep {w w' : World} {a : Option Addr} {n c : Nat} {l : List LsR} (h : SLsR w a n c l) (hb : Below w.heap.size w w') : SLsR w' a n c l := Sl.keep h hb
theorem SLsR.len {w : World} {a : Option Addr} {n c : Nat} {l : List LsR} (h : SLsR w a n c l) : n = l.length := Sl.recsLen encLsR_len (by decide) h
theorem SLsR.cap {w : World} {a : Option Addr} {n c : Nat} {l : List LsR} (h : SLsR w a n c l) : n ≤ c := h.2.1
theorem SLsR.max {w : World} {a : Option Addr} {n c : Nat} {l : List LsR} (h : SLsR w a n c l) : c ≤ 9223372036854775807 := h.2.2.1
theorem SLsR.nil (w : World) : SLsR w none 0 0 [] := Sl.nil w 1
theorem SLsR.at_ {w : World} {a : Option Addr} {n c : Nat} {l : List LsR} (h : SLsR w a n c l) (hn : 0 < n) :
    ∃ b off, a = some ⟨b, off, none⟩ ∧ ∀ i, i < n → w.cell? ⟨b, off + i * 1, none⟩ = some (hv (l[i]?.getD lsr0)) := by
  obtain ⟨b, off, ha, hc⟩ := Sl.recs encLsR_len (by decide) lsr0 h hn
  exact ⟨b, off, ha, fun i hi => hc i hi 0 (by omega)⟩
theorem SLsR.blk {w : World} {a : Option Addr} {n c : Nat} {l : List LsR} (h : SLsR w a n c l) : ∀ b o, 0 < n → a = some ⟨b, o, none⟩ → b < w.heap.size := by
  intro b o hn ha
  obtain ⟨b', o', he, hc⟩ := h.at_ hn
  rw [ha] at he
  cases he
  exact cell_lt (hc 0 hn)
theorem Try.info_lsr : (Try.prog.info? 25).map (fun i => (i.zero, i.size, i.bytes)) = some (some (.slice none 0 0), 1, 24) := by kernel_rfl
def OwLsR (w : World) (B : Nat) (a : Option Addr) (n c : Nat) (l : List LsR) : Prop := w.ownsRow B 25 1 (.slice a n c) n (l.flatMap encLsR)
theorem OwLsR.nil (w : World) (B : Nat) : OwLsR w B none 0 0 [] := World.ownsRow_nil w B _ 1
theorem OwLsR.sr {w : World} {B : Nat} {a : Option Addr} {n c : Nat} {l : List LsR} (h : OwLsR w B a n c l) : SLsR w a n c l := by
  obtain ⟨a', c', he, hs⟩ := Sl.of_owns h
  cases he
  exact hs
theorem OwLsR.keep {w w' : World} {B : Nat} {a : Option Addr} {n c : Nat} {l : List LsR} (h : OwLsR w B a n c l) (hb : Below w.heap.size w w') : OwLsR w' B a n c l := owns_keep h hb
theorem OwLsR.lt {w : World} {B : Nat} {a : Option Addr} {n c : Nat} {l : List LsR} (h : OwLsR w B a n c l) : ∀ g o, a = some ⟨g, o, none⟩ → B ≤ g ∧ g < w.heap.size := by
  rintro g o rfl
  exact World.ownsRow.lt h g rfl
theorem oneCell_LsR (x : LsR) : ∀ u ∈ encLsR x, u.oneCell' = true := by
  intro u hu
  simp only [encLsR, List.mem_cons, List.not_mem_nil, or_false] at hu
  subst hu; rfl

/-- A row of rows that reads. -/
structure LlV (w : World) (a : Option Addr) (n c : Nat) (raw : List LsR) (M : List (List Int)) : Prop where
  row : SLsR w a n c raw
  len : raw.length = M.length
  at_ : ∀ i, i < M.length → SI w (raw[i]?.getD lsr0).1 (raw[i]?.getD lsr0).2.1 (raw[i]?.getD lsr0).2.2 (M[i]?.getD [])
theorem LlV.keep {w w' : World} {a : Option Addr} {n c : Nat} {raw : List LsR} {M : List (List Int)} (h : LlV w a n c raw M) (hb : Below w.heap.size w w') : LlV w' a n c raw M := ⟨h.row.keep hb, h.len, fun i hi => (h.at_ i hi).keep hb⟩
theorem LlV.n_ {w : World} {a : Option Addr} {n c : Nat} {raw : List LsR} {M : List (List Int)} (h : LlV w a n c raw M) : n = M.length := by rw [h.row.len, h.len]
theorem drawn (w : World) (n : Nat) : Below w.heap.size w (w.drewN n) := below_drewN (Below.refl _ _) n
set_option maxRecDepth 100000 in
set_option maxHeartbeats 2000000 in
theorem lists_any (a b : Option Addr) (n c m d : Nat) (raw raw' : List LsR) (ss ts : List (List Int)) (w : World) (h1 : LlV w a n c raw ss) (h2 : LlV w b m d raw' ts) :
    Calls Try.prog 69 #[.slice a n c, .slice b m d] w fun e w' => e = .returned (.bool (decide (ss = ts))) ∧ Below w.heap.size w w' := by
  have hl : n = ss.length := h1.n_
  have hl' : m = ts.length := h2.n_
  have x1 := h1.row.max
  have x2 := h1.row.cap
  have x3 := h2.row.max
  have x4 := h2.row.cap
  have HL := Lib.hid hl
  have HL' := Lib.hid hl'
  clear hl hl'
  obtain ⟨R, hR⟩ : ∃ R, decide (ss = ts) = R := ⟨_, rfl⟩
  rw [hR]
  have HR := Lib.hid hR
  clear hR
  by_cases e3 : n = m
  case neg =>
    have b1 : ((n : Int) != (m : Int)) = true := by simp; omega
    go_enter Try.func69, Try.ntmps69
    go_wp2_with fail
    go_ret
    refine ⟨ret_bool ?_, Below.refl _ _⟩
    have hne : ¬ ss = ts := fun h => e3 (by rw [HL.out, HL'.out, h])
    rw [← HR.out]
    simp [hne]
  case pos =>
    subst e3
    have bq : ((n : Int) != (n : Int)) = false := by simp
    go_enter Try.func69, Try.ntmps69
    go_wp2_with fail
    go_loopw [5] (fun i wr => ∃ k : Nat, k ≤ n ∧ i = .int .i64 k ∧ ss.take k = ts.take k ∧ Below w.heap.size w wr) (fun i _ => n - (intOf i).toNat)
    case atStart => exact ⟨0, by omega, rfl, rfl, Below.refl _ _⟩
    case round =>
      obtain ⟨k, hk, rfl, ht, hb⟩ := hrel
      have HT := Lib.hid ht
      clear ht
      by_cases hlt : k < n
      · have hi : (k : Int) < (n : Int) := by omega
        have hi0 : (0 : Int) ≤ (k : Int) := by omega
        go_wp2_with fail
        refine Calmly.wp_region_mix 9 (.fl 0 <| .fl 1 <| .fl 2 <| .fl 3 <| .fl 4 <| .fl 5 <| .fl 6 <| .fl 7 <| .eff 8 <| .tail [9]) (by kernel_rfl) (by kernel_rfl) ?_
        have BD : Below wr.heap.size wr wr.drew := (Below.refl _ _).drew
        have hb3 := hb.trans (BD.mono hb.size)
        clear BD
        generalize wr.drew = V at *
        have kH := h1.keep hb3
        have kH' := h2.keep hb3
        obtain ⟨b1', o1, r1, hc1⟩ := kH.row.at_ (by omega)
        obtain ⟨b2', o2, r2, hc2⟩ := kH'.row.at_ (by omega)
        subst r1 r2
        have p0 := hc1 k hlt
        have q0 := hc2 k hlt
        rw [Nat.mul_one] at p0 q0
        have u1 := kH.at_ k (by have := HL.out; omega)
        have v1 := kH'.at_ k (by have := HL'.out; omega)
        obtain ⟨xx, hxx⟩ : ∃ x, raw[k]?.getD lsr0 = x := ⟨_, rfl⟩
        obtain ⟨yy, hyy⟩ : ∃ x, raw'[k]?.getD lsr0 = x := ⟨_, rfl⟩
        obtain ⟨X, hX⟩ : ∃ x, ss[k]?.getD [] = x := ⟨_, rfl⟩
        obtain ⟨Y, hY⟩ : ∃ x, ts[k]?.getD [] = x := ⟨_, rfl⟩
        rw [hxx] at p0 u1
        rw [hyy] at q0 v1
        rw [hX] at u1
        rw [hY] at v1
        obtain ⟨xa, xn, xc⟩ := xx
        obtain ⟨ya, yn, yc⟩ := yy
        dsimp only [hv] at p0 q0
        have HX := Lib.hid hX
        have HY := Lib.hid hY
        have U1 := Lib.hid u1
        have V1 := Lib.hid v1
        clear hc1 hc2 hxx hyy hX hY kH kH' u1 v1
        have hkn := hlt
        have hkl := hk
        clear hk hlt
        have hk := Below.refl V.heap.size V
        by_cases he : X = Y
        · have HE := Lib.hid he
          clear he
          go_wp2_with (first | ((with_reducible refine Calmly.is_fl ?_); refine Calmly.mix_fl rfl ?_ (fun _ _ => ?_); (first | exact .move _ | exact .load _ _ | exact .fieldAddr _ _ _ (by kernel_rfl) | exact .assign _ | exact .binOp _ _ _ _ _ rfl | exact .indexAddr _ _ _ | exact .len _ _ (by kernel_rfl) | exact .field _ _ _ | exact .extract _ _ | exact .pick _ _ _ | exact .build _ _ | exact .slice _ _ _ _ _ | exact .unOp _ _ _ rfl | exact .index _ _ _ | exact .max _ _ _ rfl rfl | exact .min _ _ _ rfl rfl | exact .nilCheck _ _ rfl)) | ((with_reducible refine Calmly.is_gl ?_); refine Calmly.mix_gl rfl rfl rfl ?_; first | ((first | with_reducible refine Calmly.gl_tt ?_ (fun _ _ => ?_) | with_reducible refine Calmly.gl_ff ?_ (fun _ _ => ?_)); (first | exact .move _ | exact .load _ _ | exact .fieldAddr _ _ _ (by kernel_rfl) | exact .assign _ | exact .binOp _ _ _ _ _ rfl | exact .indexAddr _ _ _ | exact .len _ _ (by kernel_rfl) | exact .field _ _ _ | exact .extract _ _ | exact .pick _ _ _ | exact .build _ _ | exact .slice _ _ _ _ _ | exact .unOp _ _ _ rfl | exact .index _ _ _ | exact .max _ _ _ rfl rfl | exact .min _ _ _ rfl rfl | exact .nilCheck _ _ rfl)) | with_reducible refine Calmly.gl_tf (fun _ _ => ?_) | with_reducible refine Calmly.gl_ft (fun _ _ => ?_)) | ((with_reducible refine Calmly.is_eff ?_); refine Calmly.mix_eff rfl (fun _ _ => ?_)) | ((with_reducible refine Calmly.is_gf ?_); refine Calmly.mix_gf rfl rfl rfl ?_; first | with_reducible refine Calmly.gf_tt (fun _ _ => ?_) | with_reducible refine Calmly.gf_ff (fun _ _ => ?_) | with_reducible refine Calmly.gf_tf (kept_of hk) (fun _ _ => ?_) | with_reducible refine Calmly.gf_ft (kept_of hk) (fun _ _ => ?_)) | ((with_reducible refine Calmly.is_tail ?_); first | refine Calmly.mix_tail_nil ?_ | refine Calmly.mix_tail rfl (fun _ _ => ?_)) | ((with_reducible refine Calmly.is_kept ?_); refine ⟨kept_of hk, ?_⟩) | (with_reducible refine Calmly.mix_alt ?_ ?_) | (go_at_call 21; refine (ints_any xa ya xn yn xc yc X Y _ (U1.out.keep hk) (V1.out.keep hk)).mono ?_; rintro e w5 ⟨rfl, nd, rfl⟩; replace hk := step_of hk (drawn _ nd); rw [show decide (X = Y) = true by simp [HE.out]]))
          go_roundw
          case rel => exact ⟨k + 1, by omega, by go_num, takeG_step [] HT.out (by have := HL.out; omega) (by have := HL'.out; omega) (by rw [HX.out, HY.out, HE.out]), hb3.trans (hk.mono hb3.size)⟩
          case measure => simp [intOf]; omega
        · have HE := Lib.hid he
          clear he
          go_wp2_with (first | ((with_reducible refine Calmly.is_fl ?_); refine Calmly.mix_fl rfl ?_ (fun _ _ => ?_); (first | exact .move _ | exact .load _ _ | exact .fieldAddr _ _ _ (by kernel_rfl) | exact .assign _ | exact .binOp _ _ _ _ _ rfl | exact .indexAddr _ _ _ | exact .len _ _ (by kernel_rfl) | exact .field _ _ _ | exact .extract _ _ | exact .pick _ _ _ | exact .build _ _ | exact .slice _ _ _ _ _ | exact .unOp _ _ _ rfl | exact .index _ _ _ | exact .max _ _ _ rfl rfl | exact .min _ _ _ rfl rfl | exact .nilCheck _ _ rfl)) | ((with_reducible refine Calmly.is_gl ?_); refine Calmly.mix_gl rfl rfl rfl ?_; first | ((first | with_reducible refine Calmly.gl_tt ?_ (fun _ _ => ?_) | with_reducible refine Calmly.gl_ff ?_ (fun _ _ => ?_)); (first | exact .move _ | exact .load _ _ | exact .fieldAddr _ _ _ (by kernel_rfl) | exact .assign _ | exact .binOp _ _ _ _ _ rfl | exact .indexAddr _ _ _ | exact .len _ _ (by kernel_rfl) | exact .field _ _ _ | exact .extract _ _ | exact .pick _ _ _ | exact .build _ _ | exact .slice _ _ _ _ _ | exact .unOp _ _ _ rfl | exact .index _ _ _ | exact .max _ _ _ rfl rfl | exact .min _ _ _ rfl rfl | exact .nilCheck _ _ rfl)) | with_reducible refine Calmly.gl_tf (fun _ _ => ?_) | with_reducible refine Calmly.gl_ft (fun _ _ => ?_)) | ((with_reducible refine Calmly.is_eff ?_); refine Calmly.mix_eff rfl (fun _ _ => ?_)) | ((with_reducible refine Calmly.is_gf ?_); refine Calmly.mix_gf rfl rfl rfl ?_; first | with_reducible refine Calmly.gf_tt (fun _ _ => ?_) | with_reducible refine Calmly.gf_ff (fun _ _ => ?_) | with_reducible refine Calmly.gf_tf (kept_of hk) (fun _ _ => ?_) | with_reducible refine Calmly.gf_ft (kept_of hk) (fun _ _ => ?_)) | ((with_reducible refine Calmly.is_tail ?_); first | refine Calmly.mix_tail_nil ?_ | refine Calmly.mix_tail rfl (fun _ _ => ?_)) | ((with_reducible refine Calmly.is_kept ?_); refine ⟨kept_of hk, ?_⟩) | (with_reducible refine Calmly.mix_alt ?_ ?_) | (go_at_call 21; refine (ints_any xa ya xn yn xc yc X Y _ (U1.out.keep hk) (V1.out.keep hk)).mono ?_; rintro e w5 ⟨rfl, nd, rfl⟩; replace hk := step_of hk (drawn _ nd); rw [show decide (X = Y) = false by simp [HE.out]]))
          go_ret
          refine ⟨ret_bool ?_, hb3.trans (hk.mono hb3.size)⟩
          have hne : ¬ ss = ts := fun h => by
            subst h
            exact HE.out (HX.out.symm.trans HY.out)
          rw [← HR.out]
          simp [hne]
      · have hle : (n : Int) ≤ (k : Int) := by omega
        obtain rfl : n = k := by omega
        clear hlt hk
        go_wp2_with fail
        go_ret
        refine ⟨ret_bool ?_, hb⟩
        have h5 := HT.out
        rw [List.take_of_length_le (by have := HL.out; omega), List.take_of_length_le (by have := HL'.out; omega)] at h5
        rw [← HR.out]
        simp [h5]
set_option maxRecDepth 100000 in
set_option maxHeartbeats 2000000 in
theorem fracs_any (a b : Option Addr) (n c m d : Nat) (ss ts : List FcR) (w : World) (h1 : SFcR w a n c ss) (h2 : SFcR w b m d ts) :
    Calls Try.prog 73 #[.slice a n c, .slice b m d] w fun e w' => e = .returned (.bool (decide (ss = ts))) ∧ Below w.heap.size w w' := by
  have hl : n = ss.length := h1.len
  have hl' : m = ts.length := h2.len
  have x1 := h1.max
  have x2 := h1.cap
  have x3 := h2.max
  have x4 := h2.cap
  have HL := Lib.hid hl
  have HL' := Lib.hid hl'
  clear hl hl'
  obtain ⟨R, hR⟩ : ∃ R, decide (ss = ts) = R := ⟨_, rfl⟩
  rw [hR]
  have HR := Lib.hid hR
  clear hR
  by_cases e3 : n = m
  case neg =>
    have b1 : ((n : Int) != (m : Int)) = true := by simp; omega
    go_enter Try.func73, Try.ntmps73
    go_wp2_with fail
    go_ret
    refine ⟨ret_bool ?_, Below.refl _ _⟩
    have hne : ¬ ss = ts := fun h => e3 (by rw [HL.out, HL'.out, h])
    rw [← HR.out]
    simp [hne]
  case pos =>
    subst e3
    have bq : ((n : Int) != (n : Int)) = false := by simp
    go_enter Try.func73, Try.ntmps73
    go_wp2_with fail
    go_loopw [5] (fun i wr => ∃ k : Nat, k ≤ n ∧ i = .int .i64 k ∧ ss.take k = ts.take k ∧ Below w.heap.size w wr) (fun i _ => n - (intOf i).toNat)
    case atStart => exact ⟨0, by omega, rfl, rfl, Below.refl _ _⟩
    case round =>
      obtain ⟨k, hk, rfl, ht, hb⟩ := hrel
      have HT := Lib.hid ht
      clear ht
      by_cases hlt : k < n
      · have hi : (k : Int) < (n : Int) := by omega
        have hi0 : (0 : Int) ≤ (k : Int) := by omega
        go_wp2_with fail
        refine Calmly.wp_region_mix 8 (.fl 0 <| .fl 1 <| .fl 2 <| .fl 3 <| .fl 4 <| .fl 5 <| .fl 6 <| .fl 7 <| .tail [8]) (by kernel_rfl) (by kernel_rfl) ?_
        have BD : Below wr.heap.size wr wr.drew := (Below.refl _ _).drew
        have hb3 := hb.trans (BD.mono hb.size)
        clear BD
        generalize wr.drew = V at *
        have kH := h1.keep hb3
        have kH' := h2.keep hb3
        obtain ⟨b1', o1, r1, hc1⟩ := kH.at_ (by omega)
        obtain ⟨b2', o2, r2, hc2⟩ := kH'.at_ (by omega)
        subst r1 r2
        obtain ⟨p0, p1⟩ := hc1 k hlt
        obtain ⟨q0, q1⟩ := hc2 k hlt
        obtain ⟨X, hX⟩ : ∃ x, ss[k]?.getD fcr0 = x := ⟨_, rfl⟩
        obtain ⟨Y, hY⟩ : ∃ x, ts[k]?.getD fcr0 = x := ⟨_, rfl⟩
        rw [hX] at p0 p1
        rw [hY] at q0 q1
        obtain ⟨x1', x2'⟩ := X
        obtain ⟨y1', y2'⟩ := Y
        dsimp only at p0 p1 q0 q1
        have HX := Lib.hid hX
        have HY := Lib.hid hY
        clear hc1 hc2 hX hY kH kH' 
        have hkn := hlt
        have hkl := hk
        clear hk hlt
        have hk := Below.refl V.heap.size V
        by_cases he1 : x1' = y1'
        · subst he1
          by_cases he2 : x2' = y2'
          · subst he2
            go_wp2_with (first | ((with_reducible refine Calmly.is_fl ?_); refine Calmly.mix_fl rfl ?_ (fun _ _ => ?_); (first | exact .move _ | exact .load _ _ | exact .fieldAddr _ _ _ (by kernel_rfl) | exact .assign _ | exact .binOp _ _ _ _ _ rfl | exact .indexAddr _ _ _ | exact .len _ _ (by kernel_rfl) | exact .field _ _ _ | exact .extract _ _ | exact .pick _ _ _ | exact .build _ _ | exact .slice _ _ _ _ _ | exact .unOp _ _ _ rfl | exact .index _ _ _ | exact .max _ _ _ rfl rfl | exact .min _ _ _ rfl rfl | exact .nilCheck _ _ rfl)) | ((with_reducible refine Calmly.is_gl ?_); refine Calmly.mix_gl rfl rfl rfl ?_; first | ((first | with_reducible refine Calmly.gl_tt ?_ (fun _ _ => ?_) | with_reducible refine Calmly.gl_ff ?_ (fun _ _ => ?_)); (first | exact .move _ | exact .load _ _ | exact .fieldAddr _ _ _ (by kernel_rfl) | exact .assign _ | exact .binOp _ _ _ _ _ rfl | exact .indexAddr _ _ _ | exact .len _ _ (by kernel_rfl) | exact .field _ _ _ | exact .extract _ _ | exact .pick _ _ _ | exact .build _ _ | exact .slice _ _ _ _ _ | exact .unOp _ _ _ rfl | exact .index _ _ _ | exact .max _ _ _ rfl rfl | exact .min _ _ _ rfl rfl | exact .nilCheck _ _ rfl)) | with_reducible refine Calmly.gl_tf (fun _ _ => ?_) | with_reducible refine Calmly.gl_ft (fun _ _ => ?_)) | ((with_reducible refine Calmly.is_eff ?_); refine Calmly.mix_eff rfl (fun _ _ => ?_)) | ((with_reducible refine Calmly.is_gf ?_); refine Calmly.mix_gf rfl rfl rfl ?_; first | with_reducible refine Calmly.gf_tt (fun _ _ => ?_) | with_reducible refine Calmly.gf_ff (fun _ _ => ?_) | with_reducible refine Calmly.gf_tf (kept_of hk) (fun _ _ => ?_) | with_reducible refine Calmly.gf_ft (kept_of hk) (fun _ _ => ?_)) | ((with_reducible refine Calmly.is_tail ?_); first | refine Calmly.mix_tail_nil ?_ | refine Calmly.mix_tail rfl (fun _ _ => ?_)) | ((with_reducible refine Calmly.is_kept ?_); refine ⟨kept_of hk, ?_⟩) | (with_reducible refine Calmly.mix_alt ?_ ?_))
            go_roundw
            case rel => exact ⟨k + 1, by omega, by go_num, takeG_step fcr0 HT.out (by have := HL.out; omega) (by have := HL'.out; omega) (by rw [HX.out, HY.out]), hb3.trans (hk.mono hb3.size)⟩
            case measure => simp [intOf]; omega
          · have d1 : (x2' == y2') = false := by simpa using he2
            have HE := Lib.hid he2
            clear he2
            go_wp2_with (first | ((with_reducible refine Calmly.is_fl ?_); refine Calmly.mix_fl rfl ?_ (fun _ _ => ?_); (first | exact .move _ | exact .load _ _ | exact .fieldAddr _ _ _ (by kernel_rfl) | exact .assign _ | exact .binOp _ _ _ _ _ rfl | exact .indexAddr _ _ _ | exact .len _ _ (by kernel_rfl) | exact .field _ _ _ | exact .extract _ _ | exact .pick _ _ _ | exact .build _ _ | exact .slice _ _ _ _ _ | exact .unOp _ _ _ rfl | exact .index _ _ _ | exact .max _ _ _ rfl rfl | exact .min _ _ _ rfl rfl | exact .nilCheck _ _ rfl)) | ((with_reducible refine Calmly.is_gl ?_); refine Calmly.mix_gl rfl rfl rfl ?_; first | ((first | with_reducible refine Calmly.gl_tt ?_ (fun _ _ => ?_) | with_reducible refine Calmly.gl_ff ?_ (fun _ _ => ?_)); (first | exact .move _ | exact .load _ _ | exact .fieldAddr _ _ _ (by kernel_rfl) | exact .assign _ | exact .binOp _ _ _ _ _ rfl | exact .indexAddr _ _ _ | exact .len _ _ (by kernel_rfl) | exact .field _ _ _ | exact .extract _ _ | exact .pick _ _ _ | exact .build _ _ | exact .slice _ _ _ _ _ | exact .unOp _ _ _ rfl | exact .index _ _ _ | exact .max _ _ _ rfl rfl | exact .min _ _ _ rfl rfl | exact .nilCheck _ _ rfl)) | with_reducible refine Calmly.gl_tf (fun _ _ => ?_) | with_reducible refine Calmly.gl_ft (fun _ _ => ?_)) | ((with_reducible refine Calmly.is_eff ?_); refine Calmly.mix_eff rfl (fun _ _ => ?_)) | ((with_reducible refine Calmly.is_gf ?_); refine Calmly.mix_gf rfl rfl rfl ?_; first | with_reducible refine Calmly.gf_tt (fun _ _ => ?_) | with_reducible refine Calmly.gf_ff (fun _ _ => ?_) | with_reducible refine Calmly.gf_tf (kept_of hk) (fun _ _ => ?_) | with_reducible refine Calmly.gf_ft (kept_of hk) (fun _ _ => ?_)) | ((with_reducible refine Calmly.is_tail ?_); first | refine Calmly.mix_tail_nil ?_ | refine Calmly.mix_tail rfl (fun _ _ => ?_)) | ((with_reducible refine Calmly.is_kept ?_); refine ⟨kept_of hk, ?_⟩) | (with_reducible refine Calmly.mix_alt ?_ ?_))
            go_ret
            refine ⟨ret_bool ?_, hb3.trans (hk.mono hb3.size)⟩
            have hne : ¬ ss = ts := fun h => by
              subst h
              have h5 := HX.out.symm.trans HY.out; rw [Prod.mk.injEq] at h5; exact HE.out h5.2
            rw [← HR.out]
            simp [hne]
        · have d1 : (x1' == y1') = false := by simpa using he1
          have HE := Lib.hid he1
          clear he1
          go_wp2_with (first | ((with_reducible refine Calmly.is_fl ?_); refine Calmly.mix_fl rfl ?_ (fun _ _ => ?_); (first | exact .move _ | exact .load _ _ | exact .fieldAddr _ _ _ (by kernel_rfl) | exact .assign _ | exact .binOp _ _ _ _ _ rfl | exact .indexAddr _ _ _ | exact .len _ _ (by kernel_rfl) | exact .field _ _ _ | exact .extract _ _ | exact .pick _ _ _ | exact .build _ _ | exact .slice _ _ _ _ _ | exact .unOp _ _ _ rfl | exact .index _ _ _ | exact .max _ _ _ rfl rfl | exact .min _ _ _ rfl rfl | exact .nilCheck _ _ rfl)) | ((with_reducible refine Calmly.is_gl ?_); refine Calmly.mix_gl rfl rfl rfl ?_; first | ((first | with_reducible refine Calmly.gl_tt ?_ (fun _ _ => ?_) | with_reducible refine Calmly.gl_ff ?_ (fun _ _ => ?_)); (first | exact .move _ | exact .load _ _ | exact .fieldAddr _ _ _ (by kernel_rfl) | exact .assign _ | exact .binOp _ _ _ _ _ rfl | exact .indexAddr _ _ _ | exact .len _ _ (by kernel_rfl) | exact .field _ _ _ | exact .extract _ _ | exact .pick _ _ _ | exact .build _ _ | exact .slice _ _ _ _ _ | exact .unOp _ _ _ rfl | exact .index _ _ _ | exact .max _ _ _ rfl rfl | exact .min _ _ _ rfl rfl | exact .nilCheck _ _ rfl)) | with_reducible refine Calmly.gl_tf (fun _ _ => ?_) | with_reducible refine Calmly.gl_ft (fun _ _ => ?_)) | ((with_reducible refine Calmly.is_eff ?_); refine Calmly.mix_eff rfl (fun _ _ => ?_)) | ((with_reducible refine Calmly.is_gf ?_); refine Calmly.mix_gf rfl rfl rfl ?_; first | with_reducible refine Calmly.gf_tt (fun _ _ => ?_) | with_reducible refine Calmly.gf_ff (fun _ _ => ?_) | with_reducible refine Calmly.gf_tf (kept_of hk) (fun _ _ => ?_) | with_reducible refine Calmly.gf_ft (kept_of hk) (fun _ _ => ?_)) | ((with_reducible refine Calmly.is_tail ?_); first | refine Calmly.mix_tail_nil ?_ | refine Calmly.mix_tail rfl (fun _ _ => ?_)) | ((with_reducible refine Calmly.is_kept ?_); refine ⟨kept_of hk, ?_⟩) | (with_reducible refine Calmly.mix_alt ?_ ?_))
          go_ret
          refine ⟨ret_bool ?_, hb3.trans (hk.mono hb3.size)⟩
          have hne : ¬ ss = ts := fun h => by
            subst h
            have h5 := HX.out.symm.trans HY.out; rw [Prod.mk.injEq] at h5; exact HE.out h5.1
          rw [← HR.out]
          simp [hne]
      · have hle : (n : Int) ≤ (k : Int) := by omega
        obtain rfl : n = k := by omega
        clear hlt hk
        go_wp2_with fail
        go_ret
        refine ⟨ret_bool ?_, hb⟩
        have h5 := HT.out
        rw [List.take_of_length_le (by have := HL.out; omega), List.take_of_length_le (by have := HL'.out; omega)] at h5
        rw [← HR.out]
        simp [h5]
end Go.Proofs.Ytaiikekgckjdeaa
