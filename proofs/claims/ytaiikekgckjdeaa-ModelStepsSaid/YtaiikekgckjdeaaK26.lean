/- Whether states are equal. Whether rows of states are equal. The reference's first state. -/
import Derived.Test.YtaiikekgckjdeaaK25
namespace Go.Proofs.Ytaiikekgckjdeaa
open Go.RowKit
open Calmly (Kept)
set_option maxRecDepth 100000 in
set_option maxHeartbeats 2000000 in
theorem rSameState_any (a1 a2 a3 b1 b2 b3 : Option Addr) (n1 c1 n2 c2 n3 c3 m1 d1 m2 d2 m3 d3 : Nat) (s t : St) (w : World) (h1 : StV w ((a1, n1, c1), (a2, n2, c2), (a3, n3, c3)) s) (h2 : StV w ((b1, m1, d1), (b2, m2, d2), (b3, m3, d3)) t) :
    Calls Try.prog 62 #[.agg #[.slice a1 n1 c1, .slice a2 n2 c2, .slice a3 n3 c3], .agg #[.slice b1 m1 d1, .slice b2 m2 d2, .slice b3 m3 d3]] w fun e w' => e = .returned (.bool (decide (s = t))) ∧ Below w.heap.size w w' := by
  obtain ⟨s1, s2, s3⟩ := s
  obtain ⟨t1, t2, t3⟩ := t
  obtain ⟨raw, hH⟩ := h1.hol
  obtain ⟨raw', hH'⟩ := h2.hol
  have i1 := h1.now
  have i2 := h1.bef
  have j1 := h2.now
  have j2 := h2.bef
  dsimp only at hH hH' i1 i2 j1 j2
  have hl3 : n3 = s3.length := by rw [hH.row.len, hH.len]
  have hk3 : m3 = t3.length := by rw [hH'.row.len, hH'.len]
  have HL3 := Lib.hid hl3
  have HK3 := Lib.hid hk3
  have x1 := hH.row.max
  have x2 := hH.row.cap
  have x3 := hH'.row.max
  have x4 := hH'.row.cap
  clear h1 h2 hl3 hk3
  obtain ⟨R, hR⟩ : ∃ R, decide (((s1, s2, s3) : St) = (t1, t2, t3)) = R := ⟨_, rfl⟩
  rw [hR]
  have HR := Lib.hid hR
  clear hR
  have y2 := blk_keep (alloc_new w (.cells #[.slice a1 n1 c1, .slice a2 n2 c2, .slice a3 n3 c3] 97)) ((Below.refl _ _).alloc (Nat.le_refl _) (.cells #[.slice b1 m1 d1, .slice b2 m2 d2, .slice b3 m3 d3] 97))
  have y3 := alloc_new (w.alloc (.cells #[.slice a1 n1 c1, .slice a2 n2 c2, .slice a3 n3 c3] 97)) (.cells #[.slice b1 m1 d1, .slice b2 m2 d2, .slice b3 m3 d3] 97)
  have BW : Below w.heap.size w ((w.alloc (.cells #[.slice a1 n1 c1, .slice a2 n2 c2, .slice a3 n3 c3] 97)).alloc (.cells #[.slice b1 m1 d1, .slice b2 m2 d2, .slice b3 m3 d3] 97)) := ((Below.refl _ _).alloc (Nat.le_refl _) _).alloc (by simp) _
  simp only [World.size_alloc] at y3
  have f0 := cell_block y2 0
  have g0 := cell_block y3 0
  go_enter Try.func62, Try.ntmps62
  go_wp2_with fail
  generalize (w.alloc (.cells #[.slice a1 n1 c1, .slice a2 n2 c2, .slice a3 n3 c3] 97)).alloc (.cells #[.slice b1 m1 d1, .slice b2 m2 d2, .slice b3 m3 d3] 97) = W at *
  refine (ints_any a1 b1 n1 m1 c1 d1 s1 t1 _ (i1.keep BW) (j1.keep BW)).mono ?_
  rintro e w1 ⟨rfl, q1, rfl⟩
  have hd1 := below_drewN (Below.refl W.heap.size W) q1
  replace y2 := blk_keep y2 hd1
  replace y3 := blk_keep y3 hd1
  replace BW := BW.trans (hd1.mono BW.size)
  clear f0 g0 hd1
  generalize W.drewN q1 = W1 at *
  by_cases e1 : s1 = t1
  case neg =>
    rw [show decide (s1 = t1) = false by simp [e1]]
    go_wp2_with fail
    go_ret
    exact ⟨ret_bool (by rw [← HR.out]; simp [e1]), BW⟩
  case pos =>
    rw [show decide (s1 = t1) = true by simp [e1]]
    have f1 := cell_block y2 1
    have g1 := cell_block y3 1
    have E1 := Lib.hid e1
    clear e1
    go_wp2_with fail
    refine (ints_any a2 b2 n2 m2 c2 d2 s2 t2 _ (i2.keep BW) (j2.keep BW)).mono ?_
    rintro e w1 ⟨rfl, q2, rfl⟩
    have hd1 := below_drewN (Below.refl W1.heap.size W1) q2
    replace y2 := blk_keep y2 hd1
    replace y3 := blk_keep y3 hd1
    replace BW := BW.trans (hd1.mono BW.size)
    clear f1 g1 hd1
    generalize W1.drewN q2 = W2 at *
    by_cases e2 : s2 = t2
    case neg =>
      rw [show decide (s2 = t2) = false by simp [e2]]
      go_wp2_with fail
      go_ret
      exact ⟨ret_bool (by rw [← HR.out]; simp [e2]), BW⟩
    case pos =>
      rw [show decide (s2 = t2) = true by simp [e2]]
      have f2 := cell_block y2 2
      have g2 := cell_block y3 2
      have E2 := Lib.hid e2
      clear e2
      by_cases e3 : n3 = m3
      case neg =>
        have b1 : ((n3 : Int) != (m3 : Int)) = true := by simp; omega
        go_wp2_with fail
        go_ret
        refine ⟨ret_bool ?_, BW⟩
        have hne : ¬ s3 = t3 := fun h => e3 (by rw [HL3.out, HK3.out, h])
        rw [← HR.out]
        simp [hne]
      case pos =>
        subst e3
        have bq : ((n3 : Int) != (n3 : Int)) = false := by simp
        go_wp2_with fail
        go_loopw [5] (fun i wr => ∃ k : Nat, k ≤ n3 ∧ i = .int .i64 k ∧ s3.take k = t3.take k ∧ Below W2.heap.size W2 wr) (fun i _ => n3 - (intOf i).toNat)
        case atStart => exact ⟨0, by omega, rfl, rfl, Below.refl _ _⟩
        case round =>
          clear f2 g2
          obtain ⟨k, hk, rfl, ht, hb⟩ := hrel
          have HT := Lib.hid ht
          clear ht
          have hB2 := BW.trans (hb.mono BW.size)
          have z2 := blk_keep y2 hb
          have z3 := blk_keep y3 hb
          have f2 := cell_block z2 2
          have g2 := cell_block z3 2
          by_cases hlt : k < n3
          · have hi : (k : Int) < (n3 : Int) := by omega
            have hi0 : (0 : Int) ≤ (k : Int) := by omega
            go_wp2_with fail
            refine Calmly.wp_region_mix 11 (.fl 0 <| .fl 1 <| .fl 2 <| .fl 3 <| .fl 4 <| .fl 5 <| .fl 6 <| .fl 7 <| .fl 8 <| .fl 9 <| .eff 10 <| .tail [11]) (by kernel_rfl) (by kernel_rfl) ?_
            have BD : Below wr.heap.size wr wr.drew := (Below.refl _ _).drew
            replace f2 := cell_block (blk_keep z2 BD) 2
            replace g2 := cell_block (blk_keep z3 BD) 2
            have hB3 := hB2.trans (BD.mono hB2.size)
            have hb3 := hb.trans (BD.mono hb.size)
            clear BD z2 z3
            generalize wr.drew = V at *
            have kH := hH.keep hB3
            have kH' := hH'.keep hB3
            obtain ⟨b1', o1, r1, hc1⟩ := kH.row.at_ (by omega)
            obtain ⟨b2', o2, r2, hc2⟩ := kH'.row.at_ (by omega)
            subst r1 r2
            obtain ⟨p0, p1⟩ := hc1 k hlt
            obtain ⟨q0, q1⟩ := hc2 k hlt
            obtain ⟨u0, u1, _⟩ := kH.hl k (by have := HL3.out; omega)
            obtain ⟨v0, v1, _⟩ := kH'.hl k (by have := HK3.out; omega)
            rw [u0] at p0
            rw [v0] at q0
            obtain ⟨xx, hxx⟩ : ∃ x, raw[k]?.getD hor0 = x := ⟨_, rfl⟩
            obtain ⟨yy, hyy⟩ : ∃ x, raw'[k]?.getD hor0 = x := ⟨_, rfl⟩
            obtain ⟨X, hX⟩ : ∃ x, s3[k]?.getD ho0 = x := ⟨_, rfl⟩
            obtain ⟨Y, hY⟩ : ∃ x, t3[k]?.getD ho0 = x := ⟨_, rfl⟩
            rw [hxx] at p1 u1
            rw [hyy] at q1 v1
            rw [hX] at p0 u1
            rw [hY] at q0 v1
            obtain ⟨w1, xa, xn, xc⟩ := xx
            obtain ⟨w2, ya, yn, yc⟩ := yy
            obtain ⟨A, xs⟩ := X
            obtain ⟨B, ys⟩ := Y
            dsimp only [hv] at p0 p1 q0 q1 u1 v1
            have HX := Lib.hid hX
            have HY := Lib.hid hY
            clear hc1 hc2 hxx hyy hX hY u0 v0 kH kH'
            have hkn := hlt
            have hkl := hk
            clear hk hlt
            have hk := Below.refl V.heap.size V
            by_cases he : A = B ∧ xs = ys
            · have HE := Lib.hid he
              clear he
              go_wp2_with (first | ((with_reducible refine Calmly.is_fl ?_); refine Calmly.mix_fl rfl ?_ (fun _ _ => ?_); (first | exact .move _ | exact .load _ _ | exact .fieldAddr _ _ _ (by kernel_rfl) | exact .assign _ | exact .binOp _ _ _ _ _ rfl | exact .indexAddr _ _ _ | exact .len _ _ (by kernel_rfl) | exact .field _ _ _ | exact .extract _ _ | exact .pick _ _ _ | exact .build _ _ | exact .slice _ _ _ _ _ | exact .unOp _ _ _ rfl | exact .index _ _ _ | exact .max _ _ _ rfl rfl | exact .min _ _ _ rfl rfl | exact .nilCheck _ _ rfl)) | ((with_reducible refine Calmly.is_gl ?_); refine Calmly.mix_gl rfl rfl rfl ?_; first | ((first | with_reducible refine Calmly.gl_tt ?_ (fun _ _ => ?_) | with_reducible refine Calmly.gl_ff ?_ (fun _ _ => ?_)); (first | exact .move _ | exact .load _ _ | exact .fieldAddr _ _ _ (by kernel_rfl) | exact .assign _ | exact .binOp _ _ _ _ _ rfl | exact .indexAddr _ _ _ | exact .len _ _ (by kernel_rfl) | exact .field _ _ _ | exact .extract _ _ | exact .pick _ _ _ | exact .build _ _ | exact .slice _ _ _ _ _ | exact .unOp _ _ _ rfl | exact .index _ _ _ | exact .max _ _ _ rfl rfl | exact .min _ _ _ rfl rfl | exact .nilCheck _ _ rfl)) | with_reducible refine Calmly.gl_tf (fun _ _ => ?_) | with_reducible refine Calmly.gl_ft (fun _ _ => ?_)) | ((with_reducible refine Calmly.is_eff ?_); refine Calmly.mix_eff rfl (fun _ _ => ?_)) | ((with_reducible refine Calmly.is_gf ?_); refine Calmly.mix_gf rfl rfl rfl ?_; first | with_reducible refine Calmly.gf_tt (fun _ _ => ?_) | with_reducible refine Calmly.gf_ff (fun _ _ => ?_) | with_reducible refine Calmly.gf_tf (kept_of hk) (fun _ _ => ?_) | with_reducible refine Calmly.gf_ft (kept_of hk) (fun _ _ => ?_)) | ((with_reducible refine Calmly.is_tail ?_); first | refine Calmly.mix_tail_nil ?_ | refine Calmly.mix_tail rfl (fun _ _ => ?_)) | ((with_reducible refine Calmly.is_kept ?_); refine ⟨kept_of hk, ?_⟩) | (with_reducible refine Calmly.mix_alt ?_ ?_) | (go_at_call 33; refine (sameHold_any A B xa ya xn yn xc yc xs ys _ (u1.keep hk) (v1.keep hk)).mono ?_; rintro e w5 ⟨rfl, hb5⟩; replace hk := step_of hk hb5; rw [show decide (A = B ∧ xs = ys) = true by simp [HE.out]]))
              go_roundw
              case rel => exact ⟨k + 1, by omega, by go_num, takeG_step ho0 HT.out (by have := HL3.out; omega) (by have := HK3.out; omega) (by rw [HX.out, HY.out, HE.out.1, HE.out.2]), hb3.trans (hk.mono hb3.size)⟩
              case measure => simp [intOf]; omega
            · have HE := Lib.hid he
              clear he
              go_wp2_with (first | ((with_reducible refine Calmly.is_fl ?_); refine Calmly.mix_fl rfl ?_ (fun _ _ => ?_); (first | exact .move _ | exact .load _ _ | exact .fieldAddr _ _ _ (by kernel_rfl) | exact .assign _ | exact .binOp _ _ _ _ _ rfl | exact .indexAddr _ _ _ | exact .len _ _ (by kernel_rfl) | exact .field _ _ _ | exact .extract _ _ | exact .pick _ _ _ | exact .build _ _ | exact .slice _ _ _ _ _ | exact .unOp _ _ _ rfl | exact .index _ _ _ | exact .max _ _ _ rfl rfl | exact .min _ _ _ rfl rfl | exact .nilCheck _ _ rfl)) | ((with_reducible refine Calmly.is_gl ?_); refine Calmly.mix_gl rfl rfl rfl ?_; first | ((first | with_reducible refine Calmly.gl_tt ?_ (fun _ _ => ?_) | with_reducible refine Calmly.gl_ff ?_ (fun _ _ => ?_)); (first | exact .move _ | exact .load _ _ | exact .fieldAddr _ _ _ (by kernel_rfl) | exact .assign _ | exact .binOp _ _ _ _ _ rfl | exact .indexAddr _ _ _ | exact .len _ _ (by kernel_rfl) | exact .field _ _ _ | exact .extract _ _ | exact .pick _ _ _ | exact .build _ _ | exact .slice _ _ _ _ _ | exact .unOp _ _ _ rfl | exact .index _ _ _ | exact .max _ _ _ rfl rfl | exact .min _ _ _ rfl rfl | exact .nilCheck _ _ rfl)) | with_reducible refine Calmly.gl_tf (fun _ _ => ?_) | with_reducible refine Calmly.gl_ft (fun _ _ => ?_)) | ((with_reducible refine Calmly.is_eff ?_); refine Calmly.mix_eff rfl (fun _ _ => ?_)) | ((with_reducible refine Calmly.is_gf ?_); refine Calmly.mix_gf rfl rfl rfl ?_; first | with_reducible refine Calmly.gf_tt (fun _ _ => ?_) | with_reducible refine Calmly.gf_ff (fun _ _ => ?_) | with_reducible refine Calmly.gf_tf (kept_of hk) (fun _ _ => ?_) | with_reducible refine Calmly.gf_ft (kept_of hk) (fun _ _ => ?_)) | ((with_reducible refine Calmly.is_tail ?_); first | refine Calmly.mix_tail_nil ?_ | refine Calmly.mix_tail rfl (fun _ _ => ?_)) | ((with_reducible refine Calmly.is_kept ?_); refine ⟨kept_of hk, ?_⟩) | (with_reducible refine Calmly.mix_alt ?_ ?_) | (go_at_call 33; refine (sameHold_any A B xa ya xn yn xc yc xs ys _ (u1.keep hk) (v1.keep hk)).mono ?_; rintro e w5 ⟨rfl, hb5⟩; replace hk := step_of hk hb5; rw [show decide (A = B ∧ xs = ys) = false by simpa using HE.out]))
              go_ret
              refine ⟨ret_bool ?_, hB3.trans (hk.mono hB3.size)⟩
              have hne : ¬ s3 = t3 := fun h => by
                subst h
                have h5 := HX.out.symm.trans HY.out
                injection h5 with h6 h7
                exact HE.out ⟨h6, h7⟩
              rw [← HR.out]
              simp [hne]
          · have hle : (n3 : Int) ≤ (k : Int) := by omega
            obtain rfl : n3 = k := by omega
            clear hlt hk
            go_wp2_with fail
            go_ret
            refine ⟨ret_bool ?_, hB2⟩
            have h5 := HT.out
            rw [List.take_of_length_le (by have := HL3.out; omega), List.take_of_length_le (by have := HK3.out; omega)] at h5
            rw [← HR.out]
            simp [E1.out, E2.out, h5]
end Go.Proofs.Ytaiikekgckjdeaa

namespace Go.Proofs.Ytaiikekgckjdeaa
open Go.RowKit
open Calmly (Kept)
def st0' : St := ([], [], [])
instance decHo : DecidableEq Ho := inferInstanceAs (DecidableEq (Int × List (Int × Bool)))
instance decSt : DecidableEq St := inferInstanceAs (DecidableEq (List Int × List Int × List Ho))
instance decSts : DecidableEq (List St) := inferInstance
/-- A row of states that reads as such. -/
structure StsV (w : World) (a : Option Addr) (n c : Nat) (raw : List StR) (ss : List St) : Prop where
  row : SStR w a n c raw
  len : raw.length = ss.length
  st : ∀ i, i < ss.length → StV w (raw[i]?.getD str0) (ss[i]?.getD st0')
theorem StsV.keep {w w' : World} {a : Option Addr} {n c : Nat} {raw : List StR} {ss : List St} (h : StsV w a n c raw ss) (hb : Below w.heap.size w w') : StsV w' a n c raw ss := ⟨h.row.keep hb, h.len, fun i hi => (h.st i hi).keep hb⟩
theorem Sts.sv {w : World} {B : Nat} {a : Option Addr} {n c : Nat} {raw : List StR} {ss : List St} (h : Sts w B a n c raw ss) : StsV w a n c raw ss := ⟨h.row.sr, h.len, h.st⟩
set_option maxRecDepth 100000 in
set_option maxHeartbeats 2000000 in
theorem rSameStates_any (a b : Option Addr) (n c m d : Nat) (raw raw' : List StR) (ss ts : List St) (w : World) (h1 : StsV w a n c raw ss) (h2 : StsV w b m d raw' ts) :
    Calls Try.prog 20 #[.slice a n c, .slice b m d] w fun e w' => e = .returned (.bool (decide (ss = ts))) ∧ Below w.heap.size w w' := by
  have hl : n = ss.length := by rw [h1.row.len, h1.len]
  have hl' : m = ts.length := by rw [h2.row.len, h2.len]
  have x1 := h1.row.max
  have x2 := h1.row.cap
  have x3 := h2.row.max
  have x4 := h2.row.cap
  have HL := Lib.hid hl
  have HL' := Lib.hid hl'
  clear hl hl'
  obtain ⟨R, hR⟩ : ∃ R, decide (ss = ts) = R := ⟨_, rfl⟩
  rw [hR]
  have HR := Lib.hid hR
  clear hR
  by_cases e3 : n = m
  case neg =>
    have b1 : ((n : Int) != (m : Int)) = true := by simp; omega
    go_enter Try.func20, Try.ntmps20
    go_wp2_with fail
    go_ret
    refine ⟨ret_bool ?_, Below.refl _ _⟩
    have hne : ¬ ss = ts := fun h => e3 (by rw [HL.out, HL'.out, h])
    rw [← HR.out]
    simp [hne]
  case pos =>
    subst e3
    have bq : ((n : Int) != (n : Int)) = false := by simp
    go_enter Try.func20, Try.ntmps20
    go_wp2_with fail
    go_loopw [5] (fun i wr => ∃ k : Nat, k ≤ n ∧ i = .int .i64 k ∧ ss.take k = ts.take k ∧ Below w.heap.size w wr) (fun i _ => n - (intOf i).toNat)
    case atStart => exact ⟨0, by omega, rfl, rfl, Below.refl _ _⟩
    case round =>
      obtain ⟨k, hk, rfl, ht, hb⟩ := hrel
      have HT := Lib.hid ht
      clear ht
      by_cases hlt : k < n
      · have hi : (k : Int) < (n : Int) := by omega
        have hi0 : (0 : Int) ≤ (k : Int) := by omega
        go_wp2_with fail
        refine Calmly.wp_region_mix 9 (.fl 0 <| .fl 1 <| .fl 2 <| .fl 3 <| .fl 4 <| .fl 5 <| .fl 6 <| .fl 7 <| .eff 8 <| .tail [9]) (by kernel_rfl) (by kernel_rfl) ?_
        have BD : Below wr.heap.size wr wr.drew := (Below.refl _ _).drew
        have hb3 := hb.trans (BD.mono hb.size)
        clear BD
        generalize wr.drew = V at *
        have kH := h1.keep hb3
        have kH' := h2.keep hb3
        obtain ⟨b1', o1, r1, hc1⟩ := kH.row.at_ (by omega)
        obtain ⟨b2', o2, r2, hc2⟩ := kH'.row.at_ (by omega)
        subst r1 r2
        obtain ⟨p0, p1, p2⟩ := hc1 k hlt
        obtain ⟨q0, q1, q2⟩ := hc2 k hlt
        have u1 := kH.st k (by have := HL.out; omega)
        have v1 := kH'.st k (by have := HL'.out; omega)
        obtain ⟨xx, hxx⟩ : ∃ x, raw[k]?.getD str0 = x := ⟨_, rfl⟩
        obtain ⟨yy, hyy⟩ : ∃ x, raw'[k]?.getD str0 = x := ⟨_, rfl⟩
        obtain ⟨X, hX⟩ : ∃ x, ss[k]?.getD st0' = x := ⟨_, rfl⟩
        obtain ⟨Y, hY⟩ : ∃ x, ts[k]?.getD st0' = x := ⟨_, rfl⟩
        rw [hxx] at p0 p1 p2 u1
        rw [hyy] at q0 q1 q2 v1
        rw [hX] at u1
        rw [hY] at v1
        obtain ⟨⟨xa1, xn1, xc1⟩, ⟨xa2, xn2, xc2⟩, ⟨xa3, xn3, xc3⟩⟩ := xx
        obtain ⟨⟨ya1, yn1, yc1⟩, ⟨ya2, yn2, yc2⟩, ⟨ya3, yn3, yc3⟩⟩ := yy
        dsimp only [hv] at p0 p1 p2 q0 q1 q2
        have HX := Lib.hid hX
        have HY := Lib.hid hY
        have U1 := Lib.hid u1
        have V1 := Lib.hid v1
        clear hc1 hc2 hxx hyy hX hY kH kH' u1 v1
        have hkn := hlt
        have hkl := hk
        clear hk hlt
        have hk := Below.refl V.heap.size V
        by_cases he : X = Y
        · have HE := Lib.hid he
          clear he
          go_wp2_with (first | ((with_reducible refine Calmly.is_fl ?_); refine Calmly.mix_fl rfl ?_ (fun _ _ => ?_); (first | exact .move _ | exact .load _ _ | exact .fieldAddr _ _ _ (by kernel_rfl) | exact .assign _ | exact .binOp _ _ _ _ _ rfl | exact .indexAddr _ _ _ | exact .len _ _ (by kernel_rfl) | exact .field _ _ _ | exact .extract _ _ | exact .pick _ _ _ | exact .build _ _ | exact .slice _ _ _ _ _ | exact .unOp _ _ _ rfl | exact .index _ _ _ | exact .max _ _ _ rfl rfl | exact .min _ _ _ rfl rfl | exact .nilCheck _ _ rfl)) | ((with_reducible refine Calmly.is_gl ?_); refine Calmly.mix_gl rfl rfl rfl ?_; first | ((first | with_reducible refine Calmly.gl_tt ?_ (fun _ _ => ?_) | with_reducible refine Calmly.gl_ff ?_ (fun _ _ => ?_)); (first | exact .move _ | exact .load _ _ | exact .fieldAddr _ _ _ (by kernel_rfl) | exact .assign _ | exact .binOp _ _ _ _ _ rfl | exact .indexAddr _ _ _ | exact .len _ _ (by kernel_rfl) | exact .field _ _ _ | exact .extract _ _ | exact .pick _ _ _ | exact .build _ _ | exact .slice _ _ _ _ _ | exact .unOp _ _ _ rfl | exact .index _ _ _ | exact .max _ _ _ rfl rfl | exact .min _ _ _ rfl rfl | exact .nilCheck _ _ rfl)) | with_reducible refine Calmly.gl_tf (fun _ _ => ?_) | with_reducible refine Calmly.gl_ft (fun _ _ => ?_)) | ((with_reducible refine Calmly.is_eff ?_); refine Calmly.mix_eff rfl (fun _ _ => ?_)) | ((with_reducible refine Calmly.is_gf ?_); refine Calmly.mix_gf rfl rfl rfl ?_; first | with_reducible refine Calmly.gf_tt (fun _ _ => ?_) | with_reducible refine Calmly.gf_ff (fun _ _ => ?_) | with_reducible refine Calmly.gf_tf (kept_of hk) (fun _ _ => ?_) | with_reducible refine Calmly.gf_ft (kept_of hk) (fun _ _ => ?_)) | ((with_reducible refine Calmly.is_tail ?_); first | refine Calmly.mix_tail_nil ?_ | refine Calmly.mix_tail rfl (fun _ _ => ?_)) | ((with_reducible refine Calmly.is_kept ?_); refine ⟨kept_of hk, ?_⟩) | (with_reducible refine Calmly.mix_alt ?_ ?_) | (go_at_call 62; refine (rSameState_any xa1 xa2 xa3 ya1 ya2 ya3 xn1 xc1 xn2 xc2 xn3 xc3 yn1 yc1 yn2 yc2 yn3 yc3 X Y _ (U1.out.keep hk) (V1.out.keep hk)).mono ?_; rintro e w5 ⟨rfl, hb5⟩; replace hk := step_of hk hb5; rw [show decide (X = Y) = true by simp [HE.out]]))
          go_roundw
          case rel => exact ⟨k + 1, by omega, by go_num, takeG_step st0' HT.out (by have := HL.out; omega) (by have := HL'.out; omega) (by rw [HX.out, HY.out, HE.out]), hb3.trans (hk.mono hb3.size)⟩
          case measure => simp [intOf]; omega
        · have HE := Lib.hid he
          clear he
          go_wp2_with (first | ((with_reducible refine Calmly.is_fl ?_); refine Calmly.mix_fl rfl ?_ (fun _ _ => ?_); (first | exact .move _ | exact .load _ _ | exact .fieldAddr _ _ _ (by kernel_rfl) | exact .assign _ | exact .binOp _ _ _ _ _ rfl | exact .indexAddr _ _ _ | exact .len _ _ (by kernel_rfl) | exact .field _ _ _ | exact .extract _ _ | exact .pick _ _ _ | exact .build _ _ | exact .slice _ _ _ _ _ | exact .unOp _ _ _ rfl | exact .index _ _ _ | exact .max _ _ _ rfl rfl | exact .min _ _ _ rfl rfl | exact .nilCheck _ _ rfl)) | ((with_reducible refine Calmly.is_gl ?_); refine Calmly.mix_gl rfl rfl rfl ?_; first | ((first | with_reducible refine Calmly.gl_tt ?_ (fun _ _ => ?_) | with_reducible refine Calmly.gl_ff ?_ (fun _ _ => ?_)); (first | exact .move _ | exact .load _ _ | exact .fieldAddr _ _ _ (by kernel_rfl) | exact .assign _ | exact .binOp _ _ _ _ _ rfl | exact .indexAddr _ _ _ | exact .len _ _ (by kernel_rfl) | exact .field _ _ _ | exact .extract _ _ | exact .pick _ _ _ | exact .build _ _ | exact .slice _ _ _ _ _ | exact .unOp _ _ _ rfl | exact .index _ _ _ | exact .max _ _ _ rfl rfl | exact .min _ _ _ rfl rfl | exact .nilCheck _ _ rfl)) | with_reducible refine Calmly.gl_tf (fun _ _ => ?_) | with_reducible refine Calmly.gl_ft (fun _ _ => ?_)) | ((with_reducible refine Calmly.is_eff ?_); refine Calmly.mix_eff rfl (fun _ _ => ?_)) | ((with_reducible refine Calmly.is_gf ?_); refine Calmly.mix_gf rfl rfl rfl ?_; first | with_reducible refine Calmly.gf_tt (fun _ _ => ?_) | with_reducible refine Calmly.gf_ff (fun _ _ => ?_) | with_reducible refine Calmly.gf_tf (kept_of hk) (fun _ _ => ?_) | with_reducible refine Calmly.gf_ft (kept_of hk) (fun _ _ => ?_)) | ((with_reducible refine Calmly.is_tail ?_); first | refine Calmly.mix_tail_nil ?_ | refine Calmly.mix_tail rfl (fun _ _ => ?_)) | ((with_reducible refine Calmly.is_kept ?_); refine ⟨kept_of hk, ?_⟩) | (with_reducible refine Calmly.mix_alt ?_ ?_) | (go_at_call 62; refine (rSameState_any xa1 xa2 xa3 ya1 ya2 ya3 xn1 xc1 xn2 xc2 xn3 xc3 yn1 yc1 yn2 yc2 yn3 yc3 X Y _ (U1.out.keep hk) (V1.out.keep hk)).mono ?_; rintro e w5 ⟨rfl, hb5⟩; replace hk := step_of hk hb5; rw [show decide (X = Y) = false by simpa using HE.out]))
          go_ret
          refine ⟨ret_bool ?_, hb3.trans (hk.mono hb3.size)⟩
          have hne : ¬ ss = ts := fun h => by
            subst h
            exact HE.out (HX.out.symm.trans HY.out)
          rw [← HR.out]
          simp [hne]
      · have hle : (n : Int) ≤ (k : Int) := by omega
        obtain rfl : n = k := by omega
        clear hlt hk
        go_wp2_with fail
        go_ret
        refine ⟨ret_bool ?_, hb⟩
        have h5 := HT.out
        rw [List.take_of_length_le (by have := HL.out; omega), List.take_of_length_le (by have := HL'.out; omega)] at h5
        rw [← HR.out]
        simp [h5]
end Go.Proofs.Ytaiikekgckjdeaa

namespace Go.Proofs.Ytaiikekgckjdeaa
open Go.RowKit
open Calmly (Kept)
set_option maxRecDepth 100000 in
set_option maxHeartbeats 4000000 in
theorem rFirst_any (a : Option Addr) (n c : Nat) (raw : List FlR) (fs : List Fl) (w : World) (h1 : FrV w a n c raw fs) (hz : (frmE fs).2 = 0) :
    Calls Try.prog 71 #[.agg #[.slice a n c]] w fun e w' => ∃ x : StR, e = .returned (.agg #[hv x.1, hv x.2.1, hv x.2.2]) ∧ StV w' x (bgSt fs) ∧ Below w.heap.size w w' := by
  have hn := h1.n_
  have m1 := h1.row.max
  have c1 := h1.row.cap
  have HN := Lib.hid hn
  have hok := frmE_ok hz
  have HO := Lib.hid hok
  have hn5 : n ≤ 5 := by omega
  clear hn hok
  have y0 := blk_keep (alloc_new w (.cells #[.slice a n c] 24)) ((Below.refl _ _).alloc (Nat.le_refl _) (.cells #[.slice none 0 0, .slice none 0 0, .slice none 0 0] 97))
  have y1 := alloc_new (w.alloc (.cells #[.slice a n c] 24)) (.cells #[.slice none 0 0, .slice none 0 0, .slice none 0 0] 97)
  have B1 : Below w.heap.size w ((w.alloc (.cells #[.slice a n c] 24)).alloc (.cells #[.slice none 0 0, .slice none 0 0, .slice none 0 0] 97)) := ((Below.refl _ _).alloc (Nat.le_refl _) _).alloc (by simp) _
  simp only [World.size_alloc] at y1
  have f0 := cell_block y0 0
  go_enter Try.func71, Try.ntmps71
  go_wp2_with fail
  generalize (w.alloc (.cells #[.slice a n c] 24)).alloc (.cells #[.slice none 0 0, .slice none 0 0, .slice none 0 0] 97) = w1 at *
  refine Calmly.wp_region_mix 6 (.fl 0 <| .fl 2 <| .alt 1 (.alt 3 (.fl 4 <| .eff 5 <| .tail [6]) (.eff 5 (.eff 3 <| .fl 4 <| .tail [6]))) (.alt 3 (.alt 1 (.fl 4 <| .eff 5 <| .tail [6]) (.eff 5 (.eff 1 <| .fl 4 <| .tail [6]))) (.eff 5 (.alt 1 (.eff 3 <| .fl 4 <| .tail [6]) (.eff 3 (.eff 1 <| .fl 4 <| .tail [6])))))) (by kernel_rfl) (by kernel_rfl) ?_
  rename_i K hK
  have hK' := fun a w (h : Stop _) => hK a w h.out
  clear hK
  have HKK : Hid (∀ (b6 : Nat) (a3 a7 : Option Addr) (X : World), BgI w b6 a a3 a7 n c fs 0 X → w.heap.size + 1 < b6 → K { tmps := #[.agg #[.slice a n c], .pointer (some ⟨w.heap.size, 0, none⟩), .pointer (some ⟨w.heap.size + 1, 0, none⟩), .int .i64 (n : Int), .pointer (some ⟨b6, 0, none⟩), undef, .pointer (some ⟨w.heap.size, 0, none⟩), .slice a n c, .int .i64 (n : Int), .int .i64 (n : Int), .slice a3 n n, .int .i64 (n : Int), .slice a7 n n, .agg #[.slice a3 n n, .slice a7 n n, .slice none 0 0], undef, undef, undef, undef, undef, undef, undef, undef, undef, undef, undef, undef, undef, undef, undef, undef, undef, undef], defers := [] } X) := Lib.hid (by
    intro b6 a3 a7 X hI hb6
    refine hK' _ _ ⟨?_⟩
    have g0 := cell_block hI.t1 0
    go_wp2_with fail
    go_loopw [5] (fun i wr => ∃ k : Nat, k ≤ n ∧ i = .int .i64 k ∧ BgI w b6 a a3 a7 n c fs k wr) (fun i _ => n - (intOf i).toNat)
    case atStart => exact ⟨0, by omega, rfl, hI⟩
    case round =>
      clear hI g0
      obtain ⟨k, hk, rfl, hI⟩ := hrel
      by_cases hlt : k < n
      · obtain ⟨cb, co, rfl, hcc⟩ := (h1.row.keep (hI.bel.mono (Nat.le_refl _))).at_ (by omega)
        obtain ⟨q0, q1, q2⟩ := hcc k hlt
        obtain ⟨-, -, hsel⟩ := (h1.keep (hI.bel.mono (Nat.le_refl _))).fl k (by rw [← HN.out]; exact hlt)
        obtain ⟨rr, hrr⟩ : ∃ rr, raw[k]?.getD flr0 = rr := ⟨_, rfl⟩
        obtain ⟨x0, x1, ⟨u1, u2, u3⟩⟩ := rr
        rw [hrr] at q0 q1 q2 hsel
        clear hrr hcc
        dsimp only [hv] at q0 q1 q2 hsel
        have hi1 : (k : Int) < (n : Int) := by omega
        have hi0 : (0 : Int) ≤ (k : Int) := by omega
        have gt1 := cell_block hI.t1 0
        go_wp2_with fail
        have BV : Below wr.heap.size wr wr.drew := (Below.refl _ _).drew
        replace q2 := cell_keep q2 BV
        replace gt1 := cell_block (blk_keep hI.t1 BV) 0
        refine Calmly.wp_region_mix 10 (.fl 0 <| .fl 1 <| .fl 2 <| .fl 3 <| .fl 4 <| .fl 5 <| .fl 6 <| .fl 7 <| .eff 8 <| .eff 9 <| .tail [10, 11, 12]) (by kernel_rfl) (by kernel_rfl) ?_
        generalize World.drew _ = V8 at *
        have HI := Lib.hid hI
        obtain ⟨i1, -, -, -, -, av, cv, rw', i6, i7, i8, i9⟩ := hI
        have H9 := Lib.hid i9
        have H8 := Lib.hid i8
        clear i8 i9
        have j6 := blk_keep i6 BV
        have j7 := i7.keep BV
        have hwV := i1.size
        have f1 := cell_block j6 2
        have hsl := hsel.keep BV
        have hfl := flErr_ok (HO.out.2 k (by rw [← HN.out]; exact hlt))
        have hl4 := (sprE_ok hfl.2.2).1
        have hu2 : u2 ≤ 4 := by rw [hsel.len]; exact hl4.2
        have hu3 := hsel.len
        have HU := Lib.hid hu3
        clear hfl hl4 hu3 q0 q1
        have hVs := BV.size
        have hk8 := Below.refl V8.heap.size V8
        have hk := hk8
        go_wp2_with (first | ((with_reducible refine Calmly.is_fl ?_); refine Calmly.mix_fl rfl ?_ (fun _ _ => ?_); (first | exact .move _ | exact .load _ _ | exact .fieldAddr _ _ _ (by kernel_rfl) | exact .assign _ | exact .binOp _ _ _ _ _ rfl | exact .indexAddr _ _ _ | exact .len _ _ (by kernel_rfl) | exact .field _ _ _ | exact .extract _ _ | exact .pick _ _ _ | exact .build _ _ | exact .slice _ _ _ _ _ | exact .unOp _ _ _ rfl | exact .index _ _ _ | exact .max _ _ _ rfl rfl | exact .min _ _ _ rfl rfl | exact .nilCheck _ _ rfl)) | ((with_reducible refine Calmly.is_gl ?_); refine Calmly.mix_gl rfl rfl rfl ?_; first | ((first | with_reducible refine Calmly.gl_tt ?_ (fun _ _ => ?_) | with_reducible refine Calmly.gl_ff ?_ (fun _ _ => ?_)); (first | exact .move _ | exact .load _ _ | exact .fieldAddr _ _ _ (by kernel_rfl) | exact .assign _ | exact .binOp _ _ _ _ _ rfl | exact .indexAddr _ _ _ | exact .len _ _ (by kernel_rfl) | exact .field _ _ _ | exact .extract _ _ | exact .pick _ _ _ | exact .build _ _ | exact .slice _ _ _ _ _ | exact .unOp _ _ _ rfl | exact .index _ _ _ | exact .max _ _ _ rfl rfl | exact .min _ _ _ rfl rfl | exact .nilCheck _ _ rfl)) | with_reducible refine Calmly.gl_tf (fun _ _ => ?_) | with_reducible refine Calmly.gl_ft (fun _ _ => ?_)) | ((with_reducible refine Calmly.is_eff ?_); refine Calmly.mix_eff rfl (fun _ _ => ?_)) | ((with_reducible refine Calmly.is_gf ?_); refine Calmly.mix_gf rfl rfl rfl ?_; first | with_reducible refine Calmly.gf_tt (fun _ _ => ?_) | with_reducible refine Calmly.gf_ff (fun _ _ => ?_) | with_reducible refine Calmly.gf_tf (kept_of hk) (fun _ _ => ?_) | with_reducible refine Calmly.gf_ft (kept_of hk) (fun _ _ => ?_)) | ((with_reducible refine Calmly.is_kept ?_); refine ⟨kept_of hk, ?_⟩) | (with_reducible refine Calmly.mix_alt ?_ ?_))
        refine (rBegin_any u1 u2 u3 _ _ (hsl.keep hk) (by omega)).mono ?_
        rintro e w3 ⟨av2, rfl, hoS, hs3⟩
        replace hk := step_of hk hs3
        clear hk8
        have k6 := blk_keep j6 hk
        have k7 := j7.keep hk
        have hms := hoS.ss.max
        have hks := hk.size
        go_wp2_with (first | ((with_reducible refine Calmly.is_tail ?_); refine Calmly.mix_tail_app rfl (fun rest hrest => ?_); refine appRec w3 95 49 (new := [.int .i64 0, .slice av2 u2 u2]) rfl rfl _ _ rfl Try.underlying95 Try.info_hor rfl (by decide) (by decide) k7 rfl rfl rfl (oneCell_HoR (0, (av2, u2, u2))) (by omega) (by omega) (fun a9 c9 w9 ho9 hb9 hko9 hsm9 => ?_); refine hrest _ _ ?_; have k9 := (hsm9 b6 (blk_lt k6) (BlkT.not ⟨_, k6⟩ (by decide))).trans k6; have f5 := cell_block k9 2; have f6 := frozen_block k9 2) | ((with_reducible refine Calmly.is_fl ?_); refine Calmly.mix_fl rfl ?_ (fun _ _ => ?_); (first | exact .move _ | exact .load _ _ | exact .fieldAddr _ _ _ (by kernel_rfl) | exact .assign _ | exact .binOp _ _ _ _ _ rfl | exact .indexAddr _ _ _ | exact .len _ _ (by kernel_rfl) | exact .field _ _ _ | exact .extract _ _ | exact .pick _ _ _ | exact .build _ _ | exact .slice _ _ _ _ _ | exact .unOp _ _ _ rfl | exact .index _ _ _ | exact .max _ _ _ rfl rfl | exact .min _ _ _ rfl rfl | exact .nilCheck _ _ rfl)) | ((with_reducible refine Calmly.is_gl ?_); refine Calmly.mix_gl rfl rfl rfl ?_; first | ((first | with_reducible refine Calmly.gl_tt ?_ (fun _ _ => ?_) | with_reducible refine Calmly.gl_ff ?_ (fun _ _ => ?_)); (first | exact .move _ | exact .load _ _ | exact .fieldAddr _ _ _ (by kernel_rfl) | exact .assign _ | exact .binOp _ _ _ _ _ rfl | exact .indexAddr _ _ _ | exact .len _ _ (by kernel_rfl) | exact .field _ _ _ | exact .extract _ _ | exact .pick _ _ _ | exact .build _ _ | exact .slice _ _ _ _ _ | exact .unOp _ _ _ rfl | exact .index _ _ _ | exact .max _ _ _ rfl rfl | exact .min _ _ _ rfl rfl | exact .nilCheck _ _ rfl)) | with_reducible refine Calmly.gl_tf (fun _ _ => ?_) | with_reducible refine Calmly.gl_ft (fun _ _ => ?_)) | ((with_reducible refine Calmly.is_eff ?_); refine Calmly.mix_eff rfl (fun _ _ => ?_)) | ((with_reducible refine Calmly.is_gf ?_); refine Calmly.mix_gf rfl rfl rfl ?_; first | with_reducible refine Calmly.gf_tt (fun _ _ => ?_) | with_reducible refine Calmly.gf_ff (fun _ _ => ?_) | with_reducible refine Calmly.gf_tf (kept_of hk) (fun _ _ => ?_) | with_reducible refine Calmly.gf_ft (kept_of hk) (fun _ _ => ?_)) | ((with_reducible refine Calmly.is_tail ?_); first | refine Calmly.mix_tail_nil ?_ | refine Calmly.mix_tail rfl (fun _ _ => ?_)) | ((with_reducible refine Calmly.is_kept ?_); refine ⟨kept_of hk, ?_⟩) | (with_reducible refine Calmly.mix_alt ?_ ?_) | (refine kept_alloc hk (fun hk' hblk hge => ?_); replace hk := hk'; clear hk'))
        go_roundw
        case rel =>
          refine ⟨k + 1, by omega, by go_num, BgI.step HI.out hb6 BV hs3 hb9 ⟨hb9.size, hsm9⟩ k9 H8.out H9.out ho9 ?_⟩
          have e9 : List.replicate u2 sp0 = bgS (fs[k]?.getD fl0).2.2 := by rw [bgS, HU.out]
          rw [e9] at hoS
          exact hoS
        case measure => simp [intOf]; omega
      · obtain rfl : k = n := by omega
        have hle : (k : Int) ≤ (k : Int) := by omega
        have hnlt : ¬ (k : Int) < (k : Int) := by omega
        have HI := Lib.hid hI
        obtain ⟨i1, -, i3, -, -, av, cv, rw', i6, i7, i8, i9⟩ := hI
        have H9 := Lib.hid i9
        have H8 := Lib.hid i8
        clear i8 i9
        have hml := i7.sr.max
        have hmc := i7.sr.cap
        have f1 := cell_block i6 0
        have f2 := cell_block i6 1
        have f3 := cell_block i6 2
        have g1 := cell_block i3 0
        have g2 := cell_block i3 1
        have g3 := cell_block i3 2
        have g4 := frozen_block i3 0
        have g5 := frozen_block i3 1
        have g6 := frozen_block i3 2
        go_wp2_with fail
        have hw : w.heap.size ≤ w.heap.size + 1 := by omega
        have q0 := setBlk (setBlk (setBlk i3 0 (.slice a3 k k)) 1 (.slice a7 k k)) 2 (.slice av k cv)
        simp at q0
        have e0 := cell_block q0 0
        have e1 := cell_block q0 1
        have e2 := cell_block q0 2
        have B4 := ((i1.setCell (p := ⟨w.heap.size + 1, 0, none⟩) hw (.slice a3 k k)).setCell (p := ⟨w.heap.size + 1, 1, none⟩) hw (.slice a7 k k)).setCell (p := ⟨w.heap.size + 1, 2, none⟩) hw (.slice av k cv)
        have hBt : But 97 wr (((wr.setCell ⟨w.heap.size + 1, 0, none⟩ (.slice a3 k k)).setCell ⟨w.heap.size + 1, 1, none⟩ (.slice a7 k k)).setCell ⟨w.heap.size + 1, 2, none⟩ (.slice av k cv)) := ⟨by simp, fun b _ hne => by
          have hb : b ≠ w.heap.size + 1 := by rintro rfl; exact hne ⟨_, i3⟩
          rw [Below.heap_setCell _ _ _ _ hb, Below.heap_setCell _ _ _ _ hb, Below.heap_setCell _ _ _ _ hb]⟩
        refine bodyPost_ret (v := .agg #[.slice a3 k k, .slice a7 k k, .slice av k cv]) (by simp [results, Try.results71, go_sem, e0, e1, e2]) rfl ⟨a3, k, k, a7, k, k, av, k, cv, rfl, HI.out.stV HN.out i7 H8.out H9.out hBt, B4⟩)
  clear hK'
  replace y0 := blk_keep y0 (Below.refl _ _).drew
  replace y1 := blk_keep y1 (Below.refl _ _).drew
  replace B1 := B1.drew
  generalize w1.drew = V at *
  clear f0
  have f0 := cell_block y0 0
  have hk := Below.refl V.heap.size V
  have hn6 : n ≤ 1000000 := by omega
  go_wp2_with (first | (refine mix_makeIa 1 (n := n) rfl rfl rfl rfl hn6 (fun a3 w' ho3 hb => ?_); have hge3 := hk.size; (try replace ho7 := ho7.keepM hb); (try replace y6 := blk_keep y6 hb); replace hk := step_of hk hb; (try have z0 := cell_block y6 0); (try have z1 := cell_block y6 1); (try have z2 := cell_block y6 2); (try have z3 := frozen_block y6 0); (try have z4 := frozen_block y6 1); (try have z5 := frozen_block y6 2); refine ⟨kept_of hk, ?_⟩; clear hb) | (refine mix_makeIa 3 (n := n) rfl rfl rfl rfl hn6 (fun a7 w' ho7 hb => ?_); have hge7 := hk.size; (try replace ho3 := ho3.keepM hb); (try replace y6 := blk_keep y6 hb); replace hk := step_of hk hb; (try have z0 := cell_block y6 0); (try have z1 := cell_block y6 1); (try have z2 := cell_block y6 2); (try have z3 := frozen_block y6 0); (try have z4 := frozen_block y6 1); (try have z5 := frozen_block y6 2); refine ⟨kept_of hk, ?_⟩; clear hb) | (refine kept_allocR hk (fun hb hk2 y6 hge6 => ?_); (try replace ho3 := ho3.keepM hb); (try replace ho7 := ho7.keepM hb); replace hk := hk2; clear hb hk2; generalize World.alloc _ (.cells #[.slice none 0 0, .slice none 0 0, .slice none 0 0] 97) = W' at *; (try have z0 := cell_block y6 0); (try have z1 := cell_block y6 1); (try have z2 := cell_block y6 2); (try have z3 := frozen_block y6 0); (try have z4 := frozen_block y6 1); (try have z5 := frozen_block y6 2)) | ((with_reducible refine Calmly.is_fl ?_); refine Calmly.mix_fl rfl ?_ (fun _ _ => ?_); (first | exact .move _ | exact .load _ _ | exact .fieldAddr _ _ _ (by kernel_rfl) | exact .assign _ | exact .binOp _ _ _ _ _ rfl | exact .indexAddr _ _ _ | exact .len _ _ (by kernel_rfl) | exact .field _ _ _ | exact .extract _ _ | exact .pick _ _ _ | exact .build _ _ | exact .slice _ _ _ _ _ | exact .unOp _ _ _ rfl | exact .index _ _ _ | exact .max _ _ _ rfl rfl | exact .min _ _ _ rfl rfl | exact .nilCheck _ _ rfl)) | ((with_reducible refine Calmly.is_gl ?_); refine Calmly.mix_gl rfl rfl rfl ?_; first | ((first | with_reducible refine Calmly.gl_tt ?_ (fun _ _ => ?_) | with_reducible refine Calmly.gl_ff ?_ (fun _ _ => ?_)); (first | exact .move _ | exact .load _ _ | exact .fieldAddr _ _ _ (by kernel_rfl) | exact .assign _ | exact .binOp _ _ _ _ _ rfl | exact .indexAddr _ _ _ | exact .len _ _ (by kernel_rfl) | exact .field _ _ _ | exact .extract _ _ | exact .pick _ _ _ | exact .build _ _ | exact .slice _ _ _ _ _ | exact .unOp _ _ _ rfl | exact .index _ _ _ | exact .max _ _ _ rfl rfl | exact .min _ _ _ rfl rfl | exact .nilCheck _ _ rfl)) | with_reducible refine Calmly.gl_tf (fun _ _ => ?_) | with_reducible refine Calmly.gl_ft (fun _ _ => ?_)) | ((with_reducible refine Calmly.is_eff ?_); refine Calmly.mix_eff rfl (fun _ _ => ?_)) | ((with_reducible refine Calmly.is_gf ?_); refine Calmly.mix_gf rfl rfl rfl ?_; first | with_reducible refine Calmly.gf_tt (fun _ _ => ?_) | with_reducible refine Calmly.gf_ff (fun _ _ => ?_) | with_reducible refine Calmly.gf_tf (kept_of hk) (fun _ _ => ?_) | with_reducible refine Calmly.gf_ft (kept_of hk) (fun _ _ => ?_)) | ((with_reducible refine Calmly.is_tail ?_); first | refine Calmly.mix_tail_nil ?_ | refine Calmly.mix_tail rfl (fun _ _ => ?_)) | ((with_reducible refine Calmly.is_kept ?_); refine ⟨kept_of hk, ?_⟩) | (with_reducible refine Calmly.mix_alt ?_ ?_))
  all_goals
    have hVw := B1.size
    have hV1 := blk_lt y1
    apply HKK.out
    · exact BgI.start (B1.trans (hk.mono B1.size)) (blk_keep y0 hk) (blk_keep y1 hk) (owns_lower ho3 (by omega)) (owns_lower ho7 (by omega)) y6 (by omega)
    · omega
end Go.Proofs.Ytaiikekgckjdeaa
