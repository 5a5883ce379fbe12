/- The reference: Drifts and Stiffness. Printed by gen_f8.py. -/
import Derived.Test.YtaiikekgckjdeaaK24
namespace Go.Proofs.Ytaiikekgckjdeaa
open Go.RowKit
attribute [local go_sem] Oper.semAt_some
open Calmly (Kept)
/-- The drifts under forces. -/
def drV (fs : List Fl) (p : List Int) (i : Nat) : Int × Int := fqF (suf p i) (stK fs i)
def drS (fs : List Fl) (p : List Int) : List FcR := (List.range p.length).map (drV fs p)
theorem suf_part {p : List Int} (h : ∀ i : Nat, -1000000 ≤ p[i]?.getD 0 ∧ p[i]?.getD 0 ≤ 1000000) (k e : Nat) (he : e ≤ 7) : -7000000 ≤ sumR (fun j => p[k + j]?.getD 0) e ∧ sumR (fun j => p[k + j]?.getD 0) e ≤ 7000000 := by
  have := sumR_bds (f := fun j => p[k + j]?.getD 0) (B := 1000000) (fun j => h _) e
  have h2 : (e : Int) ≤ 7 := by omega
  omega
set_option maxRecDepth 100000 in
set_option maxHeartbeats 2000000 in
theorem rDrifts_any (a pa : Option Addr) (n c pn pc : Nat) (raw : List FlR) (fs : List Fl) (p : List Int) (w : World) (h1 : FrV w a n c raw fs) (hz : (frmE fs).2 = 0) (h2 : SI w pa pn pc p) (hp : foE n p = 0) :
    Calls Try.prog 74 #[.agg #[.slice a n c], .slice pa pn pc] w fun e w' => ∃ da dc, e = .returned (.slice da pn dc) ∧ SFcR w' da pn dc (drS fs p) ∧ Below w.heap.size w w' := by
  obtain ⟨hpn, hpb⟩ := foE_ok hp
  have hln : pn = p.length := h2.len
  have hn := h1.n_
  have m2 := h2.max
  have q2 := h2.cap
  have hn5 := (frmE_ok hz).1.2
  have HZ := Lib.hid hz
  have HPB := Lib.hid hpb
  have HLN := Lib.hid hln
  have HN := Lib.hid hn
  have hp5 : pn ≤ 5 := by omega
  have hpn5 : pn ≤ n ∧ n ≤ pn := by omega
  clear hz hpb hpn hn hn5 hln hp
  obtain ⟨hpn1, hpn2⟩ := hpn5
  have y0 := alloc_new w (.cells #[.slice a n c] 24)
  have BW : Below w.heap.size w (w.alloc (.cells #[.slice a n c] 24)) := (Below.refl _ _).alloc (Nat.le_refl _) _
  go_enter Try.func74, Try.ntmps74
  go_wp2_with fail
  generalize w.alloc (.cells #[.slice a n c] 24) = W at *
  go_loopw [5, 6] (fun v i wr => ∃ (k : Nat) (av : Option Addr) (cv : Nat), k ≤ pn ∧ i = .int .i64 k ∧ v = .slice av k cv ∧ OwFcR wr w.heap.size av k cv ((List.range k).map (drV fs p)) ∧ Below w.heap.size w wr ∧ wr.heap[w.heap.size]? = some (.cells #[.slice a n c] 24)) (fun _ i _ => pn - (intOf i).toNat)
  case atStart => exact ⟨0, _, _, by omega, rfl, rfl, OwFcR.nil _ _, BW, y0⟩
  case round =>
    clear BW y0
    obtain ⟨k, av, cv, hk, rfl, rfl, hO, hb, y0⟩ := hrel
    have o1 := hO.sr.max
    have o2 := hO.sr.cap
    by_cases hlt : k < pn
    · have hi1 : (k : Int) < (pn : Int) := by omega
      have hi0 : (0 : Int) ≤ (k : Int) := by omega
      have hpp := h2.keep hb
      go_wp2_with fail
      go_loopw [7, 8] (fun s j wr' => ∃ e : Nat, k + e ≤ pn ∧ j = .int .i64 ((k + e : Nat) : Int) ∧ s = .int .i64 (sumR (fun j => p[k + j]?.getD 0) e) ∧ wr = wr') (fun _ j _ => pn - (intOf j).toNat)
      case atStart => exact ⟨0, by omega, rfl, rfl, rfl⟩
      case round =>
        obtain ⟨e, he, rfl, rfl, rfl⟩ := hrel
        by_cases hlt2 : k + e < pn
        · obtain ⟨eb, eo, rfl, hec⟩ := hpp.at_ (by omega)
          have r0 := hec (k + e) hlt2
          have b1 := suf_part HPB.out k e (by omega)
          have b2 := suf_part HPB.out k (e + 1) (by omega)
          have hs1 : sumR (fun j => p[k + j]?.getD 0) (e + 1) = sumR (fun j => p[k + j]?.getD 0) e + p[k + e]?.getD 0 := rfl
          rw [hs1] at b2
          obtain ⟨S, hS⟩ : ∃ S, sumR (fun j => p[k + j]?.getD 0) e = S := ⟨_, rfl⟩
          obtain ⟨v1, hv1⟩ : ∃ x, p[k + e]?.getD 0 = x := ⟨_, rfl⟩
          rw [hS] at b1 b2 hs1 ⊢
          rw [hv1] at r0 b2 hs1
          have HS1 := Lib.hid hs1
          clear hs1 hv1 hS hec
          obtain ⟨m, hm⟩ : ∃ m, k + e = m := ⟨_, rfl⟩
          rw [hm] at r0 hlt2 ⊢
          have HM := Lib.hid hm
          have hj1 : (m : Int) < (pn : Int) := by omega
          have hj0 : (0 : Int) ≤ (m : Int) := by omega
          clear hm he
          go_wp2_with fail
          go_roundw
          case rel => exact ⟨e + 1, by have := HM.out; omega, by rw [show k + (e + 1) = m + 1 by have := HM.out; omega]; go_num, by rw [HS1.out], trivial⟩
          case measure => simp [intOf]; omega
        · have hke : k + e = pn := by omega
          have hsf : sumR (fun j => p[k + j]?.getD 0) e = suf p k := by
            unfold suf
            rw [← HLN.out, show pn - k = e by omega]
          have hbd := suf_part HPB.out k e (by omega)
          rw [hsf] at hbd ⊢
          rw [hke]
          have hdv : drV fs p k = fqF (suf p k) (stK fs k) := rfl
          have hkb := stK_bd HZ.out (i := k) (by have := HN.out; omega)
          obtain ⟨S, hS⟩ : ∃ S, suf p k = S := ⟨_, rfl⟩
          rw [hS] at hbd hdv ⊢
          have HDV := Lib.hid hdv
          have hle : ¬ (pn : Int) < (pn : Int) := by omega
          have f0 := cell_block y0 0
          clear hsf hS hdv hke he hlt2
          go_wp2_with fail
          refine (whole_any a n c raw fs _ (h1.keep hb) HZ.out k _ rfl).mono ?_
          rintro e1 w3 ⟨rfl, hs⟩
          dsimp only
          obtain ⟨K, hK⟩ : ∃ K, stK fs k = K := ⟨_, rfl⟩
          rw [hK] at hkb ⊢
          have HK := Lib.hid hK
          clear hK f0
          replace hO := hO.keep hs
          replace y0 := blk_keep y0 hs
          replace hb := hb.trans (hs.mono hb.size)
          clear hs hpp
          go_wp2_with fail
          refine (Lowest_fm S K _ (by omega) (by omega) (by omega) (by omega)).mono ?_
          rintro e1 w4 ⟨rfl, hs⟩
          dsimp only
          replace hO := hO.keep hs
          replace y0 := blk_keep y0 hs
          replace hb := hb.trans (hs.mono hb.size)
          clear hs
          have hdv := HDV.out
          rw [HK.out] at hdv
          rw [← hdv]
          obtain ⟨⟨P, Q⟩, hPQ⟩ : ∃ q, drV fs p k = q := ⟨_, rfl⟩
          rw [hPQ]
          have HPQ := Lib.hid hPQ
          have hbs := hb.size
          clear hdv hPQ
          dsimp only
          go_wp2_with (first | (refine appRec w4 117 77 (new := [.int .i64 P, .int .i64 Q]) rfl rfl _ _ rfl Try.underlying117 Try.info_fcr rfl (by decide) (by decide) hO rfl rfl rfl (oneCell_FcR (P, Q)) (by omega) (by omega) (fun a9 c9 w9 ho9 hb9 hko9 hsm9 => ?_)))
          go_roundw
          case rel =>
            refine ⟨k + 1, a9, c9, by omega, by go_num, by simp, ?_, hb.trans hb9, (hsm9 _ (blk_lt y0) (BlkT.not ⟨_, y0⟩ (by decide))).trans y0⟩
            unfold OwFcR
            rw [List.range_succ, List.map_append, List.flatMap_append, List.map_singleton, HPQ.out]
            exact ho9
          case measure => simp [intOf]; omega
    · obtain rfl : pn = k := by omega
      have hle : ¬ (pn : Int) < (pn : Int) := by omega
      clear hlt hk
      go_wp2_with fail
      go_ret
      refine ⟨_, _, rfl, ?_, hb⟩
      rw [drS, ← HLN.out]
      exact hO.sr

/-- What lies between two rounds of the reference's stiffness. -/
structure StM (w : World) (a av : Option Addr) (n c k cv : Nat) (fs : List Fl) (wr : World) : Prop where
  bel : Below w.heap.size w wr
  t1 : wr.heap[w.heap.size]? = some (.cells #[.slice a n c] 24)
  ex : ∃ raw : List LsR, OwLsR wr w.heap.size av k cv raw ∧ ∀ i, i < k → SI wr (raw[i]?.getD lsr0).1 (raw[i]?.getD lsr0).2.1 (raw[i]?.getD lsr0).2.2 (stR (stK fs) n n i) ∧ In wr 3 (raw[i]?.getD lsr0).1
theorem In.keep' {w w' : World} {e : TypeId} {a : Option Addr} (h : In w e a) (hb : Below w.heap.size w w') : In w' e a := h.same (fun b _ ha => hb.block b (h.blk b _ ha).lt)
theorem StM.keep {w : World} {a av : Option Addr} {n c k cv : Nat} {fs : List Fl} {wr w' : World} (h : StM w a av n c k cv fs wr) (hb : Below wr.heap.size wr w') : StM w a av n c k cv fs w' := by
  obtain ⟨raw, h1, h2⟩ := h.ex
  exact ⟨h.bel.trans (hb.mono h.bel.size), blk_keep h.t1 hb, raw, h1.keep hb, fun i hi => ⟨(h2 i hi).1.keep hb, (h2 i hi).2.keep' hb⟩⟩
theorem StM.last {W w9 : World} {n k g : Nat} {K : Nat → Int} {raw' : List LsR} (h : ∀ i, i < k → SI W (raw'[i]?.getD lsr0).1 (raw'[i]?.getD lsr0).2.1 (raw'[i]?.getD lsr0).2.2 (stR K n n i) ∧ In W 3 (raw'[i]?.getD lsr0).1) (hl : k = raw'.length) (ho : OwI W g (some ⟨g, 0, none⟩) n n (stR K n n k)) (hB : But 25 W w9) (_ : 0 < n) (i : Nat) (hi : i < k + 1) :
    SI w9 ((raw' ++ [((some ⟨g, 0, none⟩, n, n) : Hd)])[i]?.getD lsr0).1 ((raw' ++ [((some ⟨g, 0, none⟩, n, n) : Hd)])[i]?.getD lsr0).2.1 ((raw' ++ [((some ⟨g, 0, none⟩, n, n) : Hd)])[i]?.getD lsr0).2.2 (stR K n n i) ∧ In w9 3 ((raw' ++ [((some ⟨g, 0, none⟩, n, n) : Hd)])[i]?.getD lsr0).1 := by
  rcases Nat.lt_or_ge i k with h1 | h1
  · rw [List.getElem?_append_left (by omega)]
    exact ⟨(h i h1).1.but (h i h1).2 hB (by decide), (h i h1).2.but hB (by decide)⟩
  · obtain rfl : i = k := by omega
    subst hl
    have hIn : In W 3 (some ⟨g, 0, none⟩) := In.of_owns ho
    simp only [List.getElem?_concat_length, Option.getD_some]
    exact ⟨ho.si.but hIn hB (by decide), hIn.but hB (by decide)⟩
set_option maxRecDepth 100000 in
set_option maxHeartbeats 4000000 in
theorem rStiffness_any (a : Option Addr) (n c : Nat) (raw : List FlR) (fs : List Fl) (w : World) (h1 : FrV w a n c raw fs) (hz : (frmE fs).2 = 0) :
    Calls Try.prog 70 #[.agg #[.slice a n c]] w fun e w' => ∃ ka kn kc, e = .returned (.slice ka kn kc) ∧ (∃ raw, LlV w' ka kn kc raw (stMx fs)) ∧ Below w.heap.size w w' := by
  have hn := h1.n_
  have m1 := h1.row.max
  have c1 := h1.row.cap
  have hn5 := (frmE_ok hz).1
  have hn6 : n ≤ 5 := by omega
  have HN := Lib.hid hn
  have HZ := Lib.hid hz
  clear hn hz hn5
  have y0 := alloc_new w (.cells #[.slice a n c] 24)
  have BW : Below w.heap.size w (w.alloc (.cells #[.slice a n c] 24)) := (Below.refl _ _).alloc (Nat.le_refl _) _
  go_enter Try.func70, Try.ntmps70
  go_wp2_with fail
  generalize w.alloc (.cells #[.slice a n c] 24) = W at *
  go_loopw [3, 4] (fun v i wr => ∃ (k : Nat) (av : Option Addr) (cv : Nat), k ≤ n ∧ i = .int .i64 k ∧ v = .slice av k cv ∧ StM w a av n c k cv fs wr) (fun _ i _ => n - (intOf i).toNat)
  case atStart => exact ⟨0, _, _, by omega, rfl, rfl, BW, y0, [], OwLsR.nil _ _, fun i hi => by omega⟩
  case round =>
    clear BW y0
    obtain ⟨k, av, cv, hk, rfl, rfl, hS⟩ := hrel
    obtain ⟨raw0, hr0, -⟩ := hS.ex
    have o1 := hr0.sr.max
    have o2 := hr0.sr.cap
    clear hr0
    have f0 := cell_block hS.t1 0
    by_cases hlt : k < n
    · have hi1 : (k : Int) < (n : Int) := by omega
      have hi0 : (0 : Int) ≤ (k : Int) := by omega
      have hn9 : n ≤ 1000000 := by omega
      go_wp2_with (first | ((with_reducible refine makeI1 (n := n) ?g1 (.tmp 15) (.tmp 15) ?g2 ?g3 ?g4 rfl ?g5 ?g6); (case g2 => exact rfl); (case g1 => exact rfl); (case g3 => exact rfl); (case g4 => exact rfl); (case g5 => omega); intro w7 ho7 hb7))
      have hws := hS.bel.size
      obtain ⟨g, hg⟩ : ∃ g, wr.heap.size = g := ⟨_, rfl⟩
      have HS := Lib.hid (fun (X : World) (h : Below g wr X) => hS.keep (by rw [hg]; exact h))
      rw [hg] at ho7 hws hb7 ⊢
      have hgw := hb7.size
      rw [hg] at hgw
      clear f0 hS hg
      refine Calmly.wp_region_mix 10 (.fl 0 <| .fl 1 <| .fl 2 <| .fl 3 <| .fl 5 <| .fl 6 <| .fl 7 <| .eff 4 <| .eff 8 <| .fl 9 <| .tail [10, 11]) (by kernel_rfl) (by kernel_rfl) ?_
      have BD : Below w7.heap.size w7 w7.drew := (Below.refl _ _).drew
      replace ho7 := ho7.keep BD
      replace hb7 := hb7.trans (BD.mono hgw)
      replace hgw := Nat.le_trans hgw BD.size
      clear BD
      generalize w7.drew = V at *
      have hF := h1.keep (HS.out _ hb7).bel
      have f0 := cell_block (HS.out _ hb7).t1 0
      have hk' := Below.refl V.heap.size V
      have hkn := hk
      clear hk
      have hk := hk'
      clear hk'
      go_wp2_with (first | ((with_reducible refine Calmly.is_fl ?_); refine Calmly.mix_fl rfl ?_ (fun _ _ => ?_); (first | exact .move _ | exact .load _ _ | exact .fieldAddr _ _ _ (by kernel_rfl) | exact .assign _ | exact .binOp _ _ _ _ _ rfl | exact .indexAddr _ _ _ | exact .len _ _ (by kernel_rfl) | exact .field _ _ _ | exact .extract _ _ | exact .pick _ _ _ | exact .build _ _ | exact .slice _ _ _ _ _ | exact .unOp _ _ _ rfl | exact .index _ _ _ | exact .max _ _ _ rfl rfl | exact .min _ _ _ rfl rfl | exact .nilCheck _ _ rfl)) | ((with_reducible refine Calmly.is_gl ?_); refine Calmly.mix_gl rfl rfl rfl ?_; first | ((first | with_reducible refine Calmly.gl_tt ?_ (fun _ _ => ?_) | with_reducible refine Calmly.gl_ff ?_ (fun _ _ => ?_)); (first | exact .move _ | exact .load _ _ | exact .fieldAddr _ _ _ (by kernel_rfl) | exact .assign _ | exact .binOp _ _ _ _ _ rfl | exact .indexAddr _ _ _ | exact .len _ _ (by kernel_rfl) | exact .field _ _ _ | exact .extract _ _ | exact .pick _ _ _ | exact .build _ _ | exact .slice _ _ _ _ _ | exact .unOp _ _ _ rfl | exact .index _ _ _ | exact .max _ _ _ rfl rfl | exact .min _ _ _ rfl rfl | exact .nilCheck _ _ rfl)) | with_reducible refine Calmly.gl_tf (fun _ _ => ?_) | with_reducible refine Calmly.gl_ft (fun _ _ => ?_)) | ((with_reducible refine Calmly.is_eff ?_); refine Calmly.mix_eff rfl (fun _ _ => ?_)) | ((with_reducible refine Calmly.is_gf ?_); refine Calmly.mix_gf rfl rfl rfl ?_; first | with_reducible refine Calmly.gf_tt (fun _ _ => ?_) | with_reducible refine Calmly.gf_ff (fun _ _ => ?_) | with_reducible refine Calmly.gf_tf (kept_of hk) (fun _ _ => ?_) | with_reducible refine Calmly.gf_ft (kept_of hk) (fun _ _ => ?_)) | ((with_reducible refine Calmly.is_tail ?_); first | refine Calmly.mix_tail_nil ?_ | refine Calmly.mix_tail rfl (fun _ _ => ?_)) | ((with_reducible refine Calmly.is_kept ?_); refine ⟨kept_of hk, ?_⟩) | (with_reducible refine Calmly.mix_alt ?_ ?_))
      refine (whole_any a n c raw fs _ (hF.keep hk) HZ.out k _ rfl).mono ?_
      rintro e1 w3 ⟨rfl, hs⟩
      dsimp only
      replace hk := step_of hk hs
      clear hs
      go_wp2_with (first | ((with_reducible refine Calmly.is_fl ?_); refine Calmly.mix_fl rfl ?_ (fun _ _ => ?_); (first | exact .move _ | exact .load _ _ | exact .fieldAddr _ _ _ (by kernel_rfl) | exact .assign _ | exact .binOp _ _ _ _ _ rfl | exact .indexAddr _ _ _ | exact .len _ _ (by kernel_rfl) | exact .field _ _ _ | exact .extract _ _ | exact .pick _ _ _ | exact .build _ _ | exact .slice _ _ _ _ _ | exact .unOp _ _ _ rfl | exact .index _ _ _ | exact .max _ _ _ rfl rfl | exact .min _ _ _ rfl rfl | exact .nilCheck _ _ rfl)) | ((with_reducible refine Calmly.is_gl ?_); refine Calmly.mix_gl rfl rfl rfl ?_; first | ((first | with_reducible refine Calmly.gl_tt ?_ (fun _ _ => ?_) | with_reducible refine Calmly.gl_ff ?_ (fun _ _ => ?_)); (first | exact .move _ | exact .load _ _ | exact .fieldAddr _ _ _ (by kernel_rfl) | exact .assign _ | exact .binOp _ _ _ _ _ rfl | exact .indexAddr _ _ _ | exact .len _ _ (by kernel_rfl) | exact .field _ _ _ | exact .extract _ _ | exact .pick _ _ _ | exact .build _ _ | exact .slice _ _ _ _ _ | exact .unOp _ _ _ rfl | exact .index _ _ _ | exact .max _ _ _ rfl rfl | exact .min _ _ _ rfl rfl | exact .nilCheck _ _ rfl)) | with_reducible refine Calmly.gl_tf (fun _ _ => ?_) | with_reducible refine Calmly.gl_ft (fun _ _ => ?_)) | ((with_reducible refine Calmly.is_eff ?_); refine Calmly.mix_eff rfl (fun _ _ => ?_)) | ((with_reducible refine Calmly.is_gf ?_); refine Calmly.mix_gf rfl rfl rfl ?_; first | with_reducible refine Calmly.gf_tt (fun _ _ => ?_) | with_reducible refine Calmly.gf_ff (fun _ _ => ?_) | with_reducible refine Calmly.gf_tf (kept_of hk) (fun _ _ => ?_) | with_reducible refine Calmly.gf_ft (kept_of hk) (fun _ _ => ?_)) | ((with_reducible refine Calmly.is_tail ?_); first | refine Calmly.mix_tail_nil ?_ | refine Calmly.mix_tail rfl (fun _ _ => ?_)) | ((with_reducible refine Calmly.is_kept ?_); refine ⟨kept_of hk, ?_⟩) | (with_reducible refine Calmly.mix_alt ?_ ?_))
      refine (whole_any a n c raw fs _ (hF.keep hk) HZ.out (k + 1) _ (by omega)).mono ?_
      rintro e1 w4 ⟨rfl, hs⟩
      dsimp only
      replace hk := step_of hk hs
      clear hs
      have hbk := hb7.trans (hk.mono hgw)
      have hok := ho7.keep hk
      have z2 := hok.free k
      have z2c := hok.cell k hlt
      have kb1 := stK_all HZ.out k
      have kb2 := stK_all HZ.out (k + 1)
      obtain ⟨K, hK⟩ : ∃ K, stK fs k = K := ⟨_, rfl⟩
      obtain ⟨K', hK'⟩ : ∃ K, stK fs (k + 1) = K := ⟨_, rfl⟩
      have hrow := stR_ref (stK fs) n k hlt (fun i hi => stK_above (by rw [← HN.out]; exact hi))
      rw [hK, hK'] at hrow
      rw [hK] at kb1 ⊢
      rw [hK'] at kb2 ⊢
      have HK := Lib.hid hK
      have HK' := Lib.hid hK'
      clear hK hK' hb7 ho7 f0 hF hgw
      obtain ⟨hkb1, hkb2⟩ := kb1
      obtain ⟨hkb3, hkb4⟩ := kb2
      obtain ⟨o1', ob1⟩ := hok.stored k (K + K')
      have hlo : w.heap.size ≤ g := hws

      by_cases hk0 : 0 < k
      case pos =>
        have c0 : (0 : Int) < (k : Int) := by omega
        have c7 : ((k : Int) - 1).toNat = k - 1 := by omega
        have c8 : (k : Int) - 1 < (n : Int) := by omega
        have c9 : 0 ≤ (k : Int) - 1 := by omega
        rw [if_pos hk0] at hrow
        by_cases hk1 : k + 1 < n
        case pos =>
          have c1' : (k : Int) + 1 < (n : Int) := by omega
          have c2 : ((k : Int) + 1).toNat = k + 1 := by omega
          have c3 : (0 : Int) ≤ (k : Int) + 1 := by omega
          rw [if_pos hk1] at hrow
          have HROW := Lib.hid hrow
          clear hrow hk0 hk1
          have b1 := hbk.setCell (p := ⟨g, k, none⟩) (Nat.le_refl _) (.int .i64 (K + K'))
          have f1 := cell_block (HS.out _ b1).t1 0
          go_wp2_with (first | ((with_reducible refine Calmly.is_fl ?_); refine Calmly.mix_fl rfl ?_ (fun _ _ => ?_); (first | exact .move _ | exact .load _ _ | exact .fieldAddr _ _ _ (by kernel_rfl) | exact .assign _ | exact .binOp _ _ _ _ _ rfl | exact .indexAddr _ _ _ | exact .len _ _ (by kernel_rfl) | exact .field _ _ _ | exact .extract _ _ | exact .pick _ _ _ | exact .build _ _ | exact .slice _ _ _ _ _ | exact .unOp _ _ _ rfl | exact .index _ _ _ | exact .max _ _ _ rfl rfl | exact .min _ _ _ rfl rfl | exact .nilCheck _ _ rfl)) | ((with_reducible refine Calmly.is_gl ?_); refine Calmly.mix_gl rfl rfl rfl ?_; first | ((first | with_reducible refine Calmly.gl_tt ?_ (fun _ _ => ?_) | with_reducible refine Calmly.gl_ff ?_ (fun _ _ => ?_)); (first | exact .move _ | exact .load _ _ | exact .fieldAddr _ _ _ (by kernel_rfl) | exact .assign _ | exact .binOp _ _ _ _ _ rfl | exact .indexAddr _ _ _ | exact .len _ _ (by kernel_rfl) | exact .field _ _ _ | exact .extract _ _ | exact .pick _ _ _ | exact .build _ _ | exact .slice _ _ _ _ _ | exact .unOp _ _ _ rfl | exact .index _ _ _ | exact .max _ _ _ rfl rfl | exact .min _ _ _ rfl rfl | exact .nilCheck _ _ rfl)) | with_reducible refine Calmly.gl_tf (fun _ _ => ?_) | with_reducible refine Calmly.gl_ft (fun _ _ => ?_)) | ((with_reducible refine Calmly.is_eff ?_); refine Calmly.mix_eff rfl (fun _ _ => ?_)) | ((with_reducible refine Calmly.is_gf ?_); refine Calmly.mix_gf rfl rfl rfl ?_; first | with_reducible refine Calmly.gf_tt (fun _ _ => ?_) | with_reducible refine Calmly.gf_ff (fun _ _ => ?_) | with_reducible refine Calmly.gf_tf (kept_of hk) (fun _ _ => ?_) | with_reducible refine Calmly.gf_ft (kept_of hk) (fun _ _ => ?_)) | ((with_reducible refine Calmly.is_tail ?_); first | refine Calmly.mix_tail_nil ?_ | refine Calmly.mix_tail rfl (fun _ _ => ?_)) | ((with_reducible refine Calmly.is_kept ?_); refine ⟨kept_of hk, ?_⟩) | (with_reducible refine Calmly.mix_alt ?_ ?_))
          clear hk z2 z2c
          generalize w4.setCell ⟨g, k, none⟩ (.int .i64 (K + K')) = X1 at *
          clear hbk hok ob1
          refine (whole_any a n c raw fs _ (h1.keep (HS.out _ b1).bel) HZ.out k _ rfl).mono ?_
          rintro e1 w5 ⟨rfl, hs⟩
          dsimp only
          rw [HK.out]
          replace b1 := b1.trans (hs.mono (Nat.le_of_lt o1'.lt.2))
          replace o1' := o1'.keep hs
          have z3 := o1'.free (k - 1)
          have z3c := o1'.cell (k - 1) (by omega)
          have b2 := b1.setCell (p := ⟨g, k - 1, none⟩) (Nat.le_refl _) (.int .i64 (-K))
          have o2' := (o1'.stored (k - 1) (-K)).1
          have f2 := cell_block (HS.out _ b2).t1 0
          clear f1 hs
          go_wp2_with fail
          clear z3 z3c b1 o1'
          generalize w5.setCell ⟨g, k - 1, none⟩ (.int .i64 (-K)) = X2 at *
          refine (whole_any a n c raw fs _ (h1.keep (HS.out _ b2).bel) HZ.out (k + 1) _ (by omega)).mono ?_
          rintro e1 w6 ⟨rfl, hs⟩
          dsimp only
          rw [HK'.out]
          replace b2 := b2.trans (hs.mono (Nat.le_of_lt o2'.lt.2))
          replace o2' := o2'.keep hs
          have z4 := o2'.free (k + 1)
          have z4c := o2'.cell (k + 1) (by omega)
          have b3 := b2.setCell (p := ⟨g, k + 1, none⟩) (Nat.le_refl _) (.int .i64 (-K'))
          have o3' := (o2'.stored (k + 1) (-K')).1
          clear f2 hs
          rw [← HROW.out] at o3'
          have sf := HS.out _ b3
          obtain ⟨raw', hraw, hrows⟩ := sf.ex
          have HRS := Lib.hid hrows
          have hy0 := sf.t1
          have hyb := sf.bel
          have hys := hyb.size
          clear hrows sf
          have hrawO : World.ownsRow (w6.setCell ⟨g, k + 1, none⟩ (.int .i64 (-K'))) w.heap.size 25 1 (.slice av k cv) k (raw'.flatMap encLsR) := hraw
          go_wp2_with (first | ((with_reducible refine appRec (z := .slice none 0 0) (k := 1) (bytes := 24) (new := [.slice (some ⟨g, 0, none⟩) n n]) (w6.setCell ⟨g, k + 1, none⟩ (.int .i64 (-K'))) 114 25 ?d1 ?d2 (.tmp 53) (.tmp 55) ?d3 ?d4 ?d5 ?d6 ?d7 ?d8 hrawO ?d9 ?d10 ?d11 ?d12 ?d13 hys ?d14); (case d3 => exact rfl); (case d1 => with_reducible rfl); (case d2 => exact rfl); (case d4 => exact Try.underlying114); (case d5 => exact Try.info_lsr); (case d6 => exact rfl); (case d7 => decide); (case d8 => decide); (case d9 => exact rfl); (case d10 => (simp only [World.size_setCell]; exact rfl)); (case d11 => exact rfl); (case d12 => exact oneCell_LsR (some ⟨g, 0, none⟩, n, n)); (case d13 => omega); intro a9 c9 w9 ho9 hb9 hko9 hsm9))
          go_roundw
          case rel =>
            refine ⟨k + 1, a9, c9, by omega, by go_num, by simp, hyb.trans hb9, (hsm9 _ (blk_lt hy0) (BlkT.not ⟨_, hy0⟩ (by decide))).trans hy0, raw' ++ [(some ⟨g, 0, none⟩, n, n)], by unfold OwLsR; rw [List.flatMap_append]; exact ho9, fun i hi => ?_⟩
            exact StM.last HRS.out hraw.sr.len o3' ⟨hb9.size, hsm9⟩ (by omega) i hi
          case measure => simp [intOf]; omega
        case neg =>
          have c1' : ¬ (k : Int) + 1 < (n : Int) := by omega
          rw [if_neg hk1] at hrow
          have HROW := Lib.hid hrow
          clear hrow hk0 hk1
          have b1 := hbk.setCell (p := ⟨g, k, none⟩) (Nat.le_refl _) (.int .i64 (K + K'))
          have f1 := cell_block (HS.out _ b1).t1 0
          go_wp2_with (first | ((with_reducible refine Calmly.is_fl ?_); refine Calmly.mix_fl rfl ?_ (fun _ _ => ?_); (first | exact .move _ | exact .load _ _ | exact .fieldAddr _ _ _ (by kernel_rfl) | exact .assign _ | exact .binOp _ _ _ _ _ rfl | exact .indexAddr _ _ _ | exact .len _ _ (by kernel_rfl) | exact .field _ _ _ | exact .extract _ _ | exact .pick _ _ _ | exact .build _ _ | exact .slice _ _ _ _ _ | exact .unOp _ _ _ rfl | exact .index _ _ _ | exact .max _ _ _ rfl rfl | exact .min _ _ _ rfl rfl | exact .nilCheck _ _ rfl)) | ((with_reducible refine Calmly.is_gl ?_); refine Calmly.mix_gl rfl rfl rfl ?_; first | ((first | with_reducible refine Calmly.gl_tt ?_ (fun _ _ => ?_) | with_reducible refine Calmly.gl_ff ?_ (fun _ _ => ?_)); (first | exact .move _ | exact .load _ _ | exact .fieldAddr _ _ _ (by kernel_rfl) | exact .assign _ | exact .binOp _ _ _ _ _ rfl | exact .indexAddr _ _ _ | exact .len _ _ (by kernel_rfl) | exact .field _ _ _ | exact .extract _ _ | exact .pick _ _ _ | exact .build _ _ | exact .slice _ _ _ _ _ | exact .unOp _ _ _ rfl | exact .index _ _ _ | exact .max _ _ _ rfl rfl | exact .min _ _ _ rfl rfl | exact .nilCheck _ _ rfl)) | with_reducible refine Calmly.gl_tf (fun _ _ => ?_) | with_reducible refine Calmly.gl_ft (fun _ _ => ?_)) | ((with_reducible refine Calmly.is_eff ?_); refine Calmly.mix_eff rfl (fun _ _ => ?_)) | ((with_reducible refine Calmly.is_gf ?_); refine Calmly.mix_gf rfl rfl rfl ?_; first | with_reducible refine Calmly.gf_tt (fun _ _ => ?_) | with_reducible refine Calmly.gf_ff (fun _ _ => ?_) | with_reducible refine Calmly.gf_tf (kept_of hk) (fun _ _ => ?_) | with_reducible refine Calmly.gf_ft (kept_of hk) (fun _ _ => ?_)) | ((with_reducible refine Calmly.is_tail ?_); first | refine Calmly.mix_tail_nil ?_ | refine Calmly.mix_tail rfl (fun _ _ => ?_)) | ((with_reducible refine Calmly.is_kept ?_); refine ⟨kept_of hk, ?_⟩) | (with_reducible refine Calmly.mix_alt ?_ ?_))
          clear hk z2 z2c
          generalize w4.setCell ⟨g, k, none⟩ (.int .i64 (K + K')) = X1 at *
          clear hbk hok ob1
          refine (whole_any a n c raw fs _ (h1.keep (HS.out _ b1).bel) HZ.out k _ rfl).mono ?_
          rintro e1 w5 ⟨rfl, hs⟩
          dsimp only
          rw [HK.out]
          replace b1 := b1.trans (hs.mono (Nat.le_of_lt o1'.lt.2))
          replace o1' := o1'.keep hs
          have z3 := o1'.free (k - 1)
          have z3c := o1'.cell (k - 1) (by omega)
          have b2 := b1.setCell (p := ⟨g, k - 1, none⟩) (Nat.le_refl _) (.int .i64 (-K))
          have o2' := (o1'.stored (k - 1) (-K)).1
          have f2 := cell_block (HS.out _ b2).t1 0
          clear f1 hs
          rw [← HROW.out] at o2'
          have sf := HS.out _ b2
          obtain ⟨raw', hraw, hrows⟩ := sf.ex
          have HRS := Lib.hid hrows
          have hy0 := sf.t1
          have hyb := sf.bel
          have hys := hyb.size
          clear hrows sf
          have hrawO : World.ownsRow (w5.setCell ⟨g, k - 1, none⟩ (.int .i64 (-K))) w.heap.size 25 1 (.slice av k cv) k (raw'.flatMap encLsR) := hraw
          go_wp2_with (first | ((with_reducible refine appRec (z := .slice none 0 0) (k := 1) (bytes := 24) (new := [.slice (some ⟨g, 0, none⟩) n n]) (w5.setCell ⟨g, k - 1, none⟩ (.int .i64 (-K))) 114 25 ?c1 ?c2 (.tmp 53) (.tmp 55) ?c3 ?c4 ?c5 ?c6 ?c7 ?c8 hrawO ?c9 ?c10 ?c11 ?c12 ?c13 hys ?c14); (case c3 => exact rfl); (case c1 => with_reducible rfl); (case c2 => exact rfl); (case c4 => exact Try.underlying114); (case c5 => exact Try.info_lsr); (case c6 => exact rfl); (case c7 => decide); (case c8 => decide); (case c9 => exact rfl); (case c10 => (simp only [World.size_setCell]; exact rfl)); (case c11 => exact rfl); (case c12 => exact oneCell_LsR (some ⟨g, 0, none⟩, n, n)); (case c13 => omega); intro a9 c9 w9 ho9 hb9 hko9 hsm9))
          go_roundw
          case rel =>
            refine ⟨k + 1, a9, c9, by omega, by go_num, by simp, hyb.trans hb9, (hsm9 _ (blk_lt hy0) (BlkT.not ⟨_, hy0⟩ (by decide))).trans hy0, raw' ++ [(some ⟨g, 0, none⟩, n, n)], by unfold OwLsR; rw [List.flatMap_append]; exact ho9, fun i hi => ?_⟩
            exact StM.last HRS.out hraw.sr.len o2' ⟨hb9.size, hsm9⟩ (by omega) i hi
          case measure => simp [intOf]; omega
      case neg =>
        have c0 : ¬ (0 : Int) < (k : Int) := by omega
        rw [if_neg hk0] at hrow
        by_cases hk1 : k + 1 < n
        case pos =>
          have c1' : (k : Int) + 1 < (n : Int) := by omega
          have c2 : ((k : Int) + 1).toNat = k + 1 := by omega
          have c3 : (0 : Int) ≤ (k : Int) + 1 := by omega
          rw [if_pos hk1] at hrow
          have HROW := Lib.hid hrow
          clear hrow hk0 hk1
          have b1 := hbk.setCell (p := ⟨g, k, none⟩) (Nat.le_refl _) (.int .i64 (K + K'))
          have f1 := cell_block (HS.out _ b1).t1 0
          go_wp2_with (first | ((with_reducible refine Calmly.is_fl ?_); refine Calmly.mix_fl rfl ?_ (fun _ _ => ?_); (first | exact .move _ | exact .load _ _ | exact .fieldAddr _ _ _ (by kernel_rfl) | exact .assign _ | exact .binOp _ _ _ _ _ rfl | exact .indexAddr _ _ _ | exact .len _ _ (by kernel_rfl) | exact .field _ _ _ | exact .extract _ _ | exact .pick _ _ _ | exact .build _ _ | exact .slice _ _ _ _ _ | exact .unOp _ _ _ rfl | exact .index _ _ _ | exact .max _ _ _ rfl rfl | exact .min _ _ _ rfl rfl | exact .nilCheck _ _ rfl)) | ((with_reducible refine Calmly.is_gl ?_); refine Calmly.mix_gl rfl rfl rfl ?_; first | ((first | with_reducible refine Calmly.gl_tt ?_ (fun _ _ => ?_) | with_reducible refine Calmly.gl_ff ?_ (fun _ _ => ?_)); (first | exact .move _ | exact .load _ _ | exact .fieldAddr _ _ _ (by kernel_rfl) | exact .assign _ | exact .binOp _ _ _ _ _ rfl | exact .indexAddr _ _ _ | exact .len _ _ (by kernel_rfl) | exact .field _ _ _ | exact .extract _ _ | exact .pick _ _ _ | exact .build _ _ | exact .slice _ _ _ _ _ | exact .unOp _ _ _ rfl | exact .index _ _ _ | exact .max _ _ _ rfl rfl | exact .min _ _ _ rfl rfl | exact .nilCheck _ _ rfl)) | with_reducible refine Calmly.gl_tf (fun _ _ => ?_) | with_reducible refine Calmly.gl_ft (fun _ _ => ?_)) | ((with_reducible refine Calmly.is_eff ?_); refine Calmly.mix_eff rfl (fun _ _ => ?_)) | ((with_reducible refine Calmly.is_gf ?_); refine Calmly.mix_gf rfl rfl rfl ?_; first | with_reducible refine Calmly.gf_tt (fun _ _ => ?_) | with_reducible refine Calmly.gf_ff (fun _ _ => ?_) | with_reducible refine Calmly.gf_tf (kept_of hk) (fun _ _ => ?_) | with_reducible refine Calmly.gf_ft (kept_of hk) (fun _ _ => ?_)) | ((with_reducible refine Calmly.is_tail ?_); first | refine Calmly.mix_tail_nil ?_ | refine Calmly.mix_tail rfl (fun _ _ => ?_)) | ((with_reducible refine Calmly.is_kept ?_); refine ⟨kept_of hk, ?_⟩) | (with_reducible refine Calmly.mix_alt ?_ ?_))
          clear hk z2 z2c
          generalize w4.setCell ⟨g, k, none⟩ (.int .i64 (K + K')) = X1 at *
          clear hbk hok ob1
          refine (whole_any a n c raw fs _ (h1.keep (HS.out _ b1).bel) HZ.out (k + 1) _ (by omega)).mono ?_
          rintro e1 w6 ⟨rfl, hs⟩
          dsimp only
          rw [HK'.out]
          replace b1 := b1.trans (hs.mono (Nat.le_of_lt o1'.lt.2))
          replace o1' := o1'.keep hs
          have z4 := o1'.free (k + 1)
          have z4c := o1'.cell (k + 1) (by omega)
          have b3 := b1.setCell (p := ⟨g, k + 1, none⟩) (Nat.le_refl _) (.int .i64 (-K'))
          have o3' := (o1'.stored (k + 1) (-K')).1
          clear f1 hs
          rw [← HROW.out] at o3'
          have sf := HS.out _ b3
          obtain ⟨raw', hraw, hrows⟩ := sf.ex
          have HRS := Lib.hid hrows
          have hy0 := sf.t1
          have hyb := sf.bel
          have hys := hyb.size
          clear hrows sf
          have hrawO : World.ownsRow (w6.setCell ⟨g, k + 1, none⟩ (.int .i64 (-K'))) w.heap.size 25 1 (.slice av k cv) k (raw'.flatMap encLsR) := hraw
          go_wp2_with (first | ((with_reducible refine appRec (z := .slice none 0 0) (k := 1) (bytes := 24) (new := [.slice (some ⟨g, 0, none⟩) n n]) (w6.setCell ⟨g, k + 1, none⟩ (.int .i64 (-K'))) 114 25 ?b1 ?b2 (.tmp 53) (.tmp 55) ?b3 ?b4 ?b5 ?b6 ?b7 ?b8 hrawO ?b9 ?b10 ?b11 ?b12 ?b13 hys ?b14); (case b3 => exact rfl); (case b1 => with_reducible rfl); (case b2 => exact rfl); (case b4 => exact Try.underlying114); (case b5 => exact Try.info_lsr); (case b6 => exact rfl); (case b7 => decide); (case b8 => decide); (case b9 => exact rfl); (case b10 => (simp only [World.size_setCell]; exact rfl)); (case b11 => exact rfl); (case b12 => exact oneCell_LsR (some ⟨g, 0, none⟩, n, n)); (case b13 => omega); intro a9 c9 w9 ho9 hb9 hko9 hsm9))
          go_roundw
          case rel =>
            refine ⟨k + 1, a9, c9, by omega, by go_num, by simp, hyb.trans hb9, (hsm9 _ (blk_lt hy0) (BlkT.not ⟨_, hy0⟩ (by decide))).trans hy0, raw' ++ [(some ⟨g, 0, none⟩, n, n)], by unfold OwLsR; rw [List.flatMap_append]; exact ho9, fun i hi => ?_⟩
            exact StM.last HRS.out hraw.sr.len o3' ⟨hb9.size, hsm9⟩ (by omega) i hi
          case measure => simp [intOf]; omega
        case neg =>
          have c1' : ¬ (k : Int) + 1 < (n : Int) := by omega
          rw [if_neg hk1] at hrow
          have HROW := Lib.hid hrow
          clear hrow hk0 hk1
          have b1 := hbk.setCell (p := ⟨g, k, none⟩) (Nat.le_refl _) (.int .i64 (K + K'))
          have f1 := cell_block (HS.out _ b1).t1 0
          rw [← HROW.out] at o1'
          have sf := HS.out _ b1
          obtain ⟨raw', hraw, hrows⟩ := sf.ex
          have HRS := Lib.hid hrows
          have hy0 := sf.t1
          have hyb := sf.bel
          have hys := hyb.size
          clear hrows sf
          have hrawO : World.ownsRow (w4.setCell ⟨g, k, none⟩ (.int .i64 (K + K'))) w.heap.size 25 1 (.slice av k cv) k (raw'.flatMap encLsR) := hraw
          go_wp2_with (first | ((with_reducible refine appRec (z := .slice none 0 0) (k := 1) (bytes := 24) (new := [.slice (some ⟨g, 0, none⟩) n n]) (w4.setCell ⟨g, k, none⟩ (.int .i64 (K + K'))) 114 25 ?a1 ?a2 (.tmp 53) (.tmp 55) ?a3 ?a4 ?a5 ?a6 ?a7 ?a8 hrawO ?a9 ?a10 ?a11 ?a12 ?a13 hys ?a14); (case a3 => exact rfl); (case a1 => with_reducible rfl); (case a2 => exact rfl); (case a4 => exact Try.underlying114); (case a5 => exact Try.info_lsr); (case a6 => exact rfl); (case a7 => decide); (case a8 => decide); (case a9 => exact rfl); (case a10 => (simp only [World.size_setCell]; exact rfl)); (case a11 => exact rfl); (case a12 => exact oneCell_LsR (some ⟨g, 0, none⟩, n, n)); (case a13 => omega); intro a9 c9 w9 ho9 hb9 hko9 hsm9) | ((with_reducible refine Calmly.is_fl ?_); refine Calmly.mix_fl rfl ?_ (fun _ _ => ?_); (first | exact .move _ | exact .load _ _ | exact .fieldAddr _ _ _ (by kernel_rfl) | exact .assign _ | exact .binOp _ _ _ _ _ rfl | exact .indexAddr _ _ _ | exact .len _ _ (by kernel_rfl) | exact .field _ _ _ | exact .extract _ _ | exact .pick _ _ _ | exact .build _ _ | exact .slice _ _ _ _ _ | exact .unOp _ _ _ rfl | exact .index _ _ _ | exact .max _ _ _ rfl rfl | exact .min _ _ _ rfl rfl | exact .nilCheck _ _ rfl)) | ((with_reducible refine Calmly.is_gl ?_); refine Calmly.mix_gl rfl rfl rfl ?_; first | ((first | with_reducible refine Calmly.gl_tt ?_ (fun _ _ => ?_) | with_reducible refine Calmly.gl_ff ?_ (fun _ _ => ?_)); (first | exact .move _ | exact .load _ _ | exact .fieldAddr _ _ _ (by kernel_rfl) | exact .assign _ | exact .binOp _ _ _ _ _ rfl | exact .indexAddr _ _ _ | exact .len _ _ (by kernel_rfl) | exact .field _ _ _ | exact .extract _ _ | exact .pick _ _ _ | exact .build _ _ | exact .slice _ _ _ _ _ | exact .unOp _ _ _ rfl | exact .index _ _ _ | exact .max _ _ _ rfl rfl | exact .min _ _ _ rfl rfl | exact .nilCheck _ _ rfl)) | with_reducible refine Calmly.gl_tf (fun _ _ => ?_) | with_reducible refine Calmly.gl_ft (fun _ _ => ?_)) | ((with_reducible refine Calmly.is_eff ?_); refine Calmly.mix_eff rfl (fun _ _ => ?_)) | ((with_reducible refine Calmly.is_gf ?_); refine Calmly.mix_gf rfl rfl rfl ?_; first | with_reducible refine Calmly.gf_tt (fun _ _ => ?_) | with_reducible refine Calmly.gf_ff (fun _ _ => ?_) | with_reducible refine Calmly.gf_tf (kept_of hk) (fun _ _ => ?_) | with_reducible refine Calmly.gf_ft (kept_of hk) (fun _ _ => ?_)) | ((with_reducible refine Calmly.is_tail ?_); first | refine Calmly.mix_tail_nil ?_ | refine Calmly.mix_tail rfl (fun _ _ => ?_)) | ((with_reducible refine Calmly.is_kept ?_); refine ⟨kept_of hk, ?_⟩) | (with_reducible refine Calmly.mix_alt ?_ ?_))
          go_roundw
          case rel =>
            refine ⟨k + 1, a9, c9, by omega, by go_num, by simp, hyb.trans hb9, (hsm9 _ (blk_lt hy0) (BlkT.not ⟨_, hy0⟩ (by decide))).trans hy0, raw' ++ [(some ⟨g, 0, none⟩, n, n)], by unfold OwLsR; rw [List.flatMap_append]; exact ho9, fun i hi => ?_⟩
            exact StM.last HRS.out hraw.sr.len o1' ⟨hb9.size, hsm9⟩ (by omega) i hi
          case measure => simp [intOf]; omega
    · obtain rfl : n = k := by omega
      have hle : ¬ (n : Int) < (n : Int) := by omega
      clear hlt hk
      go_wp2_with fail
      go_ret
      obtain ⟨raw', hraw, hrows⟩ := hS.ex
      refine ⟨_, _, _, rfl, ⟨raw', hraw.sr, by rw [stMx, List.length_map, List.length_range, ← HN.out]; exact hraw.sr.len.symm, fun i hi => ?_⟩, hS.bel⟩
      have hi' : i < n := by rw [HN.out]; simpa [stMx] using hi
      rw [stMx, ← HN.out, List.getElem?_map, List.getElem?_range hi', Option.map_some, Option.getD_some]
      exact (hrows i hi').1
end Go.Proofs.Ytaiikekgckjdeaa
