/- Contracts of chapter 6: the explanation of squares after a run. -/
import Derived.Test.YtmaidjankakppaaEb
namespace Go.Proofs.Ytmaidjankakppaa
open Go.RowKit
open Calmly (Kept)

/-- One storey's springs, from a spring down, until one is no better, or one explains. -/
def exIn (ms ks : List Int) (den : Int) (sq : List (Int × Int)) (i : Nat) (k : Int) : Nat → Int → (Int × Int) × Bool → (Int × Int) × Bool
  | 0, _, st => st
  | f + 1, left, st => if 1 ≤ left then (if st.2 = true ∧ left * (ks[st.1.1.toNat]?.getD 0) ≤ st.1.2 * k then st else if (oddF ms (ks.set i left) den 0 sq).2 = false then (((i : Int), left), true) else exIn ms ks den sq i k f (left - 1) st) else st
def exTo (ms ks : List Int) (den : Int) (sq : List (Int × Int)) : Nat → (Int × Int) × Bool
  | 0 => ((0, 0), false)
  | i + 1 => exIn ms ks den sq i (ks[i]?.getD 0) 20 (ks[i]?.getD 0) (exTo ms ks den sq i)
def exF (ms ks : List Int) (den : Int) (sq : List (Int × Int)) : (Int × Int) × Bool := exTo ms ks den sq ms.length
def ExOk (m : Nat) (st : (Int × Int) × Bool) : Prop := st.2 = true → 0 ≤ st.1.1 ∧ st.1.1 < m ∧ 1 ≤ st.1.2 ∧ st.1.2 ≤ 20
theorem exIn_ok {ms ks : List Int} {den : Int} {sq : List (Int × Int)} {i m : Nat} {k : Int} (hi : i < m) (f : Nat) (left : Int) (st : (Int × Int) × Bool) (hl : left ≤ 20) (h : ExOk m st) : ExOk m (exIn ms ks den sq i k f left st) := by
  induction f generalizing left with
  | zero => exact h
  | succ f ih =>
    unfold exIn
    split
    · split
      · exact h
      · split
        · intro _; simp; omega
        · exact ih (left - 1) (by omega)
    · exact h
theorem exTo_ok {ms ks : List Int} {den : Int} {sq : List (Int × Int)} (he : (checkF ms ks).2 = 0) (i : Nat) (hi : i ≤ ms.length) : ExOk ms.length (exTo ms ks den sq i) := by
  obtain ⟨q1, q2, q3, q4, q5⟩ := checkF_ok he
  induction i with
  | zero => intro h; cases h
  | succ i ih => exact exIn_ok (by omega) 20 _ _ (q5 i (by omega)).2 (ih (by omega))

set_option maxRecDepth 100000 in
set_option maxHeartbeats 4000000 in
theorem ExplainedBy_err (a b sa : Option Addr) (n c m d sn sc : Nat) (ms ks : List Int) (sq : List (Int × Int)) (den : Int) (w : World) (h1 : SI w a n c ms) (h2 : SI w b m d ks) (h3 : SR w sa sn sc sq) (E : Int) (hE : afterE ms ks den sq = E) (hz : E ≠ 0) (hsn : sn ≤ 1000000000) (hnn : n ≤ 1000000000) :
    Calls Try.prog 25 #[.agg #[.slice a n c, .slice b m d], .agg #[.int .i64 den, .slice sa sn sc]] w fun e w' => e = .returned (.tuple #[.agg #[.int .i64 0, .int .i64 0], .int .i64 E]) ∧ Below w.heap.size w w' := by
  have hz1 : (E != 0) = true := by simpa using hz
  clear hz
  have HE := Lib.hid hE
  clear hE
  obtain ⟨hbV, hVs⟩ := allocs_below [(.cells #[.slice a n c, .slice b m d] 24), (.cells #[.int .i64 den, .slice sa sn sc] 44), (.cells #[.int .i64 0, .int .i64 0] 46)] w
  have hVa := allocs_at [(.cells #[.slice a n c, .slice b m d] 24), (.cells #[.int .i64 den, .slice sa sn sc] 44), (.cells #[.int .i64 0, .int .i64 0] 46)] w
  simp only [List.length_cons, List.length_nil, Nat.reduceAdd] at hVs
  have hv2 := hVa 2 (by simp)
  clear hVa
  go_enter Try.func25, Try.ntmps25
  go_wp2_with fail
  refine (openAfter_any a b sa n c m d sn sc ms ks sq den _ (h1.keep hbV) (h2.keep hbV) (h3.keep hbV) E HE.out hsn hnn).mono ?_
  rintro e w1 ⟨rfl, hb1⟩
  have x2 : w1.heap[w.heap.size + 2]? = some (.cells #[.int .i64 0, .int .i64 0] 46) := blk_keep hv2 hb1
  have hbw : Below w.heap.size w w1 := hbV.trans (hb1.mono (by omega))
  have hs2 := blk_lt x2
  clear hv2 hb1 hVs hbV
  have z0 : w1.cell? ⟨w.heap.size + 1 + 1, 0, none⟩ = some (.int .i64 0) := cell_block x2 0
  have z1 : w1.cell? ⟨w.heap.size + 1 + 1, 1, none⟩ = some (.int .i64 0) := cell_block x2 1
  have z2 : w1.frozen? ⟨w.heap.size + 1 + 1, 0, none⟩ = false := frozen_block x2 0
  have z3 : w1.frozen? ⟨w.heap.size + 1 + 1, 1, none⟩ = false := frozen_block x2 1
  obtain ⟨s1, s2, s3, s4⟩ := set2 (x := .int .i64 0) (y := .int .i64 0) z0 z1
  have hA : ∀ (A : World) (o : Obj), Below A.heap.size A (A.alloc o) := fun A o => (Below.refl _ _).alloc (Nat.le_refl _) _
  have t1 := cell_keep s1 (hA _ (.cells #[.slice a n c, .slice b m d] 141))
  have t2 := cell_keep s2 (hA _ (.cells #[.slice a n c, .slice b m d] 141))
  go_wp2_with fail
  refine bodyPost_ret (v := .tuple #[.agg #[.int .i64 0, .int .i64 0], .int .i64 E]) (by simp [results, Try.results25, go_sem, t1, t2]) rfl ⟨rfl, ?_⟩
  exact ((hbw.setCell (by show _ ≤ w.heap.size + 1 + 1; omega) _).setCell (by show _ ≤ w.heap.size + 1 + 1; omega) _).alloc (by simp; omega) _

set_option maxRecDepth 100000 in
set_option maxHeartbeats 4000000 in
theorem ExplainedBy_ok (a b sa : Option Addr) (m c d sn sc : Nat) (ms ks : List Int) (sq : List (Int × Int)) (den : Int) (w : World) (h1 : SI w a m c ms) (h2 : SI w b m d ks) (h3 : SR w sa sn sc sq) (hE : afterE ms ks den sq = 0) (he : (checkF ms ks).2 = 0) (hd1 : 1 ≤ den) (hd2 : den ≤ 50) (hsn : sn ≤ 100)
    (r1 r2 : Int) (r3 : Bool) (hr : exF ms ks den sq = ((r1, r2), r3)) :
    Calls Try.prog 25 #[.agg #[.slice a m c, .slice b m d], .agg #[.int .i64 den, .slice sa sn sc]] w fun e w' => e = .returned (.tuple #[.agg #[.int .i64 r1, .int .i64 r2], .int .i64 (unlessE r3 12)]) ∧ Below w.heap.size w w' := by
  have HE := Lib.hid hE
  have HC := Lib.hid he
  have HR := Lib.hid hr
  clear hE hr
  obtain ⟨l1, l2⟩ : m ≤ ms.length ∧ ms.length ≤ m := by have := h1.len; omega
  have hm4 : m ≤ 4 := by have := (checkF_ok he).2.2.1; omega
  obtain ⟨q1, q2, q3, q4, q5⟩ := checkF_ok he
  have Q5 := Lib.hid q5
  have hown := fun i => own_bd q1 q5 i
  have HOWN := Lib.hid hown
  clear he q1 q4 q5 hown
  obtain ⟨hbV, hVs⟩ := allocs_below [(.cells #[.slice a m c, .slice b m d] 24), (.cells #[.int .i64 den, .slice sa sn sc] 44), (.cells #[.int .i64 0, .int .i64 0] 46)] w
  have hVa := allocs_at [(.cells #[.slice a m c, .slice b m d] 24), (.cells #[.int .i64 den, .slice sa sn sc] 44), (.cells #[.int .i64 0, .int .i64 0] 46)] w
  simp only [List.length_cons, List.length_nil, Nat.reduceAdd] at hVs
  have hv1 := hVa 1 (by simp)
  have hv2 := hVa 2 (by simp)
  clear hVa
  go_enter Try.func25, Try.ntmps25
  go_wp2_with fail
  refine (openAfter_any a b sa m c m d sn sc ms ks sq den _ (h1.keep hbV) (h2.keep hbV) (h3.keep hbV) 0 HE.out (by omega) (by omega)).mono ?_
  rintro e w1 ⟨rfl, hb1⟩
  have x1 : w1.heap[w.heap.size + 1]? = some (.cells #[.int .i64 den, .slice sa sn sc] 44) := blk_keep hv1 hb1
  have x2 : w1.heap[w.heap.size + 2]? = some (.cells #[.int .i64 0, .int .i64 0] 46) := blk_keep hv2 hb1
  have hbw : Below w.heap.size w w1 := hbV.trans (hb1.mono (by omega))
  have hs2 := blk_lt x2
  clear hv1 hv2 hb1 hVs hbV
  go_wp2_with fail
  refine wp_gen (fun v => Below w1.heap.size w1 v ∧ v.heap[w1.heap.size]? = some (.cells #[.slice a m c, .slice b m d] 141) ∧ v.heap[w1.heap.size + 1]? = some (.cells #[.int .i64 0, .int .i64 0] 46)) ⟨((Below.refl _ _).alloc (Nat.le_refl _) _).alloc (by simp) _, box2 (Below.refl _ _)⟩ ?_
  rintro v ⟨hbv, x6, x8⟩
  have hvs := blk_lt x8
  have hbwv := hbw.trans (hbv.mono (by omega))
  have x1v := blk_keep x1 hbv
  have x2v := blk_keep x2 hbv
  go_loopw [9, 29] (fun x z wr => ∃ (i : Nat) (b1 b2 : Int) (fd : Bool), i ≤ m ∧ x = .bool fd ∧ z = .int .i64 i ∧ exTo ms ks den sq i = ((b1, b2), fd) ∧ wr.heap[w1.heap.size + 1]? = some (.cells #[.int .i64 b1, .int .i64 b2] 46) ∧ Below (w1.heap.size + 1) v wr) (fun _ z _ => m - (intOf z).toNat)
  case atStart => exact ⟨0, 0, 0, false, by omega, rfl, rfl, rfl, x8, Below.refl _ _⟩
  case round =>
    obtain ⟨wo, hwo⟩ : ∃ x, x = wr := ⟨_, rfl⟩
    subst hwo
    clear x8
    obtain ⟨i, b1, b2, fd, hi, rfl, rfl, hex, x8, hbr⟩ := hrel
    have hrs := hbr.size
    have HEX := Lib.hid hex
    clear hex
    by_cases hlt : i < m
    · obtain ⟨bb, ob, rfl, hcb⟩ := h2.at_ (by omega)
      have eb := hcb i hlt
      have hki := Q5.out i (by omega)
      have hok := exTo_ok (den := den) (sq := sq) HC.out i (by omega)
      rw [HEX.out] at hok
      have hstep : exTo ms ks den sq (i + 1) = exIn ms ks den sq i (ks[i]?.getD 0) 20 (ks[i]?.getD 0) ((b1, b2), fd) := by rw [← HEX.out]; rfl
      have HST := Lib.hid hstep
      have HCB := Lib.hid hcb
      clear hstep hcb
      obtain ⟨k, hk⟩ : ∃ k, ks[i]?.getD 0 = k := ⟨_, rfl⟩
      rw [hk] at eb hki HST
      have HK := Lib.hid hk
      clear hk
      have e1 := cell_keep eb (hbwv.trans (hbr.mono (by omega)))
      have x6o := (hbr.block _ (by omega)).trans x6
      have f1 : wo.cell? ⟨w1.heap.size, 1, none⟩ = some (.slice (some ⟨bb, ob, none⟩) m d) := cell_block x6o 1
      have hi1 : (i : Int) < (m : Int) := by omega
      have hi0 : (0 : Int) ≤ (i : Int) := by omega
      go_wp2_with fail
      go_loopw [9, 12] (fun x z wz => ∃ (f : Nat) (left : Int), x = .bool fd ∧ z = .int .i64 left ∧ left ≤ f ∧ 0 ≤ left ∧ left ≤ 20 ∧ exIn ms ks den sq i k f left ((b1, b2), fd) = exTo ms ks den sq (i + 1) ∧ wz.heap[w1.heap.size + 1]? = some (.cells #[.int .i64 b1, .int .i64 b2] 46) ∧ Below (w1.heap.size + 1) v wz) (fun _ z _ => (intOf z).toNat)
      case atStart => exact ⟨20, k, rfl, rfl, by omega, by omega, by omega, HST.out.symm, x8, hbr⟩
      case round =>
        obtain ⟨wz, hwz⟩ : ∃ x, x = wr := ⟨_, rfl⟩
        subst hwz
        clear x8 e1 x6o f1 hbr hrs
        obtain ⟨f, left, rfl, rfl, hf, hl0, hl20, hx, x8, hbvz⟩ := hrel
        have HX := Lib.hid hx
        clear hx
        have hzs := hbvz.size
        by_cases hl : 1 ≤ left
        · have hs : exIn ms ks den sq i k f left ((b1, b2), fd) = if fd = true ∧ left * (ks[b1.toNat]?.getD 0) ≤ b2 * k then ((b1, b2), fd) else if (oddF ms (ks.set i left) den 0 sq).2 = false then (((i : Int), left), true) else exIn ms ks den sq i k (f - 1) (left - 1) ((b1, b2), fd) := by
            obtain ⟨f', rfl⟩ : ∃ f', f = f' + 1 := ⟨f - 1, by omega⟩
            rw [exIn, if_pos hl]
            rfl
          obtain ⟨⟨o1, o2⟩, ho⟩ : ∃ o, oddF ms (ks.set i left) den 0 sq = o := ⟨_, rfl⟩
          rw [ho] at hs
          dsimp only at hs
          have HO := Lib.hid ho
          have HS := Lib.hid hs
          clear ho hs
          have hbwz := hbwv.trans (hbvz.mono (by omega))
          have x6z := (hbvz.block _ (by omega)).trans x6
          have x1z := (hbvz.block _ (by omega)).trans x1v
          have g0 : wz.cell? ⟨w1.heap.size, 0, none⟩ = some (.slice a m c) := cell_block x6z 0
          have g1 : wz.cell? ⟨w1.heap.size, 1, none⟩ = some (.slice (some ⟨bb, ob, none⟩) m d) := cell_block x6z 1
          have g2 : wz.cell? ⟨w.heap.size + 1, 0, none⟩ = some (.int .i64 den) := cell_block x1z 0
          have g3 : wz.cell? ⟨w.heap.size + 1, 1, none⟩ = some (.slice sa sn sc) := cell_block x1z 1
          have g4 : wz.cell? ⟨w1.heap.size + 1, 0, none⟩ = some (.int .i64 b1) := cell_block x8 0
          have g5 : wz.cell? ⟨w1.heap.size + 1, 1, none⟩ = some (.int .i64 b2) := cell_block x8 1
          have hw1z : w1.heap.size + 1 < wz.heap.size := by omega
          have hw1z0 : w1.heap.size < wz.heap.size := by omega
          have hw0z : w.heap.size + 1 < wz.heap.size := by omega
          have hAl : ∀ o, Below wz.heap.size wz (wz.alloc o).drew := fun o => ((Below.refl _ _).alloc (Nat.le_refl _) _).drew
          cases fd
          · rw [if_neg (fun h => by cases h.1)] at HS
            go_wp2_with fail
            refine Calmly.wp_region_mix 15 (.fl 0 <| .fl 1 <| .gl 2 <| .gl 3 <| .gl 4 <| .gl 5 <| .gl 6 <| .gl 7 <| .gl 8 <| .gl 9 <| .gl 10 <| .gl 11 <| .gl 12 <| .gl 13 <| .gl 14 <| .tail [15]) (by kernel_rfl) (by kernel_rfl) ?_
            have hk := Below.refl wz.drew.heap.size wz.drew
            go_wp2_with (first | ((with_reducible refine Calmly.is_fl ?_); refine Calmly.mix_fl rfl ?_ (fun _ _ => ?_); (first | exact .move _ | exact .load _ _ | exact .fieldAddr _ _ _ (by kernel_rfl) | exact .assign _ | exact .binOp _ _ _ _ _ rfl | exact .indexAddr _ _ _ | exact .len _ _ (by kernel_rfl) | exact .field _ _ _ | exact .extract _ _ | exact .pick _ _ _ | exact .build _ _ | exact .slice _ _ _ _ _ | exact .unOp _ _ _ rfl | exact .index _ _ _ | exact .max _ _ _ rfl rfl | exact .min _ _ _ rfl rfl)) | ((with_reducible refine Calmly.is_gl ?_); refine Calmly.mix_gl rfl rfl rfl ?_; first | ((first | with_reducible refine Calmly.gl_tt ?_ (fun _ _ => ?_) | with_reducible refine Calmly.gl_ff ?_ (fun _ _ => ?_)); (first | exact .move _ | exact .load _ _ | exact .fieldAddr _ _ _ (by kernel_rfl) | exact .assign _ | exact .binOp _ _ _ _ _ rfl | exact .indexAddr _ _ _ | exact .len _ _ (by kernel_rfl) | exact .field _ _ _ | exact .extract _ _ | exact .pick _ _ _ | exact .build _ _ | exact .slice _ _ _ _ _ | exact .unOp _ _ _ rfl | exact .index _ _ _ | exact .max _ _ _ rfl rfl | exact .min _ _ _ rfl rfl)) | with_reducible refine Calmly.gl_tf (fun _ _ => ?_) | with_reducible refine Calmly.gl_ft (fun _ _ => ?_)) | ((with_reducible refine Calmly.is_eff ?_); refine Calmly.mix_eff rfl (fun _ _ => ?_)) | ((with_reducible refine Calmly.is_gf ?_); refine Calmly.mix_gf rfl rfl rfl ?_; first | with_reducible refine Calmly.gf_tt (fun _ _ => ?_) | with_reducible refine Calmly.gf_ff (fun _ _ => ?_) | with_reducible refine Calmly.gf_tf (kept_of hk) (fun _ _ => ?_) | with_reducible refine Calmly.gf_ft (kept_of hk) (fun _ _ => ?_)) | ((with_reducible refine Calmly.is_tail ?_); first | refine Calmly.mix_tail_nil ?_ | refine Calmly.mix_tail rfl (fun _ _ => ?_)) | ((with_reducible refine Calmly.is_kept ?_); refine ⟨kept_of hk, ?_⟩) | (with_reducible refine Calmly.mix_alt ?_ ?_))
            go_wp2_with fail
            refine (odd_any a (some ⟨bb, ob, none⟩) sa m c d sn sc ms ks sq den i left _ ((h1.keep hbwz).keep (hAl _)) ((h2.keep hbwz).keep (hAl _)) ((h3.keep hbwz).keep (hAl _)) HC.out hd1 hd2 (by omega) (by omega) (by omega) (by omega) hsn o1 o2 (by simpa using HO.out)).mono ?_
            rintro e w5 ⟨rfl, hb5⟩
            have hb6 : Below (w1.heap.size + 1) v w5 := (hbvz.trans ((hAl (.cells #[.int .i64 i, .int .i64 left] 46)).mono (by omega))).trans (hb5.mono (by show _ ≤ (wz.alloc _).heap.size; simp; omega))
            have x8' : w5.heap[w1.heap.size + 1]? = some (.cells #[.int .i64 b1, .int .i64 b2] 46) := blk_keep (blk_keep x8 (hAl (.cells #[.int .i64 i, .int .i64 left] 46))) hb5
            cases o2
            · have hnew : w5.heap[wz.heap.size]? = some (.cells #[.int .i64 i, .int .i64 left] 46) := blk_keep (w := (wz.alloc (.cells #[.int .i64 i, .int .i64 left] 46)).drew) (alloc_new _ _) hb5
              have n0 : w5.cell? ⟨wz.heap.size, 0, none⟩ = some (.int .i64 i) := cell_block hnew 0
              have n1 : w5.cell? ⟨wz.heap.size, 1, none⟩ = some (.int .i64 left) := cell_block hnew 1
              have y0 : w5.cell? ⟨w1.heap.size + 1, 0, none⟩ = some (.int .i64 b1) := cell_block x8' 0
              have y1 : w5.cell? ⟨w1.heap.size + 1, 1, none⟩ = some (.int .i64 b2) := cell_block x8' 1
              have y2 : w5.frozen? ⟨w1.heap.size + 1, 0, none⟩ = false := frozen_block x8' 0
              have y3 : w5.frozen? ⟨w1.heap.size + 1, 1, none⟩ = false := frozen_block x8' 1
              rw [if_pos rfl] at HS
              go_wp2_with fail
              go_roundw
              case rel => exact ⟨i + 1, i, left, true, by omega, rfl, by go_num, by rw [← HX.out, HS.out], blk_setAt (blk_setAt x8' 0 _) 1 _, (hb6.setCell (by simp) _).setCell (by simp) _⟩
              case measure => simp [intOf]; omega
            · rw [if_neg (by simp)] at HS
              go_wp2_with fail
              go_roundw
              case rel => exact ⟨f - 1, left - 1, rfl, rfl, by omega, by omega, by omega, by rw [← HS.out]; exact HX.out, x8', hb6⟩
              case measure => simp [intOf]; omega
          · have hok' := hok rfl
            dsimp only at hok'
            obtain ⟨hb1a, hb1b, hb2a, hb2b⟩ := hok'
            have hkb := HOWN.out b1.toNat
            have ebb := HCB.out b1.toNat (by omega)
            have ebb' := cell_keep ebb hbwz
            clear ebb
            obtain ⟨kb, hkb'⟩ : ∃ kb, ks[b1.toNat]?.getD 0 = kb := ⟨_, rfl⟩
            rw [hkb'] at hkb ebb' HS
            have HKB := Lib.hid hkb'
            clear hkb'
            obtain ⟨p1, p2⟩ := mul_bd (a := left) (x := kb) (A := 20) (C := 20) (by omega) (by omega) (by omega) (by omega) (by omega)
            obtain ⟨p3, p4⟩ := mul_bd (a := b2) (x := k) (A := 20) (C := 20) (by omega) (by omega) (by omega) (by omega) (by omega)
            by_cases hle : left * kb ≤ b2 * k
            · rw [if_pos ⟨rfl, hle⟩] at HS
              go_wp2_with fail
              refine Calmly.wp_region_mix 15 (.fl 0 <| .fl 1 <| .gl 2 <| .gl 3 <| .gl 4 <| .gl 5 <| .gl 6 <| .gl 7 <| .gl 8 <| .gl 9 <| .gl 10 <| .gl 11 <| .gl 12 <| .gl 13 <| .gl 14 <| .tail [15]) (by kernel_rfl) (by kernel_rfl) ?_
              have hk := Below.refl wz.drew.heap.size wz.drew
              go_wp2_with (first | ((with_reducible refine Calmly.is_fl ?_); refine Calmly.mix_fl rfl ?_ (fun _ _ => ?_); (first | exact .move _ | exact .load _ _ | exact .fieldAddr _ _ _ (by kernel_rfl) | exact .assign _ | exact .binOp _ _ _ _ _ rfl | exact .indexAddr _ _ _ | exact .len _ _ (by kernel_rfl) | exact .field _ _ _ | exact .extract _ _ | exact .pick _ _ _ | exact .build _ _ | exact .slice _ _ _ _ _ | exact .unOp _ _ _ rfl | exact .index _ _ _ | exact .max _ _ _ rfl rfl | exact .min _ _ _ rfl rfl)) | ((with_reducible refine Calmly.is_gl ?_); refine Calmly.mix_gl rfl rfl rfl ?_; first | ((first | with_reducible refine Calmly.gl_tt ?_ (fun _ _ => ?_) | with_reducible refine Calmly.gl_ff ?_ (fun _ _ => ?_)); (first | exact .move _ | exact .load _ _ | exact .fieldAddr _ _ _ (by kernel_rfl) | exact .assign _ | exact .binOp _ _ _ _ _ rfl | exact .indexAddr _ _ _ | exact .len _ _ (by kernel_rfl) | exact .field _ _ _ | exact .extract _ _ | exact .pick _ _ _ | exact .build _ _ | exact .slice _ _ _ _ _ | exact .unOp _ _ _ rfl | exact .index _ _ _ | exact .max _ _ _ rfl rfl | exact .min _ _ _ rfl rfl)) | with_reducible refine Calmly.gl_tf (fun _ _ => ?_) | with_reducible refine Calmly.gl_ft (fun _ _ => ?_)) | ((with_reducible refine Calmly.is_eff ?_); refine Calmly.mix_eff rfl (fun _ _ => ?_)) | ((with_reducible refine Calmly.is_gf ?_); refine Calmly.mix_gf rfl rfl rfl ?_; first | with_reducible refine Calmly.gf_tt (fun _ _ => ?_) | with_reducible refine Calmly.gf_ff (fun _ _ => ?_) | with_reducible refine Calmly.gf_tf (kept_of hk) (fun _ _ => ?_) | with_reducible refine Calmly.gf_ft (kept_of hk) (fun _ _ => ?_)) | ((with_reducible refine Calmly.is_tail ?_); first | refine Calmly.mix_tail_nil ?_ | refine Calmly.mix_tail rfl (fun _ _ => ?_)) | ((with_reducible refine Calmly.is_kept ?_); refine ⟨kept_of hk, ?_⟩) | (with_reducible refine Calmly.mix_alt ?_ ?_))
              go_roundw
              case rel => exact ⟨i + 1, b1, b2, true, by omega, rfl, by go_num, by rw [← HX.out, HS.out], x8, hbvz.drew⟩
              case measure => simp [intOf]; omega
            · rw [if_neg (fun h => hle h.2)] at HS
              have hgt : b2 * k < left * kb := by omega
              clear hle
              go_wp2_with fail
              refine Calmly.wp_region_mix 15 (.fl 0 <| .fl 1 <| .gl 2 <| .gl 3 <| .gl 4 <| .gl 5 <| .gl 6 <| .gl 7 <| .gl 8 <| .gl 9 <| .gl 10 <| .gl 11 <| .gl 12 <| .gl 13 <| .gl 14 <| .tail [15]) (by kernel_rfl) (by kernel_rfl) ?_
              have hk := Below.refl wz.drew.heap.size wz.drew
              go_wp2_with (first | ((with_reducible refine Calmly.is_fl ?_); refine Calmly.mix_fl rfl ?_ (fun _ _ => ?_); (first | exact .move _ | exact .load _ _ | exact .fieldAddr _ _ _ (by kernel_rfl) | exact .assign _ | exact .binOp _ _ _ _ _ rfl | exact .indexAddr _ _ _ | exact .len _ _ (by kernel_rfl) | exact .field _ _ _ | exact .extract _ _ | exact .pick _ _ _ | exact .build _ _ | exact .slice _ _ _ _ _ | exact .unOp _ _ _ rfl | exact .index _ _ _ | exact .max _ _ _ rfl rfl | exact .min _ _ _ rfl rfl)) | ((with_reducible refine Calmly.is_gl ?_); refine Calmly.mix_gl rfl rfl rfl ?_; first | ((first | with_reducible refine Calmly.gl_tt ?_ (fun _ _ => ?_) | with_reducible refine Calmly.gl_ff ?_ (fun _ _ => ?_)); (first | exact .move _ | exact .load _ _ | exact .fieldAddr _ _ _ (by kernel_rfl) | exact .assign _ | exact .binOp _ _ _ _ _ rfl | exact .indexAddr _ _ _ | exact .len _ _ (by kernel_rfl) | exact .field _ _ _ | exact .extract _ _ | exact .pick _ _ _ | exact .build _ _ | exact .slice _ _ _ _ _ | exact .unOp _ _ _ rfl | exact .index _ _ _ | exact .max _ _ _ rfl rfl | exact .min _ _ _ rfl rfl)) | with_reducible refine Calmly.gl_tf (fun _ _ => ?_) | with_reducible refine Calmly.gl_ft (fun _ _ => ?_)) | ((with_reducible refine Calmly.is_eff ?_); refine Calmly.mix_eff rfl (fun _ _ => ?_)) | ((with_reducible refine Calmly.is_gf ?_); refine Calmly.mix_gf rfl rfl rfl ?_; first | with_reducible refine Calmly.gf_tt (fun _ _ => ?_) | with_reducible refine Calmly.gf_ff (fun _ _ => ?_) | with_reducible refine Calmly.gf_tf (kept_of hk) (fun _ _ => ?_) | with_reducible refine Calmly.gf_ft (kept_of hk) (fun _ _ => ?_)) | ((with_reducible refine Calmly.is_tail ?_); first | refine Calmly.mix_tail_nil ?_ | refine Calmly.mix_tail rfl (fun _ _ => ?_)) | ((with_reducible refine Calmly.is_kept ?_); refine ⟨kept_of hk, ?_⟩) | (with_reducible refine Calmly.mix_alt ?_ ?_))
              go_wp2_with fail
              refine (odd_any a (some ⟨bb, ob, none⟩) sa m c d sn sc ms ks sq den i left _ ((h1.keep hbwz).keep (hAl _)) ((h2.keep hbwz).keep (hAl _)) ((h3.keep hbwz).keep (hAl _)) HC.out hd1 hd2 (by omega) (by omega) (by omega) (by omega) hsn o1 o2 (by simpa using HO.out)).mono ?_
              rintro e w5 ⟨rfl, hb5⟩
              have hb6 : Below (w1.heap.size + 1) v w5 := (hbvz.trans ((hAl (.cells #[.int .i64 i, .int .i64 left] 46)).mono (by omega))).trans (hb5.mono (by show _ ≤ (wz.alloc _).heap.size; simp; omega))
              have x8' : w5.heap[w1.heap.size + 1]? = some (.cells #[.int .i64 b1, .int .i64 b2] 46) := blk_keep (blk_keep x8 (hAl (.cells #[.int .i64 i, .int .i64 left] 46))) hb5
              cases o2
              · have hnew : w5.heap[wz.heap.size]? = some (.cells #[.int .i64 i, .int .i64 left] 46) := blk_keep (w := (wz.alloc (.cells #[.int .i64 i, .int .i64 left] 46)).drew) (alloc_new _ _) hb5
                have n0 : w5.cell? ⟨wz.heap.size, 0, none⟩ = some (.int .i64 i) := cell_block hnew 0
                have n1 : w5.cell? ⟨wz.heap.size, 1, none⟩ = some (.int .i64 left) := cell_block hnew 1
                have y0 : w5.cell? ⟨w1.heap.size + 1, 0, none⟩ = some (.int .i64 b1) := cell_block x8' 0
                have y1 : w5.cell? ⟨w1.heap.size + 1, 1, none⟩ = some (.int .i64 b2) := cell_block x8' 1
                have y2 : w5.frozen? ⟨w1.heap.size + 1, 0, none⟩ = false := frozen_block x8' 0
                have y3 : w5.frozen? ⟨w1.heap.size + 1, 1, none⟩ = false := frozen_block x8' 1
                rw [if_pos rfl] at HS
                go_wp2_with fail
                go_roundw
                case rel => exact ⟨i + 1, i, left, true, by omega, rfl, by go_num, by rw [← HX.out, HS.out], blk_setAt (blk_setAt x8' 0 _) 1 _, (hb6.setCell (by simp) _).setCell (by simp) _⟩
                case measure => simp [intOf]; omega
              · rw [if_neg (by simp)] at HS
                go_wp2_with fail
                go_roundw
                case rel => exact ⟨f - 1, left - 1, rfl, rfl, by omega, by omega, by omega, by rw [← HS.out]; exact HX.out, x8', hb6⟩
                case measure => simp [intOf]; omega
        · have hl' : left ≤ 0 := by omega
          have hs : exIn ms ks den sq i k f left ((b1, b2), fd) = ((b1, b2), fd) := by
            cases f with
            | zero => rfl
            | succ f => rw [exIn, if_neg hl]
          have HS := Lib.hid hs
          clear hs hl
          go_wp2_with fail
          go_roundw
          case rel => exact ⟨i + 1, b1, b2, fd, by omega, rfl, by go_num, by rw [← HX.out, HS.out], x8, hbvz⟩
          case measure => simp [intOf]; omega
    · have hle : (m : Int) ≤ (i : Int) := by omega
      have hfin : ((b1, b2), fd) = ((r1, r2), r3) := by
        rw [← HEX.out, ← HR.out]
        unfold exF
        congr 1
        omega
      cases hfin
      have x2o := (hbr.block _ (by omega)).trans x2v
      have g4 : wo.cell? ⟨w1.heap.size + 1, 0, none⟩ = some (.int .i64 r1) := cell_block x8 0
      have g5 : wo.cell? ⟨w1.heap.size + 1, 1, none⟩ = some (.int .i64 r2) := cell_block x8 1
      have z0 : wo.cell? ⟨w.heap.size + 1 + 1, 0, none⟩ = some (.int .i64 0) := cell_block x2o 0
      have z1 : wo.cell? ⟨w.heap.size + 1 + 1, 1, none⟩ = some (.int .i64 0) := cell_block x2o 1
      have z2 : wo.frozen? ⟨w.heap.size + 1 + 1, 0, none⟩ = false := frozen_block x2o 0
      have z3 : wo.frozen? ⟨w.heap.size + 1 + 1, 1, none⟩ = false := frozen_block x2o 1
      obtain ⟨s1, s2, s3, s4⟩ := set2 (v := wo) (x := .int .i64 r1) (y := .int .i64 r2) z0 z1
      have hbwo := hbwv.trans (hbr.mono (by omega))
      go_wp2_with fail
      refine Calmly.wp_region_mix 3 (.fl 0 <| .fl 1 <| .eff 2 <| .tail [3, 4]) (by kernel_rfl) (by kernel_rfl) ?_
      have hk := Below.refl wo.drew.heap.size wo.drew
      go_wp2_with (first | ((with_reducible refine Calmly.is_fl ?_); refine Calmly.mix_fl rfl ?_ (fun _ _ => ?_); (first | exact .move _ | exact .load _ _ | exact .fieldAddr _ _ _ (by kernel_rfl) | exact .assign _ | exact .binOp _ _ _ _ _ rfl | exact .indexAddr _ _ _ | exact .len _ _ (by kernel_rfl) | exact .field _ _ _ | exact .extract _ _ | exact .pick _ _ _ | exact .build _ _ | exact .slice _ _ _ _ _ | exact .unOp _ _ _ rfl | exact .index _ _ _ | exact .max _ _ _ rfl rfl | exact .min _ _ _ rfl rfl)) | ((with_reducible refine Calmly.is_gl ?_); refine Calmly.mix_gl rfl rfl rfl ?_; first | ((first | with_reducible refine Calmly.gl_tt ?_ (fun _ _ => ?_) | with_reducible refine Calmly.gl_ff ?_ (fun _ _ => ?_)); (first | exact .move _ | exact .load _ _ | exact .fieldAddr _ _ _ (by kernel_rfl) | exact .assign _ | exact .binOp _ _ _ _ _ rfl | exact .indexAddr _ _ _ | exact .len _ _ (by kernel_rfl) | exact .field _ _ _ | exact .extract _ _ | exact .pick _ _ _ | exact .build _ _ | exact .slice _ _ _ _ _ | exact .unOp _ _ _ rfl | exact .index _ _ _ | exact .max _ _ _ rfl rfl | exact .min _ _ _ rfl rfl)) | with_reducible refine Calmly.gl_tf (fun _ _ => ?_) | with_reducible refine Calmly.gl_ft (fun _ _ => ?_)) | ((with_reducible refine Calmly.is_eff ?_); refine Calmly.mix_eff rfl (fun _ _ => ?_)) | ((with_reducible refine Calmly.is_gf ?_); refine Calmly.mix_gf rfl rfl rfl ?_; first | with_reducible refine Calmly.gf_tt (fun _ _ => ?_) | with_reducible refine Calmly.gf_ff (fun _ _ => ?_) | with_reducible refine Calmly.gf_tf (kept_of hk) (fun _ _ => ?_) | with_reducible refine Calmly.gf_ft (kept_of hk) (fun _ _ => ?_)) | ((with_reducible refine Calmly.is_tail ?_); first | refine Calmly.mix_tail_nil ?_ | refine Calmly.mix_tail rfl (fun _ _ => ?_)) | ((with_reducible refine Calmly.is_kept ?_); refine ⟨kept_of hk, ?_⟩) | (with_reducible refine Calmly.mix_alt ?_ ?_) | (go_at_call 92; refine (unless_any _ _ _).mono ?_; rintro e w' ⟨rfl, rfl⟩))
      refine bodyPost_ret (v := .tuple #[.agg #[.int .i64 r1, .int .i64 r2], .int .i64 (unlessE r3 12)]) (by simp [results, Try.results25, go_sem, s1, s2]) rfl ⟨rfl, ?_⟩
      exact ((hbwo.setCell (by show _ ≤ w.heap.size + 1 + 1; omega) _).setCell (by show _ ≤ w.heap.size + 1 + 1; omega) _).drew
end Go.Proofs.Ytmaidjankakppaa
