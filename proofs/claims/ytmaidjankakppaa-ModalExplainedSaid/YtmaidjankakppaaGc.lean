/- Contracts of chapter 6: a contradiction. -/
import Derived.Test.YtmaidjankakppaaGa
namespace Go.Proofs.Ytmaidjankakppaa
open Go.RowKit
open Calmly (Kept)

def ctIn (a : Int × Int) : Nat → List (Int × Int) → Option Nat
  | _, [] => none
  | k, r :: t => if agreeF a r then ctIn a (k + 1) t else some k
/-- The first two ranges that have nothing in common. -/
def ctF : Nat → List (Int × Int) → Option (Nat × Nat)
  | _, [] => none
  | i, a :: t => match ctIn a (i + 1) t with
    | some k => some (i, k)
    | none => ctF (i + 1) t
def ctL : Option (Nat × Nat) → List Int
  | none => []
  | some (i, k) => [(i : Int), (k : Int)]
theorem ctIn_drop (a : Int × Int) (l : List (Int × Int)) (k : Nat) (h : k < l.length) : ctIn a k (l.drop k) = if agreeF a (l[k]?.getD (0, 0)) then ctIn a (k + 1) (l.drop (k + 1)) else some k := by
  rw [List.drop_eq_getElem_cons h]
  simp [ctIn, h]
theorem ctF_drop (l : List (Int × Int)) (i : Nat) (h : i < l.length) : ctF i (l.drop i) = match ctIn (l[i]?.getD (0, 0)) (i + 1) (l.drop (i + 1)) with
    | some k => some (i, k)
    | none => ctF (i + 1) (l.drop (i + 1)) := by
  rw [List.drop_eq_getElem_cons h]
  simp [ctF, h]
/-- By the greatest lower end and the smallest upper end. -/
theorem agree_meet {a b : Int × Int} (ha : a.1 ≤ a.2) (hb : b.1 ≤ b.2) : decide ((if a.1 < b.1 then b.1 else a.1) ≤ if b.2 < a.2 then b.2 else a.2) = agreeF a b := by
  unfold agreeF
  rw [Bool.eq_iff_iff]
  simp only [decide_eq_true_eq, Bool.and_eq_true]
  split <;> split <;> omega

set_option maxRecDepth 100000 in
set_option maxHeartbeats 1000000 in
theorem meet_any (x0 y0 x1 y1 : Int) (w : World) (ha : x0 ≤ y0) (hb : x1 ≤ y1) :
    Calls Try.prog 101 #[.agg #[.int .i64 x0, .int .i64 y0], .agg #[.int .i64 x1, .int .i64 y1]] w fun e w' => e = .returned (.bool (agreeF (x0, y0) (x1, y1))) ∧ Below w.heap.size w w' := by
  have hbb : ∀ o o', Below w.heap.size w ((w.alloc o).alloc o') := fun o o' => ((Below.refl _ _).alloc (Nat.le_refl _) _).alloc (by simp) _
  have hm := agree_meet (a := (x0, y0)) (b := (x1, y1)) ha hb
  dsimp only at hm
  have HM := Lib.hid hm
  clear hm
  rcases Int.lt_or_le x0 x1 with t1 | t1 <;> rcases Int.lt_or_le y1 y0 with t2 | t2
  · rw [if_pos t1, if_pos t2] at HM
    go_enter Try.func101, Try.ntmps101
    go_wp2_with fail
    go_ret
    exact ⟨ret_bool (by rw [← HM.out] <;> first | rfl | exact (decide_eq_true (by omega)).symm), hbb _ _⟩
  · rw [if_pos t1, if_neg (by omega)] at HM
    go_enter Try.func101, Try.ntmps101
    go_wp2_with fail
    go_ret
    exact ⟨ret_bool (by rw [← HM.out] <;> first | rfl | exact (decide_eq_true (by omega)).symm), hbb _ _⟩
  · rw [if_neg (by omega), if_pos t2] at HM
    go_enter Try.func101, Try.ntmps101
    go_wp2_with fail
    go_ret
    exact ⟨ret_bool (by rw [← HM.out] <;> first | rfl | exact (decide_eq_true (by omega)).symm), hbb _ _⟩
  · rw [if_neg (by omega), if_neg (by omega)] at HM
    go_enter Try.func101, Try.ntmps101
    go_wp2_with fail
    go_ret
    exact ⟨ret_bool (by rw [← HM.out] <;> first | rfl | exact (decide_eq_true (by omega)).symm), hbb _ _⟩

set_option maxRecDepth 100000 in
set_option maxHeartbeats 4000000 in
theorem rContradiction_any (sa : Option Addr) (sn sc : Nat) (sq : List (Int × Int)) (w : World) (h3 : SR w sa sn sc sq) (hE : rgE sq = 0) :
    Calls Try.prog 74 #[.slice sa sn sc] w fun e w' => (∃ a' n' c', e = .returned (.slice a' n' c') ∧ SI w' a' n' c' (ctL (ctF 0 sq))) ∧ Below w.heap.size w w' := by
  obtain ⟨g1, g2⟩ : sn ≤ sq.length ∧ sq.length ≤ sn := by have := h3.len; omega
  obtain ⟨v1, v2, v3⟩ := rgE_ok hE
  have V3 := Lib.hid v3
  clear v3 hE
  obtain ⟨cb, co, rfl, hcc⟩ := h3.at_ (by omega)
  have HCC := Lib.hid hcc
  clear hcc
  go_enter Try.func74, Try.ntmps74
  go_wp2_with fail
  go_loopw [3] (fun z wr => ∃ (i : Nat), i ≤ sn ∧ z = .int .i64 i ∧ ctF 0 sq = ctF i (sq.drop i) ∧ Below w.heap.size w wr) (fun z _ => sn - (intOf z).toNat)
  case atStart => exact ⟨0, by omega, rfl, rfl, Below.refl _ _⟩
  case round =>
    obtain ⟨wo, hwo⟩ : ∃ x, x = wr := ⟨_, rfl⟩
    subst hwo
    obtain ⟨i, hi, rfl, ho, hbr⟩ := hrel
    have HO := Lib.hid ho
    clear ho
    by_cases hlt : i < sn
    · have hd := ctF_drop sq i (by omega)
      obtain ⟨u1, u2, u3⟩ := V3.out i
      obtain ⟨y0, y1⟩ := HCC.out i hlt
      obtain ⟨aa, haa⟩ : ∃ aa, sq[i]?.getD (0, 0) = aa := ⟨_, rfl⟩
      rw [haa] at hd u1 y0 y1
      obtain ⟨l0, h0⟩ := aa
      dsimp only at u1 y0 y1
      have HD := Lib.hid hd
      have Y0 := Lib.hid y0
      have Y1 := Lib.hid y1
      clear hd haa u2 u3 y0 y1
      have hi1 : (i : Int) < (sn : Int) := by omega
      have hi0 : (0 : Int) ≤ (i : Int) := by omega
      go_wp2_with fail
      go_loopw [4] (fun z wz => ∃ (k : Nat), i + 1 ≤ k ∧ k ≤ sn ∧ z = .int .i64 k ∧ ctIn (l0, h0) (i + 1) (sq.drop (i + 1)) = ctIn (l0, h0) k (sq.drop k) ∧ Below w.heap.size w wz) (fun z _ => sn - (intOf z).toNat)
      case atStart => exact ⟨i + 1, by omega, by omega, by go_num, rfl, hbr⟩
      case round =>
        obtain ⟨wz, hwz⟩ : ∃ x, x = wr := ⟨_, rfl⟩
        subst hwz
        clear hbr
        obtain ⟨k, hk1, hk, rfl, ho, hbr⟩ := hrel
        have HO2 := Lib.hid ho
        clear ho
        have hzs := hbr.size
        by_cases hlt2 : k < sn
        · have hd := ctIn_drop (l0, h0) sq k (by omega)
          obtain ⟨u1', u2, u3⟩ := V3.out k
          obtain ⟨z0, z1⟩ := HCC.out k hlt2
          obtain ⟨bb, hbb⟩ : ∃ bb, sq[k]?.getD (0, 0) = bb := ⟨_, rfl⟩
          rw [hbb] at hd u1' z0 z1
          obtain ⟨l1, h1⟩ := bb
          dsimp only at u1' z0 z1
          have HD2 := Lib.hid hd
          clear hd hbb u2 u3
          have z0' := cell_keep z0 hbr
          have z1' := cell_keep z1 hbr
          have y0' := cell_keep Y0.out hbr
          have y1' := cell_keep Y1.out hbr
          clear z0 z1
          have hk1' : (k : Int) < (sn : Int) := by omega
          have hk0 : (0 : Int) ≤ (k : Int) := by omega
          go_wp2_with fail
          refine Calmly.wp_region_mix 9 (.fl 0 <| .fl 1 <| .fl 2 <| .fl 3 <| .fl 4 <| .fl 5 <| .fl 6 <| .fl 7 <| .eff 8 <| .tail [9]) (by kernel_rfl) (by kernel_rfl) ?_
          have hk := Below.refl wz.drew.heap.size wz.drew
          go_wp2_with (first | ((with_reducible refine Calmly.is_fl ?_); refine Calmly.mix_fl rfl ?_ (fun _ _ => ?_); (first | exact .move _ | exact .load _ _ | exact .fieldAddr _ _ _ (by kernel_rfl) | exact .assign _ | exact .binOp _ _ _ _ _ rfl | exact .indexAddr _ _ _ | exact .len _ _ (by kernel_rfl) | exact .field _ _ _ | exact .extract _ _ | exact .pick _ _ _ | exact .build _ _ | exact .slice _ _ _ _ _ | exact .unOp _ _ _ rfl | exact .index _ _ _ | exact .max _ _ _ rfl rfl | exact .min _ _ _ rfl rfl)) | ((with_reducible refine Calmly.is_gl ?_); refine Calmly.mix_gl rfl rfl rfl ?_; first | ((first | with_reducible refine Calmly.gl_tt ?_ (fun _ _ => ?_) | with_reducible refine Calmly.gl_ff ?_ (fun _ _ => ?_)); (first | exact .move _ | exact .load _ _ | exact .fieldAddr _ _ _ (by kernel_rfl) | exact .assign _ | exact .binOp _ _ _ _ _ rfl | exact .indexAddr _ _ _ | exact .len _ _ (by kernel_rfl) | exact .field _ _ _ | exact .extract _ _ | exact .pick _ _ _ | exact .build _ _ | exact .slice _ _ _ _ _ | exact .unOp _ _ _ rfl | exact .index _ _ _ | exact .max _ _ _ rfl rfl | exact .min _ _ _ rfl rfl)) | with_reducible refine Calmly.gl_tf (fun _ _ => ?_) | with_reducible refine Calmly.gl_ft (fun _ _ => ?_)) | ((with_reducible refine Calmly.is_eff ?_); refine Calmly.mix_eff rfl (fun _ _ => ?_)) | ((with_reducible refine Calmly.is_gf ?_); refine Calmly.mix_gf rfl rfl rfl ?_; first | with_reducible refine Calmly.gf_tt (fun _ _ => ?_) | with_reducible refine Calmly.gf_ff (fun _ _ => ?_) | with_reducible refine Calmly.gf_tf (kept_of hk) (fun _ _ => ?_) | with_reducible refine Calmly.gf_ft (kept_of hk) (fun _ _ => ?_)) | ((with_reducible refine Calmly.is_tail ?_); first | refine Calmly.mix_tail_nil ?_ | refine Calmly.mix_tail rfl (fun _ _ => ?_)) | ((with_reducible refine Calmly.is_kept ?_); refine ⟨kept_of hk, ?_⟩) | (with_reducible refine Calmly.mix_alt ?_ ?_))
          refine (meet_any l0 h0 l1 h1 _ u1 u1').mono ?_
          rintro e w5 ⟨rfl, hb5⟩
          replace hk := step_of hk hb5
          have hb6 : Below w.heap.size w w5 := hbr.drew.trans (hb5.mono hzs)
          cases hag : agreeF (l0, h0) (l1, h1)
          · rw [hag] at HD2
            go_wp2_with (first | ((with_reducible refine Calmly.is_fl ?_); refine Calmly.mix_fl rfl ?_ (fun _ _ => ?_); (first | exact .move _ | exact .load _ _ | exact .fieldAddr _ _ _ (by kernel_rfl) | exact .assign _ | exact .binOp _ _ _ _ _ rfl | exact .indexAddr _ _ _ | exact .len _ _ (by kernel_rfl) | exact .field _ _ _ | exact .extract _ _ | exact .pick _ _ _ | exact .build _ _ | exact .slice _ _ _ _ _ | exact .unOp _ _ _ rfl | exact .index _ _ _ | exact .max _ _ _ rfl rfl | exact .min _ _ _ rfl rfl)) | ((with_reducible refine Calmly.is_gl ?_); refine Calmly.mix_gl rfl rfl rfl ?_; first | ((first | with_reducible refine Calmly.gl_tt ?_ (fun _ _ => ?_) | with_reducible refine Calmly.gl_ff ?_ (fun _ _ => ?_)); (first | exact .move _ | exact .load _ _ | exact .fieldAddr _ _ _ (by kernel_rfl) | exact .assign _ | exact .binOp _ _ _ _ _ rfl | exact .indexAddr _ _ _ | exact .len _ _ (by kernel_rfl) | exact .field _ _ _ | exact .extract _ _ | exact .pick _ _ _ | exact .build _ _ | exact .slice _ _ _ _ _ | exact .unOp _ _ _ rfl | exact .index _ _ _ | exact .max _ _ _ rfl rfl | exact .min _ _ _ rfl rfl)) | with_reducible refine Calmly.gl_tf (fun _ _ => ?_) | with_reducible refine Calmly.gl_ft (fun _ _ => ?_)) | ((with_reducible refine Calmly.is_eff ?_); refine Calmly.mix_eff rfl (fun _ _ => ?_)) | ((with_reducible refine Calmly.is_gf ?_); refine Calmly.mix_gf rfl rfl rfl ?_; first | with_reducible refine Calmly.gf_tt (fun _ _ => ?_) | with_reducible refine Calmly.gf_ff (fun _ _ => ?_) | with_reducible refine Calmly.gf_tf (kept_of hk) (fun _ _ => ?_) | with_reducible refine Calmly.gf_ft (kept_of hk) (fun _ _ => ?_)) | ((with_reducible refine Calmly.is_tail ?_); first | refine Calmly.mix_tail_nil ?_ | refine Calmly.mix_tail rfl (fun _ _ => ?_)) | ((with_reducible refine Calmly.is_kept ?_); refine ⟨kept_of hk, ?_⟩) | (with_reducible refine Calmly.mix_alt ?_ ?_))
            go_ret
            refine ⟨⟨_, _, _, rfl, ?_⟩, hb6.alloc hb6.size _⟩
            rw [HO.out, HD.out, HO2.out, HD2.out]
            exact SI.two _ _ _ _ rfl
          · rw [hag] at HD2
            go_wp2_with (first | ((with_reducible refine Calmly.is_fl ?_); refine Calmly.mix_fl rfl ?_ (fun _ _ => ?_); (first | exact .move _ | exact .load _ _ | exact .fieldAddr _ _ _ (by kernel_rfl) | exact .assign _ | exact .binOp _ _ _ _ _ rfl | exact .indexAddr _ _ _ | exact .len _ _ (by kernel_rfl) | exact .field _ _ _ | exact .extract _ _ | exact .pick _ _ _ | exact .build _ _ | exact .slice _ _ _ _ _ | exact .unOp _ _ _ rfl | exact .index _ _ _ | exact .max _ _ _ rfl rfl | exact .min _ _ _ rfl rfl)) | ((with_reducible refine Calmly.is_gl ?_); refine Calmly.mix_gl rfl rfl rfl ?_; first | ((first | with_reducible refine Calmly.gl_tt ?_ (fun _ _ => ?_) | with_reducible refine Calmly.gl_ff ?_ (fun _ _ => ?_)); (first | exact .move _ | exact .load _ _ | exact .fieldAddr _ _ _ (by kernel_rfl) | exact .assign _ | exact .binOp _ _ _ _ _ rfl | exact .indexAddr _ _ _ | exact .len _ _ (by kernel_rfl) | exact .field _ _ _ | exact .extract _ _ | exact .pick _ _ _ | exact .build _ _ | exact .slice _ _ _ _ _ | exact .unOp _ _ _ rfl | exact .index _ _ _ | exact .max _ _ _ rfl rfl | exact .min _ _ _ rfl rfl)) | with_reducible refine Calmly.gl_tf (fun _ _ => ?_) | with_reducible refine Calmly.gl_ft (fun _ _ => ?_)) | ((with_reducible refine Calmly.is_eff ?_); refine Calmly.mix_eff rfl (fun _ _ => ?_)) | ((with_reducible refine Calmly.is_gf ?_); refine Calmly.mix_gf rfl rfl rfl ?_; first | with_reducible refine Calmly.gf_tt (fun _ _ => ?_) | with_reducible refine Calmly.gf_ff (fun _ _ => ?_) | with_reducible refine Calmly.gf_tf (kept_of hk) (fun _ _ => ?_) | with_reducible refine Calmly.gf_ft (kept_of hk) (fun _ _ => ?_)) | ((with_reducible refine Calmly.is_tail ?_); first | refine Calmly.mix_tail_nil ?_ | refine Calmly.mix_tail rfl (fun _ _ => ?_)) | ((with_reducible refine Calmly.is_kept ?_); refine ⟨kept_of hk, ?_⟩) | (with_reducible refine Calmly.mix_alt ?_ ?_))
            go_roundw
            case rel => exact ⟨k + 1, by omega, by omega, by go_num, by rw [HO2.out, HD2.out]; rfl, hb6⟩
            case measure => simp [intOf]; omega
        · have hle : (sn : Int) ≤ (k : Int) := by omega
          go_wp2_with fail
          go_roundw
          case rel =>
            refine ⟨i + 1, by omega, by go_num, ?_, hbr⟩
            rw [HO.out, HD.out, HO2.out, List.drop_eq_nil_of_le (by omega : sq.length ≤ k)]
            rfl
          case measure => simp [intOf]; omega
    · have hle : (sn : Int) ≤ (i : Int) := by omega
      go_wp2_with fail
      go_ret
      refine ⟨⟨_, _, _, rfl, ?_⟩, hbr⟩
      rw [HO.out, List.drop_eq_nil_of_le (by omega)]
      exact Sl.nil _ 1

set_option maxRecDepth 100000 in
set_option maxHeartbeats 1000000 in
theorem ContradictionOf_err (sa : Option Addr) (sn sc : Nat) (sq : List (Int × Int)) (w : World) (h3 : SR w sa sn sc sq) (E : Int) (hE : rgE sq = E) (hz : E ≠ 0) :
    Calls Try.prog 71 #[.slice sa sn sc] w fun e w' => e = .returned (.tuple #[.slice none 0 0, .int .i64 E]) ∧ Below w.heap.size w w' := by
  have hz1 : (E != 0) = true := by simpa using hz
  clear hz
  go_enter Try.func71, Try.ntmps71
  go_wp2_with fail
  refine (mRangesErr_any sa sn sc sq _ h3 E hE).mono ?_
  rintro e w1 ⟨rfl, hb1⟩
  go_wp2_with fail
  go_ret2
  exact ⟨rfl, hb1⟩

set_option maxRecDepth 100000 in
set_option maxHeartbeats 4000000 in
theorem ContradictionOf_ok (sa : Option Addr) (sn sc : Nat) (sq : List (Int × Int)) (w : World) (h3 : SR w sa sn sc sq) (hE : rgE sq = 0) (X : Option (Nat × Nat)) (hX : ctF 0 sq = X) :
    Calls Try.prog 71 #[.slice sa sn sc] w fun e w' => (∃ a' n' c', e = .returned (.tuple #[.slice a' n' c', .int .i64 (if X.isSome then 0 else 12)]) ∧ SI w' a' n' c' (ctL X)) ∧ Below w.heap.size w w' := by
  have HX := Lib.hid hX
  clear hX
  obtain ⟨g1, g2⟩ : sn ≤ sq.length ∧ sq.length ≤ sn := by have := h3.len; omega
  obtain ⟨v1, v2, v3⟩ := rgE_ok hE
  have hsc := h3.cap
  have hsm := h3.max
  obtain ⟨cb, co, rfl, hcc⟩ := h3.at_ (by omega)
  have HCC := Lib.hid hcc
  clear hcc v3
  go_enter Try.func71, Try.ntmps71
  go_wp2_with fail
  refine (mRangesErr_any _ sn sc sq _ h3 0 hE).mono ?_
  rintro e w1 ⟨rfl, hb1⟩
  clear hE
  go_wp2_with fail
  go_loopw [16] (fun z wr => ∃ (i : Nat), i ≤ sn ∧ z = .int .i64 i ∧ ctF 0 sq = ctF i (sq.drop i) ∧ Below w.heap.size w wr) (fun z _ => sn - (intOf z).toNat)
  case atStart => exact ⟨0, by omega, rfl, rfl, hb1⟩
  case round =>
    obtain ⟨wo, hwo⟩ : ∃ x, x = wr := ⟨_, rfl⟩
    subst hwo
    obtain ⟨i, hi, rfl, ho, hbr⟩ := hrel
    have HO := Lib.hid ho
    clear ho
    by_cases hlt : i < sn
    · have hd := ctF_drop sq i (by omega)
      obtain ⟨y0, y1⟩ := HCC.out i hlt
      have y0' := cell_keep y0 hbr
      have y1' := cell_keep y1 hbr
      clear y0 y1
      obtain ⟨aa, haa⟩ : ∃ aa, sq[i]?.getD (0, 0) = aa := ⟨_, rfl⟩
      rw [haa] at hd y0' y1'
      obtain ⟨l0, h0⟩ := aa
      dsimp only at y0' y1'
      have HD := Lib.hid hd
      clear hd haa
      have hi1 : (i : Int) < (sn : Int) := by omega
      have hi0 : (0 : Int) ≤ (i : Int) := by omega
      rcases Nat.lt_or_ge (i + 1) sc with hsc1 | hsc1
      · have hsc2 : ¬ sc = i + 1 := by omega
        go_wp2_with fail
        refine wp_gen (fun v => Below w.heap.size w v ∧ v.heap[wo.heap.size]? = some (.cells #[.int .i64 l0, .int .i64 h0] 63)) ⟨hbr.trans (((Below.refl _ _).alloc (Nat.le_refl _) _).mono hbr.size), alloc_new _ _⟩ ?_
        rintro v ⟨hbv, hva⟩
        clear hbr y0' y1'
        go_loopw [26] (fun z wz => ∃ (j : Nat), i + 1 + j ≤ sn ∧ z = .int .i64 j ∧ ctIn (l0, h0) (i + 1) (sq.drop (i + 1)) = ctIn (l0, h0) (i + 1 + j) (sq.drop (i + 1 + j)) ∧ Below w.heap.size w wz ∧ wz.heap[wo.heap.size]? = some (.cells #[.int .i64 l0, .int .i64 h0] 63)) (fun z _ => sn - (intOf z).toNat)
        case atStart => exact ⟨0, by omega, rfl, rfl, hbv, hva⟩
        case round =>
          obtain ⟨wz, hwz⟩ : ∃ x, x = wr := ⟨_, rfl⟩
          subst hwz
          clear hbv hva
          obtain ⟨j, hj, rfl, ho, hbr, hva⟩ := hrel
          have HO2 := Lib.hid ho
          clear ho
          have hzs := hbr.size
          have hvs := blk_lt hva
          by_cases hlt2 : i + 1 + j < sn
          · have hd := ctIn_drop (l0, h0) sq (i + 1 + j) (by omega)
            obtain ⟨z0, z1⟩ := HCC.out (i + 1 + j) hlt2
            obtain ⟨bb, hbb⟩ : ∃ bb, sq[i + 1 + j]?.getD (0, 0) = bb := ⟨_, rfl⟩
            rw [hbb] at hd z0 z1
            obtain ⟨l1, h1⟩ := bb
            dsimp only at z0 z1
            have HD2 := Lib.hid hd
            clear hd hbb
            have z0' := cell_keep z0 hbr
            have z1' := cell_keep z1 hbr
            rw [show co + (i + 1 + j) * 2 = co + (i + 1) * 2 + j * 2 by omega] at z0' z1'
            clear z0 z1
            have p0 : wz.cell? ⟨wo.heap.size, 0, none⟩ = some (.int .i64 l0) := cell_block hva 0
            have p1 : wz.cell? ⟨wo.heap.size, 1, none⟩ = some (.int .i64 h0) := cell_block hva 1
            have hk1' : (j : Int) < ((sn - (i + 1) : Nat) : Int) := by omega
            have hk0 : (0 : Int) ≤ (j : Int) := by omega
            have hj2 : j < sn - (i + 1) := by omega
            have hnew : Below wz.heap.size wz (wz.alloc (.cells #[.int .i64 l1, .int .i64 h1] 63)) := (Below.refl _ _).alloc (Nat.le_refl _) _
            go_wp2_with fail
            refine (agree_any l0 h0 l1 h1 _).mono ?_
            rintro e w5 ⟨rfl, hb5⟩
            have hb6 : Below w.heap.size w w5 := hbr.trans ((hnew.trans (hb5.mono (by simp))).mono hzs)
            have hva5 := blk_keep (blk_keep hva hnew) hb5
            cases hag : agreeF (l0, h0) (l1, h1)
            · rw [hag] at HD2
              have hX1 : X = some (i, i + 1 + j) := by
                rw [← HX.out, HO.out, HD.out, HO2.out, HD2.out]
                rfl
              subst hX1
              go_wp2_with fail
              go_ret2
              refine ⟨⟨_, _, _, rfl, ?_⟩, hb6.alloc hb6.size _⟩
              have := SI.two w5 (i : Int) ((i : Int) + 1 + (j : Int)) 3 rfl
              simpa [ctL] using this
            · rw [hag] at HD2
              go_wp2_with fail
              go_roundw
              case rel => exact ⟨j + 1, by omega, by go_num, by rw [HO2.out, HD2.out]; rfl, hb6, hva5⟩
              case measure => simp [intOf]; omega
          · have hle : ((sn - (i + 1) : Nat) : Int) ≤ (j : Int) := by omega
            go_wp2_with fail
            go_roundw
            case rel =>
              refine ⟨i + 1, by omega, by go_num, ?_, hbr⟩
              rw [HO.out, HD.out, HO2.out, List.drop_eq_nil_of_le (by omega : sq.length ≤ i + 1 + j)]
              rfl
            case measure => simp [intOf]; omega
      · obtain rfl : sc = i + 1 := by omega
        have hsn1 : ((sn - (i + 1) : Nat) : Int) ≤ 0 := by omega
        have hbr2 : Below w.heap.size w (wo.alloc (.cells #[.int .i64 l0, .int .i64 h0] 63)) := hbr.trans (((Below.refl _ _).alloc (Nat.le_refl _) _).mono hbr.size)
        go_wp2_with fail
        go_loopw [26] (fun z wz => z = .int .i64 0 ∧ Below w.heap.size w wz) (fun _ _ => 0)
        case atStart => exact ⟨rfl, hbr2⟩
        case round =>
          obtain ⟨rfl, hbr3⟩ := hrel
          go_wp2_with fail
          go_roundw
          case rel =>
            refine ⟨i + 1, by omega, by go_num, ?_, hbr3⟩
            rw [HO.out, HD.out, List.drop_eq_nil_of_le (by omega : sq.length ≤ i + 1)]
            rfl
          case measure => simp [intOf]; omega
    · have hle : (sn : Int) ≤ (i : Int) := by omega
      have hX0 : X = none := by
        rw [← HX.out, HO.out, List.drop_eq_nil_of_le (by omega)]
        rfl
      subst hX0
      go_wp2_with fail
      go_ret2
      exact ⟨⟨_, _, _, rfl, Sl.nil _ 1⟩, hbr⟩
end Go.Proofs.Ytmaidjankakppaa
