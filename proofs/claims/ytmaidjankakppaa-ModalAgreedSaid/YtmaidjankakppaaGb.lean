/- Contracts of chapter 6: what ranges have in common. -/
import Derived.Test.YtmaidjankakppaaGa
namespace Go.Proofs.Ytmaidjankakppaa
open Go.RowKit
open Calmly (Kept)

def both (r x : Int × Int) : Int × Int := (if r.1 < x.1 then x.1 else r.1, if x.2 < r.2 then x.2 else r.2)
/-- What the first ranges have in common. -/
def agrTo (l : List (Int × Int)) : Nat → Int × Int
  | 0 => l[0]?.getD (0, 0)
  | k + 1 => both (agrTo l k) (l[k]?.getD (0, 0))
theorem agrTo_one (l : List (Int × Int)) : agrTo l 1 = agrTo l 0 := by simp [agrTo, both]
def agrF (l : List (Int × Int)) : Int × Int := agrTo l l.length

set_option maxRecDepth 100000 in
set_option maxHeartbeats 4000000 in
theorem AgreedIn_err (sa : Option Addr) (sn sc : Nat) (sq : List (Int × Int)) (w : World) (h3 : SR w sa sn sc sq) (E : Int) (hE : rgE sq = E) (hz : E ≠ 0) :
    Calls Try.prog 70 #[.slice sa sn sc] w fun e w' => e = .returned (.tuple #[.agg #[.int .i64 0, .int .i64 0], .int .i64 E]) ∧ Below w.heap.size w w' := by
  have hb : Below w.heap.size w (w.alloc (.cells #[.int .i64 0, .int .i64 0] 63)) := (Below.refl _ _).alloc (Nat.le_refl _) _
  have hz1 : (E != 0) = true := by simpa using hz
  clear hz
  go_enter Try.func70, Try.ntmps70
  go_wp2_with fail
  refine (mRangesErr_any sa sn sc sq _ (h3.keep hb) E hE).mono ?_
  rintro e w1 ⟨rfl, hb1⟩
  have x1 := blk_keep (alloc_new w (.cells #[.int .i64 0, .int .i64 0] 63)) hb1
  have z0 : w1.cell? ⟨w.heap.size, 0, none⟩ = some (.int .i64 0) := cell_block x1 0
  have z1 : w1.cell? ⟨w.heap.size, 1, none⟩ = some (.int .i64 0) := cell_block x1 1
  have z2 : w1.frozen? ⟨w.heap.size, 0, none⟩ = false := frozen_block x1 0
  have z3 : w1.frozen? ⟨w.heap.size, 1, none⟩ = false := frozen_block x1 1
  obtain ⟨s1, s2, s3, s4⟩ := set2 (x := .int .i64 0) (y := .int .i64 0) z0 z1
  go_wp2_with fail
  refine bodyPost_ret (v := .tuple #[.agg #[.int .i64 0, .int .i64 0], .int .i64 E]) (by simp [results, Try.results70, go_sem, s1, s2]) rfl ⟨rfl, ?_⟩
  exact ((hb.trans (hb1.mono (by simp))).setCell (by simp) _).setCell (by simp) _

set_option maxRecDepth 100000 in
set_option maxHeartbeats 4000000 in
theorem AgreedIn_ok (sa : Option Addr) (sn sc : Nat) (sq : List (Int × Int)) (w : World) (h3 : SR w sa sn sc sq) (hE : rgE sq = 0) (x y E : Int) (hok : (agrF sq).1 ≤ (agrF sq).2 → agrF sq = (x, y) ∧ E = 0) (hno : (agrF sq).2 < (agrF sq).1 → x = 0 ∧ y = 0 ∧ E = 13) :
    Calls Try.prog 70 #[.slice sa sn sc] w fun e w' => e = .returned (.tuple #[.agg #[.int .i64 x, .int .i64 y], .int .i64 E]) ∧ Below w.heap.size w w' := by
  have hb : Below w.heap.size w (w.alloc (.cells #[.int .i64 0, .int .i64 0] 63)) := (Below.refl _ _).alloc (Nat.le_refl _) _
  obtain ⟨g1, g2⟩ : sn ≤ sq.length ∧ sq.length ≤ sn := by have := h3.len; omega
  obtain ⟨v1, v2, v3⟩ := rgE_ok hE
  have V3 := Lib.hid v3
  have HOK := Lib.hid hok
  have HNO := Lib.hid hno
  clear v3 hok hno
  obtain ⟨cb, co, rfl, hcc⟩ := h3.at_ (by omega)
  go_enter Try.func70, Try.ntmps70
  go_wp2_with fail
  refine (mRangesErr_any _ sn sc sq _ (h3.keep hb) 0 hE).mono ?_
  rintro e w1 ⟨rfl, hb1⟩
  have x1 := blk_keep (alloc_new w (.cells #[.int .i64 0, .int .i64 0] 63)) hb1
  have hs1 := blk_lt x1
  have hbw : Below w.heap.size w w1 := hb.trans (hb1.mono (by simp))
  obtain ⟨y0, y1⟩ := hcc 0 (by omega)
  simp only [Nat.zero_mul, Nat.add_zero] at y0 y1
  have y0' := cell_keep y0 hbw
  have y1' := cell_keep y1 hbw
  clear y0 y1
  obtain ⟨a0, ha0⟩ : ∃ a0, sq[0]?.getD (0, 0) = a0 := ⟨_, rfl⟩
  obtain ⟨l0, u0⟩ := a0
  rw [ha0] at y0' y1'
  dsimp only at y0' y1'
  have hi1 : (0 : Int) < (sn : Int) := by omega
  have HCC := Lib.hid hcc
  clear hcc
  go_wp2_with fail
  refine wp_gen (fun v => Below w1.heap.size w1 v ∧ v.heap[w1.heap.size]? = some (.cells #[.int .i64 l0, .int .i64 u0] 63)) ⟨(Below.refl _ _).alloc (Nat.le_refl _) _, alloc_new _ _⟩ ?_
  rintro v ⟨hbv, hv5⟩
  have hvs := blk_lt hv5
  clear y0' y1'
  go_loopw [19] (fun z wr => ∃ (k : Nat) (l u : Int), k ≤ sn ∧ z = .int .i64 k ∧ agrTo sq k = (l, u) ∧ wr.heap[w1.heap.size]? = some (.cells #[.int .i64 l, .int .i64 u] 63) ∧ Below w1.heap.size v wr) (fun z _ => sn - (intOf z).toNat)
  case atStart => exact ⟨0, l0, u0, by omega, rfl, ha0, hv5, Below.refl _ _⟩
  case round =>
    clear hv5
    obtain ⟨k, l, u, hk, rfl, ho, hv5, hbr⟩ := hrel
    have HO := Lib.hid ho
    clear ho
    have hrs := hbr.size
    have hb1r : Below w1.heap.size w1 wr := hbv.trans hbr
    have hbwr := hbw.trans (hb1r.mono (by omega))
    have p0 : wr.cell? ⟨w1.heap.size, 0, none⟩ = some (.int .i64 l) := cell_block hv5 0
    have p1 : wr.cell? ⟨w1.heap.size, 1, none⟩ = some (.int .i64 u) := cell_block hv5 1
    have p2 : wr.frozen? ⟨w1.heap.size, 0, none⟩ = false := frozen_block hv5 0
    have p3 : wr.frozen? ⟨w1.heap.size, 1, none⟩ = false := frozen_block hv5 1
    by_cases hlt : k < sn
    · obtain ⟨y0, y1⟩ := HCC.out k hlt
      have y0' := cell_keep y0 hbwr
      have y1' := cell_keep y1 hbwr
      clear y0 y1
      have hd : agrTo sq (k + 1) = both (agrTo sq k) (sq[k]?.getD (0, 0)) := rfl
      rw [HO.out] at hd
      have HD := Lib.hid hd
      clear hd
      obtain ⟨rr, hrr⟩ : ∃ rr, sq[k]?.getD (0, 0) = rr := ⟨_, rfl⟩
      obtain ⟨lo, hi⟩ := rr
      rw [hrr] at y0' y1' HD
      clear hrr
      dsimp only at y0' y1'
      have hi1 : (k : Int) < (sn : Int) := by omega
      have hi0 : (0 : Int) ≤ (k : Int) := by omega
      have hlt5 : w1.heap.size < wr.heap.size := by omega
      have hnew : Below wr.heap.size wr (wr.alloc (.cells #[.int .i64 lo, .int .i64 hi] 63)) := (Below.refl _ _).alloc (Nat.le_refl _) _
      have hv6 := blk_keep hv5 hnew
      by_cases t1 : l < lo
      · by_cases t2 : hi < u
        · go_wp2_with fail
          go_roundw
          case rel =>
            refine ⟨k + 1, lo, hi, by omega, by go_num, ?_, blk_keep (blk_setAt (blk_setAt hv5 0 (.int .i64 lo)) 1 (.int .i64 hi)) ((Below.refl _ _).alloc (Nat.le_refl _) _), ((hbr.setCell (Nat.le_refl _) _).setCell (Nat.le_refl _) _).alloc (by simp; omega) _⟩
            rw [HD.out]
            unfold both
            rw [if_pos (by show l < lo; omega), if_pos (by show hi < u; omega)]
          case measure => simp [intOf]; omega
        · have t2' : u ≤ hi := by omega
          clear t2
          go_wp2_with fail
          go_roundw
          case rel =>
            refine ⟨k + 1, lo, u, by omega, by go_num, ?_, blk_keep (blk_setAt (blk_setAt hv5 0 (.int .i64 lo)) 1 (.int .i64 u)) ((Below.refl _ _).alloc (Nat.le_refl _) _), ((hbr.setCell (Nat.le_refl _) _).setCell (Nat.le_refl _) _).alloc (by simp; omega) _⟩
            rw [HD.out]
            unfold both
            rw [if_pos (by show l < lo; omega), if_neg (by show ¬ hi < u; omega)]
          case measure => simp [intOf]; omega
      · have t1' : lo ≤ l := by omega
        clear t1
        by_cases t2 : hi < u
        · go_wp2_with fail
          go_roundw
          case rel =>
            refine ⟨k + 1, l, hi, by omega, by go_num, ?_, blk_keep (blk_setAt (blk_setAt hv5 0 (.int .i64 l)) 1 (.int .i64 hi)) ((Below.refl _ _).alloc (Nat.le_refl _) _), ((hbr.setCell (Nat.le_refl _) _).setCell (Nat.le_refl _) _).alloc (by simp; omega) _⟩
            rw [HD.out]
            unfold both
            rw [if_neg (by show ¬ l < lo; omega), if_pos (by show hi < u; omega)]
          case measure => simp [intOf]; omega
        · have t2' : u ≤ hi := by omega
          clear t2
          go_wp2_with fail
          go_roundw
          case rel =>
            refine ⟨k + 1, l, u, by omega, by go_num, ?_, blk_keep (blk_setAt (blk_setAt hv5 0 (.int .i64 l)) 1 (.int .i64 u)) ((Below.refl _ _).alloc (Nat.le_refl _) _), ((hbr.setCell (Nat.le_refl _) _).setCell (Nat.le_refl _) _).alloc (by simp; omega) _⟩
            rw [HD.out]
            unfold both
            rw [if_neg (by show ¬ l < lo; omega), if_neg (by show ¬ hi < u; omega)]
          case measure => simp [intOf]; omega
    · have hle : (sn : Int) ≤ (k : Int) := by omega
      have hf : agrF sq = (l, u) := by
        rw [← HO.out]
        unfold agrF
        congr 1
        omega
      have HF := Lib.hid hf
      clear hf
      have x1r := blk_keep x1 hb1r
      have z0 : wr.cell? ⟨w.heap.size, 0, none⟩ = some (.int .i64 0) := cell_block x1r 0
      have z1 : wr.cell? ⟨w.heap.size, 1, none⟩ = some (.int .i64 0) := cell_block x1r 1
      have z2 : wr.frozen? ⟨w.heap.size, 0, none⟩ = false := frozen_block x1r 0
      have z3 : wr.frozen? ⟨w.heap.size, 1, none⟩ = false := frozen_block x1r 1
      by_cases hc : u < l
      · obtain ⟨rfl, rfl, rfl⟩ := HNO.out (by rw [HF.out]; exact hc)
        obtain ⟨s1, s2, s3, s4⟩ := set2 (x := .int .i64 0) (y := .int .i64 0) z0 z1
        go_wp2_with fail
        refine bodyPost_ret (v := .tuple #[.agg #[.int .i64 0, .int .i64 0], .int .i64 13]) (by simp [results, Try.results70, go_sem, s1, s2]) rfl ⟨rfl, ?_⟩
        exact (hbwr.setCell (by simp) _).setCell (by simp) _
      · have hc' : l ≤ u := by omega
        obtain ⟨hq, rfl⟩ := HOK.out (by rw [HF.out]; exact hc')
        rw [HF.out] at hq
        cases hq
        clear hc
        obtain ⟨s1, s2, s3, s4⟩ := set2 (x := .int .i64 x) (y := .int .i64 y) z0 z1
        go_wp2_with fail
        refine bodyPost_ret (v := .tuple #[.agg #[.int .i64 x, .int .i64 y], .int .i64 0]) (by simp [results, Try.results70, go_sem, s1, s2]) rfl ⟨rfl, ?_⟩
        exact (hbwr.setCell (by simp) _).setCell (by simp) _

set_option maxRecDepth 100000 in
set_option maxHeartbeats 4000000 in
theorem rAgreed_any (sa : Option Addr) (sn sc : Nat) (sq : List (Int × Int)) (w : World) (h3 : SR w sa sn sc sq) (hE : rgE sq = 0) (x y : Int) (E : Bool) (hok : (agrF sq).1 ≤ (agrF sq).2 → agrF sq = (x, y) ∧ E = true) (hno : (agrF sq).2 < (agrF sq).1 → x = 0 ∧ y = 0 ∧ E = false) :
    Calls Try.prog 73 #[.slice sa sn sc] w fun e w' => e = .returned (.tuple #[.agg #[.int .i64 x, .int .i64 y], .bool E]) ∧ Below w.heap.size w w' := by
  obtain ⟨g1, g2⟩ : sn ≤ sq.length ∧ sq.length ≤ sn := by have := h3.len; omega
  obtain ⟨v1, v2, v3⟩ := rgE_ok hE
  have HOK := Lib.hid hok
  have HNO := Lib.hid hno
  clear v3 hok hno
  obtain ⟨cb, co, rfl, hcc⟩ := h3.at_ (by omega)
  obtain ⟨y0, y1⟩ := hcc 0 (by omega)
  simp only [Nat.zero_mul, Nat.add_zero] at y0 y1
  have hl0 := cell_lt y0
  obtain ⟨a0, ha0⟩ : ∃ a0, sq[0]?.getD (0, 0) = a0 := ⟨_, rfl⟩
  obtain ⟨l0, u0⟩ := a0
  rw [ha0] at y0 y1
  dsimp only at y0 y1
  have hi1 : (0 : Int) < (sn : Int) := by omega
  have HCC := Lib.hid hcc
  clear hcc
  go_enter Try.func73, Try.ntmps73
  go_wp2_with fail
  refine wp_gen (fun v => Below w.heap.size w v ∧ v.heap[w.heap.size]? = some (.cells #[.int .i64 0, .int .i64 0] 63) ∧ v.heap[w.heap.size + 1]? = some (.cells #[.int .i64 l0, .int .i64 u0] 63)) ⟨((Below.refl _ _).alloc (Nat.le_refl _) _).alloc (by simp) _, box2 (Below.refl _ _)⟩ ?_
  rintro v ⟨hbv, hv0, hv5⟩
  clear y0 y1
  go_loopw [5] (fun z wr => ∃ (k : Nat) (l u : Int), 1 ≤ k ∧ k ≤ sn ∧ z = .int .i64 k ∧ agrTo sq k = (l, u) ∧ wr.heap[w.heap.size]? = some (.cells #[.int .i64 0, .int .i64 0] 63) ∧ wr.heap[w.heap.size + 1]? = some (.cells #[.int .i64 l, .int .i64 u] 63) ∧ Below w.heap.size w wr) (fun z _ => sn - (intOf z).toNat)
  case atStart => exact ⟨1, l0, u0, by omega, by omega, rfl, by rw [agrTo_one]; exact ha0, hv0, hv5, hbv⟩
  case round =>
    clear hv5 hv0 hbv
    obtain ⟨k, l, u, hk1, hk, rfl, ho, hv0, hv5, hbr⟩ := hrel
    have HO := Lib.hid ho
    clear ho
    have p0 : wr.cell? ⟨w.heap.size + 1, 0, none⟩ = some (.int .i64 l) := cell_block hv5 0
    have p1 : wr.cell? ⟨w.heap.size + 1, 1, none⟩ = some (.int .i64 u) := cell_block hv5 1
    have p2 : wr.frozen? ⟨w.heap.size + 1, 0, none⟩ = false := frozen_block hv5 0
    have p3 : wr.frozen? ⟨w.heap.size + 1, 1, none⟩ = false := frozen_block hv5 1
    by_cases hlt : k < sn
    · obtain ⟨y0, y1⟩ := HCC.out k hlt
      have y0' := cell_keep y0 hbr
      have y1' := cell_keep y1 hbr
      clear y0 y1
      have hd : agrTo sq (k + 1) = both (agrTo sq k) (sq[k]?.getD (0, 0)) := rfl
      rw [HO.out] at hd
      have HD := Lib.hid hd
      clear hd
      obtain ⟨rr, hrr⟩ : ∃ rr, sq[k]?.getD (0, 0) = rr := ⟨_, rfl⟩
      obtain ⟨lo, hi⟩ := rr
      rw [hrr] at y0' y1' HD
      clear hrr
      dsimp only at y0' y1'
      have hi1 : (k : Int) < (sn : Int) := by omega
      have hi0 : (0 : Int) ≤ (k : Int) := by omega
      have hset : ∀ (A : World) (o : Nat) (x : Value), Below w.heap.size w A → Below w.heap.size w (A.setCell ⟨w.heap.size + 1, o, none⟩ x) := fun A o x h => h.setCell (by simp) _
      by_cases t1 : l < lo
      · by_cases t2 : hi < u
        · go_wp2_with fail
          refine Calmly.wp_region_mix 16 (.fl 0 <| .fl 1 <| .fl 2 <| .fl 3 <| .fl 4 <| .fl 5 <| .fl 6 <| .fl 7 <| .fl 8 <| .fl 9 <| .fl 10 <| .fl 11 <| .fl 12 <| .fl 13 <| .fl 14 <| .fl 15 <| .tail [16, 17]) (by kernel_rfl) (by kernel_rfl) ?_
          have hk := Below.refl wr.drew.heap.size wr.drew
          go_wp2_with (first | ((with_reducible refine Calmly.is_fl ?_); refine Calmly.mix_fl rfl ?_ (fun _ _ => ?_); (first | exact .move _ | exact .load _ _ | exact .fieldAddr _ _ _ (by kernel_rfl) | exact .assign _ | exact .binOp _ _ _ _ _ rfl | exact .indexAddr _ _ _ | exact .len _ _ (by kernel_rfl) | exact .field _ _ _ | exact .extract _ _ | exact .pick _ _ _ | exact .build _ _ | exact .slice _ _ _ _ _ | exact .unOp _ _ _ rfl | exact .index _ _ _ | exact .max _ _ _ rfl rfl | exact .min _ _ _ rfl rfl)) | ((with_reducible refine Calmly.is_gl ?_); refine Calmly.mix_gl rfl rfl rfl ?_; first | ((first | with_reducible refine Calmly.gl_tt ?_ (fun _ _ => ?_) | with_reducible refine Calmly.gl_ff ?_ (fun _ _ => ?_)); (first | exact .move _ | exact .load _ _ | exact .fieldAddr _ _ _ (by kernel_rfl) | exact .assign _ | exact .binOp _ _ _ _ _ rfl | exact .indexAddr _ _ _ | exact .len _ _ (by kernel_rfl) | exact .field _ _ _ | exact .extract _ _ | exact .pick _ _ _ | exact .build _ _ | exact .slice _ _ _ _ _ | exact .unOp _ _ _ rfl | exact .index _ _ _ | exact .max _ _ _ rfl rfl | exact .min _ _ _ rfl rfl)) | with_reducible refine Calmly.gl_tf (fun _ _ => ?_) | with_reducible refine Calmly.gl_ft (fun _ _ => ?_)) | ((with_reducible refine Calmly.is_eff ?_); refine Calmly.mix_eff rfl (fun _ _ => ?_)) | ((with_reducible refine Calmly.is_gf ?_); refine Calmly.mix_gf rfl rfl rfl ?_; first | with_reducible refine Calmly.gf_tt (fun _ _ => ?_) | with_reducible refine Calmly.gf_ff (fun _ _ => ?_) | with_reducible refine Calmly.gf_tf (kept_of hk) (fun _ _ => ?_) | with_reducible refine Calmly.gf_ft (kept_of hk) (fun _ _ => ?_)) | ((with_reducible refine Calmly.is_tail ?_); first | refine Calmly.mix_tail_nil ?_ | refine Calmly.mix_tail rfl (fun _ _ => ?_)) | ((with_reducible refine Calmly.is_kept ?_); refine ⟨kept_of hk, ?_⟩) | (with_reducible refine Calmly.mix_alt ?_ ?_))
          go_roundw
          case rel =>
            refine ⟨k + 1, lo, hi, by omega, by omega, by go_num, ?_, blk_other' (blk_other' hv0 (by omega) 0 _) (by omega) 1 _, blk_setAt (blk_setAt hv5 0 (.int .i64 lo)) 1 (.int .i64 hi), (hset _ _ _ (hset _ _ _ hbr)).drew⟩
            rw [HD.out]
            unfold both
            rw [if_pos (by show l < lo; omega), if_pos (by show hi < u; omega)]
          case measure => simp [intOf]; omega
        · have t2' : u ≤ hi := by omega
          clear t2
          go_wp2_with fail
          refine Calmly.wp_region_mix 16 (.fl 0 <| .fl 1 <| .fl 2 <| .fl 3 <| .fl 4 <| .fl 5 <| .fl 6 <| .fl 7 <| .fl 8 <| .fl 9 <| .fl 10 <| .fl 11 <| .fl 12 <| .fl 13 <| .fl 14 <| .fl 15 <| .tail [16, 17]) (by kernel_rfl) (by kernel_rfl) ?_
          have hk := Below.refl wr.drew.heap.size wr.drew
          go_wp2_with (first | ((with_reducible refine Calmly.is_fl ?_); refine Calmly.mix_fl rfl ?_ (fun _ _ => ?_); (first | exact .move _ | exact .load _ _ | exact .fieldAddr _ _ _ (by kernel_rfl) | exact .assign _ | exact .binOp _ _ _ _ _ rfl | exact .indexAddr _ _ _ | exact .len _ _ (by kernel_rfl) | exact .field _ _ _ | exact .extract _ _ | exact .pick _ _ _ | exact .build _ _ | exact .slice _ _ _ _ _ | exact .unOp _ _ _ rfl | exact .index _ _ _ | exact .max _ _ _ rfl rfl | exact .min _ _ _ rfl rfl)) | ((with_reducible refine Calmly.is_gl ?_); refine Calmly.mix_gl rfl rfl rfl ?_; first | ((first | with_reducible refine Calmly.gl_tt ?_ (fun _ _ => ?_) | with_reducible refine Calmly.gl_ff ?_ (fun _ _ => ?_)); (first | exact .move _ | exact .load _ _ | exact .fieldAddr _ _ _ (by kernel_rfl) | exact .assign _ | exact .binOp _ _ _ _ _ rfl | exact .indexAddr _ _ _ | exact .len _ _ (by kernel_rfl) | exact .field _ _ _ | exact .extract _ _ | exact .pick _ _ _ | exact .build _ _ | exact .slice _ _ _ _ _ | exact .unOp _ _ _ rfl | exact .index _ _ _ | exact .max _ _ _ rfl rfl | exact .min _ _ _ rfl rfl)) | with_reducible refine Calmly.gl_tf (fun _ _ => ?_) | with_reducible refine Calmly.gl_ft (fun _ _ => ?_)) | ((with_reducible refine Calmly.is_eff ?_); refine Calmly.mix_eff rfl (fun _ _ => ?_)) | ((with_reducible refine Calmly.is_gf ?_); refine Calmly.mix_gf rfl rfl rfl ?_; first | with_reducible refine Calmly.gf_tt (fun _ _ => ?_) | with_reducible refine Calmly.gf_ff (fun _ _ => ?_) | with_reducible refine Calmly.gf_tf (kept_of hk) (fun _ _ => ?_) | with_reducible refine Calmly.gf_ft (kept_of hk) (fun _ _ => ?_)) | ((with_reducible refine Calmly.is_tail ?_); first | refine Calmly.mix_tail_nil ?_ | refine Calmly.mix_tail rfl (fun _ _ => ?_)) | ((with_reducible refine Calmly.is_kept ?_); refine ⟨kept_of hk, ?_⟩) | (with_reducible refine Calmly.mix_alt ?_ ?_))
          go_roundw
          case rel =>
            refine ⟨k + 1, lo, u, by omega, by omega, by go_num, ?_, blk_other' (blk_other' hv0 (by omega) 0 _) (by omega) 1 _, blk_setAt (blk_setAt hv5 0 (.int .i64 lo)) 1 (.int .i64 u), (hset _ _ _ (hset _ _ _ hbr)).drew⟩
            rw [HD.out]
            unfold both
            rw [if_pos (by show l < lo; omega), if_neg (by show ¬ hi < u; omega)]
          case measure => simp [intOf]; omega
      · have t1' : lo ≤ l := by omega
        clear t1
        by_cases t2 : hi < u
        · go_wp2_with fail
          refine Calmly.wp_region_mix 16 (.fl 0 <| .fl 1 <| .fl 2 <| .fl 3 <| .fl 4 <| .fl 5 <| .fl 6 <| .fl 7 <| .fl 8 <| .fl 9 <| .fl 10 <| .fl 11 <| .fl 12 <| .fl 13 <| .fl 14 <| .fl 15 <| .tail [16, 17]) (by kernel_rfl) (by kernel_rfl) ?_
          have hk := Below.refl wr.drew.heap.size wr.drew
          go_wp2_with (first | ((with_reducible refine Calmly.is_fl ?_); refine Calmly.mix_fl rfl ?_ (fun _ _ => ?_); (first | exact .move _ | exact .load _ _ | exact .fieldAddr _ _ _ (by kernel_rfl) | exact .assign _ | exact .binOp _ _ _ _ _ rfl | exact .indexAddr _ _ _ | exact .len _ _ (by kernel_rfl) | exact .field _ _ _ | exact .extract _ _ | exact .pick _ _ _ | exact .build _ _ | exact .slice _ _ _ _ _ | exact .unOp _ _ _ rfl | exact .index _ _ _ | exact .max _ _ _ rfl rfl | exact .min _ _ _ rfl rfl)) | ((with_reducible refine Calmly.is_gl ?_); refine Calmly.mix_gl rfl rfl rfl ?_; first | ((first | with_reducible refine Calmly.gl_tt ?_ (fun _ _ => ?_) | with_reducible refine Calmly.gl_ff ?_ (fun _ _ => ?_)); (first | exact .move _ | exact .load _ _ | exact .fieldAddr _ _ _ (by kernel_rfl) | exact .assign _ | exact .binOp _ _ _ _ _ rfl | exact .indexAddr _ _ _ | exact .len _ _ (by kernel_rfl) | exact .field _ _ _ | exact .extract _ _ | exact .pick _ _ _ | exact .build _ _ | exact .slice _ _ _ _ _ | exact .unOp _ _ _ rfl | exact .index _ _ _ | exact .max _ _ _ rfl rfl | exact .min _ _ _ rfl rfl)) | with_reducible refine Calmly.gl_tf (fun _ _ => ?_) | with_reducible refine Calmly.gl_ft (fun _ _ => ?_)) | ((with_reducible refine Calmly.is_eff ?_); refine Calmly.mix_eff rfl (fun _ _ => ?_)) | ((with_reducible refine Calmly.is_gf ?_); refine Calmly.mix_gf rfl rfl rfl ?_; first | with_reducible refine Calmly.gf_tt (fun _ _ => ?_) | with_reducible refine Calmly.gf_ff (fun _ _ => ?_) | with_reducible refine Calmly.gf_tf (kept_of hk) (fun _ _ => ?_) | with_reducible refine Calmly.gf_ft (kept_of hk) (fun _ _ => ?_)) | ((with_reducible refine Calmly.is_tail ?_); first | refine Calmly.mix_tail_nil ?_ | refine Calmly.mix_tail rfl (fun _ _ => ?_)) | ((with_reducible refine Calmly.is_kept ?_); refine ⟨kept_of hk, ?_⟩) | (with_reducible refine Calmly.mix_alt ?_ ?_))
          go_roundw
          case rel =>
            refine ⟨k + 1, l, hi, by omega, by omega, by go_num, ?_, blk_other' (blk_other' hv0 (by omega) 0 _) (by omega) 1 _, blk_setAt (blk_setAt hv5 0 (.int .i64 l)) 1 (.int .i64 hi), (hset _ _ _ (hset _ _ _ hbr)).drew⟩
            rw [HD.out]
            unfold both
            rw [if_neg (by show ¬ l < lo; omega), if_pos (by show hi < u; omega)]
          case measure => simp [intOf]; omega
        · have t2' : u ≤ hi := by omega
          clear t2
          go_wp2_with fail
          refine Calmly.wp_region_mix 16 (.fl 0 <| .fl 1 <| .fl 2 <| .fl 3 <| .fl 4 <| .fl 5 <| .fl 6 <| .fl 7 <| .fl 8 <| .fl 9 <| .fl 10 <| .fl 11 <| .fl 12 <| .fl 13 <| .fl 14 <| .fl 15 <| .tail [16, 17]) (by kernel_rfl) (by kernel_rfl) ?_
          have hk := Below.refl wr.drew.heap.size wr.drew
          go_wp2_with (first | ((with_reducible refine Calmly.is_fl ?_); refine Calmly.mix_fl rfl ?_ (fun _ _ => ?_); (first | exact .move _ | exact .load _ _ | exact .fieldAddr _ _ _ (by kernel_rfl) | exact .assign _ | exact .binOp _ _ _ _ _ rfl | exact .indexAddr _ _ _ | exact .len _ _ (by kernel_rfl) | exact .field _ _ _ | exact .extract _ _ | exact .pick _ _ _ | exact .build _ _ | exact .slice _ _ _ _ _ | exact .unOp _ _ _ rfl | exact .index _ _ _ | exact .max _ _ _ rfl rfl | exact .min _ _ _ rfl rfl)) | ((with_reducible refine Calmly.is_gl ?_); refine Calmly.mix_gl rfl rfl rfl ?_; first | ((first | with_reducible refine Calmly.gl_tt ?_ (fun _ _ => ?_) | with_reducible refine Calmly.gl_ff ?_ (fun _ _ => ?_)); (first | exact .move _ | exact .load _ _ | exact .fieldAddr _ _ _ (by kernel_rfl) | exact .assign _ | exact .binOp _ _ _ _ _ rfl | exact .indexAddr _ _ _ | exact .len _ _ (by kernel_rfl) | exact .field _ _ _ | exact .extract _ _ | exact .pick _ _ _ | exact .build _ _ | exact .slice _ _ _ _ _ | exact .unOp _ _ _ rfl | exact .index _ _ _ | exact .max _ _ _ rfl rfl | exact .min _ _ _ rfl rfl)) | with_reducible refine Calmly.gl_tf (fun _ _ => ?_) | with_reducible refine Calmly.gl_ft (fun _ _ => ?_)) | ((with_reducible refine Calmly.is_eff ?_); refine Calmly.mix_eff rfl (fun _ _ => ?_)) | ((with_reducible refine Calmly.is_gf ?_); refine Calmly.mix_gf rfl rfl rfl ?_; first | with_reducible refine Calmly.gf_tt (fun _ _ => ?_) | with_reducible refine Calmly.gf_ff (fun _ _ => ?_) | with_reducible refine Calmly.gf_tf (kept_of hk) (fun _ _ => ?_) | with_reducible refine Calmly.gf_ft (kept_of hk) (fun _ _ => ?_)) | ((with_reducible refine Calmly.is_tail ?_); first | refine Calmly.mix_tail_nil ?_ | refine Calmly.mix_tail rfl (fun _ _ => ?_)) | ((with_reducible refine Calmly.is_kept ?_); refine ⟨kept_of hk, ?_⟩) | (with_reducible refine Calmly.mix_alt ?_ ?_))
          go_roundw
          case rel =>
            refine ⟨k + 1, l, u, by omega, by omega, by go_num, ?_, blk_other' (blk_other' hv0 (by omega) 0 _) (by omega) 1 _, blk_setAt (blk_setAt hv5 0 (.int .i64 l)) 1 (.int .i64 u), (hset _ _ _ (hset _ _ _ hbr)).drew⟩
            rw [HD.out]
            unfold both
            rw [if_neg (by show ¬ l < lo; omega), if_neg (by show ¬ hi < u; omega)]
          case measure => simp [intOf]; omega
    · have hle : (sn : Int) ≤ (k : Int) := by omega
      have hf : agrF sq = (l, u) := by
        rw [← HO.out]
        unfold agrF
        congr 1
        omega
      have HF := Lib.hid hf
      clear hf
      have z0 : wr.cell? ⟨w.heap.size, 0, none⟩ = some (.int .i64 0) := cell_block hv0 0
      have z1 : wr.cell? ⟨w.heap.size, 1, none⟩ = some (.int .i64 0) := cell_block hv0 1
      have z2 : wr.frozen? ⟨w.heap.size, 0, none⟩ = false := frozen_block hv0 0
      have z3 : wr.frozen? ⟨w.heap.size, 1, none⟩ = false := frozen_block hv0 1
      by_cases hc : u < l
      · obtain ⟨rfl, rfl, rfl⟩ := HNO.out (by rw [HF.out]; exact hc)
        obtain ⟨s1, s2, s3, s4⟩ := set2 (x := .int .i64 0) (y := .int .i64 0) z0 z1
        go_wp2_with fail
        refine bodyPost_ret (v := .tuple #[.agg #[.int .i64 0, .int .i64 0], .bool false]) (by simp [results, Try.results73, go_sem, s1, s2]) rfl ⟨rfl, ?_⟩
        exact (hbr.setCell (by simp) _).setCell (by simp) _
      · have hc' : l ≤ u := by omega
        obtain ⟨hq, rfl⟩ := HOK.out (by rw [HF.out]; exact hc')
        rw [HF.out] at hq
        cases hq
        clear hc
        obtain ⟨s1, s2, s3, s4⟩ := set2 (x := .int .i64 x) (y := .int .i64 y) z0 z1
        go_wp2_with fail
        refine bodyPost_ret (v := .tuple #[.agg #[.int .i64 x, .int .i64 y], .bool true]) (by simp [results, Try.results73, go_sem, s1, s2]) rfl ⟨rfl, ?_⟩
        exact (hbr.setCell (by simp) _).setCell (by simp) _
end Go.Proofs.Ytmaidjankakppaa
