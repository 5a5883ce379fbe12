/- Contracts of chapter 6: the ratio of a decay. -/
import Derived.Test.YtmaidjankakppaaJc
namespace Go.Proofs.Ytmaidjankakppaa
open Go.RowKit
open Calmly (Kept)

theorem swF_at (off : Int) (xs : List Int) (cs : List (Int × Int)) (j : Nat) (h : j < cs.length - 1) : (swF off xs cs)[j]?.getD (0, 0) = sw1 off xs cs j := by
  simp [swF, h]
/-- The ends of a swing. -/
theorem sgF_bd (xs : List Int) (off : Int) (j : Nat) (hj : j < (sgF xs off).length) : 1 ≤ ((sgF xs off)[j]?.getD (0, 0)).1 ∧ ((sgF xs off)[j]?.getD (0, 0)).1 ≤ 20000 ∧ 1 ≤ ((sgF xs off)[j]?.getD (0, 0)).2 ∧ ((sgF xs off)[j]?.getD (0, 0)).2 ≤ 20000 := by
  have hl := sgF_len xs off
  by_cases hE : decayE xs off = 0
  · have hc : crF xs off = crossF off 0 (-1) xs := by unfold crF; rw [if_pos hE]
    obtain ⟨v1, v2, v3, v4, v5⟩ := decayE_ok hE
    unfold sgF
    rw [swF_at _ _ _ _ (by omega), hc]
    rw [hc] at hl
    obtain ⟨k1, k2, k3, k4, k5⟩ := crossF_ok off xs j (by omega)
    obtain ⟨k6, k7, k8, k9, _⟩ := crossF_ok off xs (j + 1) (by omega)
    have k5 := k5 (by omega)
    unfold sw1
    dsimp only
    generalize (crossF off 0 (-1) xs)[j]?.getD (0, 0) = p at *
    generalize (crossF off 0 (-1) xs)[j + 1]?.getD (0, 0) = q at *
    obtain ⟨h1, h2⟩ := maxL_mem (l := (xs.drop p.2.toNat).take (q.1.toNat + 1 - p.2.toNat)) (by simp; omega)
    have h3 : xs[p.2.toNat]?.getD 0 ∈ (xs.drop p.2.toNat).take (q.1.toNat + 1 - p.2.toNat) := by
      refine List.mem_of_getElem? (i := 0) ?_
      rw [List.getElem?_take_of_lt (by omega), List.getElem?_drop]
      have : p.2.toNat < xs.length := by omega
      simp [this]
    have h4 := h2 _ h3
    have h5 : maxL ((xs.drop p.2.toNat).take (q.1.toNat + 1 - p.2.toNat)) ≤ 10000 := by
      obtain ⟨i, hi, he⟩ := List.getElem_of_mem (List.mem_of_mem_drop (List.mem_of_mem_take h1))
      have := (v3 i).2
      rw [List.getElem?_eq_getElem hi] at this
      simpa [he] using this
    omega
  · have hc : crF xs off = [] := by unfold crF; rw [if_neg hE]
    rw [hc, List.length_nil] at hl
    omega

def ratioE (xs : List Int) (off : Int) : Int := firstE [decayE xs off, unlessE (decide (2 ≤ ((sgF xs off).length : Int))) 12]
def ratioF (xs : List Int) (off : Int) : (Int × Int) × (Int × Int) :=
  let l := sgF xs off
  (fracF (l[l.length - 1]?.getD (0, 0)).1 (l[0]?.getD (0, 0)).2, fracF (l[l.length - 1]?.getD (0, 0)).2 (l[0]?.getD (0, 0)).1)

set_option maxRecDepth 100000 in
set_option maxHeartbeats 4000000 in
theorem RatioIn_any (a : Option Addr) (n c : Nat) (xs : List Int) (off E p q r s : Int) (w : World) (h1 : SI w a n c xs) (hE : ratioE xs off = E) (hz : E ≠ 0 → p = 0 ∧ q = 0 ∧ r = 0 ∧ s = 0) (hok : E = 0 → ratioF xs off = ((p, q), (r, s))) :
    Calls Try.prog 64 #[.agg #[.slice a n c, .int .i64 off]] w fun e w' => e = .returned (.tuple #[.agg #[.int .i64 p, .int .i64 q, .int .i64 r, .int .i64 s], .int .i64 E]) ∧ Below w.heap.size w w' := by
  have hb : Below w.heap.size w ((w.alloc (.cells #[.slice a n c, .int .i64 off] 87)).alloc (.cells #[.int .i64 0, .int .i64 0, .int .i64 0, .int .i64 0] 93)) := ((Below.refl _ _).alloc (Nat.le_refl _) _).alloc (by simp) _
  have HE := Lib.hid hE
  have HZ := Lib.hid hz
  have HOK := Lib.hid hok
  clear hE hz hok
  go_enter Try.func64, Try.ntmps64
  go_wp2_with fail
  refine (openD_swings a n c xs off _ (h1.keep hb)).mono ?_
  rintro e w1 ⟨a', L', c', a0, n0, c0, o0, rfl, hb1, hcall⟩
  obtain ⟨x1, x2⟩ := box2 (w := w) (o := .cells #[.slice a n c, .int .i64 off] 87) (o' := .cells #[.int .i64 0, .int .i64 0, .int .i64 0, .int .i64 0] 93) hb1
  have hs0 := blk_lt x1
  have hs1 := blk_lt x2
  have hbw : Below w.heap.size w w1 := hb.trans (hb1.mono (by simp; omega))
  have hal : ∀ o, Below w1.heap.size w1 (w1.alloc o) := fun o => (Below.refl _ _).alloc (Nat.le_refl _) _
  go_wp2_with fail
  refine (hcall _ (hal _)).mono ?_
  rintro e w2 ⟨a2, L, c2, rfl, hown, hb2⟩
  have hb12 : Below w1.heap.size w1 w2 := (hal _).trans (hb2.mono (by simp))
  replace x1 := blk_keep x1 hb12
  replace x2 := blk_keep x2 hb12
  replace hbw := hbw.trans (hb12.mono (by omega))
  replace hs0 := blk_lt x1
  replace hs1 := blk_lt x2
  clear hb12 hb2 hcall hal
  go_wp2_with fail
  refine (unless_any _ _ _).mono ?_
  rintro e w' ⟨rfl, rfl⟩
  go_wp2_with fail
  refine (first_any _ 2 2 _ _ (SI.two _ _ _ _ (by simp))).mono ?_
  rintro e w' ⟨rfl, rfl⟩
  have hE1 : firstE [decayE xs off, unlessE (decide (2 ≤ (L : Int))) 12] = E := by
    have := HE.out
    unfold ratioE at this
    rw [← hown.len] at this
    exact this
  rw [hE1]
  have HE1 := Lib.hid hE1
  clear hE1
  have hA : ∀ (A : World) (o : Obj), Below A.heap.size A (A.alloc o) := fun A o => (Below.refl _ _).alloc (Nat.le_refl _) _
  by_cases hz : E = 0
  · subst hz
    have hL2 : 2 ≤ L := by
      have := HE1.out
      rw [firstE_two] at this
      split at this
      · by_cases h : (2 : Int) ≤ (L : Int)
        · omega
        · simp [unlessE, h] at this
      · exact absurd this (by assumption)
    have hlen := hown.len
    have hLm : L ≤ 100 := by
      have := sgF_len xs off
      have := crF_len xs off
      omega
    obtain ⟨cb, co, rfl, hcc⟩ := hown.sr.at_ (by omega)
    obtain ⟨e0, e1⟩ := hcc 0 (by omega)
    obtain ⟨e2, e3⟩ := hcc (L - 1) (by omega)
    simp only [Nat.zero_mul, Nat.add_zero] at e0 e1
    obtain ⟨z1, z2, z3, z4⟩ := sgF_bd xs off 0 (by omega)
    obtain ⟨z5, z6, z7, z8⟩ := sgF_bd xs off (L - 1) (by omega)
    have hpq := HOK.out rfl
    unfold ratioF at hpq
    dsimp only at hpq
    rw [← hlen] at hpq
    clear hlen
    have HPQ := Lib.hid hpq
    clear hpq
    obtain ⟨p0, hp0⟩ : ∃ p0, (sgF xs off)[0]?.getD (0, 0) = p0 := ⟨_, rfl⟩
    obtain ⟨p1, hp1⟩ : ∃ p1, (sgF xs off)[L - 1]?.getD (0, 0) = p1 := ⟨_, rfl⟩
    obtain ⟨x0, y0⟩ := p0
    obtain ⟨x1', y1⟩ := p1
    rw [hp0] at e0 e1 z1 z2 z3 z4 HPQ
    rw [hp1] at e2 e3 z5 z6 z7 z8 HPQ
    clear hp0 hp1 hcc
    dsimp only at e0 e1 e2 e3 z1 z2 z3 z4 z5 z6 z7 z8 HPQ
    have hlt := cell_lt e0
    have hLi : ((L : Int) - 1).toNat = L - 1 := by omega
    have hL0 : (1 : Int) ≤ (L : Int) := by omega
    have hLL : (0 : Int) < (L : Int) := by omega
    go_wp2_with fail
    refine Calmly.wp_region_mix 12 (.fl 0 <| .fl 1 <| .fl 2 <| .fl 3 <| .fl 4 <| .fl 5 <| .fl 6 <| .fl 7 <| .fl 8 <| .alt 9 (.eff 10 <| .eff 11 <| .tail [12]) (.eff 10 (.eff 9 <| .eff 11 <| .tail [12]))) (by kernel_rfl) (by kernel_rfl) ?_
    have hk := Below.refl (w2.alloc (.cells #[.int .i64 (decayE xs off), .int .i64 (unlessE (decide (2 ≤ (L : Int))) 12)] 27)).drew.heap.size (w2.alloc (.cells #[.int .i64 (decayE xs off), .int .i64 (unlessE (decide (2 ≤ (L : Int))) 12)] 27)).drew
    go_wp2_with (first | ((with_reducible refine Calmly.is_fl ?_); refine Calmly.mix_fl rfl ?_ (fun _ _ => ?_); (first | exact .move _ | exact .load _ _ | exact .fieldAddr _ _ _ (by kernel_rfl) | exact .assign _ | exact .binOp _ _ _ _ _ rfl | exact .indexAddr _ _ _ | exact .len _ _ (by kernel_rfl) | exact .field _ _ _ | exact .extract _ _ | exact .pick _ _ _ | exact .build _ _ | exact .slice _ _ _ _ _ | exact .unOp _ _ _ rfl | exact .index _ _ _ | exact .max _ _ _ rfl rfl | exact .min _ _ _ rfl rfl)) | ((with_reducible refine Calmly.is_gl ?_); refine Calmly.mix_gl rfl rfl rfl ?_; first | ((first | with_reducible refine Calmly.gl_tt ?_ (fun _ _ => ?_) | with_reducible refine Calmly.gl_ff ?_ (fun _ _ => ?_)); (first | exact .move _ | exact .load _ _ | exact .fieldAddr _ _ _ (by kernel_rfl) | exact .assign _ | exact .binOp _ _ _ _ _ rfl | exact .indexAddr _ _ _ | exact .len _ _ (by kernel_rfl) | exact .field _ _ _ | exact .extract _ _ | exact .pick _ _ _ | exact .build _ _ | exact .slice _ _ _ _ _ | exact .unOp _ _ _ rfl | exact .index _ _ _ | exact .max _ _ _ rfl rfl | exact .min _ _ _ rfl rfl)) | with_reducible refine Calmly.gl_tf (fun _ _ => ?_) | with_reducible refine Calmly.gl_ft (fun _ _ => ?_)) | ((with_reducible refine Calmly.is_eff ?_); refine Calmly.mix_eff rfl (fun _ _ => ?_)) | ((with_reducible refine Calmly.is_gf ?_); refine Calmly.mix_gf rfl rfl rfl ?_; first | with_reducible refine Calmly.gf_tt (fun _ _ => ?_) | with_reducible refine Calmly.gf_ff (fun _ _ => ?_) | with_reducible refine Calmly.gf_tf (kept_of hk) (fun _ _ => ?_) | with_reducible refine Calmly.gf_ft (kept_of hk) (fun _ _ => ?_)) | ((with_reducible refine Calmly.is_kept ?_); refine ⟨kept_of hk, ?_⟩) | (with_reducible refine Calmly.mix_alt ?_ ?_) | (refine kept_alloc hk (fun hk' hblk hge => ?_); replace hk := hk'; clear hk'))
    all_goals (refine ⟨kept_two _ _ _, ?_⟩; go_wp2_with (first | ((with_reducible refine Calmly.is_fl ?_); refine Calmly.mix_fl rfl ?_ (fun _ _ => ?_); (first | exact .move _ | exact .load _ _ | exact .fieldAddr _ _ _ (by kernel_rfl) | exact .assign _ | exact .binOp _ _ _ _ _ rfl | exact .indexAddr _ _ _ | exact .len _ _ (by kernel_rfl) | exact .field _ _ _ | exact .extract _ _ | exact .pick _ _ _ | exact .build _ _ | exact .slice _ _ _ _ _ | exact .unOp _ _ _ rfl | exact .index _ _ _ | exact .max _ _ _ rfl rfl | exact .min _ _ _ rfl rfl)) | ((with_reducible refine Calmly.is_gl ?_); refine Calmly.mix_gl rfl rfl rfl ?_; first | ((first | with_reducible refine Calmly.gl_tt ?_ (fun _ _ => ?_) | with_reducible refine Calmly.gl_ff ?_ (fun _ _ => ?_)); (first | exact .move _ | exact .load _ _ | exact .fieldAddr _ _ _ (by kernel_rfl) | exact .assign _ | exact .binOp _ _ _ _ _ rfl | exact .indexAddr _ _ _ | exact .len _ _ (by kernel_rfl) | exact .field _ _ _ | exact .extract _ _ | exact .pick _ _ _ | exact .build _ _ | exact .slice _ _ _ _ _ | exact .unOp _ _ _ rfl | exact .index _ _ _ | exact .max _ _ _ rfl rfl | exact .min _ _ _ rfl rfl)) | with_reducible refine Calmly.gl_tf (fun _ _ => ?_) | with_reducible refine Calmly.gl_ft (fun _ _ => ?_)) | ((with_reducible refine Calmly.is_eff ?_); refine Calmly.mix_eff rfl (fun _ _ => ?_)) | ((with_reducible refine Calmly.is_gf ?_); refine Calmly.mix_gf rfl rfl rfl ?_; first | with_reducible refine Calmly.gf_tt (fun _ _ => ?_) | with_reducible refine Calmly.gf_ff (fun _ _ => ?_) | with_reducible refine Calmly.gf_tf (kept_of hk) (fun _ _ => ?_) | with_reducible refine Calmly.gf_ft (kept_of hk) (fun _ _ => ?_)) | ((with_reducible refine Calmly.is_tail ?_); first | refine Calmly.mix_tail_nil ?_ | refine Calmly.mix_tail rfl (fun _ _ => ?_)) | ((with_reducible refine Calmly.is_kept ?_); refine ⟨kept_of hk, ?_⟩) | (with_reducible refine Calmly.mix_alt ?_ ?_)))
    · refine wp_gen (fun v => Below w2.heap.size w2 v ∧ w2.heap.size + 1 < v.heap.size ∧ w2.heap.size + 2 < v.heap.size ∧ v.heap[w2.heap.size + 1]? = some (.cells #[.int .i64 x0, .int .i64 y0] 63) ∧ v.heap[w2.heap.size + 1 + 1]? = some (.cells #[.int .i64 x1', .int .i64 y1] 63)) ?_ ?_
      · obtain ⟨hq1, hq2⟩ := allocs_below [(.cells #[.int .i64 (decayE xs off), .int .i64 (unlessE (decide (2 ≤ (L : Int))) 12)] 27), (.cells #[.int .i64 x0, .int .i64 y0] 63), (.cells #[.int .i64 x1', .int .i64 y1] 63)] w2
        have hq3 := allocs_at [(.cells #[.int .i64 (decayE xs off), .int .i64 (unlessE (decide (2 ≤ (L : Int))) 12)] 27), (.cells #[.int .i64 x0, .int .i64 y0] 63), (.cells #[.int .i64 x1', .int .i64 y1] 63)] w2
        simp only [List.length_cons, List.length_nil, Nat.reduceAdd] at hq2
        exact ⟨hq1.drew, by show _ < (List.foldl World.alloc w2 [(.cells #[.int .i64 (decayE xs off), .int .i64 (unlessE (decide (2 ≤ (L : Int))) 12)] 27), (.cells #[.int .i64 x0, .int .i64 y0] 63), (.cells #[.int .i64 x1', .int .i64 y1] 63)]).heap.size; omega, by show _ < (List.foldl World.alloc w2 [(.cells #[.int .i64 (decayE xs off), .int .i64 (unlessE (decide (2 ≤ (L : Int))) 12)] 27), (.cells #[.int .i64 x0, .int .i64 y0] 63), (.cells #[.int .i64 x1', .int .i64 y1] 63)]).heap.size; omega, hq3 1 (by simp), hq3 2 (by simp)⟩
      rintro v ⟨hbv, hsv2, hsv3, hv2, hv3⟩
      have d0 : v.cell? ⟨w2.heap.size + 1, 0, none⟩ = some (.int .i64 x0) := cell_block hv2 0
      have d1 : v.cell? ⟨w2.heap.size + 1, 1, none⟩ = some (.int .i64 y0) := cell_block hv2 1
      have d2 : v.cell? ⟨w2.heap.size + 1 + 1, 0, none⟩ = some (.int .i64 x1') := cell_block hv3 0
      have d3 : v.cell? ⟨w2.heap.size + 1 + 1, 1, none⟩ = some (.int .i64 y1) := cell_block hv3 1
      refine Calmly.wp_region_mix 10 (.fl 0 <| .fl 1 <| .fl 2 <| .fl 3 <| .fl 5 <| .fl 6 <| .fl 7 <| .fl 8 <| .eff 4 <| .eff 9 <| .tail [10, 11, 12]) (by kernel_rfl) (by kernel_rfl) ?_
      have hk := Below.refl v.drew.heap.size v.drew
      go_wp2_with (first | ((with_reducible refine Calmly.is_fl ?_); refine Calmly.mix_fl rfl ?_ (fun _ _ => ?_); (first | exact .move _ | exact .load _ _ | exact .fieldAddr _ _ _ (by kernel_rfl) | exact .assign _ | exact .binOp _ _ _ _ _ rfl | exact .indexAddr _ _ _ | exact .len _ _ (by kernel_rfl) | exact .field _ _ _ | exact .extract _ _ | exact .pick _ _ _ | exact .build _ _ | exact .slice _ _ _ _ _ | exact .unOp _ _ _ rfl | exact .index _ _ _ | exact .max _ _ _ rfl rfl | exact .min _ _ _ rfl rfl)) | ((with_reducible refine Calmly.is_gl ?_); refine Calmly.mix_gl rfl rfl rfl ?_; first | ((first | with_reducible refine Calmly.gl_tt ?_ (fun _ _ => ?_) | with_reducible refine Calmly.gl_ff ?_ (fun _ _ => ?_)); (first | exact .move _ | exact .load _ _ | exact .fieldAddr _ _ _ (by kernel_rfl) | exact .assign _ | exact .binOp _ _ _ _ _ rfl | exact .indexAddr _ _ _ | exact .len _ _ (by kernel_rfl) | exact .field _ _ _ | exact .extract _ _ | exact .pick _ _ _ | exact .build _ _ | exact .slice _ _ _ _ _ | exact .unOp _ _ _ rfl | exact .index _ _ _ | exact .max _ _ _ rfl rfl | exact .min _ _ _ rfl rfl)) | with_reducible refine Calmly.gl_tf (fun _ _ => ?_) | with_reducible refine Calmly.gl_ft (fun _ _ => ?_)) | ((with_reducible refine Calmly.is_eff ?_); refine Calmly.mix_eff rfl (fun _ _ => ?_)) | ((with_reducible refine Calmly.is_gf ?_); refine Calmly.mix_gf rfl rfl rfl ?_; first | with_reducible refine Calmly.gf_tt (fun _ _ => ?_) | with_reducible refine Calmly.gf_ff (fun _ _ => ?_) | with_reducible refine Calmly.gf_tf (kept_of hk) (fun _ _ => ?_) | with_reducible refine Calmly.gf_ft (kept_of hk) (fun _ _ => ?_)) | ((with_reducible refine Calmly.is_tail ?_); first | refine Calmly.mix_tail_nil ?_ | refine Calmly.mix_tail rfl (fun _ _ => ?_)) | ((with_reducible refine Calmly.is_kept ?_); refine ⟨kept_of hk, ?_⟩) | (with_reducible refine Calmly.mix_alt ?_ ?_))
      refine (fraction_any _ _ _ (by omega) (by omega) (by omega) (by omega)).mono ?_
      rintro e w4 ⟨rfl, hb4⟩
      replace hk := step_of hk hb4
      go_wp2_with (first | ((with_reducible refine Calmly.is_fl ?_); refine Calmly.mix_fl rfl ?_ (fun _ _ => ?_); (first | exact .move _ | exact .load _ _ | exact .fieldAddr _ _ _ (by kernel_rfl) | exact .assign _ | exact .binOp _ _ _ _ _ rfl | exact .indexAddr _ _ _ | exact .len _ _ (by kernel_rfl) | exact .field _ _ _ | exact .extract _ _ | exact .pick _ _ _ | exact .build _ _ | exact .slice _ _ _ _ _ | exact .unOp _ _ _ rfl | exact .index _ _ _ | exact .max _ _ _ rfl rfl | exact .min _ _ _ rfl rfl)) | ((with_reducible refine Calmly.is_gl ?_); refine Calmly.mix_gl rfl rfl rfl ?_; first | ((first | with_reducible refine Calmly.gl_tt ?_ (fun _ _ => ?_) | with_reducible refine Calmly.gl_ff ?_ (fun _ _ => ?_)); (first | exact .move _ | exact .load _ _ | exact .fieldAddr _ _ _ (by kernel_rfl) | exact .assign _ | exact .binOp _ _ _ _ _ rfl | exact .indexAddr _ _ _ | exact .len _ _ (by kernel_rfl) | exact .field _ _ _ | exact .extract _ _ | exact .pick _ _ _ | exact .build _ _ | exact .slice _ _ _ _ _ | exact .unOp _ _ _ rfl | exact .index _ _ _ | exact .max _ _ _ rfl rfl | exact .min _ _ _ rfl rfl)) | with_reducible refine Calmly.gl_tf (fun _ _ => ?_) | with_reducible refine Calmly.gl_ft (fun _ _ => ?_)) | ((with_reducible refine Calmly.is_eff ?_); refine Calmly.mix_eff rfl (fun _ _ => ?_)) | ((with_reducible refine Calmly.is_gf ?_); refine Calmly.mix_gf rfl rfl rfl ?_; first | with_reducible refine Calmly.gf_tt (fun _ _ => ?_) | with_reducible refine Calmly.gf_ff (fun _ _ => ?_) | with_reducible refine Calmly.gf_tf (kept_of hk) (fun _ _ => ?_) | with_reducible refine Calmly.gf_ft (kept_of hk) (fun _ _ => ?_)) | ((with_reducible refine Calmly.is_tail ?_); first | refine Calmly.mix_tail_nil ?_ | refine Calmly.mix_tail rfl (fun _ _ => ?_)) | ((with_reducible refine Calmly.is_kept ?_); refine ⟨kept_of hk, ?_⟩) | (with_reducible refine Calmly.mix_alt ?_ ?_))
      refine (fraction_any _ _ _ (by omega) (by omega) (by omega) (by omega)).mono ?_
      rintro e w5 ⟨rfl, hb5⟩
      replace hk := step_of hk hb5
      have x2v := blk_keep x2 hbv
      have x5 := blk_keep (w := v.drew) x2v hk
      have g0 : w5.cell? ⟨w.heap.size + 1, 0, none⟩ = some (.int .i64 0) := cell_block x5 0
      have g1 : w5.cell? ⟨w.heap.size + 1, 1, none⟩ = some (.int .i64 0) := cell_block x5 1
      have g2 : w5.cell? ⟨w.heap.size + 1, 2, none⟩ = some (.int .i64 0) := cell_block x5 2
      have g3 : w5.cell? ⟨w.heap.size + 1, 3, none⟩ = some (.int .i64 0) := cell_block x5 3
      have r0 := frozen_block x5 0
      have r1 := frozen_block x5 1
      have r2 := frozen_block x5 2
      have r3 := frozen_block x5 3
      have hlast : ∀ i j k l : Int, Below w.heap.size w ((((w5.setCell ⟨w.heap.size + 1, 0, none⟩ (.int .i64 i)).setCell ⟨w.heap.size + 1, 1, none⟩ (.int .i64 j)).setCell ⟨w.heap.size + 1, 2, none⟩ (.int .i64 k)).setCell ⟨w.heap.size + 1, 3, none⟩ (.int .i64 l)) := fun i j k l =>
        (((((hbw.trans (hbv.mono (by omega))).drew.trans (hk.mono (by have := hbv.size; show _ ≤ v.heap.size; omega))).setCell (by simp) _).setCell (by simp) _).setCell (by simp) _).setCell (by simp) _
      go_wp2_with (first | ((with_reducible refine Calmly.is_fl ?_); refine Calmly.mix_fl rfl ?_ (fun _ _ => ?_); (first | exact .move _ | exact .load _ _ | exact .fieldAddr _ _ _ (by kernel_rfl) | exact .assign _ | exact .binOp _ _ _ _ _ rfl | exact .indexAddr _ _ _ | exact .len _ _ (by kernel_rfl) | exact .field _ _ _ | exact .extract _ _ | exact .pick _ _ _ | exact .build _ _ | exact .slice _ _ _ _ _ | exact .unOp _ _ _ rfl | exact .index _ _ _ | exact .max _ _ _ rfl rfl | exact .min _ _ _ rfl rfl)) | ((with_reducible refine Calmly.is_gl ?_); refine Calmly.mix_gl rfl rfl rfl ?_; first | ((first | with_reducible refine Calmly.gl_tt ?_ (fun _ _ => ?_) | with_reducible refine Calmly.gl_ff ?_ (fun _ _ => ?_)); (first | exact .move _ | exact .load _ _ | exact .fieldAddr _ _ _ (by kernel_rfl) | exact .assign _ | exact .binOp _ _ _ _ _ rfl | exact .indexAddr _ _ _ | exact .len _ _ (by kernel_rfl) | exact .field _ _ _ | exact .extract _ _ | exact .pick _ _ _ | exact .build _ _ | exact .slice _ _ _ _ _ | exact .unOp _ _ _ rfl | exact .index _ _ _ | exact .max _ _ _ rfl rfl | exact .min _ _ _ rfl rfl)) | with_reducible refine Calmly.gl_tf (fun _ _ => ?_) | with_reducible refine Calmly.gl_ft (fun _ _ => ?_)) | ((with_reducible refine Calmly.is_eff ?_); refine Calmly.mix_eff rfl (fun _ _ => ?_)) | ((with_reducible refine Calmly.is_gf ?_); refine Calmly.mix_gf rfl rfl rfl ?_; first | with_reducible refine Calmly.gf_tt (fun _ _ => ?_) | with_reducible refine Calmly.gf_ff (fun _ _ => ?_) | with_reducible refine Calmly.gf_tf (kept_of hk) (fun _ _ => ?_) | with_reducible refine Calmly.gf_ft (kept_of hk) (fun _ _ => ?_)) | ((with_reducible refine Calmly.is_tail ?_); first | refine Calmly.mix_tail_nil ?_ | refine Calmly.mix_tail rfl (fun _ _ => ?_)) | ((with_reducible refine Calmly.is_kept ?_); refine ⟨kept_of hk, ?_⟩) | (with_reducible refine Calmly.mix_alt ?_ ?_))
      have hpq := HPQ.out
      simp only [fracF, Prod.mk.injEq] at hpq
      obtain ⟨⟨u1, u2⟩, u3, u4⟩ := hpq
      rw [u1, u2, u3, u4]
      have hx4 := set4 (x := .int .i64 p) (y := .int .i64 q) (z := .int .i64 r) (u := .int .i64 s) x5
      have t0 := cell_block hx4 0
      have t1 := cell_block hx4 1
      have t2 := cell_block hx4 2
      have t3 := cell_block hx4 3
      simp only [List.getElem?_toArray, List.getElem?_cons_zero, List.getElem?_cons_succ] at t0 t1 t2 t3
      refine bodyPost_ret (v := .tuple #[.agg #[.int .i64 p, .int .i64 q, .int .i64 r, .int .i64 s], .int .i64 0]) (by simp [results, Try.results64, go_sem, t0, t1, t2, t3]) rfl ⟨rfl, hlast _ _ _ _⟩
    · refine wp_gen (fun v => Below w2.heap.size w2 v ∧ w2.heap.size + 1 < v.heap.size ∧ w2.heap.size + 2 < v.heap.size ∧ v.heap[w2.heap.size + 1]? = some (.cells #[.int .i64 x1', .int .i64 y1] 63) ∧ v.heap[w2.heap.size + 1 + 1]? = some (.cells #[.int .i64 x0, .int .i64 y0] 63)) ?_ ?_
      · obtain ⟨hq1, hq2⟩ := allocs_below [(.cells #[.int .i64 (decayE xs off), .int .i64 (unlessE (decide (2 ≤ (L : Int))) 12)] 27), (.cells #[.int .i64 x1', .int .i64 y1] 63), (.cells #[.int .i64 x0, .int .i64 y0] 63)] w2
        have hq3 := allocs_at [(.cells #[.int .i64 (decayE xs off), .int .i64 (unlessE (decide (2 ≤ (L : Int))) 12)] 27), (.cells #[.int .i64 x1', .int .i64 y1] 63), (.cells #[.int .i64 x0, .int .i64 y0] 63)] w2
        simp only [List.length_cons, List.length_nil, Nat.reduceAdd] at hq2
        exact ⟨hq1.drew, by show _ < (List.foldl World.alloc w2 [(.cells #[.int .i64 (decayE xs off), .int .i64 (unlessE (decide (2 ≤ (L : Int))) 12)] 27), (.cells #[.int .i64 x1', .int .i64 y1] 63), (.cells #[.int .i64 x0, .int .i64 y0] 63)]).heap.size; omega, by show _ < (List.foldl World.alloc w2 [(.cells #[.int .i64 (decayE xs off), .int .i64 (unlessE (decide (2 ≤ (L : Int))) 12)] 27), (.cells #[.int .i64 x1', .int .i64 y1] 63), (.cells #[.int .i64 x0, .int .i64 y0] 63)]).heap.size; omega, hq3 1 (by simp), hq3 2 (by simp)⟩
      rintro v ⟨hbv, hsv2, hsv3, hv2, hv3⟩
      have d0 : v.cell? ⟨w2.heap.size + 1, 0, none⟩ = some (.int .i64 x1') := cell_block hv2 0
      have d1 : v.cell? ⟨w2.heap.size + 1, 1, none⟩ = some (.int .i64 y1) := cell_block hv2 1
      have d2 : v.cell? ⟨w2.heap.size + 1 + 1, 0, none⟩ = some (.int .i64 x0) := cell_block hv3 0
      have d3 : v.cell? ⟨w2.heap.size + 1 + 1, 1, none⟩ = some (.int .i64 y0) := cell_block hv3 1
      refine Calmly.wp_region_mix 10 (.fl 0 <| .fl 1 <| .fl 2 <| .fl 3 <| .fl 5 <| .fl 6 <| .fl 7 <| .fl 8 <| .eff 4 <| .eff 9 <| .tail [10, 11, 12]) (by kernel_rfl) (by kernel_rfl) ?_
      have hk := Below.refl v.drew.heap.size v.drew
      go_wp2_with (first | ((with_reducible refine Calmly.is_fl ?_); refine Calmly.mix_fl rfl ?_ (fun _ _ => ?_); (first | exact .move _ | exact .load _ _ | exact .fieldAddr _ _ _ (by kernel_rfl) | exact .assign _ | exact .binOp _ _ _ _ _ rfl | exact .indexAddr _ _ _ | exact .len _ _ (by kernel_rfl) | exact .field _ _ _ | exact .extract _ _ | exact .pick _ _ _ | exact .build _ _ | exact .slice _ _ _ _ _ | exact .unOp _ _ _ rfl | exact .index _ _ _ | exact .max _ _ _ rfl rfl | exact .min _ _ _ rfl rfl)) | ((with_reducible refine Calmly.is_gl ?_); refine Calmly.mix_gl rfl rfl rfl ?_; first | ((first | with_reducible refine Calmly.gl_tt ?_ (fun _ _ => ?_) | with_reducible refine Calmly.gl_ff ?_ (fun _ _ => ?_)); (first | exact .move _ | exact .load _ _ | exact .fieldAddr _ _ _ (by kernel_rfl) | exact .assign _ | exact .binOp _ _ _ _ _ rfl | exact .indexAddr _ _ _ | exact .len _ _ (by kernel_rfl) | exact .field _ _ _ | exact .extract _ _ | exact .pick _ _ _ | exact .build _ _ | exact .slice _ _ _ _ _ | exact .unOp _ _ _ rfl | exact .index _ _ _ | exact .max _ _ _ rfl rfl | exact .min _ _ _ rfl rfl)) | with_reducible refine Calmly.gl_tf (fun _ _ => ?_) | with_reducible refine Calmly.gl_ft (fun _ _ => ?_)) | ((with_reducible refine Calmly.is_eff ?_); refine Calmly.mix_eff rfl (fun _ _ => ?_)) | ((with_reducible refine Calmly.is_gf ?_); refine Calmly.mix_gf rfl rfl rfl ?_; first | with_reducible refine Calmly.gf_tt (fun _ _ => ?_) | with_reducible refine Calmly.gf_ff (fun _ _ => ?_) | with_reducible refine Calmly.gf_tf (kept_of hk) (fun _ _ => ?_) | with_reducible refine Calmly.gf_ft (kept_of hk) (fun _ _ => ?_)) | ((with_reducible refine Calmly.is_tail ?_); first | refine Calmly.mix_tail_nil ?_ | refine Calmly.mix_tail rfl (fun _ _ => ?_)) | ((with_reducible refine Calmly.is_kept ?_); refine ⟨kept_of hk, ?_⟩) | (with_reducible refine Calmly.mix_alt ?_ ?_))
      refine (fraction_any _ _ _ (by omega) (by omega) (by omega) (by omega)).mono ?_
      rintro e w4 ⟨rfl, hb4⟩
      replace hk := step_of hk hb4
      go_wp2_with (first | ((with_reducible refine Calmly.is_fl ?_); refine Calmly.mix_fl rfl ?_ (fun _ _ => ?_); (first | exact .move _ | exact .load _ _ | exact .fieldAddr _ _ _ (by kernel_rfl) | exact .assign _ | exact .binOp _ _ _ _ _ rfl | exact .indexAddr _ _ _ | exact .len _ _ (by kernel_rfl) | exact .field _ _ _ | exact .extract _ _ | exact .pick _ _ _ | exact .build _ _ | exact .slice _ _ _ _ _ | exact .unOp _ _ _ rfl | exact .index _ _ _ | exact .max _ _ _ rfl rfl | exact .min _ _ _ rfl rfl)) | ((with_reducible refine Calmly.is_gl ?_); refine Calmly.mix_gl rfl rfl rfl ?_; first | ((first | with_reducible refine Calmly.gl_tt ?_ (fun _ _ => ?_) | with_reducible refine Calmly.gl_ff ?_ (fun _ _ => ?_)); (first | exact .move _ | exact .load _ _ | exact .fieldAddr _ _ _ (by kernel_rfl) | exact .assign _ | exact .binOp _ _ _ _ _ rfl | exact .indexAddr _ _ _ | exact .len _ _ (by kernel_rfl) | exact .field _ _ _ | exact .extract _ _ | exact .pick _ _ _ | exact .build _ _ | exact .slice _ _ _ _ _ | exact .unOp _ _ _ rfl | exact .index _ _ _ | exact .max _ _ _ rfl rfl | exact .min _ _ _ rfl rfl)) | with_reducible refine Calmly.gl_tf (fun _ _ => ?_) | with_reducible refine Calmly.gl_ft (fun _ _ => ?_)) | ((with_reducible refine Calmly.is_eff ?_); refine Calmly.mix_eff rfl (fun _ _ => ?_)) | ((with_reducible refine Calmly.is_gf ?_); refine Calmly.mix_gf rfl rfl rfl ?_; first | with_reducible refine Calmly.gf_tt (fun _ _ => ?_) | with_reducible refine Calmly.gf_ff (fun _ _ => ?_) | with_reducible refine Calmly.gf_tf (kept_of hk) (fun _ _ => ?_) | with_reducible refine Calmly.gf_ft (kept_of hk) (fun _ _ => ?_)) | ((with_reducible refine Calmly.is_tail ?_); first | refine Calmly.mix_tail_nil ?_ | refine Calmly.mix_tail rfl (fun _ _ => ?_)) | ((with_reducible refine Calmly.is_kept ?_); refine ⟨kept_of hk, ?_⟩) | (with_reducible refine Calmly.mix_alt ?_ ?_))
      refine (fraction_any _ _ _ (by omega) (by omega) (by omega) (by omega)).mono ?_
      rintro e w5 ⟨rfl, hb5⟩
      replace hk := step_of hk hb5
      have x2v := blk_keep x2 hbv
      have x5 := blk_keep (w := v.drew) x2v hk
      have g0 : w5.cell? ⟨w.heap.size + 1, 0, none⟩ = some (.int .i64 0) := cell_block x5 0
      have g1 : w5.cell? ⟨w.heap.size + 1, 1, none⟩ = some (.int .i64 0) := cell_block x5 1
      have g2 : w5.cell? ⟨w.heap.size + 1, 2, none⟩ = some (.int .i64 0) := cell_block x5 2
      have g3 : w5.cell? ⟨w.heap.size + 1, 3, none⟩ = some (.int .i64 0) := cell_block x5 3
      have r0 := frozen_block x5 0
      have r1 := frozen_block x5 1
      have r2 := frozen_block x5 2
      have r3 := frozen_block x5 3
      have hlast : ∀ i j k l : Int, Below w.heap.size w ((((w5.setCell ⟨w.heap.size + 1, 0, none⟩ (.int .i64 i)).setCell ⟨w.heap.size + 1, 1, none⟩ (.int .i64 j)).setCell ⟨w.heap.size + 1, 2, none⟩ (.int .i64 k)).setCell ⟨w.heap.size + 1, 3, none⟩ (.int .i64 l)) := fun i j k l =>
        (((((hbw.trans (hbv.mono (by omega))).drew.trans (hk.mono (by have := hbv.size; show _ ≤ v.heap.size; omega))).setCell (by simp) _).setCell (by simp) _).setCell (by simp) _).setCell (by simp) _
      go_wp2_with (first | ((with_reducible refine Calmly.is_fl ?_); refine Calmly.mix_fl rfl ?_ (fun _ _ => ?_); (first | exact .move _ | exact .load _ _ | exact .fieldAddr _ _ _ (by kernel_rfl) | exact .assign _ | exact .binOp _ _ _ _ _ rfl | exact .indexAddr _ _ _ | exact .len _ _ (by kernel_rfl) | exact .field _ _ _ | exact .extract _ _ | exact .pick _ _ _ | exact .build _ _ | exact .slice _ _ _ _ _ | exact .unOp _ _ _ rfl | exact .index _ _ _ | exact .max _ _ _ rfl rfl | exact .min _ _ _ rfl rfl)) | ((with_reducible refine Calmly.is_gl ?_); refine Calmly.mix_gl rfl rfl rfl ?_; first | ((first | with_reducible refine Calmly.gl_tt ?_ (fun _ _ => ?_) | with_reducible refine Calmly.gl_ff ?_ (fun _ _ => ?_)); (first | exact .move _ | exact .load _ _ | exact .fieldAddr _ _ _ (by kernel_rfl) | exact .assign _ | exact .binOp _ _ _ _ _ rfl | exact .indexAddr _ _ _ | exact .len _ _ (by kernel_rfl) | exact .field _ _ _ | exact .extract _ _ | exact .pick _ _ _ | exact .build _ _ | exact .slice _ _ _ _ _ | exact .unOp _ _ _ rfl | exact .index _ _ _ | exact .max _ _ _ rfl rfl | exact .min _ _ _ rfl rfl)) | with_reducible refine Calmly.gl_tf (fun _ _ => ?_) | with_reducible refine Calmly.gl_ft (fun _ _ => ?_)) | ((with_reducible refine Calmly.is_eff ?_); refine Calmly.mix_eff rfl (fun _ _ => ?_)) | ((with_reducible refine Calmly.is_gf ?_); refine Calmly.mix_gf rfl rfl rfl ?_; first | with_reducible refine Calmly.gf_tt (fun _ _ => ?_) | with_reducible refine Calmly.gf_ff (fun _ _ => ?_) | with_reducible refine Calmly.gf_tf (kept_of hk) (fun _ _ => ?_) | with_reducible refine Calmly.gf_ft (kept_of hk) (fun _ _ => ?_)) | ((with_reducible refine Calmly.is_tail ?_); first | refine Calmly.mix_tail_nil ?_ | refine Calmly.mix_tail rfl (fun _ _ => ?_)) | ((with_reducible refine Calmly.is_kept ?_); refine ⟨kept_of hk, ?_⟩) | (with_reducible refine Calmly.mix_alt ?_ ?_))
      have hpq := HPQ.out
      simp only [fracF, Prod.mk.injEq] at hpq
      obtain ⟨⟨u1, u2⟩, u3, u4⟩ := hpq
      rw [u1, u2, u3, u4]
      have hx4 := set4 (x := .int .i64 p) (y := .int .i64 q) (z := .int .i64 r) (u := .int .i64 s) x5
      have t0 := cell_block hx4 0
      have t1 := cell_block hx4 1
      have t2 := cell_block hx4 2
      have t3 := cell_block hx4 3
      simp only [List.getElem?_toArray, List.getElem?_cons_zero, List.getElem?_cons_succ] at t0 t1 t2 t3
      refine bodyPost_ret (v := .tuple #[.agg #[.int .i64 p, .int .i64 q, .int .i64 r, .int .i64 s], .int .i64 0]) (by simp [results, Try.results64, go_sem, t0, t1, t2, t3]) rfl ⟨rfl, hlast _ _ _ _⟩
  · have hz1 : (E != 0) = true := by simpa using hz
    obtain ⟨rfl, rfl, rfl, rfl⟩ := HZ.out hz
    clear hz
    have hx4 := set4 (x := .int .i64 0) (y := .int .i64 0) (z := .int .i64 0) (u := .int .i64 0) x2
    have g0 : w2.cell? ⟨w.heap.size + 1, 0, none⟩ = some (.int .i64 0) := cell_block x2 0
    have g1 : w2.cell? ⟨w.heap.size + 1, 1, none⟩ = some (.int .i64 0) := cell_block x2 1
    have g2 : w2.cell? ⟨w.heap.size + 1, 2, none⟩ = some (.int .i64 0) := cell_block x2 2
    have g3 : w2.cell? ⟨w.heap.size + 1, 3, none⟩ = some (.int .i64 0) := cell_block x2 3
    have r0 := frozen_block x2 0
    have r1 := frozen_block x2 1
    have r2 := frozen_block x2 2
    have r3 := frozen_block x2 3
    have hx5 := blk_keep hx4 (hA _ (.cells #[.int .i64 (decayE xs off), .int .i64 (unlessE (decide (2 ≤ (L : Int))) 12)] 27))
    have t0 := cell_block hx5 0
    have t1 := cell_block hx5 1
    have t2 := cell_block hx5 2
    have t3 := cell_block hx5 3
    simp only [List.getElem?_toArray, List.getElem?_cons_zero, List.getElem?_cons_succ] at t0 t1 t2 t3
    go_wp2_with fail
    refine bodyPost_ret (v := .tuple #[.agg #[.int .i64 0, .int .i64 0, .int .i64 0, .int .i64 0], .int .i64 E]) (by simp [results, Try.results64, go_sem, t0, t1, t2, t3]) rfl ⟨rfl, ?_⟩
    exact ((((hbw.setCell (by simp) _).setCell (by simp) _).setCell (by simp) _).setCell (by simp) _).alloc (by simp; omega) _
end Go.Proofs.Ytmaidjankakppaa
