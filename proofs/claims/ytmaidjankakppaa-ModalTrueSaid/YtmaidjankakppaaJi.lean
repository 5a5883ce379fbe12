/- Contracts of chapter 6: the references of the period and of the ratio of a decay. -/
import Derived.Test.YtmaidjankakppaaJh
namespace Go.Proofs.Ytmaidjankakppaa
open Go.RowKit
open Calmly (Kept)

set_option maxRecDepth 100000 in
set_option maxHeartbeats 4000000 in
theorem rRatio_any (a : Option Addr) (n c : Nat) (xs : List Int) (off p q r s : Int) (b : Bool) (w : World) (h1 : SI w a n c xs) (hE : decayE xs off = 0) (hz : b = false → (sgF xs off).length < 2 ∧ p = 0 ∧ q = 0 ∧ r = 0 ∧ s = 0) (hok : b = true → 2 ≤ (sgF xs off).length ∧ ratioF xs off = ((p, q), (r, s))) :
    Calls Try.prog 69 #[.agg #[.slice a n c, .int .i64 off]] w fun e w' => e = .returned (.tuple #[.agg #[.int .i64 p, .int .i64 q, .int .i64 r, .int .i64 s], .bool b]) ∧ Below w.heap.size w w' := by
  have hb : Below w.heap.size w ((w.alloc (.cells #[.slice a n c, .int .i64 off] 87)).alloc (.cells #[.int .i64 0, .int .i64 0, .int .i64 0, .int .i64 0] 93)) := ((Below.refl _ _).alloc (Nat.le_refl _) _).alloc (by simp) _
  have HZ := Lib.hid hz
  have HOK := Lib.hid hok
  clear hz hok
  go_enter Try.func69, Try.ntmps69
  go_wp2_with fail
  refine (Swings_any a n c xs off _ (h1.keep hb) hE).mono ?_
  rintro e w1 ⟨a', L, c', rfl, hown, hb1⟩
  obtain ⟨x1, x2⟩ := box2 (w := w) (o := .cells #[.slice a n c, .int .i64 off] 87) (o' := .cells #[.int .i64 0, .int .i64 0, .int .i64 0, .int .i64 0] 93) hb1
  have hs0 := blk_lt x1
  have hs1 := blk_lt x2
  have hbw : Below w.heap.size w w1 := hb.trans (hb1.mono (by simp; omega))
  have hlen := hown.len
  have hLm : L ≤ 100 := by
      have := sgF_len xs off
      have := crF_len xs off
      omega
  cases b
  · obtain ⟨hs2, rfl, rfl, rfl, rfl⟩ := HZ.out rfl
    have hL2 : (L : Int) < 2 := by omega
    clear hlen
    have hx4 := set4 (x := .int .i64 0) (y := .int .i64 0) (z := .int .i64 0) (u := .int .i64 0) x2
    have g0 : w1.cell? ⟨w.heap.size + 1, 0, none⟩ = some (.int .i64 0) := cell_block x2 0
    have g1 : w1.cell? ⟨w.heap.size + 1, 1, none⟩ = some (.int .i64 0) := cell_block x2 1
    have g2 : w1.cell? ⟨w.heap.size + 1, 2, none⟩ = some (.int .i64 0) := cell_block x2 2
    have g3 : w1.cell? ⟨w.heap.size + 1, 3, none⟩ = some (.int .i64 0) := cell_block x2 3
    have r0 := frozen_block x2 0
    have r1 := frozen_block x2 1
    have r2 := frozen_block x2 2
    have r3 := frozen_block x2 3
    have t0 := cell_block hx4 0
    have t1 := cell_block hx4 1
    have t2 := cell_block hx4 2
    have t3 := cell_block hx4 3
    simp only [List.getElem?_toArray, List.getElem?_cons_zero, List.getElem?_cons_succ] at t0 t1 t2 t3
    go_wp2_with fail
    refine bodyPost_ret (v := .tuple #[.agg #[.int .i64 0, .int .i64 0, .int .i64 0, .int .i64 0], .bool false]) (by simp [results, Try.results69, go_sem, t0, t1, t2, t3]) rfl ⟨rfl, ?_⟩
    exact (((hbw.setCell (by simp) _).setCell (by simp) _).setCell (by simp) _).setCell (by simp) _
  · obtain ⟨hs2, hpq⟩ := HOK.out rfl
    have hL2 : 2 ≤ L := by omega
    obtain ⟨cb, co, rfl, hcc⟩ := hown.sr.at_ (by omega)
    obtain ⟨e0, e1⟩ := hcc 0 (by omega)
    obtain ⟨e2, e3⟩ := hcc (L - 1) (by omega)
    simp only [Nat.zero_mul, Nat.add_zero] at e0 e1
    obtain ⟨z1, z2, z3, z4⟩ := sgF_bd xs off 0 (by omega)
    obtain ⟨z5, z6, z7, z8⟩ := sgF_bd xs off (L - 1) (by omega)
    unfold ratioF at hpq
    dsimp only at hpq
    rw [← hlen] at hpq
    clear hlen
    have HPQ := Lib.hid hpq
    clear hpq
    obtain ⟨p0, hp0⟩ : ∃ p0, (sgF xs off)[0]?.getD (0, 0) = p0 := ⟨_, rfl⟩
    obtain ⟨p1, hp1⟩ : ∃ p1, (sgF xs off)[L - 1]?.getD (0, 0) = p1 := ⟨_, rfl⟩
    obtain ⟨x0, y0⟩ := p0
    obtain ⟨x1', y1⟩ := p1
    rw [hp0] at e0 e1 z1 z2 z3 z4 HPQ
    rw [hp1] at e2 e3 z5 z6 z7 z8 HPQ
    clear hp0 hp1 hcc
    dsimp only at e0 e1 e2 e3 z1 z2 z3 z4 z5 z6 z7 z8 HPQ
    have hlt := cell_lt e0
    have HDE := Lib.hid hE
    clear hE
    have hLi : ((L : Int) - 1).toNat = L - 1 := by omega
    have hL0 : (1 : Int) ≤ (L : Int) := by omega
    have hL1 : (2 : Int) ≤ (L : Int) := by omega
    have hLL : (0 : Int) < (L : Int) := by omega
    go_wp2_with fail
    refine Calmly.wp_region_mix 12 (.fl 0 <| .fl 1 <| .fl 2 <| .fl 3 <| .fl 4 <| .fl 5 <| .fl 6 <| .fl 7 <| .fl 8 <| .alt 9 (.eff 10 <| .eff 11 <| .tail [12]) (.eff 10 (.eff 9 <| .eff 11 <| .tail [12]))) (by kernel_rfl) (by kernel_rfl) ?_
    have hk := Below.refl w1.drew.heap.size w1.drew
    go_wp2_with (first | ((with_reducible refine Calmly.is_fl ?_); refine Calmly.mix_fl rfl ?_ (fun _ _ => ?_); (first | exact .move _ | exact .load _ _ | exact .fieldAddr _ _ _ (by kernel_rfl) | exact .assign _ | exact .binOp _ _ _ _ _ rfl | exact .indexAddr _ _ _ | exact .len _ _ (by kernel_rfl) | exact .field _ _ _ | exact .extract _ _ | exact .pick _ _ _ | exact .build _ _ | exact .slice _ _ _ _ _ | exact .unOp _ _ _ rfl | exact .index _ _ _ | exact .max _ _ _ rfl rfl | exact .min _ _ _ rfl rfl)) | ((with_reducible refine Calmly.is_gl ?_); refine Calmly.mix_gl rfl rfl rfl ?_; first | ((first | with_reducible refine Calmly.gl_tt ?_ (fun _ _ => ?_) | with_reducible refine Calmly.gl_ff ?_ (fun _ _ => ?_)); (first | exact .move _ | exact .load _ _ | exact .fieldAddr _ _ _ (by kernel_rfl) | exact .assign _ | exact .binOp _ _ _ _ _ rfl | exact .indexAddr _ _ _ | exact .len _ _ (by kernel_rfl) | exact .field _ _ _ | exact .extract _ _ | exact .pick _ _ _ | exact .build _ _ | exact .slice _ _ _ _ _ | exact .unOp _ _ _ rfl | exact .index _ _ _ | exact .max _ _ _ rfl rfl | exact .min _ _ _ rfl rfl)) | with_reducible refine Calmly.gl_tf (fun _ _ => ?_) | with_reducible refine Calmly.gl_ft (fun _ _ => ?_)) | ((with_reducible refine Calmly.is_eff ?_); refine Calmly.mix_eff rfl (fun _ _ => ?_)) | ((with_reducible refine Calmly.is_gf ?_); refine Calmly.mix_gf rfl rfl rfl ?_; first | with_reducible refine Calmly.gf_tt (fun _ _ => ?_) | with_reducible refine Calmly.gf_ff (fun _ _ => ?_) | with_reducible refine Calmly.gf_tf (kept_of hk) (fun _ _ => ?_) | with_reducible refine Calmly.gf_ft (kept_of hk) (fun _ _ => ?_)) | ((with_reducible refine Calmly.is_kept ?_); refine ⟨kept_of hk, ?_⟩) | (with_reducible refine Calmly.mix_alt ?_ ?_) | (refine kept_alloc hk (fun hk' hblk hge => ?_); replace hk := hk'; clear hk'))
    all_goals (refine ⟨kept_two _ _ _, ?_⟩; go_wp2_with (first | ((with_reducible refine Calmly.is_fl ?_); refine Calmly.mix_fl rfl ?_ (fun _ _ => ?_); (first | exact .move _ | exact .load _ _ | exact .fieldAddr _ _ _ (by kernel_rfl) | exact .assign _ | exact .binOp _ _ _ _ _ rfl | exact .indexAddr _ _ _ | exact .len _ _ (by kernel_rfl) | exact .field _ _ _ | exact .extract _ _ | exact .pick _ _ _ | exact .build _ _ | exact .slice _ _ _ _ _ | exact .unOp _ _ _ rfl | exact .index _ _ _ | exact .max _ _ _ rfl rfl | exact .min _ _ _ rfl rfl)) | ((with_reducible refine Calmly.is_gl ?_); refine Calmly.mix_gl rfl rfl rfl ?_; first | ((first | with_reducible refine Calmly.gl_tt ?_ (fun _ _ => ?_) | with_reducible refine Calmly.gl_ff ?_ (fun _ _ => ?_)); (first | exact .move _ | exact .load _ _ | exact .fieldAddr _ _ _ (by kernel_rfl) | exact .assign _ | exact .binOp _ _ _ _ _ rfl | exact .indexAddr _ _ _ | exact .len _ _ (by kernel_rfl) | exact .field _ _ _ | exact .extract _ _ | exact .pick _ _ _ | exact .build _ _ | exact .slice _ _ _ _ _ | exact .unOp _ _ _ rfl | exact .index _ _ _ | exact .max _ _ _ rfl rfl | exact .min _ _ _ rfl rfl)) | with_reducible refine Calmly.gl_tf (fun _ _ => ?_) | with_reducible refine Calmly.gl_ft (fun _ _ => ?_)) | ((with_reducible refine Calmly.is_eff ?_); refine Calmly.mix_eff rfl (fun _ _ => ?_)) | ((with_reducible refine Calmly.is_gf ?_); refine Calmly.mix_gf rfl rfl rfl ?_; first | with_reducible refine Calmly.gf_tt (fun _ _ => ?_) | with_reducible refine Calmly.gf_ff (fun _ _ => ?_) | with_reducible refine Calmly.gf_tf (kept_of hk) (fun _ _ => ?_) | with_reducible refine Calmly.gf_ft (kept_of hk) (fun _ _ => ?_)) | ((with_reducible refine Calmly.is_tail ?_); first | refine Calmly.mix_tail_nil ?_ | refine Calmly.mix_tail rfl (fun _ _ => ?_)) | ((with_reducible refine Calmly.is_kept ?_); refine ⟨kept_of hk, ?_⟩) | (with_reducible refine Calmly.mix_alt ?_ ?_)))
    · refine wp_gen (fun v => Below w1.heap.size w1 v ∧ w1.heap.size < v.heap.size ∧ w1.heap.size + 1 < v.heap.size ∧ v.heap[w1.heap.size]? = some (.cells #[.int .i64 x0, .int .i64 y0] 63) ∧ v.heap[w1.heap.size + 1]? = some (.cells #[.int .i64 x1', .int .i64 y1] 63)) ?_ ?_
      · obtain ⟨hq1, hq2⟩ := allocs_below [(.cells #[.int .i64 x0, .int .i64 y0] 63), (.cells #[.int .i64 x1', .int .i64 y1] 63)] w1
        have hq3 := allocs_at [(.cells #[.int .i64 x0, .int .i64 y0] 63), (.cells #[.int .i64 x1', .int .i64 y1] 63)] w1
        simp only [List.length_cons, List.length_nil, Nat.reduceAdd] at hq2
        exact ⟨hq1.drew, by show _ < (List.foldl World.alloc w1 [(.cells #[.int .i64 x0, .int .i64 y0] 63), (.cells #[.int .i64 x1', .int .i64 y1] 63)]).heap.size; omega, by show _ < (List.foldl World.alloc w1 [(.cells #[.int .i64 x0, .int .i64 y0] 63), (.cells #[.int .i64 x1', .int .i64 y1] 63)]).heap.size; omega, hq3 0 (by simp), hq3 1 (by simp)⟩
      rintro v ⟨hbv, hsv2, hsv3, hv2, hv3⟩
      have d0 : v.cell? ⟨w1.heap.size, 0, none⟩ = some (.int .i64 x0) := cell_block hv2 0
      have d1 : v.cell? ⟨w1.heap.size, 1, none⟩ = some (.int .i64 y0) := cell_block hv2 1
      have d2 : v.cell? ⟨w1.heap.size + 1, 0, none⟩ = some (.int .i64 x1') := cell_block hv3 0
      have d3 : v.cell? ⟨w1.heap.size + 1, 1, none⟩ = some (.int .i64 y1) := cell_block hv3 1
      refine Calmly.wp_region_mix 10 (.fl 0 <| .fl 1 <| .fl 2 <| .fl 3 <| .fl 5 <| .fl 6 <| .fl 7 <| .fl 8 <| .eff 4 <| .eff 9 <| .tail [10, 11, 12]) (by kernel_rfl) (by kernel_rfl) ?_
      have hk := Below.refl v.drew.heap.size v.drew
      go_wp2_with (first | ((with_reducible refine Calmly.is_fl ?_); refine Calmly.mix_fl rfl ?_ (fun _ _ => ?_); (first | exact .move _ | exact .load _ _ | exact .fieldAddr _ _ _ (by kernel_rfl) | exact .assign _ | exact .binOp _ _ _ _ _ rfl | exact .indexAddr _ _ _ | exact .len _ _ (by kernel_rfl) | exact .field _ _ _ | exact .extract _ _ | exact .pick _ _ _ | exact .build _ _ | exact .slice _ _ _ _ _ | exact .unOp _ _ _ rfl | exact .index _ _ _ | exact .max _ _ _ rfl rfl | exact .min _ _ _ rfl rfl)) | ((with_reducible refine Calmly.is_gl ?_); refine Calmly.mix_gl rfl rfl rfl ?_; first | ((first | with_reducible refine Calmly.gl_tt ?_ (fun _ _ => ?_) | with_reducible refine Calmly.gl_ff ?_ (fun _ _ => ?_)); (first | exact .move _ | exact .load _ _ | exact .fieldAddr _ _ _ (by kernel_rfl) | exact .assign _ | exact .binOp _ _ _ _ _ rfl | exact .indexAddr _ _ _ | exact .len _ _ (by kernel_rfl) | exact .field _ _ _ | exact .extract _ _ | exact .pick _ _ _ | exact .build _ _ | exact .slice _ _ _ _ _ | exact .unOp _ _ _ rfl | exact .index _ _ _ | exact .max _ _ _ rfl rfl | exact .min _ _ _ rfl rfl)) | with_reducible refine Calmly.gl_tf (fun _ _ => ?_) | with_reducible refine Calmly.gl_ft (fun _ _ => ?_)) | ((with_reducible refine Calmly.is_eff ?_); refine Calmly.mix_eff rfl (fun _ _ => ?_)) | ((with_reducible refine Calmly.is_gf ?_); refine Calmly.mix_gf rfl rfl rfl ?_; first | with_reducible refine Calmly.gf_tt (fun _ _ => ?_) | with_reducible refine Calmly.gf_ff (fun _ _ => ?_) | with_reducible refine Calmly.gf_tf (kept_of hk) (fun _ _ => ?_) | with_reducible refine Calmly.gf_ft (kept_of hk) (fun _ _ => ?_)) | ((with_reducible refine Calmly.is_tail ?_); first | refine Calmly.mix_tail_nil ?_ | refine Calmly.mix_tail rfl (fun _ _ => ?_)) | ((with_reducible refine Calmly.is_kept ?_); refine ⟨kept_of hk, ?_⟩) | (with_reducible refine Calmly.mix_alt ?_ ?_))
      refine (Lowest_any _ _ _ (by omega) (by omega) (by omega) (by omega)).mono ?_
      rintro e w4 ⟨rfl, hb4⟩
      replace hk := step_of hk hb4
      go_wp2_with (first | ((with_reducible refine Calmly.is_fl ?_); refine Calmly.mix_fl rfl ?_ (fun _ _ => ?_); (first | exact .move _ | exact .load _ _ | exact .fieldAddr _ _ _ (by kernel_rfl) | exact .assign _ | exact .binOp _ _ _ _ _ rfl | exact .indexAddr _ _ _ | exact .len _ _ (by kernel_rfl) | exact .field _ _ _ | exact .extract _ _ | exact .pick _ _ _ | exact .build _ _ | exact .slice _ _ _ _ _ | exact .unOp _ _ _ rfl | exact .index _ _ _ | exact .max _ _ _ rfl rfl | exact .min _ _ _ rfl rfl)) | ((with_reducible refine Calmly.is_gl ?_); refine Calmly.mix_gl rfl rfl rfl ?_; first | ((first | with_reducible refine Calmly.gl_tt ?_ (fun _ _ => ?_) | with_reducible refine Calmly.gl_ff ?_ (fun _ _ => ?_)); (first | exact .move _ | exact .load _ _ | exact .fieldAddr _ _ _ (by kernel_rfl) | exact .assign _ | exact .binOp _ _ _ _ _ rfl | exact .indexAddr _ _ _ | exact .len _ _ (by kernel_rfl) | exact .field _ _ _ | exact .extract _ _ | exact .pick _ _ _ | exact .build _ _ | exact .slice _ _ _ _ _ | exact .unOp _ _ _ rfl | exact .index _ _ _ | exact .max _ _ _ rfl rfl | exact .min _ _ _ rfl rfl)) | with_reducible refine Calmly.gl_tf (fun _ _ => ?_) | with_reducible refine Calmly.gl_ft (fun _ _ => ?_)) | ((with_reducible refine Calmly.is_eff ?_); refine Calmly.mix_eff rfl (fun _ _ => ?_)) | ((with_reducible refine Calmly.is_gf ?_); refine Calmly.mix_gf rfl rfl rfl ?_; first | with_reducible refine Calmly.gf_tt (fun _ _ => ?_) | with_reducible refine Calmly.gf_ff (fun _ _ => ?_) | with_reducible refine Calmly.gf_tf (kept_of hk) (fun _ _ => ?_) | with_reducible refine Calmly.gf_ft (kept_of hk) (fun _ _ => ?_)) | ((with_reducible refine Calmly.is_tail ?_); first | refine Calmly.mix_tail_nil ?_ | refine Calmly.mix_tail rfl (fun _ _ => ?_)) | ((with_reducible refine Calmly.is_kept ?_); refine ⟨kept_of hk, ?_⟩) | (with_reducible refine Calmly.mix_alt ?_ ?_))
      refine (Lowest_any _ _ _ (by omega) (by omega) (by omega) (by omega)).mono ?_
      rintro e w5 ⟨rfl, hb5⟩
      replace hk := step_of hk hb5
      have x2v := blk_keep x2 hbv
      have x5 := blk_keep (w := v.drew) x2v hk
      have g0 : w5.cell? ⟨w.heap.size + 1, 0, none⟩ = some (.int .i64 0) := cell_block x5 0
      have g1 : w5.cell? ⟨w.heap.size + 1, 1, none⟩ = some (.int .i64 0) := cell_block x5 1
      have g2 : w5.cell? ⟨w.heap.size + 1, 2, none⟩ = some (.int .i64 0) := cell_block x5 2
      have g3 : w5.cell? ⟨w.heap.size + 1, 3, none⟩ = some (.int .i64 0) := cell_block x5 3
      have r0 := frozen_block x5 0
      have r1 := frozen_block x5 1
      have r2 := frozen_block x5 2
      have r3 := frozen_block x5 3
      have hlast : ∀ i j k l : Int, Below w.heap.size w ((((w5.setCell ⟨w.heap.size + 1, 0, none⟩ (.int .i64 i)).setCell ⟨w.heap.size + 1, 1, none⟩ (.int .i64 j)).setCell ⟨w.heap.size + 1, 2, none⟩ (.int .i64 k)).setCell ⟨w.heap.size + 1, 3, none⟩ (.int .i64 l)) := fun i j k l =>
        (((((hbw.trans (hbv.mono (by omega))).drew.trans (hk.mono (by have := hbv.size; show _ ≤ v.heap.size; omega))).setCell (by simp) _).setCell (by simp) _).setCell (by simp) _).setCell (by simp) _
      go_wp2_with (first | ((with_reducible refine Calmly.is_fl ?_); refine Calmly.mix_fl rfl ?_ (fun _ _ => ?_); (first | exact .move _ | exact .load _ _ | exact .fieldAddr _ _ _ (by kernel_rfl) | exact .assign _ | exact .binOp _ _ _ _ _ rfl | exact .indexAddr _ _ _ | exact .len _ _ (by kernel_rfl) | exact .field _ _ _ | exact .extract _ _ | exact .pick _ _ _ | exact .build _ _ | exact .slice _ _ _ _ _ | exact .unOp _ _ _ rfl | exact .index _ _ _ | exact .max _ _ _ rfl rfl | exact .min _ _ _ rfl rfl)) | ((with_reducible refine Calmly.is_gl ?_); refine Calmly.mix_gl rfl rfl rfl ?_; first | ((first | with_reducible refine Calmly.gl_tt ?_ (fun _ _ => ?_) | with_reducible refine Calmly.gl_ff ?_ (fun _ _ => ?_)); (first | exact .move _ | exact .load _ _ | exact .fieldAddr _ _ _ (by kernel_rfl) | exact .assign _ | exact .binOp _ _ _ _ _ rfl | exact .indexAddr _ _ _ | exact .len _ _ (by kernel_rfl) | exact .field _ _ _ | exact .extract _ _ | exact .pick _ _ _ | exact .build _ _ | exact .slice _ _ _ _ _ | exact .unOp _ _ _ rfl | exact .index _ _ _ | exact .max _ _ _ rfl rfl | exact .min _ _ _ rfl rfl)) | with_reducible refine Calmly.gl_tf (fun _ _ => ?_) | with_reducible refine Calmly.gl_ft (fun _ _ => ?_)) | ((with_reducible refine Calmly.is_eff ?_); refine Calmly.mix_eff rfl (fun _ _ => ?_)) | ((with_reducible refine Calmly.is_gf ?_); refine Calmly.mix_gf rfl rfl rfl ?_; first | with_reducible refine Calmly.gf_tt (fun _ _ => ?_) | with_reducible refine Calmly.gf_ff (fun _ _ => ?_) | with_reducible refine Calmly.gf_tf (kept_of hk) (fun _ _ => ?_) | with_reducible refine Calmly.gf_ft (kept_of hk) (fun _ _ => ?_)) | ((with_reducible refine Calmly.is_tail ?_); first | refine Calmly.mix_tail_nil ?_ | refine Calmly.mix_tail rfl (fun _ _ => ?_)) | ((with_reducible refine Calmly.is_kept ?_); refine ⟨kept_of hk, ?_⟩) | (with_reducible refine Calmly.mix_alt ?_ ?_))
      have hpq := HPQ.out
      simp only [Prod.mk.injEq] at hpq
      rw [hpq.1, hpq.2]
      dsimp only
      have hx4 := set4 (x := .int .i64 p) (y := .int .i64 q) (z := .int .i64 r) (u := .int .i64 s) x5
      have t0 := cell_block hx4 0
      have t1 := cell_block hx4 1
      have t2 := cell_block hx4 2
      have t3 := cell_block hx4 3
      simp only [List.getElem?_toArray, List.getElem?_cons_zero, List.getElem?_cons_succ] at t0 t1 t2 t3
      refine bodyPost_ret (v := .tuple #[.agg #[.int .i64 p, .int .i64 q, .int .i64 r, .int .i64 s], .bool true]) (by simp [results, Try.results69, go_sem, t0, t1, t2, t3]) rfl ⟨rfl, hlast _ _ _ _⟩
    · refine wp_gen (fun v => Below w1.heap.size w1 v ∧ w1.heap.size < v.heap.size ∧ w1.heap.size + 1 < v.heap.size ∧ v.heap[w1.heap.size]? = some (.cells #[.int .i64 x1', .int .i64 y1] 63) ∧ v.heap[w1.heap.size + 1]? = some (.cells #[.int .i64 x0, .int .i64 y0] 63)) ?_ ?_
      · obtain ⟨hq1, hq2⟩ := allocs_below [(.cells #[.int .i64 x1', .int .i64 y1] 63), (.cells #[.int .i64 x0, .int .i64 y0] 63)] w1
        have hq3 := allocs_at [(.cells #[.int .i64 x1', .int .i64 y1] 63), (.cells #[.int .i64 x0, .int .i64 y0] 63)] w1
        simp only [List.length_cons, List.length_nil, Nat.reduceAdd] at hq2
        exact ⟨hq1.drew, by show _ < (List.foldl World.alloc w1 [(.cells #[.int .i64 x1', .int .i64 y1] 63), (.cells #[.int .i64 x0, .int .i64 y0] 63)]).heap.size; omega, by show _ < (List.foldl World.alloc w1 [(.cells #[.int .i64 x1', .int .i64 y1] 63), (.cells #[.int .i64 x0, .int .i64 y0] 63)]).heap.size; omega, hq3 0 (by simp), hq3 1 (by simp)⟩
      rintro v ⟨hbv, hsv2, hsv3, hv2, hv3⟩
      have d0 : v.cell? ⟨w1.heap.size, 0, none⟩ = some (.int .i64 x1') := cell_block hv2 0
      have d1 : v.cell? ⟨w1.heap.size, 1, none⟩ = some (.int .i64 y1) := cell_block hv2 1
      have d2 : v.cell? ⟨w1.heap.size + 1, 0, none⟩ = some (.int .i64 x0) := cell_block hv3 0
      have d3 : v.cell? ⟨w1.heap.size + 1, 1, none⟩ = some (.int .i64 y0) := cell_block hv3 1
      refine Calmly.wp_region_mix 10 (.fl 0 <| .fl 1 <| .fl 2 <| .fl 3 <| .fl 5 <| .fl 6 <| .fl 7 <| .fl 8 <| .eff 4 <| .eff 9 <| .tail [10, 11, 12]) (by kernel_rfl) (by kernel_rfl) ?_
      have hk := Below.refl v.drew.heap.size v.drew
      go_wp2_with (first | ((with_reducible refine Calmly.is_fl ?_); refine Calmly.mix_fl rfl ?_ (fun _ _ => ?_); (first | exact .move _ | exact .load _ _ | exact .fieldAddr _ _ _ (by kernel_rfl) | exact .assign _ | exact .binOp _ _ _ _ _ rfl | exact .indexAddr _ _ _ | exact .len _ _ (by kernel_rfl) | exact .field _ _ _ | exact .extract _ _ | exact .pick _ _ _ | exact .build _ _ | exact .slice _ _ _ _ _ | exact .unOp _ _ _ rfl | exact .index _ _ _ | exact .max _ _ _ rfl rfl | exact .min _ _ _ rfl rfl)) | ((with_reducible refine Calmly.is_gl ?_); refine Calmly.mix_gl rfl rfl rfl ?_; first | ((first | with_reducible refine Calmly.gl_tt ?_ (fun _ _ => ?_) | with_reducible refine Calmly.gl_ff ?_ (fun _ _ => ?_)); (first | exact .move _ | exact .load _ _ | exact .fieldAddr _ _ _ (by kernel_rfl) | exact .assign _ | exact .binOp _ _ _ _ _ rfl | exact .indexAddr _ _ _ | exact .len _ _ (by kernel_rfl) | exact .field _ _ _ | exact .extract _ _ | exact .pick _ _ _ | exact .build _ _ | exact .slice _ _ _ _ _ | exact .unOp _ _ _ rfl | exact .index _ _ _ | exact .max _ _ _ rfl rfl | exact .min _ _ _ rfl rfl)) | with_reducible refine Calmly.gl_tf (fun _ _ => ?_) | with_reducible refine Calmly.gl_ft (fun _ _ => ?_)) | ((with_reducible refine Calmly.is_eff ?_); refine Calmly.mix_eff rfl (fun _ _ => ?_)) | ((with_reducible refine Calmly.is_gf ?_); refine Calmly.mix_gf rfl rfl rfl ?_; first | with_reducible refine Calmly.gf_tt (fun _ _ => ?_) | with_reducible refine Calmly.gf_ff (fun _ _ => ?_) | with_reducible refine Calmly.gf_tf (kept_of hk) (fun _ _ => ?_) | with_reducible refine Calmly.gf_ft (kept_of hk) (fun _ _ => ?_)) | ((with_reducible refine Calmly.is_tail ?_); first | refine Calmly.mix_tail_nil ?_ | refine Calmly.mix_tail rfl (fun _ _ => ?_)) | ((with_reducible refine Calmly.is_kept ?_); refine ⟨kept_of hk, ?_⟩) | (with_reducible refine Calmly.mix_alt ?_ ?_))
      refine (Lowest_any _ _ _ (by omega) (by omega) (by omega) (by omega)).mono ?_
      rintro e w4 ⟨rfl, hb4⟩
      replace hk := step_of hk hb4
      go_wp2_with (first | ((with_reducible refine Calmly.is_fl ?_); refine Calmly.mix_fl rfl ?_ (fun _ _ => ?_); (first | exact .move _ | exact .load _ _ | exact .fieldAddr _ _ _ (by kernel_rfl) | exact .assign _ | exact .binOp _ _ _ _ _ rfl | exact .indexAddr _ _ _ | exact .len _ _ (by kernel_rfl) | exact .field _ _ _ | exact .extract _ _ | exact .pick _ _ _ | exact .build _ _ | exact .slice _ _ _ _ _ | exact .unOp _ _ _ rfl | exact .index _ _ _ | exact .max _ _ _ rfl rfl | exact .min _ _ _ rfl rfl)) | ((with_reducible refine Calmly.is_gl ?_); refine Calmly.mix_gl rfl rfl rfl ?_; first | ((first | with_reducible refine Calmly.gl_tt ?_ (fun _ _ => ?_) | with_reducible refine Calmly.gl_ff ?_ (fun _ _ => ?_)); (first | exact .move _ | exact .load _ _ | exact .fieldAddr _ _ _ (by kernel_rfl) | exact .assign _ | exact .binOp _ _ _ _ _ rfl | exact .indexAddr _ _ _ | exact .len _ _ (by kernel_rfl) | exact .field _ _ _ | exact .extract _ _ | exact .pick _ _ _ | exact .build _ _ | exact .slice _ _ _ _ _ | exact .unOp _ _ _ rfl | exact .index _ _ _ | exact .max _ _ _ rfl rfl | exact .min _ _ _ rfl rfl)) | with_reducible refine Calmly.gl_tf (fun _ _ => ?_) | with_reducible refine Calmly.gl_ft (fun _ _ => ?_)) | ((with_reducible refine Calmly.is_eff ?_); refine Calmly.mix_eff rfl (fun _ _ => ?_)) | ((with_reducible refine Calmly.is_gf ?_); refine Calmly.mix_gf rfl rfl rfl ?_; first | with_reducible refine Calmly.gf_tt (fun _ _ => ?_) | with_reducible refine Calmly.gf_ff (fun _ _ => ?_) | with_reducible refine Calmly.gf_tf (kept_of hk) (fun _ _ => ?_) | with_reducible refine Calmly.gf_ft (kept_of hk) (fun _ _ => ?_)) | ((with_reducible refine Calmly.is_tail ?_); first | refine Calmly.mix_tail_nil ?_ | refine Calmly.mix_tail rfl (fun _ _ => ?_)) | ((with_reducible refine Calmly.is_kept ?_); refine ⟨kept_of hk, ?_⟩) | (with_reducible refine Calmly.mix_alt ?_ ?_))
      refine (Lowest_any _ _ _ (by omega) (by omega) (by omega) (by omega)).mono ?_
      rintro e w5 ⟨rfl, hb5⟩
      replace hk := step_of hk hb5
      have x2v := blk_keep x2 hbv
      have x5 := blk_keep (w := v.drew) x2v hk
      have g0 : w5.cell? ⟨w.heap.size + 1, 0, none⟩ = some (.int .i64 0) := cell_block x5 0
      have g1 : w5.cell? ⟨w.heap.size + 1, 1, none⟩ = some (.int .i64 0) := cell_block x5 1
      have g2 : w5.cell? ⟨w.heap.size + 1, 2, none⟩ = some (.int .i64 0) := cell_block x5 2
      have g3 : w5.cell? ⟨w.heap.size + 1, 3, none⟩ = some (.int .i64 0) := cell_block x5 3
      have r0 := frozen_block x5 0
      have r1 := frozen_block x5 1
      have r2 := frozen_block x5 2
      have r3 := frozen_block x5 3
      have hlast : ∀ i j k l : Int, Below w.heap.size w ((((w5.setCell ⟨w.heap.size + 1, 0, none⟩ (.int .i64 i)).setCell ⟨w.heap.size + 1, 1, none⟩ (.int .i64 j)).setCell ⟨w.heap.size + 1, 2, none⟩ (.int .i64 k)).setCell ⟨w.heap.size + 1, 3, none⟩ (.int .i64 l)) := fun i j k l =>
        (((((hbw.trans (hbv.mono (by omega))).drew.trans (hk.mono (by have := hbv.size; show _ ≤ v.heap.size; omega))).setCell (by simp) _).setCell (by simp) _).setCell (by simp) _).setCell (by simp) _
      go_wp2_with (first | ((with_reducible refine Calmly.is_fl ?_); refine Calmly.mix_fl rfl ?_ (fun _ _ => ?_); (first | exact .move _ | exact .load _ _ | exact .fieldAddr _ _ _ (by kernel_rfl) | exact .assign _ | exact .binOp _ _ _ _ _ rfl | exact .indexAddr _ _ _ | exact .len _ _ (by kernel_rfl) | exact .field _ _ _ | exact .extract _ _ | exact .pick _ _ _ | exact .build _ _ | exact .slice _ _ _ _ _ | exact .unOp _ _ _ rfl | exact .index _ _ _ | exact .max _ _ _ rfl rfl | exact .min _ _ _ rfl rfl)) | ((with_reducible refine Calmly.is_gl ?_); refine Calmly.mix_gl rfl rfl rfl ?_; first | ((first | with_reducible refine Calmly.gl_tt ?_ (fun _ _ => ?_) | with_reducible refine Calmly.gl_ff ?_ (fun _ _ => ?_)); (first | exact .move _ | exact .load _ _ | exact .fieldAddr _ _ _ (by kernel_rfl) | exact .assign _ | exact .binOp _ _ _ _ _ rfl | exact .indexAddr _ _ _ | exact .len _ _ (by kernel_rfl) | exact .field _ _ _ | exact .extract _ _ | exact .pick _ _ _ | exact .build _ _ | exact .slice _ _ _ _ _ | exact .unOp _ _ _ rfl | exact .index _ _ _ | exact .max _ _ _ rfl rfl | exact .min _ _ _ rfl rfl)) | with_reducible refine Calmly.gl_tf (fun _ _ => ?_) | with_reducible refine Calmly.gl_ft (fun _ _ => ?_)) | ((with_reducible refine Calmly.is_eff ?_); refine Calmly.mix_eff rfl (fun _ _ => ?_)) | ((with_reducible refine Calmly.is_gf ?_); refine Calmly.mix_gf rfl rfl rfl ?_; first | with_reducible refine Calmly.gf_tt (fun _ _ => ?_) | with_reducible refine Calmly.gf_ff (fun _ _ => ?_) | with_reducible refine Calmly.gf_tf (kept_of hk) (fun _ _ => ?_) | with_reducible refine Calmly.gf_ft (kept_of hk) (fun _ _ => ?_)) | ((with_reducible refine Calmly.is_tail ?_); first | refine Calmly.mix_tail_nil ?_ | refine Calmly.mix_tail rfl (fun _ _ => ?_)) | ((with_reducible refine Calmly.is_kept ?_); refine ⟨kept_of hk, ?_⟩) | (with_reducible refine Calmly.mix_alt ?_ ?_))
      have hpq := HPQ.out
      simp only [Prod.mk.injEq] at hpq
      rw [hpq.1, hpq.2]
      dsimp only
      have hx4 := set4 (x := .int .i64 p) (y := .int .i64 q) (z := .int .i64 r) (u := .int .i64 s) x5
      have t0 := cell_block hx4 0
      have t1 := cell_block hx4 1
      have t2 := cell_block hx4 2
      have t3 := cell_block hx4 3
      simp only [List.getElem?_toArray, List.getElem?_cons_zero, List.getElem?_cons_succ] at t0 t1 t2 t3
      refine bodyPost_ret (v := .tuple #[.agg #[.int .i64 p, .int .i64 q, .int .i64 r, .int .i64 s], .bool true]) (by simp [results, Try.results69, go_sem, t0, t1, t2, t3]) rfl ⟨rfl, hlast _ _ _ _⟩

set_option maxRecDepth 100000 in
set_option maxHeartbeats 4000000 in
theorem rPeriod_any (a : Option Addr) (n c : Nat) (xs : List Int) (off p q r s : Int) (b : Bool) (w : World) (h1 : SI w a n c xs) (hE : decayE xs off = 0) (hz : b = false → (crossF off 0 (-1) xs).length < 2 ∧ p = 0 ∧ q = 0 ∧ r = 0 ∧ s = 0) (hok : b = true → 2 ≤ (crossF off 0 (-1) xs).length ∧ periodF xs off = ((p, q), (r, s))) :
    Calls Try.prog 68 #[.agg #[.slice a n c, .int .i64 off]] w fun e w' => e = .returned (.tuple #[.agg #[.int .i64 p, .int .i64 q, .int .i64 r, .int .i64 s], .bool b]) ∧ Below w.heap.size w w' := by
  have hb : Below w.heap.size w ((w.alloc (.cells #[.slice a n c, .int .i64 off] 87)).alloc (.cells #[.int .i64 0, .int .i64 0, .int .i64 0, .int .i64 0] 93)) := ((Below.refl _ _).alloc (Nat.le_refl _) _).alloc (by simp) _
  have HZ := Lib.hid hz
  have HOK := Lib.hid hok
  clear hz hok
  go_enter Try.func68, Try.ntmps68
  go_wp2_with fail
  refine (Crossings_any a n c xs off _ (h1.keep hb) hE).mono ?_
  rintro e w1 ⟨a', L, c', rfl, hown, hb1⟩
  obtain ⟨x1, x2⟩ := box2 (w := w) (o := .cells #[.slice a n c, .int .i64 off] 87) (o' := .cells #[.int .i64 0, .int .i64 0, .int .i64 0, .int .i64 0] 93) hb1
  have hs0 := blk_lt x1
  have hs1 := blk_lt x2
  have hbw : Below w.heap.size w w1 := hb.trans (hb1.mono (by simp; omega))
  have hlen := hown.len
  have hLm : L ≤ 100 := by
      have := crossF_len off 0 (-1) xs
      have := (decayE_ok hE).2.1
      omega
  cases b
  · obtain ⟨hs2, rfl, rfl, rfl, rfl⟩ := HZ.out rfl
    have hL2 : (L : Int) < 2 := by omega
    clear hlen
    have hx4 := set4 (x := .int .i64 0) (y := .int .i64 0) (z := .int .i64 0) (u := .int .i64 0) x2
    have g0 : w1.cell? ⟨w.heap.size + 1, 0, none⟩ = some (.int .i64 0) := cell_block x2 0
    have g1 : w1.cell? ⟨w.heap.size + 1, 1, none⟩ = some (.int .i64 0) := cell_block x2 1
    have g2 : w1.cell? ⟨w.heap.size + 1, 2, none⟩ = some (.int .i64 0) := cell_block x2 2
    have g3 : w1.cell? ⟨w.heap.size + 1, 3, none⟩ = some (.int .i64 0) := cell_block x2 3
    have r0 := frozen_block x2 0
    have r1 := frozen_block x2 1
    have r2 := frozen_block x2 2
    have r3 := frozen_block x2 3
    have t0 := cell_block hx4 0
    have t1 := cell_block hx4 1
    have t2 := cell_block hx4 2
    have t3 := cell_block hx4 3
    simp only [List.getElem?_toArray, List.getElem?_cons_zero, List.getElem?_cons_succ] at t0 t1 t2 t3
    go_wp2_with fail
    refine bodyPost_ret (v := .tuple #[.agg #[.int .i64 0, .int .i64 0, .int .i64 0, .int .i64 0], .bool false]) (by simp [results, Try.results68, go_sem, t0, t1, t2, t3]) rfl ⟨rfl, ?_⟩
    exact (((hbw.setCell (by simp) _).setCell (by simp) _).setCell (by simp) _).setCell (by simp) _
  · obtain ⟨hs2, hpq⟩ := HOK.out rfl
    have hL2 : 2 ≤ L := by omega
    obtain ⟨cb, co, rfl, hcc⟩ := hown.sr.at_ (by omega)
    obtain ⟨e0, e1⟩ := hcc 0 (by omega)
    obtain ⟨e2, e3⟩ := hcc (L - 1) (by omega)
    simp only [Nat.zero_mul, Nat.add_zero] at e0 e1
    obtain ⟨z1, z2, z3, z4⟩ := crossF_at hE 0
    obtain ⟨z5, z6, z7, z8⟩ := crossF_at hE (L - 1)
    unfold periodF at hpq
    dsimp only at hpq
    rw [← hlen] at hpq
    clear hlen
    have HPQ := Lib.hid hpq
    clear hpq
    obtain ⟨p0, hp0⟩ : ∃ p0, (crossF off 0 (-1) xs)[0]?.getD (0, 0) = p0 := ⟨_, rfl⟩
    obtain ⟨p1, hp1⟩ : ∃ p1, (crossF off 0 (-1) xs)[L - 1]?.getD (0, 0) = p1 := ⟨_, rfl⟩
    obtain ⟨x0, y0⟩ := p0
    obtain ⟨x1', y1⟩ := p1
    rw [hp0] at e0 e1 z1 z2 z3 z4 HPQ
    rw [hp1] at e2 e3 z5 z6 z7 z8 HPQ
    clear hp0 hp1 hcc
    dsimp only at e0 e1 e2 e3 z1 z2 z3 z4 z5 z6 z7 z8 HPQ
    have hlt := cell_lt e0
    have HDE := Lib.hid hE
    clear hE
    have hLi : ((L : Int) - 1).toNat = L - 1 := by omega
    have hL0 : (1 : Int) ≤ (L : Int) := by omega
    have hL1 : (2 : Int) ≤ (L : Int) := by omega
    have hLL : (0 : Int) < (L : Int) := by omega
    go_wp2_with fail
    refine Calmly.wp_region_mix 16 (.fl 0 <| .fl 1 <| .fl 2 <| .fl 3 <| .fl 4 <| .fl 5 <| .fl 6 <| .fl 7 <| .fl 8 <| .fl 9 <| .fl 10 <| .fl 11 <| .alt 12 (.eff 13 <| .eff 14 <| .eff 15 <| .tail [16]) (.eff 13 (.eff 12 <| .eff 14 <| .eff 15 <| .tail [16]))) (by kernel_rfl) (by kernel_rfl) ?_
    have hk := Below.refl w1.drew.heap.size w1.drew
    go_wp2_with (first | ((with_reducible refine Calmly.is_fl ?_); refine Calmly.mix_fl rfl ?_ (fun _ _ => ?_); (first | exact .move _ | exact .load _ _ | exact .fieldAddr _ _ _ (by kernel_rfl) | exact .assign _ | exact .binOp _ _ _ _ _ rfl | exact .indexAddr _ _ _ | exact .len _ _ (by kernel_rfl) | exact .field _ _ _ | exact .extract _ _ | exact .pick _ _ _ | exact .build _ _ | exact .slice _ _ _ _ _ | exact .unOp _ _ _ rfl | exact .index _ _ _ | exact .max _ _ _ rfl rfl | exact .min _ _ _ rfl rfl)) | ((with_reducible refine Calmly.is_gl ?_); refine Calmly.mix_gl rfl rfl rfl ?_; first | ((first | with_reducible refine Calmly.gl_tt ?_ (fun _ _ => ?_) | with_reducible refine Calmly.gl_ff ?_ (fun _ _ => ?_)); (first | exact .move _ | exact .load _ _ | exact .fieldAddr _ _ _ (by kernel_rfl) | exact .assign _ | exact .binOp _ _ _ _ _ rfl | exact .indexAddr _ _ _ | exact .len _ _ (by kernel_rfl) | exact .field _ _ _ | exact .extract _ _ | exact .pick _ _ _ | exact .build _ _ | exact .slice _ _ _ _ _ | exact .unOp _ _ _ rfl | exact .index _ _ _ | exact .max _ _ _ rfl rfl | exact .min _ _ _ rfl rfl)) | with_reducible refine Calmly.gl_tf (fun _ _ => ?_) | with_reducible refine Calmly.gl_ft (fun _ _ => ?_)) | ((with_reducible refine Calmly.is_eff ?_); refine Calmly.mix_eff rfl (fun _ _ => ?_)) | ((with_reducible refine Calmly.is_gf ?_); refine Calmly.mix_gf rfl rfl rfl ?_; first | with_reducible refine Calmly.gf_tt (fun _ _ => ?_) | with_reducible refine Calmly.gf_ff (fun _ _ => ?_) | with_reducible refine Calmly.gf_tf (kept_of hk) (fun _ _ => ?_) | with_reducible refine Calmly.gf_ft (kept_of hk) (fun _ _ => ?_)) | ((with_reducible refine Calmly.is_kept ?_); refine ⟨kept_of hk, ?_⟩) | (with_reducible refine Calmly.mix_alt ?_ ?_) | (refine kept_alloc hk (fun hk' hblk hge => ?_); replace hk := hk'; clear hk'))
    all_goals (refine ⟨kept_two _ _ _, ?_⟩; go_wp2_with (first | ((with_reducible refine Calmly.is_fl ?_); refine Calmly.mix_fl rfl ?_ (fun _ _ => ?_); (first | exact .move _ | exact .load _ _ | exact .fieldAddr _ _ _ (by kernel_rfl) | exact .assign _ | exact .binOp _ _ _ _ _ rfl | exact .indexAddr _ _ _ | exact .len _ _ (by kernel_rfl) | exact .field _ _ _ | exact .extract _ _ | exact .pick _ _ _ | exact .build _ _ | exact .slice _ _ _ _ _ | exact .unOp _ _ _ rfl | exact .index _ _ _ | exact .max _ _ _ rfl rfl | exact .min _ _ _ rfl rfl)) | ((with_reducible refine Calmly.is_gl ?_); refine Calmly.mix_gl rfl rfl rfl ?_; first | ((first | with_reducible refine Calmly.gl_tt ?_ (fun _ _ => ?_) | with_reducible refine Calmly.gl_ff ?_ (fun _ _ => ?_)); (first | exact .move _ | exact .load _ _ | exact .fieldAddr _ _ _ (by kernel_rfl) | exact .assign _ | exact .binOp _ _ _ _ _ rfl | exact .indexAddr _ _ _ | exact .len _ _ (by kernel_rfl) | exact .field _ _ _ | exact .extract _ _ | exact .pick _ _ _ | exact .build _ _ | exact .slice _ _ _ _ _ | exact .unOp _ _ _ rfl | exact .index _ _ _ | exact .max _ _ _ rfl rfl | exact .min _ _ _ rfl rfl)) | with_reducible refine Calmly.gl_tf (fun _ _ => ?_) | with_reducible refine Calmly.gl_ft (fun _ _ => ?_)) | ((with_reducible refine Calmly.is_eff ?_); refine Calmly.mix_eff rfl (fun _ _ => ?_)) | ((with_reducible refine Calmly.is_gf ?_); refine Calmly.mix_gf rfl rfl rfl ?_; first | with_reducible refine Calmly.gf_tt (fun _ _ => ?_) | with_reducible refine Calmly.gf_ff (fun _ _ => ?_) | with_reducible refine Calmly.gf_tf (kept_of hk) (fun _ _ => ?_) | with_reducible refine Calmly.gf_ft (kept_of hk) (fun _ _ => ?_)) | ((with_reducible refine Calmly.is_tail ?_); first | refine Calmly.mix_tail_nil ?_ | refine Calmly.mix_tail rfl (fun _ _ => ?_)) | ((with_reducible refine Calmly.is_kept ?_); refine ⟨kept_of hk, ?_⟩) | (with_reducible refine Calmly.mix_alt ?_ ?_)))
    all_goals (refine ⟨kept_two _ _ _, ?_⟩; go_wp2_with (first | ((with_reducible refine Calmly.is_fl ?_); refine Calmly.mix_fl rfl ?_ (fun _ _ => ?_); (first | exact .move _ | exact .load _ _ | exact .fieldAddr _ _ _ (by kernel_rfl) | exact .assign _ | exact .binOp _ _ _ _ _ rfl | exact .indexAddr _ _ _ | exact .len _ _ (by kernel_rfl) | exact .field _ _ _ | exact .extract _ _ | exact .pick _ _ _ | exact .build _ _ | exact .slice _ _ _ _ _ | exact .unOp _ _ _ rfl | exact .index _ _ _ | exact .max _ _ _ rfl rfl | exact .min _ _ _ rfl rfl)) | ((with_reducible refine Calmly.is_gl ?_); refine Calmly.mix_gl rfl rfl rfl ?_; first | ((first | with_reducible refine Calmly.gl_tt ?_ (fun _ _ => ?_) | with_reducible refine Calmly.gl_ff ?_ (fun _ _ => ?_)); (first | exact .move _ | exact .load _ _ | exact .fieldAddr _ _ _ (by kernel_rfl) | exact .assign _ | exact .binOp _ _ _ _ _ rfl | exact .indexAddr _ _ _ | exact .len _ _ (by kernel_rfl) | exact .field _ _ _ | exact .extract _ _ | exact .pick _ _ _ | exact .build _ _ | exact .slice _ _ _ _ _ | exact .unOp _ _ _ rfl | exact .index _ _ _ | exact .max _ _ _ rfl rfl | exact .min _ _ _ rfl rfl)) | with_reducible refine Calmly.gl_tf (fun _ _ => ?_) | with_reducible refine Calmly.gl_ft (fun _ _ => ?_)) | ((with_reducible refine Calmly.is_eff ?_); refine Calmly.mix_eff rfl (fun _ _ => ?_)) | ((with_reducible refine Calmly.is_gf ?_); refine Calmly.mix_gf rfl rfl rfl ?_; first | with_reducible refine Calmly.gf_tt (fun _ _ => ?_) | with_reducible refine Calmly.gf_ff (fun _ _ => ?_) | with_reducible refine Calmly.gf_tf (kept_of hk) (fun _ _ => ?_) | with_reducible refine Calmly.gf_ft (kept_of hk) (fun _ _ => ?_)) | ((with_reducible refine Calmly.is_tail ?_); first | refine Calmly.mix_tail_nil ?_ | refine Calmly.mix_tail rfl (fun _ _ => ?_)) | ((with_reducible refine Calmly.is_kept ?_); refine ⟨kept_of hk, ?_⟩) | (with_reducible refine Calmly.mix_alt ?_ ?_)))
    · refine wp_gen (fun v => Below w1.heap.size w1 v ∧ w1.heap.size < v.heap.size ∧ w1.heap.size + 1 < v.heap.size ∧ v.heap[w1.heap.size]? = some (.cells #[.int .i64 x0, .int .i64 y0] 63) ∧ v.heap[w1.heap.size + 1]? = some (.cells #[.int .i64 x1', .int .i64 y1] 63)) ?_ ?_
      · obtain ⟨hq1, hq2⟩ := allocs_below [(.cells #[.int .i64 x0, .int .i64 y0] 63), (.cells #[.int .i64 x1', .int .i64 y1] 63)] w1
        have hq3 := allocs_at [(.cells #[.int .i64 x0, .int .i64 y0] 63), (.cells #[.int .i64 x1', .int .i64 y1] 63)] w1
        simp only [List.length_cons, List.length_nil, Nat.reduceAdd] at hq2
        exact ⟨hq1.drew, by show _ < (List.foldl World.alloc w1 [(.cells #[.int .i64 x0, .int .i64 y0] 63), (.cells #[.int .i64 x1', .int .i64 y1] 63)]).heap.size; omega, by show _ < (List.foldl World.alloc w1 [(.cells #[.int .i64 x0, .int .i64 y0] 63), (.cells #[.int .i64 x1', .int .i64 y1] 63)]).heap.size; omega, hq3 0 (by simp), hq3 1 (by simp)⟩
      rintro v ⟨hbv, hsv2, hsv3, hv2, hv3⟩
      have d0 : v.cell? ⟨w1.heap.size, 0, none⟩ = some (.int .i64 x0) := cell_block hv2 0
      have d1 : v.cell? ⟨w1.heap.size, 1, none⟩ = some (.int .i64 y0) := cell_block hv2 1
      have d2 : v.cell? ⟨w1.heap.size + 1, 0, none⟩ = some (.int .i64 x1') := cell_block hv3 0
      have d3 : v.cell? ⟨w1.heap.size + 1, 1, none⟩ = some (.int .i64 y1) := cell_block hv3 1
      refine Calmly.wp_region_mix 14 (.fl 0 <| .fl 1 <| .fl 2 <| .fl 3 <| .fl 4 <| .fl 5 <| .fl 7 <| .fl 8 <| .fl 9 <| .fl 10 <| .fl 11 <| .fl 12 <| .eff 6 <| .eff 13 <| .tail [14, 15, 16]) (by kernel_rfl) (by kernel_rfl) ?_
      have hk := Below.refl v.drew.heap.size v.drew
      go_wp2_with (first | ((with_reducible refine Calmly.is_fl ?_); refine Calmly.mix_fl rfl ?_ (fun _ _ => ?_); (first | exact .move _ | exact .load _ _ | exact .fieldAddr _ _ _ (by kernel_rfl) | exact .assign _ | exact .binOp _ _ _ _ _ rfl | exact .indexAddr _ _ _ | exact .len _ _ (by kernel_rfl) | exact .field _ _ _ | exact .extract _ _ | exact .pick _ _ _ | exact .build _ _ | exact .slice _ _ _ _ _ | exact .unOp _ _ _ rfl | exact .index _ _ _ | exact .max _ _ _ rfl rfl | exact .min _ _ _ rfl rfl)) | ((with_reducible refine Calmly.is_gl ?_); refine Calmly.mix_gl rfl rfl rfl ?_; first | ((first | with_reducible refine Calmly.gl_tt ?_ (fun _ _ => ?_) | with_reducible refine Calmly.gl_ff ?_ (fun _ _ => ?_)); (first | exact .move _ | exact .load _ _ | exact .fieldAddr _ _ _ (by kernel_rfl) | exact .assign _ | exact .binOp _ _ _ _ _ rfl | exact .indexAddr _ _ _ | exact .len _ _ (by kernel_rfl) | exact .field _ _ _ | exact .extract _ _ | exact .pick _ _ _ | exact .build _ _ | exact .slice _ _ _ _ _ | exact .unOp _ _ _ rfl | exact .index _ _ _ | exact .max _ _ _ rfl rfl | exact .min _ _ _ rfl rfl)) | with_reducible refine Calmly.gl_tf (fun _ _ => ?_) | with_reducible refine Calmly.gl_ft (fun _ _ => ?_)) | ((with_reducible refine Calmly.is_eff ?_); refine Calmly.mix_eff rfl (fun _ _ => ?_)) | ((with_reducible refine Calmly.is_gf ?_); refine Calmly.mix_gf rfl rfl rfl ?_; first | with_reducible refine Calmly.gf_tt (fun _ _ => ?_) | with_reducible refine Calmly.gf_ff (fun _ _ => ?_) | with_reducible refine Calmly.gf_tf (kept_of hk) (fun _ _ => ?_) | with_reducible refine Calmly.gf_ft (kept_of hk) (fun _ _ => ?_)) | ((with_reducible refine Calmly.is_tail ?_); first | refine Calmly.mix_tail_nil ?_ | refine Calmly.mix_tail rfl (fun _ _ => ?_)) | ((with_reducible refine Calmly.is_kept ?_); refine ⟨kept_of hk, ?_⟩) | (with_reducible refine Calmly.mix_alt ?_ ?_))
      refine (Lowest_any _ _ _ (by omega) (by omega) (by omega) (by omega)).mono ?_
      rintro e w4 ⟨rfl, hb4⟩
      replace hk := step_of hk hb4
      go_wp2_with (first | ((with_reducible refine Calmly.is_fl ?_); refine Calmly.mix_fl rfl ?_ (fun _ _ => ?_); (first | exact .move _ | exact .load _ _ | exact .fieldAddr _ _ _ (by kernel_rfl) | exact .assign _ | exact .binOp _ _ _ _ _ rfl | exact .indexAddr _ _ _ | exact .len _ _ (by kernel_rfl) | exact .field _ _ _ | exact .extract _ _ | exact .pick _ _ _ | exact .build _ _ | exact .slice _ _ _ _ _ | exact .unOp _ _ _ rfl | exact .index _ _ _ | exact .max _ _ _ rfl rfl | exact .min _ _ _ rfl rfl)) | ((with_reducible refine Calmly.is_gl ?_); refine Calmly.mix_gl rfl rfl rfl ?_; first | ((first | with_reducible refine Calmly.gl_tt ?_ (fun _ _ => ?_) | with_reducible refine Calmly.gl_ff ?_ (fun _ _ => ?_)); (first | exact .move _ | exact .load _ _ | exact .fieldAddr _ _ _ (by kernel_rfl) | exact .assign _ | exact .binOp _ _ _ _ _ rfl | exact .indexAddr _ _ _ | exact .len _ _ (by kernel_rfl) | exact .field _ _ _ | exact .extract _ _ | exact .pick _ _ _ | exact .build _ _ | exact .slice _ _ _ _ _ | exact .unOp _ _ _ rfl | exact .index _ _ _ | exact .max _ _ _ rfl rfl | exact .min _ _ _ rfl rfl)) | with_reducible refine Calmly.gl_tf (fun _ _ => ?_) | with_reducible refine Calmly.gl_ft (fun _ _ => ?_)) | ((with_reducible refine Calmly.is_eff ?_); refine Calmly.mix_eff rfl (fun _ _ => ?_)) | ((with_reducible refine Calmly.is_gf ?_); refine Calmly.mix_gf rfl rfl rfl ?_; first | with_reducible refine Calmly.gf_tt (fun _ _ => ?_) | with_reducible refine Calmly.gf_ff (fun _ _ => ?_) | with_reducible refine Calmly.gf_tf (kept_of hk) (fun _ _ => ?_) | with_reducible refine Calmly.gf_ft (kept_of hk) (fun _ _ => ?_)) | ((with_reducible refine Calmly.is_tail ?_); first | refine Calmly.mix_tail_nil ?_ | refine Calmly.mix_tail rfl (fun _ _ => ?_)) | ((with_reducible refine Calmly.is_kept ?_); refine ⟨kept_of hk, ?_⟩) | (with_reducible refine Calmly.mix_alt ?_ ?_))
      refine (Lowest_any _ _ _ (by omega) (by omega) (by omega) (by omega)).mono ?_
      rintro e w5 ⟨rfl, hb5⟩
      replace hk := step_of hk hb5
      have x2v := blk_keep x2 hbv
      have x5 := blk_keep (w := v.drew) x2v hk
      have g0 : w5.cell? ⟨w.heap.size + 1, 0, none⟩ = some (.int .i64 0) := cell_block x5 0
      have g1 : w5.cell? ⟨w.heap.size + 1, 1, none⟩ = some (.int .i64 0) := cell_block x5 1
      have g2 : w5.cell? ⟨w.heap.size + 1, 2, none⟩ = some (.int .i64 0) := cell_block x5 2
      have g3 : w5.cell? ⟨w.heap.size + 1, 3, none⟩ = some (.int .i64 0) := cell_block x5 3
      have r0 := frozen_block x5 0
      have r1 := frozen_block x5 1
      have r2 := frozen_block x5 2
      have r3 := frozen_block x5 3
      have hlast : ∀ i j k l : Int, Below w.heap.size w ((((w5.setCell ⟨w.heap.size + 1, 0, none⟩ (.int .i64 i)).setCell ⟨w.heap.size + 1, 1, none⟩ (.int .i64 j)).setCell ⟨w.heap.size + 1, 2, none⟩ (.int .i64 k)).setCell ⟨w.heap.size + 1, 3, none⟩ (.int .i64 l)) := fun i j k l =>
        (((((hbw.trans (hbv.mono (by omega))).drew.trans (hk.mono (by have := hbv.size; show _ ≤ v.heap.size; omega))).setCell (by simp) _).setCell (by simp) _).setCell (by simp) _).setCell (by simp) _
      go_wp2_with (first | ((with_reducible refine Calmly.is_fl ?_); refine Calmly.mix_fl rfl ?_ (fun _ _ => ?_); (first | exact .move _ | exact .load _ _ | exact .fieldAddr _ _ _ (by kernel_rfl) | exact .assign _ | exact .binOp _ _ _ _ _ rfl | exact .indexAddr _ _ _ | exact .len _ _ (by kernel_rfl) | exact .field _ _ _ | exact .extract _ _ | exact .pick _ _ _ | exact .build _ _ | exact .slice _ _ _ _ _ | exact .unOp _ _ _ rfl | exact .index _ _ _ | exact .max _ _ _ rfl rfl | exact .min _ _ _ rfl rfl)) | ((with_reducible refine Calmly.is_gl ?_); refine Calmly.mix_gl rfl rfl rfl ?_; first | ((first | with_reducible refine Calmly.gl_tt ?_ (fun _ _ => ?_) | with_reducible refine Calmly.gl_ff ?_ (fun _ _ => ?_)); (first | exact .move _ | exact .load _ _ | exact .fieldAddr _ _ _ (by kernel_rfl) | exact .assign _ | exact .binOp _ _ _ _ _ rfl | exact .indexAddr _ _ _ | exact .len _ _ (by kernel_rfl) | exact .field _ _ _ | exact .extract _ _ | exact .pick _ _ _ | exact .build _ _ | exact .slice _ _ _ _ _ | exact .unOp _ _ _ rfl | exact .index _ _ _ | exact .max _ _ _ rfl rfl | exact .min _ _ _ rfl rfl)) | with_reducible refine Calmly.gl_tf (fun _ _ => ?_) | with_reducible refine Calmly.gl_ft (fun _ _ => ?_)) | ((with_reducible refine Calmly.is_eff ?_); refine Calmly.mix_eff rfl (fun _ _ => ?_)) | ((with_reducible refine Calmly.is_gf ?_); refine Calmly.mix_gf rfl rfl rfl ?_; first | with_reducible refine Calmly.gf_tt (fun _ _ => ?_) | with_reducible refine Calmly.gf_ff (fun _ _ => ?_) | with_reducible refine Calmly.gf_tf (kept_of hk) (fun _ _ => ?_) | with_reducible refine Calmly.gf_ft (kept_of hk) (fun _ _ => ?_)) | ((with_reducible refine Calmly.is_tail ?_); first | refine Calmly.mix_tail_nil ?_ | refine Calmly.mix_tail rfl (fun _ _ => ?_)) | ((with_reducible refine Calmly.is_kept ?_); refine ⟨kept_of hk, ?_⟩) | (with_reducible refine Calmly.mix_alt ?_ ?_))
      have hpq := HPQ.out
      rw [show ((L - 1 : Nat) : Int) = (L : Int) - 1 by omega] at hpq
      simp only [Prod.mk.injEq] at hpq
      rw [hpq.1, hpq.2]
      dsimp only
      have hx4 := set4 (x := .int .i64 p) (y := .int .i64 q) (z := .int .i64 r) (u := .int .i64 s) x5
      have t0 := cell_block hx4 0
      have t1 := cell_block hx4 1
      have t2 := cell_block hx4 2
      have t3 := cell_block hx4 3
      simp only [List.getElem?_toArray, List.getElem?_cons_zero, List.getElem?_cons_succ] at t0 t1 t2 t3
      refine bodyPost_ret (v := .tuple #[.agg #[.int .i64 p, .int .i64 q, .int .i64 r, .int .i64 s], .bool true]) (by simp [results, Try.results68, go_sem, t0, t1, t2, t3]) rfl ⟨rfl, hlast _ _ _ _⟩
    · refine wp_gen (fun v => Below w1.heap.size w1 v ∧ w1.heap.size < v.heap.size ∧ w1.heap.size + 1 < v.heap.size ∧ v.heap[w1.heap.size]? = some (.cells #[.int .i64 x1', .int .i64 y1] 63) ∧ v.heap[w1.heap.size + 1]? = some (.cells #[.int .i64 x0, .int .i64 y0] 63)) ?_ ?_
      · obtain ⟨hq1, hq2⟩ := allocs_below [(.cells #[.int .i64 x1', .int .i64 y1] 63), (.cells #[.int .i64 x0, .int .i64 y0] 63)] w1
        have hq3 := allocs_at [(.cells #[.int .i64 x1', .int .i64 y1] 63), (.cells #[.int .i64 x0, .int .i64 y0] 63)] w1
        simp only [List.length_cons, List.length_nil, Nat.reduceAdd] at hq2
        exact ⟨hq1.drew, by show _ < (List.foldl World.alloc w1 [(.cells #[.int .i64 x1', .int .i64 y1] 63), (.cells #[.int .i64 x0, .int .i64 y0] 63)]).heap.size; omega, by show _ < (List.foldl World.alloc w1 [(.cells #[.int .i64 x1', .int .i64 y1] 63), (.cells #[.int .i64 x0, .int .i64 y0] 63)]).heap.size; omega, hq3 0 (by simp), hq3 1 (by simp)⟩
      rintro v ⟨hbv, hsv2, hsv3, hv2, hv3⟩
      have d0 : v.cell? ⟨w1.heap.size, 0, none⟩ = some (.int .i64 x1') := cell_block hv2 0
      have d1 : v.cell? ⟨w1.heap.size, 1, none⟩ = some (.int .i64 y1) := cell_block hv2 1
      have d2 : v.cell? ⟨w1.heap.size + 1, 0, none⟩ = some (.int .i64 x0) := cell_block hv3 0
      have d3 : v.cell? ⟨w1.heap.size + 1, 1, none⟩ = some (.int .i64 y0) := cell_block hv3 1
      refine Calmly.wp_region_mix 14 (.fl 0 <| .fl 1 <| .fl 2 <| .fl 3 <| .fl 4 <| .fl 5 <| .fl 7 <| .fl 8 <| .fl 9 <| .fl 10 <| .fl 11 <| .fl 12 <| .eff 6 <| .eff 13 <| .tail [14, 15, 16]) (by kernel_rfl) (by kernel_rfl) ?_
      have hk := Below.refl v.drew.heap.size v.drew
      go_wp2_with (first | ((with_reducible refine Calmly.is_fl ?_); refine Calmly.mix_fl rfl ?_ (fun _ _ => ?_); (first | exact .move _ | exact .load _ _ | exact .fieldAddr _ _ _ (by kernel_rfl) | exact .assign _ | exact .binOp _ _ _ _ _ rfl | exact .indexAddr _ _ _ | exact .len _ _ (by kernel_rfl) | exact .field _ _ _ | exact .extract _ _ | exact .pick _ _ _ | exact .build _ _ | exact .slice _ _ _ _ _ | exact .unOp _ _ _ rfl | exact .index _ _ _ | exact .max _ _ _ rfl rfl | exact .min _ _ _ rfl rfl)) | ((with_reducible refine Calmly.is_gl ?_); refine Calmly.mix_gl rfl rfl rfl ?_; first | ((first | with_reducible refine Calmly.gl_tt ?_ (fun _ _ => ?_) | with_reducible refine Calmly.gl_ff ?_ (fun _ _ => ?_)); (first | exact .move _ | exact .load _ _ | exact .fieldAddr _ _ _ (by kernel_rfl) | exact .assign _ | exact .binOp _ _ _ _ _ rfl | exact .indexAddr _ _ _ | exact .len _ _ (by kernel_rfl) | exact .field _ _ _ | exact .extract _ _ | exact .pick _ _ _ | exact .build _ _ | exact .slice _ _ _ _ _ | exact .unOp _ _ _ rfl | exact .index _ _ _ | exact .max _ _ _ rfl rfl | exact .min _ _ _ rfl rfl)) | with_reducible refine Calmly.gl_tf (fun _ _ => ?_) | with_reducible refine Calmly.gl_ft (fun _ _ => ?_)) | ((with_reducible refine Calmly.is_eff ?_); refine Calmly.mix_eff rfl (fun _ _ => ?_)) | ((with_reducible refine Calmly.is_gf ?_); refine Calmly.mix_gf rfl rfl rfl ?_; first | with_reducible refine Calmly.gf_tt (fun _ _ => ?_) | with_reducible refine Calmly.gf_ff (fun _ _ => ?_) | with_reducible refine Calmly.gf_tf (kept_of hk) (fun _ _ => ?_) | with_reducible refine Calmly.gf_ft (kept_of hk) (fun _ _ => ?_)) | ((with_reducible refine Calmly.is_tail ?_); first | refine Calmly.mix_tail_nil ?_ | refine Calmly.mix_tail rfl (fun _ _ => ?_)) | ((with_reducible refine Calmly.is_kept ?_); refine ⟨kept_of hk, ?_⟩) | (with_reducible refine Calmly.mix_alt ?_ ?_))
      refine (Lowest_any _ _ _ (by omega) (by omega) (by omega) (by omega)).mono ?_
      rintro e w4 ⟨rfl, hb4⟩
      replace hk := step_of hk hb4
      go_wp2_with (first | ((with_reducible refine Calmly.is_fl ?_); refine Calmly.mix_fl rfl ?_ (fun _ _ => ?_); (first | exact .move _ | exact .load _ _ | exact .fieldAddr _ _ _ (by kernel_rfl) | exact .assign _ | exact .binOp _ _ _ _ _ rfl | exact .indexAddr _ _ _ | exact .len _ _ (by kernel_rfl) | exact .field _ _ _ | exact .extract _ _ | exact .pick _ _ _ | exact .build _ _ | exact .slice _ _ _ _ _ | exact .unOp _ _ _ rfl | exact .index _ _ _ | exact .max _ _ _ rfl rfl | exact .min _ _ _ rfl rfl)) | ((with_reducible refine Calmly.is_gl ?_); refine Calmly.mix_gl rfl rfl rfl ?_; first | ((first | with_reducible refine Calmly.gl_tt ?_ (fun _ _ => ?_) | with_reducible refine Calmly.gl_ff ?_ (fun _ _ => ?_)); (first | exact .move _ | exact .load _ _ | exact .fieldAddr _ _ _ (by kernel_rfl) | exact .assign _ | exact .binOp _ _ _ _ _ rfl | exact .indexAddr _ _ _ | exact .len _ _ (by kernel_rfl) | exact .field _ _ _ | exact .extract _ _ | exact .pick _ _ _ | exact .build _ _ | exact .slice _ _ _ _ _ | exact .unOp _ _ _ rfl | exact .index _ _ _ | exact .max _ _ _ rfl rfl | exact .min _ _ _ rfl rfl)) | with_reducible refine Calmly.gl_tf (fun _ _ => ?_) | with_reducible refine Calmly.gl_ft (fun _ _ => ?_)) | ((with_reducible refine Calmly.is_eff ?_); refine Calmly.mix_eff rfl (fun _ _ => ?_)) | ((with_reducible refine Calmly.is_gf ?_); refine Calmly.mix_gf rfl rfl rfl ?_; first | with_reducible refine Calmly.gf_tt (fun _ _ => ?_) | with_reducible refine Calmly.gf_ff (fun _ _ => ?_) | with_reducible refine Calmly.gf_tf (kept_of hk) (fun _ _ => ?_) | with_reducible refine Calmly.gf_ft (kept_of hk) (fun _ _ => ?_)) | ((with_reducible refine Calmly.is_tail ?_); first | refine Calmly.mix_tail_nil ?_ | refine Calmly.mix_tail rfl (fun _ _ => ?_)) | ((with_reducible refine Calmly.is_kept ?_); refine ⟨kept_of hk, ?_⟩) | (with_reducible refine Calmly.mix_alt ?_ ?_))
      refine (Lowest_any _ _ _ (by omega) (by omega) (by omega) (by omega)).mono ?_
      rintro e w5 ⟨rfl, hb5⟩
      replace hk := step_of hk hb5
      have x2v := blk_keep x2 hbv
      have x5 := blk_keep (w := v.drew) x2v hk
      have g0 : w5.cell? ⟨w.heap.size + 1, 0, none⟩ = some (.int .i64 0) := cell_block x5 0
      have g1 : w5.cell? ⟨w.heap.size + 1, 1, none⟩ = some (.int .i64 0) := cell_block x5 1
      have g2 : w5.cell? ⟨w.heap.size + 1, 2, none⟩ = some (.int .i64 0) := cell_block x5 2
      have g3 : w5.cell? ⟨w.heap.size + 1, 3, none⟩ = some (.int .i64 0) := cell_block x5 3
      have r0 := frozen_block x5 0
      have r1 := frozen_block x5 1
      have r2 := frozen_block x5 2
      have r3 := frozen_block x5 3
      have hlast : ∀ i j k l : Int, Below w.heap.size w ((((w5.setCell ⟨w.heap.size + 1, 0, none⟩ (.int .i64 i)).setCell ⟨w.heap.size + 1, 1, none⟩ (.int .i64 j)).setCell ⟨w.heap.size + 1, 2, none⟩ (.int .i64 k)).setCell ⟨w.heap.size + 1, 3, none⟩ (.int .i64 l)) := fun i j k l =>
        (((((hbw.trans (hbv.mono (by omega))).drew.trans (hk.mono (by have := hbv.size; show _ ≤ v.heap.size; omega))).setCell (by simp) _).setCell (by simp) _).setCell (by simp) _).setCell (by simp) _
      go_wp2_with (first | ((with_reducible refine Calmly.is_fl ?_); refine Calmly.mix_fl rfl ?_ (fun _ _ => ?_); (first | exact .move _ | exact .load _ _ | exact .fieldAddr _ _ _ (by kernel_rfl) | exact .assign _ | exact .binOp _ _ _ _ _ rfl | exact .indexAddr _ _ _ | exact .len _ _ (by kernel_rfl) | exact .field _ _ _ | exact .extract _ _ | exact .pick _ _ _ | exact .build _ _ | exact .slice _ _ _ _ _ | exact .unOp _ _ _ rfl | exact .index _ _ _ | exact .max _ _ _ rfl rfl | exact .min _ _ _ rfl rfl)) | ((with_reducible refine Calmly.is_gl ?_); refine Calmly.mix_gl rfl rfl rfl ?_; first | ((first | with_reducible refine Calmly.gl_tt ?_ (fun _ _ => ?_) | with_reducible refine Calmly.gl_ff ?_ (fun _ _ => ?_)); (first | exact .move _ | exact .load _ _ | exact .fieldAddr _ _ _ (by kernel_rfl) | exact .assign _ | exact .binOp _ _ _ _ _ rfl | exact .indexAddr _ _ _ | exact .len _ _ (by kernel_rfl) | exact .field _ _ _ | exact .extract _ _ | exact .pick _ _ _ | exact .build _ _ | exact .slice _ _ _ _ _ | exact .unOp _ _ _ rfl | exact .index _ _ _ | exact .max _ _ _ rfl rfl | exact .min _ _ _ rfl rfl)) | with_reducible refine Calmly.gl_tf (fun _ _ => ?_) | with_reducible refine Calmly.gl_ft (fun _ _ => ?_)) | ((with_reducible refine Calmly.is_eff ?_); refine Calmly.mix_eff rfl (fun _ _ => ?_)) | ((with_reducible refine Calmly.is_gf ?_); refine Calmly.mix_gf rfl rfl rfl ?_; first | with_reducible refine Calmly.gf_tt (fun _ _ => ?_) | with_reducible refine Calmly.gf_ff (fun _ _ => ?_) | with_reducible refine Calmly.gf_tf (kept_of hk) (fun _ _ => ?_) | with_reducible refine Calmly.gf_ft (kept_of hk) (fun _ _ => ?_)) | ((with_reducible refine Calmly.is_tail ?_); first | refine Calmly.mix_tail_nil ?_ | refine Calmly.mix_tail rfl (fun _ _ => ?_)) | ((with_reducible refine Calmly.is_kept ?_); refine ⟨kept_of hk, ?_⟩) | (with_reducible refine Calmly.mix_alt ?_ ?_))
      have hpq := HPQ.out
      rw [show ((L - 1 : Nat) : Int) = (L : Int) - 1 by omega] at hpq
      simp only [Prod.mk.injEq] at hpq
      rw [hpq.1, hpq.2]
      dsimp only
      have hx4 := set4 (x := .int .i64 p) (y := .int .i64 q) (z := .int .i64 r) (u := .int .i64 s) x5
      have t0 := cell_block hx4 0
      have t1 := cell_block hx4 1
      have t2 := cell_block hx4 2
      have t3 := cell_block hx4 3
      simp only [List.getElem?_toArray, List.getElem?_cons_zero, List.getElem?_cons_succ] at t0 t1 t2 t3
      refine bodyPost_ret (v := .tuple #[.agg #[.int .i64 p, .int .i64 q, .int .i64 r, .int .i64 s], .bool true]) (by simp [results, Try.results68, go_sem, t0, t1, t2, t3]) rfl ⟨rfl, hlast _ _ _ _⟩
end Go.Proofs.Ytmaidjankakppaa
