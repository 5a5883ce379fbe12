/- Contracts: numbers of any size as ints, ratios as fractions. The reference's numbers over their smallest common denominator. -/
import Derived.Test.YtfjcfbmfpefabaaGreatK21
namespace Go.Proofs.YtfjcfbmfpefabaaGreat
open Go.RowKit Go.Wides
open Calmly (Kept)
attribute [local go_sem] field_wide0 field_wide1

theorem dv_drop_step (xs : List Int) (k : Nat) (hk : k < xs.length) : dv (xs.drop k) = dv (xs.drop (k + 1)) * 1000000000 + xs[k]?.getD 0 := by
  rw [List.drop_eq_getElem_cons hk, List.getElem?_eq_getElem hk]
  simp only [dv, Option.getD_some]
  omega
theorem sign_mul_dv {xs : List Int} {z : Int} (h : dv xs = z.natAbs) : z.sign * dv xs = z := by rw [h]; exact Int.sign_mul_natAbs z

theorem ret_two2 {a b : Int} {t : Bool} (h : a = b) : Ending.returned (Value.tuple #[.int .i64 a, .bool t]) = .returned (.tuple #[.int .i64 b, .bool t]) := by cases h; rfl

set_option maxRecDepth 100000 in
set_option maxHeartbeats 1000000 in
theorem WideInt_any (s : Int) (a : Option Addr) (n c : Nat) (z : Int) (w : World) (h : WideV w s a n c z) (hz : z.natAbs < 1000000000000000000) :
    Calls Tryz.prog 71 #[.agg #[.int .i64 s, .slice a n c]] w fun e w' => e = .returned (.tuple #[.int .i64 z, .bool true]) ∧ Below w.heap.size w w' := by
  have hb : ∀ o, Below w.heap.size w (w.alloc o) := fun o => (Below.refl _ _).alloc (Nat.le_refl _) _
  have hsb := h.s_bd
  obtain ⟨ds, h1, _, h3, h4, h5, h6⟩ := h
  obtain ⟨l1, l2⟩ : n ≤ ds.length ∧ ds.length ≤ n := by have := h1.len; omega
  have m1 := h1.max
  have c1 := h1.cap
  have hn : n ≤ 2 := by
    rcases Nat.lt_or_ge 2 n with h2 | h2
    · have h7 := dv_ge h3 h4 (by intro h0; rw [h0] at l1; simp at l1; omega)
      have h8 : (1000000000 : Int) ^ 2 ≤ 1000000000 ^ (ds.length - 1) := pow_mono (by omega)
      have h9 : (1000000000 : Int) ^ 2 = 1000000000000000000 := by decide
      omega
    · exact h2
  have HF : s * dv ds = z := by rw [h6]; exact sign_mul_dv h5
  have HFs := Lib.hid HF
  have hd1 : ∀ k, k ≤ n → 1 ≤ k → 0 ≤ dv (ds.drop k) ∧ dv (ds.drop k) < 1000000000 := fun k hk hk1 => by
    have e1 := dv_nonneg (h3.drop k)
    have e2 := dv_lt (h3.drop k)
    have e3 : (1000000000 : Int) ^ (ds.drop k).length ≤ 1000000000 ^ 1 := pow_mono (by simp; omega)
    omega
  have hd0 : 0 ≤ dv ds ∧ dv ds < 1000000000000000000 := by
    have e1 := dv_nonneg h3
    have e2 := dv_lt h3
    have e3 : (1000000000 : Int) ^ ds.length ≤ 1000000000 ^ 2 := pow_mono (by omega)
    have h9 : (1000000000 : Int) ^ 2 = 1000000000000000000 := by decide
    omega
  have hsd : -1000000000000000000 < s * dv ds ∧ s * dv ds < 1000000000000000000 := by
    rcases (by omega : s = -1 ∨ s = 0 ∨ s = 1) with rfl | rfl | rfl <;> omega
  clear h5 h6 h4 HF hz
  go_enter Tryz.func71, Tryz.ntmps71
  go_wp2
  go_loop [4, 5] (fun x i => ∃ k : Nat, k ≤ n ∧ i = .int .i64 ((k : Int) - 1) ∧ ∃ y : Int, x = .int .i64 y ∧ Hid (y = dv (ds.drop k))) (fun _ i => (intOf i + 1).toNat)
  case atStart => exact ⟨n, by omega, rfl, 0, rfl, by rw [List.drop_of_length_le (by omega)]; rfl⟩
  case round =>
    obtain ⟨k, hk, rfl, y, rfl, hy⟩ := hrel
    by_cases hlt : 0 < k
    · obtain ⟨b1, o1, rfl, hc1⟩ := h1.at_ (by omega)
      have e1 := hc1 (k - 1) (by omega)
      clear hc1
      have hyd : 0 ≤ y ∧ y < 1000000000 := by rw [hy.out]; exact hd1 k hk (by omega)
      have hdg := h3.get (k - 1)
      have hst := Lib.hid (dv_drop_step ds (k - 1) (by omega))
      have hi : (k : Int) - 1 < (n : Int) := by omega
      have hi0 : (0 : Int) ≤ (k : Int) - 1 := by omega
      have hi1 : (1 : Int) ≤ (k : Int) := by omega
      have hj : ((k : Int) - 1).toNat = k - 1 := by omega
      have hlt1 := cell_lt e1
      clear hd1 hd0 hsd
      go_wp2_with fail
      go_round
      case rel => exact ⟨k - 1, by omega, by congr 1; omega, _, rfl, by refine Lib.hid ?_; rw [hst.out, show k - 1 + 1 = k from by omega, ← hy.out]⟩
      case measure => simp [intOf]; omega
    · obtain rfl : k = 0 := by omega
      have hy' : y = dv ds := by simpa using hy.out
      clear hd1 hy
      subst hy'
      go_wp2_with fail
      go_ret2
      exact ⟨ret_two2 HFs.out, hb _⟩

/-- A number is stored. -/
theorem wideFin {V : World} {r : Nat} {u0 u1 : Value} {s : Int} {a : Option Addr} {m c : Nat} {z : Int} (X : V.heap[r]? = some (.cells #[u0, u1] 78)) (h1 : WideV V s a m c z) :
    ((V.setCell ⟨r, 0, none⟩ (.int .i64 s)).setCell ⟨r, 1, none⟩ (.slice a m c)).heap[r]? = some (.cells #[.int .i64 s, .slice a m c] 78) ∧
    WideV ((V.setCell ⟨r, 0, none⟩ (.int .i64 s)).setCell ⟨r, 1, none⟩ (.slice a m c)) s a m c z := by
  have hT : BlkT V r 78 := ⟨_, X⟩
  exact ⟨blkSet (blkSet X 0 _) 1 _, (h1.set hT (by decide)).set (hT.set _ _) (by decide)⟩
theorem below2 {B : Nat} {w V : World} {r : Nat} {x y : Value} (h : Below B w V) (hr : B ≤ r) : Below B w ((V.setCell ⟨r, 0, none⟩ x).setCell ⟨r, 1, none⟩ y) :=
  (h.setCell (p := ⟨r, 0, none⟩) hr _).setCell (p := ⟨r, 1, none⟩) hr _

set_option maxRecDepth 100000 in
set_option maxHeartbeats 1000000 in
theorem RatioFloor_any (s1 : Int) (a1 : Option Addr) (n1 c1 : Nat) (s2 : Int) (a2 : Option Addr) (n2 c2 : Nat) (p : Rat) (w : World) (h : RatV w s1 a1 n1 c1 s2 a2 n2 c2 p) (hl1 : n1 ≤ 1000000000) (hl2 : n2 ≤ 1000000000) :
    Calls Tryz.prog 72 #[.agg #[.int .i64 s1, .slice a1 n1 c1, .int .i64 s2, .slice a2 n2 c2]] w fun e w' => ∃ s a m c, e = .returned (.agg #[.int .i64 s, .slice a m c]) ∧ WideV w' s a m c (p.num / (p.den : Int)) ∧ Below w.heap.size w w' := by
  have hb2 : Below w.heap.size w ((w.alloc (.cells #[.int .i64 s1, .slice a1 n1 c1, .int .i64 s2, .slice a2 n2 c2] 80)).alloc (.cells #[.int .i64 0, .slice none 0 0] 78)) := ((Below.refl _ _).alloc (Nat.le_refl _) _).alloc (by simp) _
  have X2 : ((w.alloc (.cells #[.int .i64 s1, .slice a1 n1 c1, .int .i64 s2, .slice a2 n2 c2] 80)).alloc (.cells #[.int .i64 0, .slice none 0 0] 78)).heap[w.heap.size + 1]? = some (.cells #[.int .i64 0, .slice none 0 0] 78) := by
    have := alloc_new (w.alloc (.cells #[.int .i64 s1, .slice a1 n1 c1, .int .i64 s2, .slice a2 n2 c2] 80)) (.cells #[.int .i64 0, .slice none 0 0] 78)
    simp only [World.size_alloc] at this
    exact this
  have hpos : (0 : Int) < (p.den : Int) := by have := p.den_nz; omega
  have H1 := h.1.keep hb2
  have H2 := h.2.keep hb2
  have BW := hb2
  clear hb2 h
  go_enter Tryz.func72, Tryz.ntmps72
  go_wp2_with fail
  refine (WideFloor_any s1 s2 a1 a2 n1 n2 c1 c2 p.num (p.den : Int) _ H1 H2 hpos (by omega) (by omega)).mono ?_
  rintro e w1 ⟨s, a, m, c, rfl, ⟨_, V1⟩, hs⟩
  replace X2 := blk_keep X2 hs
  replace BW := BW.trans (hs.mono BW.size)
  have sX := blk_lt X2
  have x0 := cell_block X2 0
  have x1 := cell_block X2 1
  have f0 := frozen_block X2 0
  have f1 := frozen_block X2 1
  obtain ⟨X4, W1⟩ := wideFin X2 V1
  have r0 := cell_block X4 0
  have r1 := cell_block X4 1
  go_wp2_with fail
  refine bodyPost_ret (v := .agg #[.int .i64 s, .slice a m c]) (by simp [results, Tryz.results72, go_sem, r0, r1]) rfl ⟨_, _, _, _, rfl, W1, below2 BW (by omega)⟩
end Go.Proofs.YtfjcfbmfpefabaaGreat

namespace Go.Proofs.YtfjcfbmfpefabaaGreat
open Go.RowKit Go.Wides
open Calmly (Kept)
theorem field_ratioN (x y z u : Value) (w : World) : (Instr.field 80 (.agg #[x, y, z, u]) 0).run Tryz.prog w = .ok (.agg #[x, y]) w := by kernel_rfl
attribute [local go_sem] field_wide0 field_wide1 field_ratioN

set_option maxRecDepth 100000 in
set_option maxHeartbeats 4000000 in
theorem rCommon_any (a : Option Addr) (n c L B : Nat) (qs : List Rat) (w : World) (hrow : RowQ w B a n c L qs) (hn : n ≤ 24) (hL : 7 ≤ L) (hL2 : L ≤ 1000000) (N : Int) (hN : (lcmQ qs : Int) = N) (hN2 : N ≤ 100000000000000000) (xs : List Int) (hx : comQ qs = xs) (hxb : ∀ j : Nat, -100000000000000000 ≤ xs[j]?.getD 0 ∧ xs[j]?.getD 0 ≤ 100000000000000000) :
    Calls Tryz.prog 41 #[.slice a n c] w fun e w' => ∃ a' c' B', e = .returned (.tuple #[.int .i64 N, .slice a' n c']) ∧ OwI w' B' a' n c' xs ∧ w.heap.size ≤ B' ∧ Below w.heap.size w w' := by
  obtain ⟨l1, l2⟩ : n ≤ qs.length ∧ qs.length ≤ n := by have := hrow.len; omega
  have HX := Lib.hid hx
  have HN := Lib.hid hN
  have HXB := Lib.hid hxb
  clear hx hN hxb
  go_enter Tryz.func41, Tryz.ntmps41
  go_wp2_with fail
  refine (WideOf_any 1 _ (by omega) (by omega)).mono ?_
  rintro e w1 ⟨gs, ga, gm, gc, rfl, ⟨gh, gV⟩, hs⟩
  go_wp2_with fail
  have B2 := hs.alloc hs.size (.cells #[.int .i64 gs, .slice ga gm gc] 78)
  have y2 := alloc_new w1 (.cells #[.int .i64 gs, .slice ga gm gc] 78)
  replace gV := gV.keep ((Below.refl _ _).alloc (Nat.le_refl _) (.cells #[.int .i64 gs, .slice ga gm gc] 78))
  obtain ⟨b3, hb3⟩ : ∃ v, w1.heap.size = v := ⟨_, rfl⟩
  have hs1 : w.heap.size ≤ w1.heap.size := hs.size
  clear hs
  rw [hb3] at y2 hs1 ⊢
  generalize hw2 : w1.alloc (.cells #[.int .i64 gs, .slice ga gm gc] 78) = w2 at B2 y2 gV ⊢
  clear hw2 hb3
  have hb3' := blk_lt y2
  go_loopw [5] (fun z wr => ∃ (k : Nat), z = .int .i64 (k : Int) ∧ k ≤ n ∧ (∃ (ds : Int) (da : Option Addr) (dm dc : Nat), wr.heap[b3]? = some (.cells #[.int .i64 ds, .slice da dm dc] 78) ∧ WideV wr ds da dm dc (lcmQ (qs.take k) : Int) ∧ dm ≤ 3 + k * (L + 5)) ∧ Below b3 w2 wr) (fun z _ => n - (intOf z).toNat)
  case atStart => exact ⟨0, rfl, by omega, ⟨gs, ga, gm, gc, y2, by simpa [lcmQ] using gV, by omega⟩, Below.refl _ _⟩
  case round =>
    obtain ⟨k, rfl, hk0, ⟨ds, da, dm, dc, yr, dV, hdm⟩, hbr⟩ := hrel
    rename World => wi
    have Bw := B2.trans (hbr.mono (by omega))
    have f0 := cell_block yr 0
    have f1 := cell_block yr 1
    have hbl := blk_lt yr
    by_cases hlt : k < n
    · obtain ⟨br, off, s1, a1, n1, c1, s2, a2, n2, c2, rfl, g0, g1, g2, g3, gl1, gl2, gR⟩ := (hrow.keep Bw).at_ k hlt
      have hls := lcmQ_take qs k (by omega)
      obtain ⟨q, hqq⟩ : ∃ v, qs[k]?.getD 0 = v := ⟨_, rfl⟩
      rw [hqq] at gR hls
      have hlp := lcmQ_pos (qs.take k)
      have hst := lcm_step (lcmQ (qs.take k)) q.den hlp
      rw [← hls] at hst
      have HST := Lib.hid hst
      obtain ⟨M, hM⟩ : ∃ v, lcmQ (qs.take k) = v := ⟨_, rfl⟩
      rw [hM] at dV hlp HST
      clear hst hls hqq hM g0 g1
      have hi : (k : Int) < (n : Int) := by omega
      have hi0 : (0 : Int) ≤ (k : Int) := by omega
      have hdm2 : dm ≤ 3 + 24 * (L + 5) := by
        have : k * (L + 5) ≤ 24 * (L + 5) := Nat.mul_le_mul_right _ (by omega)
        omega
      go_wp2_with fail
      refine Calmly.wp_region_mix 10 (.fl 0 <| .fl 1 <| .fl 2 <| .fl 3 <| .fl 4 <| .fl 5 <| .fl 6 <| .eff 7 <| .fl 8 <| .eff 9 <| .tail [10]) (by kernel_rfl) (by kernel_rfl) ?_
      replace yr := blk_keep yr (Below.refl _ _).drew
      replace g2 := cell_keep g2 (Below.refl _ _).drew
      replace g3 := cell_keep g3 (Below.refl _ _).drew
      replace gR := gR.keep (Below.refl _ _).drew
      replace dV := dV.keep (Below.refl _ _).drew
      replace hbr := hbr.drew
      clear f0 f1 hbl
      generalize wi.drew = V at *
      have f0 := cell_block yr 0
      have f1 := cell_block yr 1
      have hk := Below.refl V.heap.size V
      go_wp2_with (first | ((with_reducible refine Calmly.is_fl ?_); refine Calmly.mix_fl rfl ?_ (fun _ _ => ?_); (first | exact .move _ | exact .load _ _ | exact .fieldAddr _ _ _ (by kernel_rfl) | exact .assign _ | exact .binOp _ _ _ _ _ rfl | exact .indexAddr _ _ _ | exact .len _ _ (by kernel_rfl) | exact .field _ _ _ | exact .extract _ _ | exact .pick _ _ _ | exact .build _ _ | exact .slice _ _ _ _ _ | exact .unOp _ _ _ rfl | exact .index _ _ _ | exact .max _ _ _ rfl rfl | exact .min _ _ _ rfl rfl)) | ((with_reducible refine Calmly.is_gl ?_); refine Calmly.mix_gl rfl rfl rfl ?_; first | ((first | with_reducible refine Calmly.gl_tt ?_ (fun _ _ => ?_) | with_reducible refine Calmly.gl_ff ?_ (fun _ _ => ?_)); (first | exact .move _ | exact .load _ _ | exact .fieldAddr _ _ _ (by kernel_rfl) | exact .assign _ | exact .binOp _ _ _ _ _ rfl | exact .indexAddr _ _ _ | exact .len _ _ (by kernel_rfl) | exact .field _ _ _ | exact .extract _ _ | exact .pick _ _ _ | exact .build _ _ | exact .slice _ _ _ _ _ | exact .unOp _ _ _ rfl | exact .index _ _ _ | exact .max _ _ _ rfl rfl | exact .min _ _ _ rfl rfl)) | with_reducible refine Calmly.gl_tf (fun _ _ => ?_) | with_reducible refine Calmly.gl_ft (fun _ _ => ?_)) | ((with_reducible refine Calmly.is_eff ?_); refine Calmly.mix_eff rfl (fun _ _ => ?_)) | ((with_reducible refine Calmly.is_gf ?_); refine Calmly.mix_gf rfl rfl rfl ?_; first | with_reducible refine Calmly.gf_tt (fun _ _ => ?_) | with_reducible refine Calmly.gf_ff (fun _ _ => ?_) | with_reducible refine Calmly.gf_tf (kept_of hk) (fun _ _ => ?_) | with_reducible refine Calmly.gf_ft (kept_of hk) (fun _ _ => ?_)) | ((with_reducible refine Calmly.is_tail ?_); first | refine Calmly.mix_tail_nil ?_ | refine Calmly.mix_tail rfl (fun _ _ => ?_)) | ((with_reducible refine Calmly.is_kept ?_); refine ⟨kept_of hk, ?_⟩) | (with_reducible refine Calmly.mix_alt ?_ ?_))
      refine (RatioMake_any s2 ds a2 da n2 dm c2 dc (q.den : Int) (M : Int) V gR.2 dV (by omega) (by omega) (by omega)).mono ?_
      rintro e w5 ⟨ms, ma, mm, mc, ms', ma', mm', mc', rfl, ⟨mh, mh', rM⟩, hs⟩
      replace hk := step_of hk hs
      replace yr := blk_keep yr hs
      replace dV := dV.keep hs
      have hbr5 := hbr.trans (hs.mono (by have := blk_lt yr; have := hbr.size; omega))
      clear hs
      go_wp2_with (first | ((with_reducible refine Calmly.is_fl ?_); refine Calmly.mix_fl rfl ?_ (fun _ _ => ?_); (first | exact .move _ | exact .load _ _ | exact .fieldAddr _ _ _ (by kernel_rfl) | exact .assign _ | exact .binOp _ _ _ _ _ rfl | exact .indexAddr _ _ _ | exact .len _ _ (by kernel_rfl) | exact .field _ _ _ | exact .extract _ _ | exact .pick _ _ _ | exact .build _ _ | exact .slice _ _ _ _ _ | exact .unOp _ _ _ rfl | exact .index _ _ _ | exact .max _ _ _ rfl rfl | exact .min _ _ _ rfl rfl)) | ((with_reducible refine Calmly.is_gl ?_); refine Calmly.mix_gl rfl rfl rfl ?_; first | ((first | with_reducible refine Calmly.gl_tt ?_ (fun _ _ => ?_) | with_reducible refine Calmly.gl_ff ?_ (fun _ _ => ?_)); (first | exact .move _ | exact .load _ _ | exact .fieldAddr _ _ _ (by kernel_rfl) | exact .assign _ | exact .binOp _ _ _ _ _ rfl | exact .indexAddr _ _ _ | exact .len _ _ (by kernel_rfl) | exact .field _ _ _ | exact .extract _ _ | exact .pick _ _ _ | exact .build _ _ | exact .slice _ _ _ _ _ | exact .unOp _ _ _ rfl | exact .index _ _ _ | exact .max _ _ _ rfl rfl | exact .min _ _ _ rfl rfl)) | with_reducible refine Calmly.gl_tf (fun _ _ => ?_) | with_reducible refine Calmly.gl_ft (fun _ _ => ?_)) | ((with_reducible refine Calmly.is_eff ?_); refine Calmly.mix_eff rfl (fun _ _ => ?_)) | ((with_reducible refine Calmly.is_gf ?_); refine Calmly.mix_gf rfl rfl rfl ?_; first | with_reducible refine Calmly.gf_tt (fun _ _ => ?_) | with_reducible refine Calmly.gf_ff (fun _ _ => ?_) | with_reducible refine Calmly.gf_tf (kept_of hk) (fun _ _ => ?_) | with_reducible refine Calmly.gf_ft (kept_of hk) (fun _ _ => ?_)) | ((with_reducible refine Calmly.is_tail ?_); first | refine Calmly.mix_tail_nil ?_ | refine Calmly.mix_tail rfl (fun _ _ => ?_)) | ((with_reducible refine Calmly.is_kept ?_); refine ⟨kept_of hk, ?_⟩) | (with_reducible refine Calmly.mix_alt ?_ ?_))
      refine (WideMul_any ds ms da ma dm mm dc mc (M : Int) _ w5 dV rM.1 (by omega) (by omega)).mono ?_
      rintro e w6 ⟨ps, pa, pm, pc, rfl, ⟨ph, pV⟩, hs⟩
      rw [HST.out] at pV
      replace hk := step_of hk hs
      replace yr := blk_keep yr hs
      replace hbr5 := hbr5.trans (hs.mono (by have := hbr5.size; omega))
      clear hs f0 f1
      have f0 := cell_block yr 0
      have f1 := cell_block yr 1
      have f2 := frozen_block yr 0
      have f3 := frozen_block yr 1
      obtain ⟨X4, W4⟩ := wideFin yr pV
      have hmul : (k + 1) * (L + 5) = k * (L + 5) + (L + 5) := Nat.succ_mul _ _
      have hpm : pm ≤ 3 + (k + 1) * (L + 5) := by omega
      clear hmul
      go_wp2_with (first | ((with_reducible refine Calmly.is_fl ?_); refine Calmly.mix_fl rfl ?_ (fun _ _ => ?_); (first | exact .move _ | exact .load _ _ | exact .fieldAddr _ _ _ (by kernel_rfl) | exact .assign _ | exact .binOp _ _ _ _ _ rfl | exact .indexAddr _ _ _ | exact .len _ _ (by kernel_rfl) | exact .field _ _ _ | exact .extract _ _ | exact .pick _ _ _ | exact .build _ _ | exact .slice _ _ _ _ _ | exact .unOp _ _ _ rfl | exact .index _ _ _ | exact .max _ _ _ rfl rfl | exact .min _ _ _ rfl rfl)) | ((with_reducible refine Calmly.is_gl ?_); refine Calmly.mix_gl rfl rfl rfl ?_; first | ((first | with_reducible refine Calmly.gl_tt ?_ (fun _ _ => ?_) | with_reducible refine Calmly.gl_ff ?_ (fun _ _ => ?_)); (first | exact .move _ | exact .load _ _ | exact .fieldAddr _ _ _ (by kernel_rfl) | exact .assign _ | exact .binOp _ _ _ _ _ rfl | exact .indexAddr _ _ _ | exact .len _ _ (by kernel_rfl) | exact .field _ _ _ | exact .extract _ _ | exact .pick _ _ _ | exact .build _ _ | exact .slice _ _ _ _ _ | exact .unOp _ _ _ rfl | exact .index _ _ _ | exact .max _ _ _ rfl rfl | exact .min _ _ _ rfl rfl)) | with_reducible refine Calmly.gl_tf (fun _ _ => ?_) | with_reducible refine Calmly.gl_ft (fun _ _ => ?_)) | ((with_reducible refine Calmly.is_eff ?_); refine Calmly.mix_eff rfl (fun _ _ => ?_)) | ((with_reducible refine Calmly.is_gf ?_); refine Calmly.mix_gf rfl rfl rfl ?_; first | with_reducible refine Calmly.gf_tt (fun _ _ => ?_) | with_reducible refine Calmly.gf_ff (fun _ _ => ?_) | with_reducible refine Calmly.gf_tf (kept_of hk) (fun _ _ => ?_) | with_reducible refine Calmly.gf_ft (kept_of hk) (fun _ _ => ?_)) | ((with_reducible refine Calmly.is_tail ?_); first | refine Calmly.mix_tail_nil ?_ | refine Calmly.mix_tail rfl (fun _ _ => ?_)) | ((with_reducible refine Calmly.is_kept ?_); refine ⟨kept_of hk, ?_⟩) | (with_reducible refine Calmly.mix_alt ?_ ?_))
      go_roundw
      case rel => exact ⟨k + 1, by go_num, by omega, ⟨ps, pa, pm, pc, X4, W4, hpm⟩, below2 hbr5 (Nat.le_refl _)⟩
      case measure => simp [intOf]; omega
    · obtain rfl : k = n := by omega
      have htk : qs.take k = qs := List.take_of_length_le (by omega)
      rw [htk, HN.out] at dV
      have hNp : 1 ≤ N := by have := lcmQ_pos qs; have := HN.out; omega
      clear htk
      go_wp2_with fail
      refine (WideInt_any ds da dm dc N wi dV (by omega)).mono ?_
      rintro e w5 ⟨rfl, hs⟩
      have B5 := Bw.trans (hs.mono Bw.size)
      clear hs dV yr f0 f1 hbl hbr Bw hlt B2 y2 gV hb3' hdm
      go_wp2_with fail
      go_loopw [9, 8] (fun z l wr => ∃ (j c' : Nat) (a' : Option Addr), z = .int .i64 (j : Int) ∧ l = .slice a' j c' ∧ j ≤ k ∧ OwI wr w5.heap.size a' j c' (xs.take j) ∧ Below w5.heap.size w5 wr) (fun z _ _ => k - (intOf z).toNat)
      case atStart => exact ⟨0, 0, none, rfl, rfl, by omega, OwI.nil _ _, Below.refl _ _⟩
      case round =>
        obtain ⟨j, c', a', rfl, rfl, hj0, hown, hbr⟩ := hrel
        rename World => wj
        have Bw := B5.trans (hbr.mono B5.size)
        by_cases hjl : j < k
        · obtain ⟨br, off, s1, a1, n1, c1, s2, a2, n2, c2, rfl, g0, g1, g2, g3, gl1, gl2, gR⟩ := (hrow.keep Bw).at_ j hjl
          have hxj : xs[j]?.getD 0 = ((qs[j]?.getD 0) * (N : Rat)).num / ((((qs[j]?.getD 0) * (N : Rat)).den : Nat) : Int) := by
            rw [← HX.out, ← HN.out]
            unfold comQ
            rw [List.getElem?_map, List.getElem?_eq_getElem (by omega : j < qs.length)]
            rfl
          have hxl : j < xs.length := by rw [← HX.out]; unfold comQ; rw [List.length_map]; omega
          have htk : xs.take (j + 1) = xs.take j ++ [xs[j]?.getD 0] := by
            rw [List.take_succ_eq_append_getElem hxl, List.getElem?_eq_getElem hxl]
            rfl
          have hxb := HXB.out j
          obtain ⟨xv, hxv⟩ : ∃ v, xs[j]?.getD 0 = v := ⟨_, rfl⟩
          rw [hxv] at hxj htk hxb
          have HXJ := Lib.hid hxj
          have HTK := Lib.hid htk
          clear hxj htk hxv hxl
          obtain ⟨q, hqq⟩ : ∃ v, qs[j]?.getD 0 = v := ⟨_, rfl⟩
          rw [hqq] at gR HXJ
          clear hqq
          have hi : (j : Int) < (k : Int) := by omega
          have hi0 : (0 : Int) ≤ (j : Int) := by omega
          go_wp2_with fail
          refine Calmly.wp_region_mix 13 (.fl 0 <| .fl 1 <| .fl 2 <| .fl 3 <| .fl 4 <| .eff 5 <| .eff 6 <| .eff 7 <| .eff 8 <| .fl 9 <| .fl 10 <| .fl 11 <| .fl 12 <| .tail [13]) (by kernel_rfl) (by kernel_rfl) ?_
          replace g0 := cell_keep g0 (Below.refl _ _).drew
          replace g1 := cell_keep g1 (Below.refl _ _).drew
          replace g2 := cell_keep g2 (Below.refl _ _).drew
          replace g3 := cell_keep g3 (Below.refl _ _).drew
          replace gR := gR.keep (Below.refl _ _).drew
          replace hown := hown.drew
          replace hbr := hbr.drew
          clear Bw
          generalize wj.drew = V at *
          have hk := Below.refl V.heap.size V
          go_wp2_with (first | ((with_reducible refine Calmly.is_fl ?_); refine Calmly.mix_fl rfl ?_ (fun _ _ => ?_); (first | exact .move _ | exact .load _ _ | exact .fieldAddr _ _ _ (by kernel_rfl) | exact .assign _ | exact .binOp _ _ _ _ _ rfl | exact .indexAddr _ _ _ | exact .len _ _ (by kernel_rfl) | exact .field _ _ _ | exact .extract _ _ | exact .pick _ _ _ | exact .build _ _ | exact .slice _ _ _ _ _ | exact .unOp _ _ _ rfl | exact .index _ _ _ | exact .max _ _ _ rfl rfl | exact .min _ _ _ rfl rfl)) | ((with_reducible refine Calmly.is_gl ?_); refine Calmly.mix_gl rfl rfl rfl ?_; first | ((first | with_reducible refine Calmly.gl_tt ?_ (fun _ _ => ?_) | with_reducible refine Calmly.gl_ff ?_ (fun _ _ => ?_)); (first | exact .move _ | exact .load _ _ | exact .fieldAddr _ _ _ (by kernel_rfl) | exact .assign _ | exact .binOp _ _ _ _ _ rfl | exact .indexAddr _ _ _ | exact .len _ _ (by kernel_rfl) | exact .field _ _ _ | exact .extract _ _ | exact .pick _ _ _ | exact .build _ _ | exact .slice _ _ _ _ _ | exact .unOp _ _ _ rfl | exact .index _ _ _ | exact .max _ _ _ rfl rfl | exact .min _ _ _ rfl rfl)) | with_reducible refine Calmly.gl_tf (fun _ _ => ?_) | with_reducible refine Calmly.gl_ft (fun _ _ => ?_)) | ((with_reducible refine Calmly.is_eff ?_); refine Calmly.mix_eff rfl (fun _ _ => ?_)) | ((with_reducible refine Calmly.is_gf ?_); refine Calmly.mix_gf rfl rfl rfl ?_; first | with_reducible refine Calmly.gf_tt (fun _ _ => ?_) | with_reducible refine Calmly.gf_ff (fun _ _ => ?_) | with_reducible refine Calmly.gf_tf (kept_of hk) (fun _ _ => ?_) | with_reducible refine Calmly.gf_ft (kept_of hk) (fun _ _ => ?_)) | ((with_reducible refine Calmly.is_tail ?_); first | refine Calmly.mix_tail_nil ?_ | refine Calmly.mix_tail rfl (fun _ _ => ?_)) | ((with_reducible refine Calmly.is_kept ?_); refine ⟨kept_of hk, ?_⟩) | (with_reducible refine Calmly.mix_alt ?_ ?_))
          refine (RatioInt_any N V (by omega) (by omega)).mono ?_
          rintro e w7 ⟨⟨ps, pb, pn, pc, ps', pb', pn', pc', rfl, ph, ph', rP⟩, hs⟩
          replace hk := step_of hk hs
          replace gR := gR.keep hs
          replace hown := hown.keep hs
          replace hbr := hbr.trans (hs.mono hbr.size)
          clear hs
          go_wp2_with (first | ((with_reducible refine Calmly.is_fl ?_); refine Calmly.mix_fl rfl ?_ (fun _ _ => ?_); (first | exact .move _ | exact .load _ _ | exact .fieldAddr _ _ _ (by kernel_rfl) | exact .assign _ | exact .binOp _ _ _ _ _ rfl | exact .indexAddr _ _ _ | exact .len _ _ (by kernel_rfl) | exact .field _ _ _ | exact .extract _ _ | exact .pick _ _ _ | exact .build _ _ | exact .slice _ _ _ _ _ | exact .unOp _ _ _ rfl | exact .index _ _ _ | exact .max _ _ _ rfl rfl | exact .min _ _ _ rfl rfl)) | ((with_reducible refine Calmly.is_gl ?_); refine Calmly.mix_gl rfl rfl rfl ?_; first | ((first | with_reducible refine Calmly.gl_tt ?_ (fun _ _ => ?_) | with_reducible refine Calmly.gl_ff ?_ (fun _ _ => ?_)); (first | exact .move _ | exact .load _ _ | exact .fieldAddr _ _ _ (by kernel_rfl) | exact .assign _ | exact .binOp _ _ _ _ _ rfl | exact .indexAddr _ _ _ | exact .len _ _ (by kernel_rfl) | exact .field _ _ _ | exact .extract _ _ | exact .pick _ _ _ | exact .build _ _ | exact .slice _ _ _ _ _ | exact .unOp _ _ _ rfl | exact .index _ _ _ | exact .max _ _ _ rfl rfl | exact .min _ _ _ rfl rfl)) | with_reducible refine Calmly.gl_tf (fun _ _ => ?_) | with_reducible refine Calmly.gl_ft (fun _ _ => ?_)) | ((with_reducible refine Calmly.is_eff ?_); refine Calmly.mix_eff rfl (fun _ _ => ?_)) | ((with_reducible refine Calmly.is_gf ?_); refine Calmly.mix_gf rfl rfl rfl ?_; first | with_reducible refine Calmly.gf_tt (fun _ _ => ?_) | with_reducible refine Calmly.gf_ff (fun _ _ => ?_) | with_reducible refine Calmly.gf_tf (kept_of hk) (fun _ _ => ?_) | with_reducible refine Calmly.gf_ft (kept_of hk) (fun _ _ => ?_)) | ((with_reducible refine Calmly.is_tail ?_); first | refine Calmly.mix_tail_nil ?_ | refine Calmly.mix_tail rfl (fun _ _ => ?_)) | ((with_reducible refine Calmly.is_kept ?_); refine ⟨kept_of hk, ?_⟩) | (with_reducible refine Calmly.mix_alt ?_ ?_))
          refine (RatioMul_any _ _ _ _ _ _ _ _ _ _ _ _ _ _ _ _ L _ _ w7 gR rP gl1 gl2 (by omega) (by omega) (by omega)).mono ?_
          rintro e w8 ⟨⟨qs1, qb, qn, qc, qs', qb', qn', qc', rfl, qh, qh', rQ⟩, hs⟩
          replace hk := step_of hk hs
          replace hown := hown.keep hs
          replace hbr := hbr.trans (hs.mono hbr.size)
          clear hs
          go_wp2_with (first | ((with_reducible refine Calmly.is_fl ?_); refine Calmly.mix_fl rfl ?_ (fun _ _ => ?_); (first | exact .move _ | exact .load _ _ | exact .fieldAddr _ _ _ (by kernel_rfl) | exact .assign _ | exact .binOp _ _ _ _ _ rfl | exact .indexAddr _ _ _ | exact .len _ _ (by kernel_rfl) | exact .field _ _ _ | exact .extract _ _ | exact .pick _ _ _ | exact .build _ _ | exact .slice _ _ _ _ _ | exact .unOp _ _ _ rfl | exact .index _ _ _ | exact .max _ _ _ rfl rfl | exact .min _ _ _ rfl rfl)) | ((with_reducible refine Calmly.is_gl ?_); refine Calmly.mix_gl rfl rfl rfl ?_; first | ((first | with_reducible refine Calmly.gl_tt ?_ (fun _ _ => ?_) | with_reducible refine Calmly.gl_ff ?_ (fun _ _ => ?_)); (first | exact .move _ | exact .load _ _ | exact .fieldAddr _ _ _ (by kernel_rfl) | exact .assign _ | exact .binOp _ _ _ _ _ rfl | exact .indexAddr _ _ _ | exact .len _ _ (by kernel_rfl) | exact .field _ _ _ | exact .extract _ _ | exact .pick _ _ _ | exact .build _ _ | exact .slice _ _ _ _ _ | exact .unOp _ _ _ rfl | exact .index _ _ _ | exact .max _ _ _ rfl rfl | exact .min _ _ _ rfl rfl)) | with_reducible refine Calmly.gl_tf (fun _ _ => ?_) | with_reducible refine Calmly.gl_ft (fun _ _ => ?_)) | ((with_reducible refine Calmly.is_eff ?_); refine Calmly.mix_eff rfl (fun _ _ => ?_)) | ((with_reducible refine Calmly.is_gf ?_); refine Calmly.mix_gf rfl rfl rfl ?_; first | with_reducible refine Calmly.gf_tt (fun _ _ => ?_) | with_reducible refine Calmly.gf_ff (fun _ _ => ?_) | with_reducible refine Calmly.gf_tf (kept_of hk) (fun _ _ => ?_) | with_reducible refine Calmly.gf_ft (kept_of hk) (fun _ _ => ?_)) | ((with_reducible refine Calmly.is_tail ?_); first | refine Calmly.mix_tail_nil ?_ | refine Calmly.mix_tail rfl (fun _ _ => ?_)) | ((with_reducible refine Calmly.is_kept ?_); refine ⟨kept_of hk, ?_⟩) | (with_reducible refine Calmly.mix_alt ?_ ?_))
          refine (RatioFloor_any _ _ _ _ _ _ _ _ _ w8 rQ (by omega) (by omega)).mono ?_
          rintro e w9 ⟨ts, ta, tm, tc, rfl, tV, hs⟩
          rw [← HXJ.out] at tV
          replace hk := step_of hk hs
          replace hown := hown.keep hs
          replace hbr := hbr.trans (hs.mono hbr.size)
          clear hs
          go_wp2_with (first | ((with_reducible refine Calmly.is_fl ?_); refine Calmly.mix_fl rfl ?_ (fun _ _ => ?_); (first | exact .move _ | exact .load _ _ | exact .fieldAddr _ _ _ (by kernel_rfl) | exact .assign _ | exact .binOp _ _ _ _ _ rfl | exact .indexAddr _ _ _ | exact .len _ _ (by kernel_rfl) | exact .field _ _ _ | exact .extract _ _ | exact .pick _ _ _ | exact .build _ _ | exact .slice _ _ _ _ _ | exact .unOp _ _ _ rfl | exact .index _ _ _ | exact .max _ _ _ rfl rfl | exact .min _ _ _ rfl rfl)) | ((with_reducible refine Calmly.is_gl ?_); refine Calmly.mix_gl rfl rfl rfl ?_; first | ((first | with_reducible refine Calmly.gl_tt ?_ (fun _ _ => ?_) | with_reducible refine Calmly.gl_ff ?_ (fun _ _ => ?_)); (first | exact .move _ | exact .load _ _ | exact .fieldAddr _ _ _ (by kernel_rfl) | exact .assign _ | exact .binOp _ _ _ _ _ rfl | exact .indexAddr _ _ _ | exact .len _ _ (by kernel_rfl) | exact .field _ _ _ | exact .extract _ _ | exact .pick _ _ _ | exact .build _ _ | exact .slice _ _ _ _ _ | exact .unOp _ _ _ rfl | exact .index _ _ _ | exact .max _ _ _ rfl rfl | exact .min _ _ _ rfl rfl)) | with_reducible refine Calmly.gl_tf (fun _ _ => ?_) | with_reducible refine Calmly.gl_ft (fun _ _ => ?_)) | ((with_reducible refine Calmly.is_eff ?_); refine Calmly.mix_eff rfl (fun _ _ => ?_)) | ((with_reducible refine Calmly.is_gf ?_); refine Calmly.mix_gf rfl rfl rfl ?_; first | with_reducible refine Calmly.gf_tt (fun _ _ => ?_) | with_reducible refine Calmly.gf_ff (fun _ _ => ?_) | with_reducible refine Calmly.gf_tf (kept_of hk) (fun _ _ => ?_) | with_reducible refine Calmly.gf_ft (kept_of hk) (fun _ _ => ?_)) | ((with_reducible refine Calmly.is_tail ?_); first | refine Calmly.mix_tail_nil ?_ | refine Calmly.mix_tail rfl (fun _ _ => ?_)) | ((with_reducible refine Calmly.is_kept ?_); refine ⟨kept_of hk, ?_⟩) | (with_reducible refine Calmly.mix_alt ?_ ?_))
          refine (WideInt_any ts ta tm tc xv w9 tV (by omega)).mono ?_
          rintro e w10 ⟨rfl, hs⟩
          replace hk := step_of hk hs
          replace hown := hown.keep hs
          replace hbr := hbr.trans (hs.mono hbr.size)
          clear hs g0 g1 g2 g3 gR rQ tV rP
          go_wp2_with (first | ((with_reducible refine Calmly.is_fl ?_); refine Calmly.mix_fl rfl ?_ (fun _ _ => ?_); (first | exact .move _ | exact .load _ _ | exact .fieldAddr _ _ _ (by kernel_rfl) | exact .assign _ | exact .binOp _ _ _ _ _ rfl | exact .indexAddr _ _ _ | exact .len _ _ (by kernel_rfl) | exact .field _ _ _ | exact .extract _ _ | exact .pick _ _ _ | exact .build _ _ | exact .slice _ _ _ _ _ | exact .unOp _ _ _ rfl | exact .index _ _ _ | exact .max _ _ _ rfl rfl | exact .min _ _ _ rfl rfl)) | ((with_reducible refine Calmly.is_gl ?_); refine Calmly.mix_gl rfl rfl rfl ?_; first | ((first | with_reducible refine Calmly.gl_tt ?_ (fun _ _ => ?_) | with_reducible refine Calmly.gl_ff ?_ (fun _ _ => ?_)); (first | exact .move _ | exact .load _ _ | exact .fieldAddr _ _ _ (by kernel_rfl) | exact .assign _ | exact .binOp _ _ _ _ _ rfl | exact .indexAddr _ _ _ | exact .len _ _ (by kernel_rfl) | exact .field _ _ _ | exact .extract _ _ | exact .pick _ _ _ | exact .build _ _ | exact .slice _ _ _ _ _ | exact .unOp _ _ _ rfl | exact .index _ _ _ | exact .max _ _ _ rfl rfl | exact .min _ _ _ rfl rfl)) | with_reducible refine Calmly.gl_tf (fun _ _ => ?_) | with_reducible refine Calmly.gl_ft (fun _ _ => ?_)) | ((with_reducible refine Calmly.is_eff ?_); refine Calmly.mix_eff rfl (fun _ _ => ?_)) | ((with_reducible refine Calmly.is_gf ?_); refine Calmly.mix_gf rfl rfl rfl ?_; first | with_reducible refine Calmly.gf_tt (fun _ _ => ?_) | with_reducible refine Calmly.gf_ff (fun _ _ => ?_) | with_reducible refine Calmly.gf_tf (kept_of hk) (fun _ _ => ?_) | with_reducible refine Calmly.gf_ft (kept_of hk) (fun _ _ => ?_)) | ((with_reducible refine Calmly.is_tail ?_); first | refine Calmly.mix_tail_nil ?_ | refine Calmly.mix_tail rfl (fun _ _ => ?_)) | ((with_reducible refine Calmly.is_kept ?_); refine ⟨kept_of hk, ?_⟩) | (with_reducible refine Calmly.mix_alt ?_ ?_) | (at_builtin; refine appI rfl _ _ rfl hown rfl rfl (by omega) hbr.size ?_; intro a2' c2' w11 ho5 hb5 hs5))
          go_roundw
          case rel =>
            refine ⟨j + 1, c2', a2', by go_num, rfl, by omega, ?_, hbr.trans hb5⟩
            rw [HTK.out]
            exact ho5
          case measure => simp [intOf]; omega
        · obtain rfl : j = k := by omega
          have htk : xs.take j = xs := List.take_of_length_le (by rw [← HX.out]; unfold comQ; rw [List.length_map]; omega)
          rw [htk] at hown
          clear htk
          go_wp2_with fail
          refine bodyPost_ret (v := .tuple #[.int .i64 N, .slice a' j c']) (by simp [results, Tryz.results41, go_sem]) rfl ⟨a', c', w5.heap.size, rfl, hown, B5.size, Bw⟩
end Go.Proofs.YtfjcfbmfpefabaaGreat
