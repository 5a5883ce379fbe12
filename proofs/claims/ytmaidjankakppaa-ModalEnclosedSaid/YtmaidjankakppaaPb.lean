/- Contracts of chapter 6: the sum of all squares. -/
import Derived.Test.YtmaidjankakppaaRi
namespace Go.Proofs.Ytmaidjankakppaa
open Go.RowKit Go.Wides
open Calmly (Kept)

/-- The sum of the diagonal. -/
def sumQ (ms ks : List Int) : Nat → Rat
  | 0 => 0
  | i + 1 => sumQ ms ks i + Rat.divInt (ks[i]?.getD 0 + ks[i + 1]?.getD 0) (ms[i]?.getD 0)
theorem frac_rat {x y : Int} (hy : 0 < y) : x.tdiv (Int.gcd x y) = (Rat.divInt x y).num ∧ y.tdiv (Int.gcd x y) = ((Rat.divInt x y).den : Int) := by
  obtain ⟨h1, h2⟩ := make_two (z1 := x) hy
  rw [h1, h2]
  exact ⟨Int.tdiv_eq_ediv_of_dvd (Int.gcd_dvd_left ..), Int.tdiv_eq_ediv_of_dvd (Int.gcd_dvd_right ..)⟩
theorem add_divInt (q : Rat) (o m : Int) (hm : 0 < m) : q + Rat.divInt o m = Rat.divInt (q.num * m + o * (q.den : Int)) ((q.den : Int) * m) := by
  have h := Rat.divInt_add_divInt q.num o (show (q.den : Int) ≠ 0 by have := q.den_nz; omega) (show m ≠ 0 by omega)
  rw [← h, Rat.num_divInt_den]
/-- How great the sum is. -/
def SumBd (C : Int) (D : Int) (q : Rat) : Prop := 0 ≤ q.num ∧ q.num ≤ C * (q.den : Int) ∧ (q.den : Int) ≤ D
theorem SumBd.next {C D : Int} {q : Rat} (h : SumBd C D q) {o m : Int} (ho : 0 ≤ o) (ho2 : o ≤ 40) (hm : 1 ≤ m) (hm2 : m ≤ 10) (hC : 0 ≤ C) :
    SumBd (C + 40) (D * 10) (q + Rat.divInt o m) ∧ (0 ≤ q.num * m + o * (q.den : Int) ∧ q.num * m + o * (q.den : Int) ≤ (C + 40) * ((q.den : Int) * m)) ∧ (0 < (q.den : Int) * m ∧ (q.den : Int) * m ≤ D * 10) := by
  obtain ⟨h1, h2, h3⟩ := h
  have hd : (1 : Int) ≤ (q.den : Int) := by have := q.den_nz; omega
  rw [add_divInt q o m (by omega)]
  generalize (q.den : Int) = d at *
  generalize q.num = a at *
  have e1 : 0 ≤ a * m := Int.mul_nonneg h1 (by omega)
  have e2 : 0 ≤ o * d := Int.mul_nonneg ho (by omega)
  have e3 : 0 < d * m := Int.mul_pos (by omega) (by omega)
  have e4 : d * m ≤ D * 10 := Int.mul_le_mul h3 hm2 (by omega) (by omega)
  have e5 : a * m ≤ C * d * m := Int.mul_le_mul_of_nonneg_right h2 (by omega)
  have e6 : o * d ≤ 40 * (d * m) := by
    have f1 : o * d ≤ 40 * d := Int.mul_le_mul_of_nonneg_right ho2 (by omega)
    have f2 : d * 1 ≤ d * m := Int.mul_le_mul_of_nonneg_left hm (by omega)
    omega
  have e7 : a * m + o * d ≤ (C + 40) * (d * m) := by
    rw [Int.add_mul, ← Int.mul_assoc]
    omega
  have e0 : 0 ≤ a * m + o * d := by omega
  refine ⟨?_, ⟨e0, e7⟩, e3, e4⟩
  generalize a * m + o * d = x at *
  generalize d * m = y at *
  obtain ⟨h4, h5⟩ := make_two (z1 := x) e3
  have hg : (0 : Int) < (Int.gcd x y : Int) := by have := Int.gcd_pos_of_ne_zero_right x (show y ≠ 0 by omega); omega
  obtain ⟨x', hx'⟩ := Int.gcd_dvd_left (a := x) (b := y)
  obtain ⟨y', hy'⟩ := Int.gcd_dvd_right (a := x) (b := y)
  have e8 : x / (Int.gcd x y : Int) = x' := by conv => { lhs; lhs; rw [hx'] }; exact Int.mul_ediv_cancel_left _ (by omega)
  have e9 : y / (Int.gcd x y : Int) = y' := by conv => { lhs; lhs; rw [hy'] }; exact Int.mul_ediv_cancel_left _ (by omega)
  rw [e8] at h4
  rw [e9] at h5
  generalize (Int.gcd x y : Int) = g at *
  unfold SumBd
  rw [h4, h5]
  have k1 : 0 ≤ x' := by
    rcases Int.lt_or_le x' 0 with k | k
    · have := Int.mul_neg_of_pos_of_neg hg k
      omega
    · exact k
  have k2 : 0 < y' := by
    rcases Int.lt_or_le 0 y' with k | k
    · exact k
    · have := Int.mul_nonneg (a := g) (b := -y') (by omega) (by omega)
      rw [Int.mul_neg] at this
      omega
  refine ⟨k1, ?_, ?_⟩
  · rcases Int.lt_or_le ((C + 40) * y') x' with k | k
    · have := Int.mul_lt_mul_of_pos_left k hg
      rw [← hx', show g * ((C + 40) * y') = (C + 40) * (g * y') by grind, ← hy'] at this
      omega
    · exact k
  · have : 1 * y' ≤ g * y' := Int.mul_le_mul_of_nonneg_right (by omega) (by omega)
    omega
theorem sumQ_bd {ms ks : List Int} (h : Fr ms ks) (i : Nat) (hi : i ≤ ms.length) : SumBd (40 * i) (10 ^ i) (sumQ ms ks i) := by
  induction i with
  | zero =>
    show SumBd (40 * ((0 : Nat) : Int)) (10 ^ 0) (0 : Rat)
    unfold SumBd
    decide
  | succ i ih =>
    have h1 := h.m i (by omega)
    have h2 := h.k0 i
    have h3 := h.k0 (i + 1)
    have := ((ih (by omega)).next (o := ks[i]?.getD 0 + ks[i + 1]?.getD 0) (m := ms[i]?.getD 0) (by omega) (by omega) h1.1 h1.2 (by omega)).1
    rw [Int.pow_succ, show (40 * ((i + 1 : Nat) : Int)) = 40 * i + 40 by push_cast; omega]
    exact this
theorem sumQ_num {ms ks : List Int} (h : Fr ms ks) (i : Nat) (hi : i ≤ ms.length) : 0 ≤ (sumQ ms ks i).num ∧ (sumQ ms ks i).num ≤ 1600000 ∧ 1 ≤ ((sumQ ms ks i).den : Int) ∧ ((sumQ ms ks i).den : Int) ≤ 10000 := by
  obtain ⟨h1, h2, h3⟩ := sumQ_bd h i hi
  have hd : (1 : Int) ≤ ((sumQ ms ks i).den : Int) := by have := (sumQ ms ks i).den_nz; omega
  have h4 := h.few
  rcases (by omega : i = 0 ∨ i = 1 ∨ i = 2 ∨ i = 3 ∨ i = 4) with rfl | rfl | rfl | rfl | rfl <;> simp at h2 h3 <;> omega
theorem sumQ_step {ms ks : List Int} (h : Fr ms ks) (i : Nat) (hi : i < ms.length) :
    sumQ ms ks (i + 1) = Rat.divInt ((sumQ ms ks i).num * ms[i]?.getD 0 + (ks[i]?.getD 0 + ks[i + 1]?.getD 0) * ((sumQ ms ks i).den : Int)) (((sumQ ms ks i).den : Int) * ms[i]?.getD 0) :=
  add_divInt _ _ _ (by have := h.m i hi; omega)

set_option maxRecDepth 100000 in
set_option maxHeartbeats 4000000 in
theorem SumOf_any (a b : Option Addr) (n c m d : Nat) (ms ks : List Int) (w : World) (h1 : SI w a n c ms) (h2 : SI w b m d ks)
    (E P Q : Int) (hE : (checkF ms ks).2 = E) (hok : E = 0 → (sumQ ms ks ms.length).num = P ∧ ((sumQ ms ks ms.length).den : Int) = Q) (hno : E ≠ 0 → P = 0 ∧ Q = 0) :
    Calls Try.prog 20 #[.agg #[.slice a n c, .slice b m d]] w fun e w' => e = .returned (.tuple #[.agg #[.int .i64 P, .int .i64 Q], .int .i64 E]) ∧ Below w.heap.size w w' := by
  have HE := Lib.hid hE
  have HOK := Lib.hid hok
  have HNO := Lib.hid hno
  clear hE hok hno
  have hA : ∀ (A : World) (o : Obj), Below A.heap.size A (A.alloc o) := fun A o => (Below.refl _ _).alloc (Nat.le_refl _) _
  have hb2 : Below w.heap.size w ((w.alloc (.cells #[.slice a n c, .slice b m d] 24)).alloc (.cells #[.int .i64 0, .int .i64 0] 34)) := ((Below.refl _ _).alloc (Nat.le_refl _) _).alloc (by simp) _
  go_enter Try.func20, Try.ntmps20
  go_wp2_with fail
  refine (open_any a b n c m d ms ks _ (h1.keep hb2) (h2.keep hb2)).mono ?_
  rintro e w1 ⟨rfl, hb1⟩
  rw [HE.out]
  obtain ⟨x1, x2⟩ := box2 (w := w) (o := .cells #[.slice a n c, .slice b m d] 24) (o' := .cells #[.int .i64 0, .int .i64 0] 34) hb1
  have hbw : Below w.heap.size w w1 := hb2.trans (hb1.mono hb2.size)
  clear hb1 hb2 x1
  have s2 := blk_lt x2
  by_cases hz : E = 0
  case neg =>
    have hz1 : (E != 0) = true := by simpa using hz
    obtain ⟨rfl, rfl⟩ := HNO.out hz
    clear hz
    have g0 := cell_block x2 0
    have g1 := cell_block x2 1
    have g2 := frozen_block x2 0
    have g3 := frozen_block x2 1
    obtain ⟨t1, t2, _, _⟩ := set2 (x := .int .i64 0) (y := .int .i64 0) g0 g1
    have u1 := cell_keep t1 (hA _ (.cells #[.slice a n c, .slice b m d] 141))
    have u2 := cell_keep t2 (hA _ (.cells #[.slice a n c, .slice b m d] 141))
    go_wp2_with fail
    refine bodyPost_ret (v := .tuple #[.agg #[.int .i64 0, .int .i64 0], .int .i64 E]) (by simp [results, Try.results20, go_sem, u1, u2]) rfl ⟨rfl, ?_⟩
    exact ((hbw.setCell (by simp) _).setCell (by simp) _).alloc (by simp; omega) _
  case pos =>
    subst hz
    have hf := fr_of HE.out
    have hL := HOK.out rfl
    obtain ⟨l1, l2⟩ : n ≤ ms.length ∧ ms.length ≤ n := by have := h1.len; omega
    obtain rfl : n = m := by have := h2.len; have := hf.len; omega
    have hlen : ms.length = n := by omega
    rw [hlen] at hL
    have HL := Lib.hid hL
    have HN := Lib.hid hlen
    clear hL hlen
    have hl4 : 0 < n ∧ n ≤ 4 := by have := hf.pos; have := hf.few; omega
    go_wp2_with fail
    refine wp_gen (fun v => Below w.heap.size w v ∧ w1.heap.size + 1 < v.heap.size ∧ v.heap[w.heap.size + 1]? = some (.cells #[.int .i64 0, .int .i64 0] 34) ∧ v.heap[w1.heap.size]? = some (.cells #[.slice a n c, .slice b n d] 141) ∧ v.heap[w1.heap.size + 1]? = some (.cells #[.int .i64 0, .int .i64 1] 34)) ?_ ?_
    · have k1 := hA w1 (.cells #[.slice a n c, .slice b n d] 141)
      have k2 := hA (w1.alloc (.cells #[.slice a n c, .slice b n d] 141)) (.cells #[.int .i64 0, .int .i64 1] 34)
      obtain ⟨z1, z2⟩ := box2 (w := w1) (o := .cells #[.slice a n c, .slice b n d] 141) (o' := .cells #[.int .i64 0, .int .i64 1] 34) (Below.refl _ _)
      exact ⟨(hbw.alloc hbw.size _).alloc (by simp; omega) _, by simp, blk_keep (blk_keep x2 k1) k2, z1, z2⟩
    rintro v ⟨hbv, hsv, x2, x3, x4⟩
    go_loopw [22] (fun z wr => ∃ k : Nat, k ≤ n ∧ z = .int .i64 (k : Int) ∧ Below (w1.heap.size + 1) v wr ∧ wr.heap[w1.heap.size + 1]? = some (.cells #[.int .i64 (sumQ ms ks k).num, .int .i64 ((sumQ ms ks k).den : Int)] 34)) (fun z _ => n - (intOf z).toNat)
    case atStart => exact ⟨0, by omega, rfl, Below.refl _ _, x4⟩
    case round =>
      obtain ⟨k, hk, rfl, hbr, X4⟩ := hrel
      have BW := hbv.trans (hbr.mono (by have := hbw.size; omega))
      have X2 : wr.heap[w.heap.size + 1]? = some (.cells #[.int .i64 0, .int .i64 0] 34) := (hbr.block _ (by omega)).trans x2
      have X3 : wr.heap[w1.heap.size]? = some (.cells #[.slice a n c, .slice b n d] 141) := (hbr.block _ (by omega)).trans x3
      by_cases hlt : k < n
      · have f0 := cell_block X3 0
        have f1 := cell_block X3 1
        have g0 := cell_block X4 0
        have g1 := cell_block X4 1
        have g2 := frozen_block X4 0
        have g3 := frozen_block X4 1
        have hi : (k : Int) < (n : Int) := by omega
        have hi0 : (0 : Int) ≤ (k : Int) := by omega
        have hmb := hf.m k (by have := HN.out; omega)
        have hob1 := hf.k0 k
        have hob2 := hf.k0 (k + 1)
        have hsb := sumQ_bd hf k (by have := HN.out; omega)
        have hst := sumQ_step hf k (by have := HN.out; omega)
        have hnm := sumQ_num hf k (by have := HN.out; omega)
        obtain ⟨_, ⟨r1, _⟩, r3, _⟩ := hsb.next (o := ks[k]?.getD 0 + ks[k + 1]?.getD 0) (m := ms[k]?.getD 0) (by omega) (by omega) hmb.1 hmb.2 (by omega)
        obtain ⟨fr1, fr2⟩ := frac_rat (x := (sumQ ms ks k).num * ms[k]?.getD 0 + (ks[k]?.getD 0 + ks[k + 1]?.getD 0) * ((sumQ ms ks k).den : Int)) r3
        rw [← hst] at fr1 fr2
        clear hst hsb
        obtain ⟨p0, hp0⟩ : ∃ x, (sumQ ms ks k).num = x := ⟨_, rfl⟩
        obtain ⟨q0, hq0⟩ : ∃ x, ((sumQ ms ks k).den : Int) = x := ⟨_, rfl⟩
        obtain ⟨ba, oa, rfl, hca⟩ := (h1.keep BW).at_ (by omega)
        obtain ⟨bb, ob, rfl, hcb⟩ := (h2.keep BW).at_ (by omega)
        have em := hca k hlt
        have ek := hcb k hlt
        clear hca hcb
        have lt1 := cell_lt em
        have lt2 := cell_lt ek
        obtain ⟨mv, hmv⟩ : ∃ x, ms[k]?.getD 0 = x := ⟨_, rfl⟩
        obtain ⟨kv, hkv⟩ : ∃ x, ks[k]?.getD 0 = x := ⟨_, rfl⟩
        obtain ⟨av, hav⟩ : ∃ x, ks[k + 1]?.getD 0 = x := ⟨_, rfl⟩
        rw [hp0, hq0, hmv, hkv, hav] at fr1 fr2 r1
        rw [hq0, hmv] at r3
        rw [hp0] at g0 hnm
        rw [hq0] at g1 hnm
        rw [hmv] at em hmb
        rw [hkv] at ek hob1
        rw [hav] at hob2
        have HAV := Lib.hid hav
        have F1 := Lib.hid fr1
        have F2 := Lib.hid fr2
        have e1 := mul_bd2 (a := p0) (x := mv) (A := 1600000) (C := 10) (by omega) (by omega) (by omega) (by omega)
        have e2 := mul_bd2 (a := kv + av) (x := q0) (A := 40) (C := 10000) (by omega) (by omega) (by omega) (by omega)
        have e3 := mul_bd2 (a := q0) (x := mv) (A := 10000) (C := 10) (by omega) (by omega) (by omega) (by omega)
        clear hp0 hq0 hmv hkv hav fr1 fr2
        go_wp2_with fail
        refine Calmly.wp_region_mix 22 (.fl 0 <| .fl 1 <| .fl 2 <| .fl 3 <| .fl 4 <| .fl 5 <| .fl 6 <| .fl 7 <| .fl 8 <| .fl 9 <| .fl 10 <| .fl 13 <| .fl 14 <| .fl 17 <| .fl 18 <| .fl 19 <| .fl 20 <| .eff 11 <| .fl 12 <| .fl 15 <| .fl 16 <| .eff 21 <| .tail [22]) (by kernel_rfl) (by kernel_rfl) ?_
        replace f0 : wr.drew.cell? ⟨w1.heap.size, 0, none⟩ = some (.slice (some ⟨ba, oa, none⟩) n c) := f0
        replace f1 : wr.drew.cell? ⟨w1.heap.size, 1, none⟩ = some (.slice (some ⟨bb, ob, none⟩) n d) := f1
        replace g0 : wr.drew.cell? ⟨w1.heap.size + 1, 0, none⟩ = some (.int .i64 p0) := g0
        replace g1 : wr.drew.cell? ⟨w1.heap.size + 1, 1, none⟩ = some (.int .i64 q0) := g1
        replace ek : wr.drew.cell? ⟨bb, ob + k, none⟩ = some (.int .i64 kv) := ek
        replace X4 : wr.drew.heap[w1.heap.size + 1]? = some (.cells #[.int .i64 (sumQ ms ks k).num, .int .i64 ((sumQ ms ks k).den : Int)] 34) := X4
        replace hbr := hbr.drew
        have H2 := h2.keep BW.drew
        clear BW X2 X3 g2 g3
        generalize wr.drew = V at *
        have hk := Below.refl V.heap.size V
        go_wp2_with (first | ((with_reducible refine Calmly.is_fl ?_); refine Calmly.mix_fl rfl ?_ (fun _ _ => ?_); (first | exact .move _ | exact .load _ _ | exact .fieldAddr _ _ _ (by kernel_rfl) | exact .assign _ | exact .binOp _ _ _ _ _ rfl | exact .indexAddr _ _ _ | exact .len _ _ (by kernel_rfl) | exact .field _ _ _ | exact .extract _ _ | exact .pick _ _ _ | exact .build _ _ | exact .slice _ _ _ _ _ | exact .unOp _ _ _ rfl | exact .index _ _ _ | exact .max _ _ _ rfl rfl | exact .min _ _ _ rfl rfl)) | ((with_reducible refine Calmly.is_gl ?_); refine Calmly.mix_gl rfl rfl rfl ?_; first | ((first | with_reducible refine Calmly.gl_tt ?_ (fun _ _ => ?_) | with_reducible refine Calmly.gl_ff ?_ (fun _ _ => ?_)); (first | exact .move _ | exact .load _ _ | exact .fieldAddr _ _ _ (by kernel_rfl) | exact .assign _ | exact .binOp _ _ _ _ _ rfl | exact .indexAddr _ _ _ | exact .len _ _ (by kernel_rfl) | exact .field _ _ _ | exact .extract _ _ | exact .pick _ _ _ | exact .build _ _ | exact .slice _ _ _ _ _ | exact .unOp _ _ _ rfl | exact .index _ _ _ | exact .max _ _ _ rfl rfl | exact .min _ _ _ rfl rfl)) | with_reducible refine Calmly.gl_tf (fun _ _ => ?_) | with_reducible refine Calmly.gl_ft (fun _ _ => ?_)) | ((with_reducible refine Calmly.is_eff ?_); refine Calmly.mix_eff rfl (fun _ _ => ?_)) | ((with_reducible refine Calmly.is_gf ?_); refine Calmly.mix_gf rfl rfl rfl ?_; first | with_reducible refine Calmly.gf_tt (fun _ _ => ?_) | with_reducible refine Calmly.gf_ff (fun _ _ => ?_) | with_reducible refine Calmly.gf_tf (kept_of hk) (fun _ _ => ?_) | with_reducible refine Calmly.gf_ft (kept_of hk) (fun _ _ => ?_)) | ((with_reducible refine Calmly.is_kept ?_); refine ⟨kept_of hk, ?_⟩) | (with_reducible refine Calmly.mix_alt ?_ ?_) | (go_at_call 95; refine (above_any _ _ _ _ _ _ ks k _ (H2.keep hk) (by omega) (by omega)).mono ?_; rintro e w' ⟨rfl, hs⟩; rw [show (k : Int).toNat = k from rfl, HAV.out]; replace hk := step_of hk hs; clear hs) | (go_at_call 96; refine (fraction_any _ _ _ (by omega) (by omega) (by omega) (by omega)).mono ?_; rintro e w6 ⟨rfl, hs⟩; rw [F1.out, F2.out]; replace hk := step_of hk hs; clear hs))
        have Y4 := blk_keep X4 hk
        have g0 := cell_block Y4 0
        have g1 := cell_block Y4 1
        have g2 := frozen_block Y4 0
        have g3 := frozen_block Y4 1
        have hbr6 := hbr.trans (hk.mono (show w1.heap.size + 1 ≤ V.heap.size by have := hbr.size; omega))
        have s6 := blk_lt Y4
        go_wp2_with (first | ((with_reducible refine Calmly.is_fl ?_); refine Calmly.mix_fl rfl ?_ (fun _ _ => ?_); (first | exact .move _ | exact .load _ _ | exact .fieldAddr _ _ _ (by kernel_rfl) | exact .assign _ | exact .binOp _ _ _ _ _ rfl | exact .indexAddr _ _ _ | exact .len _ _ (by kernel_rfl) | exact .field _ _ _ | exact .extract _ _ | exact .pick _ _ _ | exact .build _ _ | exact .slice _ _ _ _ _ | exact .unOp _ _ _ rfl | exact .index _ _ _ | exact .max _ _ _ rfl rfl | exact .min _ _ _ rfl rfl)) | ((with_reducible refine Calmly.is_gl ?_); refine Calmly.mix_gl rfl rfl rfl ?_; first | ((first | with_reducible refine Calmly.gl_tt ?_ (fun _ _ => ?_) | with_reducible refine Calmly.gl_ff ?_ (fun _ _ => ?_)); (first | exact .move _ | exact .load _ _ | exact .fieldAddr _ _ _ (by kernel_rfl) | exact .assign _ | exact .binOp _ _ _ _ _ rfl | exact .indexAddr _ _ _ | exact .len _ _ (by kernel_rfl) | exact .field _ _ _ | exact .extract _ _ | exact .pick _ _ _ | exact .build _ _ | exact .slice _ _ _ _ _ | exact .unOp _ _ _ rfl | exact .index _ _ _ | exact .max _ _ _ rfl rfl | exact .min _ _ _ rfl rfl)) | with_reducible refine Calmly.gl_tf (fun _ _ => ?_) | with_reducible refine Calmly.gl_ft (fun _ _ => ?_)) | ((with_reducible refine Calmly.is_eff ?_); refine Calmly.mix_eff rfl (fun _ _ => ?_)) | ((with_reducible refine Calmly.is_gf ?_); refine Calmly.mix_gf rfl rfl rfl ?_; first | with_reducible refine Calmly.gf_tt (fun _ _ => ?_) | with_reducible refine Calmly.gf_ff (fun _ _ => ?_) | with_reducible refine Calmly.gf_tf (kept_of hk) (fun _ _ => ?_) | with_reducible refine Calmly.gf_ft (kept_of hk) (fun _ _ => ?_)) | ((with_reducible refine Calmly.is_tail ?_); first | refine Calmly.mix_tail_nil ?_ | refine Calmly.mix_tail rfl (fun _ _ => ?_)) | ((with_reducible refine Calmly.is_kept ?_); refine ⟨kept_of hk, ?_⟩) | (with_reducible refine Calmly.mix_alt ?_ ?_))
        go_roundw
        case rel => exact ⟨k + 1, by omega, by go_num, (hbr6.setCell (by simp) _).setCell (by simp) _, blkSet (blkSet Y4 0 _) 1 _⟩
        case measure => simp [intOf]; omega
      · have hle : (n : Int) ≤ (k : Int) := by omega
        obtain rfl : k = n := by omega
        have f0 := cell_block X4 0
        have f1 := cell_block X4 1
        rw [HL.out.1] at f0
        rw [HL.out.2] at f1
        have g0 := cell_block X2 0
        have g1 := cell_block X2 1
        have g2 := frozen_block X2 0
        have g3 := frozen_block X2 1
        obtain ⟨t1, t2, _, _⟩ := set2 (x := .int .i64 P) (y := .int .i64 Q) g0 g1
        go_wp2_with fail
        refine bodyPost_ret (v := .tuple #[.agg #[.int .i64 P, .int .i64 Q], .int .i64 0]) (by simp [results, Try.results20, go_sem, t1, t2]) rfl ⟨rfl, ?_⟩
        exact (BW.setCell (by simp) _).setCell (by simp) _

set_option maxRecDepth 100000 in
set_option maxHeartbeats 1000000 in
theorem RatioFrac_any (s1 : Int) (a1 : Option Addr) (n1 c1 : Nat) (s2 : Int) (a2 : Option Addr) (n2 c2 : Nat) (q : Rat) (w : World) (h : RatV w s1 a1 n1 c1 s2 a2 n2 c2 q) (h1 : -1000000000 ≤ q.num) (h2 : q.num ≤ 1000000000) (h3 : (q.den : Int) ≤ 1000000000) :
    Calls Try.prog 98 #[.agg #[.int .i64 s1, .slice a1 n1 c1, .int .i64 s2, .slice a2 n2 c2]] w fun e w' => e = .returned (.tuple #[.agg #[.int .i64 q.num, .int .i64 (q.den : Int)], .bool true]) ∧ Below w.heap.size w w' := by
  have hb2 : Below w.heap.size w ((w.alloc (.cells #[.int .i64 s1, .slice a1 n1 c1, .int .i64 s2, .slice a2 n2 c2] 72)).alloc (.cells #[.int .i64 0, .int .i64 0] 34)) := ((Below.refl _ _).alloc (Nat.le_refl _) _).alloc (by simp) _
  obtain ⟨x1, x2⟩ := box2 (w := w) (o := .cells #[.int .i64 s1, .slice a1 n1 c1, .int .i64 s2, .slice a2 n2 c2] 72) (o' := .cells #[.int .i64 0, .int .i64 0] 34) (Below.refl _ _)
  have hd0 : 1 ≤ (q.den : Int) := by have := q.den_nz; omega
  have hs1 : isSmallF q.num (q.den : Int) = true := by
    unfold isSmallF
    rw [Bool.and_eq_true, wIn_iff, wIn_iff]
    omega
  have HS1 := Lib.hid hs1
  have hA : ∀ (A : World) (o : Obj), Below A.heap.size A (A.alloc o) := fun A o => (Below.refl _ _).alloc (Nat.le_refl _) _
  replace h := RatV.keep h hb2
  clear hs1
  go_enter Try.func98, Try.ntmps98
  go_wp2_with fail
  refine (WideInt_any s1 a1 n1 c1 q.num _ h.1 (by omega)).mono ?_
  rintro e w1 ⟨rfl, hs⟩
  replace x1 := blk_keep x1 hs
  replace x2 := blk_keep x2 hs
  replace h := h.keep hs
  replace hb2 := hb2.trans (hs.mono hb2.size)
  have f0 := cell_block x1 2
  have f1 := cell_block x1 3
  clear hs
  go_wp2_with fail
  refine (WideInt_any s2 a2 n2 c2 (q.den : Int) _ h.2 (by omega)).mono ?_
  rintro e w2 ⟨rfl, hs⟩
  replace x1 := blk_keep x1 hs
  replace x2 := blk_keep x2 hs
  replace hb2 := hb2.trans (hs.mono hb2.size)
  clear f0 f1 hs h
  have hk := hA w2 (.cells #[.int .i64 q.num, .int .i64 (q.den : Int)] 34)
  have x3 := alloc_new w2 (.cells #[.int .i64 q.num, .int .i64 (q.den : Int)] 34)
  replace x2 := blk_keep x2 hk
  replace hb2 := hb2.trans (hk.mono hb2.size)
  have f0 := cell_block x3 0
  have f1 := cell_block x3 1
  go_wp2_with fail
  refine (isSmall_any _ _ _).mono ?_
  rintro e w3 ⟨rfl, hs⟩
  rw [HS1.out]
  replace x2 := blk_keep x2 hs
  replace x3 := blk_keep x3 hs
  replace hb2 := hb2.trans (hs.mono hb2.size)
  clear f0 f1 hs
  have f0 := cell_block x3 0
  have f1 := cell_block x3 1
  have g0 := cell_block x2 0
  have g1 := cell_block x2 1
  have g2 := frozen_block x2 0
  have g3 := frozen_block x2 1
  obtain ⟨t1, t2, _, _⟩ := set2 (x := .int .i64 q.num) (y := .int .i64 (q.den : Int)) g0 g1
  go_wp2_with fail
  refine bodyPost_ret (v := .tuple #[.agg #[.int .i64 q.num, .int .i64 (q.den : Int)], .bool true]) (by simp [results, Try.results98, go_sem, t1, t2]) rfl ⟨rfl, ?_⟩
  exact (hb2.setCell (by simp) _).setCell (by simp) _
end Go.Proofs.Ytmaidjankakppaa
