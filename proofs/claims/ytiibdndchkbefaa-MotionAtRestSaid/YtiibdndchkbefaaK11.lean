/- Contracts of chapter 2: rows of fractions, fractions compared, and the least of some. An append of a list within a plan; the check of a rest: plain law. -/
import Derived.Test.YtiibdndchkbefaaK10
namespace Go.Proofs.Ytiibdndchkbefaa
open Go.RowKit
open Calmly (Kept)


theorem Try.info_frac : (Try.prog.info? 86).map (fun i => (i.zero, i.size, i.bytes)) = some (some (.agg #[.int .i64 0, .int .i64 0]), 2, 16) := by kernel_rfl

/-- A row of fractions of the call's own. -/
def OwF (w : World) (B : Nat) (a : Option Addr) (n c : Nat) (l : List (Int × Int)) : Prop := w.ownsRow B 86 2 (.slice a n c) n (rv l)
theorem OwF.nil (w : World) (B : Nat) : OwF w B none 0 0 [] := World.ownsRow_nil w B _ 2
theorem OwF.sr {w : World} {B : Nat} {a : Option Addr} {n c : Nat} {l : List (Int × Int)} (h : OwF w B a n c l) : SR w a n c l := by
  obtain ⟨a', c', he, hs⟩ := Sl.of_owns h
  cases he
  exact hs
theorem OwF.len {w : World} {B : Nat} {a : Option Addr} {n c : Nat} {l : List (Int × Int)} (h : OwF w B a n c l) : n = l.length := h.sr.len
theorem OwF.below {w w' : World} {B B' : Nat} {a : Option Addr} {n c : Nat} {l : List (Int × Int)} (h : OwF w B a n c l) (hb : Below B' w w') (hB : w.heap.size ≤ B') : OwF w' B a n c l := by
  obtain ⟨h1, h2⟩ := h
  refine ⟨h1, ?_⟩
  rcases h2 with h2 | ⟨g, cap, cur, hv, hg, hh, r⟩
  · exact .inl h2
  · refine .inr ⟨g, cap, cur, hv, hg, ?_, r⟩
    rw [hb.block g (by have := (Array.getElem?_eq_some_iff.1 hh).1; omega)]
    exact hh
theorem OwF.keep {w w' : World} {B : Nat} {a : Option Addr} {n c : Nat} {l : List (Int × Int)} (h : OwF w B a n c l) (hb : Below w.heap.size w w') : OwF w' B a n c l := h.below hb (Nat.le_refl _)
theorem OwF.drew {w : World} {B : Nat} {a : Option Addr} {n c : Nat} {l : List (Int × Int)} (h : OwF w B a n c l) : OwF w.drew B a n c l := h
theorem OwF.weak {w : World} {B B' : Nat} {a : Option Addr} {n c : Nat} {l : List (Int × Int)} (h : OwF w B a n c l) (hB : B' ≤ B) : OwF w B' a n c l := by
  obtain ⟨h1, h2⟩ := h
  refine ⟨h1, ?_⟩
  rcases h2 with h2 | ⟨g, cap, cur, hv, hg, r⟩
  · exact .inl h2
  · exact .inr ⟨g, cap, cur, hv, Nat.le_trans hB hg, r⟩
/-- A store below the call's own rows. -/
theorem OwF.under {w : World} {B : Nat} {a : Option Addr} {n c : Nat} {l : List (Int × Int)} (h : OwF w B a n c l) {r o : Nat} (hr : r < B) (v : Value) : OwF (w.setCell ⟨r, o, none⟩ v) B a n c l := by
  obtain ⟨h1, h2⟩ := h
  refine ⟨h1, ?_⟩
  rcases h2 with h2 | ⟨g, cap, cur, hv, hg, hh, r'⟩
  · exact .inl h2
  · refine .inr ⟨g, cap, cur, hv, hg, ?_, r'⟩
    rw [Below.heap_setCell _ _ _ _ (by show g ≠ r; omega)]
    exact hh
theorem appF {ops : Array Oper} {rest : List Oper} {o : Oper} {a : Act} {Q : Exit → Act → World → Prop} {w0 : World} {B : Nat} {av : Option Addr} {n c : Nat} {l : List (Int × Int)} {x y : Int} (hgd : o.guard = none) (s x' : Operand)
    (ho : o.op = .call { callee := .builtin .append, args := #[s, x'], argTypes := #[168, 168] })
    (hown : OwF w0 B av n c l) (hs : a.eval s = .slice av n c) (hx : a.eval x' = .slice (some ⟨w0.heap.size, 0, none⟩) 1 1)
    (hb1 : n + 1 ≤ 1099511627776) (hB : B ≤ w0.heap.size)
    (h : ∀ a' c' w', OwF w' B a' (n + 1) c' (l ++ [(x, y)]) → Below B w0 w' → w0.heap.size < w'.heap.size → wpList Try.prog ops Q rest (a.put o.dst (.slice a' (n + 1) c')) w') :
    wpList Try.prog ops Q (o :: rest) a (w0.alloc (.cells #[.int .i64 x, .int .i64 y] 86)) := by
  obtain ⟨i0, hi, hz0, hz1, hz2⟩ := info_parts Try.info_frac
  refine app1 hgd s x' _ ho B _ i0 (.agg #[.int .i64 0, .int .i64 0]) 2 16 Try.underlying168 hi hz0 hz1 hz2 rfl (by decide) av n c _ hown #[.int .i64 x, .int .i64 y] hs hx rfl (by simp [Value.oneCell']) (by omega) (by omega) hB ?_
  intro a' c' w1 h1 h2 h3
  exact h a' c' w1 (by unfold OwF; rw [rv_append]; exact h1) h2 h3

set_option maxHeartbeats 400000 in
theorem nan_any (x : Int) (w : World) : Calls Try.prog 166 #[.int .i64 x] w fun e w' => e = .returned (.bool false) ∧ w = w' := by
  go_enter Try.func166, Try.ntmps166
  go_wp2_with fail
  go_ret
  exact ⟨ret_bool (by simp), rfl⟩
set_option maxHeartbeats 400000 in
theorem compare_int (x y : Int) (w : World) : Calls Try.prog 137 #[.int .i64 x, .int .i64 y] w fun e w' => e = .returned (.int .i64 (cmpQ x y)) ∧ w = w' := by
  go_enter Try.func137, Try.ntmps137
  go_wp2_with fail
  refine (nan_any _ _).mono ?_
  rintro e w1 ⟨rfl, rfl⟩
  go_wp2_with fail
  refine (nan_any _ _).mono ?_
  rintro e w1 ⟨rfl, rfl⟩
  go_wp2_with fail
  all_goals
    go_ret
    refine ⟨ret_int ?_, rfl⟩
    unfold cmpQ
    first
      | rw [if_pos (by assumption)]
      | rw [if_neg (by omega), if_pos (by assumption)]
      | rw [if_neg (by omega), if_neg (by omega)]
theorem frac_mul {x y : Int} (h1 : -1000000 ≤ x) (h2 : x ≤ 1000000) (h3 : -1000000 ≤ y) (h4 : y ≤ 1000000) : -1000000000000 ≤ x * y ∧ x * y ≤ 1000000000000 := by
  have e : (x * y).natAbs ≤ 1000000 * 1000000 := by
    rw [Int.natAbs_mul]
    exact Nat.mul_le_mul (by omega) (by omega)
  omega
set_option maxRecDepth 100000 in
set_option maxHeartbeats 400000 in
theorem less_any (x y x' y' : Int) (w : World) (h1 : -1000000 ≤ x) (h2 : x ≤ 1000000) (h3 : -1000000 ≤ y) (h4 : y ≤ 1000000) (h1' : -1000000 ≤ x') (h2' : x' ≤ 1000000) (h3' : -1000000 ≤ y') (h4' : y' ≤ 1000000) :
    Calls Try.prog 136 #[.agg #[.int .i64 x, .int .i64 y], .agg #[.int .i64 x', .int .i64 y']] w fun e w' => e = .returned (.int .i64 (cmpQ (x * y') (x' * y))) ∧ Below w.heap.size w w' := by
  have hb2 : Below w.heap.size w ((w.alloc (.cells #[.int .i64 x, .int .i64 y] 86)).alloc (.cells #[.int .i64 x', .int .i64 y'] 86)) := ((Below.refl _ _).alloc (Nat.le_refl _) _).alloc (by simp) _
  obtain ⟨a1, a2⟩ := frac_mul h1 h2 h3' h4'
  obtain ⟨b1, b2⟩ := frac_mul h1' h2' h3 h4
  go_enter Try.func136, Try.ntmps136
  go_wp2_with fail
  refine (compare_int _ _ _).mono ?_
  rintro e w1 ⟨rfl, rfl⟩
  go_wp2_with fail
  go_ret
  exact ⟨rfl, hb2⟩
set_option maxRecDepth 100000 in
set_option maxHeartbeats 1000000 in
theorem Cmp_fr (x y x' y' : Int) (w : World) (h1 : -1000000 ≤ x) (h2 : x ≤ 1000000) (h3 : -1000000 ≤ y) (h4 : y ≤ 1000000) (h1' : -1000000 ≤ x') (h2' : x' ≤ 1000000) (h3' : -1000000 ≤ y') (h4' : y' ≤ 1000000) :
    Calls Try.prog 55 #[.agg #[.int .i64 x, .int .i64 y], .agg #[.int .i64 x', .int .i64 y']] w fun e w' => e = .returned (.int .i64 (cmpQ (x * y') (x' * y))) ∧ Below w.heap.size w w' := by
  have hb2 : Below w.heap.size w ((w.alloc (.cells #[.int .i64 x, .int .i64 y] 86)).alloc (.cells #[.int .i64 x', .int .i64 y'] 86)) := ((Below.refl _ _).alloc (Nat.le_refl _) _).alloc (by simp) _
  obtain ⟨a1, a2⟩ := frac_mul h1 h2 h3' h4'
  obtain ⟨b1, b2⟩ := frac_mul h1' h2' h3 h4
  go_enter Try.func55, Try.ntmps55
  go_wp2_with fail
  refine Calmly.wp_region_mix 11 (.fl 0 <| .fl 1 <| .fl 2 <| .fl 3 <| .fl 4 <| .fl 5 <| .fl 6 <| .fl 7 <| .fl 8 <| .fl 9 <| .fl 10 <| .tail [11]) (by kernel_rfl) (by kernel_rfl) ?_
  go_wp2_with (first | ((with_reducible refine Calmly.is_fl ?_); refine Calmly.mix_fl rfl ?_ (fun _ _ => ?_); (first | exact .move _ | exact .load _ _ | exact .fieldAddr _ _ _ (by kernel_rfl) | exact .assign _ | exact .binOp _ _ _ _ _ rfl | exact .indexAddr _ _ _ | exact .len _ _ (by kernel_rfl) | exact .field _ _ _ | exact .extract _ _ | exact .pick _ _ _ | exact .build _ _ | exact .slice _ _ _ _ _ | exact .unOp _ _ _ rfl | exact .index _ _ _ | exact .max _ _ _ rfl rfl | exact .min _ _ _ rfl rfl)) | ((with_reducible refine Calmly.is_gl ?_); refine Calmly.mix_gl rfl rfl rfl ?_; first | ((first | with_reducible refine Calmly.gl_tt ?_ (fun _ _ => ?_) | with_reducible refine Calmly.gl_ff ?_ (fun _ _ => ?_)); (first | exact .move _ | exact .load _ _ | exact .fieldAddr _ _ _ (by kernel_rfl) | exact .assign _ | exact .binOp _ _ _ _ _ rfl | exact .indexAddr _ _ _ | exact .len _ _ (by kernel_rfl) | exact .field _ _ _ | exact .extract _ _ | exact .pick _ _ _ | exact .build _ _ | exact .slice _ _ _ _ _ | exact .unOp _ _ _ rfl | exact .index _ _ _ | exact .max _ _ _ rfl rfl | exact .min _ _ _ rfl rfl)) | with_reducible refine Calmly.gl_tf (fun _ _ => ?_) | with_reducible refine Calmly.gl_ft (fun _ _ => ?_)) | ((with_reducible refine Calmly.is_eff ?_); refine Calmly.mix_eff rfl (fun _ _ => ?_)) | ((with_reducible refine Calmly.is_gf ?_); refine Calmly.mix_gf rfl rfl rfl ?_; first | with_reducible refine Calmly.gf_tt (fun _ _ => ?_) | with_reducible refine Calmly.gf_ff (fun _ _ => ?_) | with_reducible refine Calmly.gf_tf (kept_of hk) (fun _ _ => ?_) | with_reducible refine Calmly.gf_ft (kept_of hk) (fun _ _ => ?_)) | ((with_reducible refine Calmly.is_tail ?_); first | refine Calmly.mix_tail_nil ?_ | refine Calmly.mix_tail rfl (fun _ _ => ?_)) | ((with_reducible refine Calmly.is_kept ?_); refine ⟨kept_of hk, ?_⟩) | (with_reducible refine Calmly.mix_alt ?_ ?_))
  all_goals
    go_ret
    refine ⟨?_, hb2.drew⟩
    unfold cmpQ
    first
      | (rw [if_pos (by assumption)]; rfl)
      | (rw [if_neg (by omega), if_pos (by assumption)]; rfl)
      | (rw [if_neg (by omega), if_neg (by omega)]; rfl)

set_option maxRecDepth 100000 in
set_option maxHeartbeats 4000000 in
theorem Lowest_fr (x y : Int) (w : World) (hx1 : -9223372036854775807 ≤ x) (hx2 : x ≤ 9223372036854775807) (hy1 : 0 < y) (hy2 : y ≤ 9223372036854775807) (P Q : Int) (hP : (fracF x y).1 = P) (hQ : (fracF x y).2 = Q) :
    Calls Try.prog 138 #[.int .i64 x, .int .i64 y] w fun e w' => e = .returned (.agg #[.int .i64 P, .int .i64 Q]) ∧ Below w.heap.size w w' := by
  have hb : ∀ o, Below w.heap.size w (w.alloc o) := fun o => (Below.refl _ _).alloc (Nat.le_refl _) _
  have hnew := alloc_new w (.cells #[.int .i64 0, .int .i64 0] 86)
  have HP := Lib.hid hP
  have HQ := Lib.hid hQ
  clear hP hQ
  go_enter Try.func138, Try.ntmps138
  go_wp2_with fail
  refine (gcd_any x y _ (by omega) (by omega) (by omega) (by omega)).mono ?_
  rintro e w1 ⟨rfl, k, rfl⟩
  have hg0 : (0 : Int) < Int.gcd x y := by have := Int.gcd_pos_of_ne_zero_right (a := x) (b := y) (by omega); omega
  have hg1 : (Int.gcd x y : Int) ≤ 9223372036854775807 := by have := Int.gcd_le_right x hy1; omega
  obtain ⟨g, hgg⟩ : ∃ g : Int, (Int.gcd x y : Int) = g := ⟨_, rfl⟩
  have hf : fracF x y = (x.tdiv g, y.tdiv g) := by unfold fracF; rw [hgg]
  have HF := Lib.hid hf
  rw [hgg] at hg0 hg1 ⊢
  clear hf hgg
  have hg2 : (g == 0) = false := by simp; omega
  have b1 : -9223372036854775807 ≤ x.tdiv g ∧ x.tdiv g ≤ 9223372036854775807 := by
    have := Int.natAbs_tdiv_le_natAbs x g
    omega
  have b2 : -9223372036854775807 ≤ y.tdiv g ∧ y.tdiv g ≤ 9223372036854775807 := by
    have := Int.natAbs_tdiv_le_natAbs y g
    omega
  obtain ⟨b11, b12⟩ := b1
  obtain ⟨b21, b22⟩ := b2
  have hy0 : 0 ≤ y := by omega
  go_wp2_with fail
  refine Calmly.wp_region_mix 6 (.fl 0 <| .fl 1 <| .fl 2 <| .fl 3 <| .fl 4 <| .fl 5 <| .tail [6, 7]) (by kernel_rfl) (by kernel_rfl) ?_
  go_wp2_with (first | ((with_reducible refine Calmly.is_fl ?_); refine Calmly.mix_fl rfl ?_ (fun _ _ => ?_); (first | exact .move _ | exact .load _ _ | exact .fieldAddr _ _ _ (by kernel_rfl) | exact .assign _ | exact .binOp _ _ _ _ _ rfl | exact .indexAddr _ _ _ | exact .len _ _ (by kernel_rfl) | exact .field _ _ _ | exact .extract _ _ | exact .pick _ _ _ | exact .build _ _ | exact .slice _ _ _ _ _ | exact .unOp _ _ _ rfl | exact .index _ _ _ | exact .max _ _ _ rfl rfl | exact .min _ _ _ rfl rfl)) | ((with_reducible refine Calmly.is_gl ?_); refine Calmly.mix_gl rfl rfl rfl ?_; first | ((first | with_reducible refine Calmly.gl_tt ?_ (fun _ _ => ?_) | with_reducible refine Calmly.gl_ff ?_ (fun _ _ => ?_)); (first | exact .move _ | exact .load _ _ | exact .fieldAddr _ _ _ (by kernel_rfl) | exact .assign _ | exact .binOp _ _ _ _ _ rfl | exact .indexAddr _ _ _ | exact .len _ _ (by kernel_rfl) | exact .field _ _ _ | exact .extract _ _ | exact .pick _ _ _ | exact .build _ _ | exact .slice _ _ _ _ _ | exact .unOp _ _ _ rfl | exact .index _ _ _ | exact .max _ _ _ rfl rfl | exact .min _ _ _ rfl rfl)) | with_reducible refine Calmly.gl_tf (fun _ _ => ?_) | with_reducible refine Calmly.gl_ft (fun _ _ => ?_)) | ((with_reducible refine Calmly.is_eff ?_); refine Calmly.mix_eff rfl (fun _ _ => ?_)) | ((with_reducible refine Calmly.is_gf ?_); refine Calmly.mix_gf rfl rfl rfl ?_; first | with_reducible refine Calmly.gf_tt (fun _ _ => ?_) | with_reducible refine Calmly.gf_ff (fun _ _ => ?_) | with_reducible refine Calmly.gf_tf (kept_of hk) (fun _ _ => ?_) | with_reducible refine Calmly.gf_ft (kept_of hk) (fun _ _ => ?_)) | ((with_reducible refine Calmly.is_tail ?_); first | refine Calmly.mix_tail_nil ?_ | refine Calmly.mix_tail rfl (fun _ _ => ?_)) | ((with_reducible refine Calmly.is_kept ?_); refine ⟨kept_of hk, ?_⟩) | (with_reducible refine Calmly.mix_alt ?_ ?_))
  refine bodyPost_ret (v := .agg #[.int .i64 (x.tdiv g), .int .i64 (y.tdiv g)]) (by simp [results, Try.results138, go_sem]) rfl ⟨by rw [← HP.out, ← HQ.out, HF.out], ?_⟩
  exact ((below_drewN ((Below.refl _ _).alloc (Nat.le_refl _) _) k).drew.setCell (by simp) _).setCell (by simp) _

theorem gcds_two (x y : Int) : (gcds [x, y] : Int) = Int.gcd x y := by
  simp [gcds, Int.gcd]

set_option maxRecDepth 100000 in
set_option maxHeartbeats 4000000 in
theorem fraction_any (x y : Int) (w : World) (hx1 : -9223372036854775807 ≤ x) (hx2 : x ≤ 9223372036854775807) (hy1 : 0 < y) (hy2 : y ≤ 9223372036854775807) (P Q : Int) (hP : (fracF x y).1 = P) (hQ : (fracF x y).2 = Q) :
    Calls Try.prog 127 #[.int .i64 x, .int .i64 y] w fun e w' => e = .returned (.agg #[.int .i64 P, .int .i64 Q]) ∧ Below w.heap.size w w' := by
  have hnew := alloc_new w (.cells #[.int .i64 0, .int .i64 0] 86)
  have HP := Lib.hid hP
  have HQ := Lib.hid hQ
  have BW : Below w.heap.size w (w.alloc (.cells #[.int .i64 0, .int .i64 0] 86)) := (Below.refl _ _).alloc (Nat.le_refl _) _
  clear hP hQ
  go_enter Try.func127, Try.ntmps127
  go_wp2_with fail
  obtain ⟨W, hW⟩ : ∃ W, w.alloc (.cells #[.int .i64 0, .int .i64 0] 86) = W := ⟨_, rfl⟩
  have hWs : w.heap.size + 1 = W.heap.size := by rw [← hW]; simp
  rw [hW] at hnew BW ⊢
  clear hW
  refine (nDivisor_any _ 2 2 [x, y] _ (SI.two _ _ _ _ hWs) (by intro v hv; simp at hv; omega)).mono ?_
  rintro e w1 ⟨rfl, k, rfl⟩
  rw [gcds_two]
  have hW2 : Below W.heap.size W ((W.alloc (.cells #[.int .i64 x, .int .i64 y] 3)).drewN k) := below_drewN ((Below.refl _ _).alloc (Nat.le_refl _) _) k
  generalize World.drewN _ k = W2 at hW2 ⊢
  replace BW := BW.trans (hW2.mono BW.size)
  replace hnew := blk_keep hnew hW2
  clear hW2
  have hg0 : (0 : Int) < Int.gcd x y := by have := Int.gcd_pos_of_ne_zero_right (a := x) (b := y) (by omega); omega
  have hg1 : (Int.gcd x y : Int) ≤ 9223372036854775807 := by have := Int.gcd_le_right x hy1; omega
  obtain ⟨g, hgg⟩ : ∃ g : Int, (Int.gcd x y : Int) = g := ⟨_, rfl⟩
  have hf : fracF x y = (x.tdiv g, y.tdiv g) := by unfold fracF; rw [hgg]
  have HF := Lib.hid hf
  rw [hgg] at hg0 hg1 ⊢
  clear hf hgg
  have hg2 : (g == 0) = false := by simp; omega
  have b1 : -9223372036854775807 ≤ x.tdiv g ∧ x.tdiv g ≤ 9223372036854775807 := by
    have := Int.natAbs_tdiv_le_natAbs x g
    omega
  have b2 : -9223372036854775807 ≤ y.tdiv g ∧ y.tdiv g ≤ 9223372036854775807 := by
    have := Int.natAbs_tdiv_le_natAbs y g
    omega
  obtain ⟨b11, b12⟩ := b1
  obtain ⟨b21, b22⟩ := b2
  have g0 := cell_block hnew 0
  have g1 := cell_block hnew 1
  have g3 := frozen_block hnew 0
  have g4 := frozen_block hnew 1
  go_wp2_with fail
  refine Calmly.wp_region_mix 6 (.fl 0 <| .fl 1 <| .fl 2 <| .fl 3 <| .fl 4 <| .fl 5 <| .tail [6, 7]) (by kernel_rfl) (by kernel_rfl) ?_
  replace BW := BW.drew
  replace hnew := blk_keep hnew (Below.refl _ _).drew
  clear g0 g1 g3 g4
  generalize World.drew _ = V2 at hnew BW ⊢
  have g0 := cell_block hnew 0
  have g1 := cell_block hnew 1
  have g3 := frozen_block hnew 0
  have g4 := frozen_block hnew 1
  have hk := Below.refl V2.heap.size V2
  go_wp2_with (first | ((with_reducible refine Calmly.is_fl ?_); refine Calmly.mix_fl rfl ?_ (fun _ _ => ?_); (first | exact .move _ | exact .load _ _ | exact .fieldAddr _ _ _ (by kernel_rfl) | exact .assign _ | exact .binOp _ _ _ _ _ rfl | exact .indexAddr _ _ _ | exact .len _ _ (by kernel_rfl) | exact .field _ _ _ | exact .extract _ _ | exact .pick _ _ _ | exact .build _ _ | exact .slice _ _ _ _ _ | exact .unOp _ _ _ rfl | exact .index _ _ _ | exact .max _ _ _ rfl rfl | exact .min _ _ _ rfl rfl)) | ((with_reducible refine Calmly.is_gl ?_); refine Calmly.mix_gl rfl rfl rfl ?_; first | ((first | with_reducible refine Calmly.gl_tt ?_ (fun _ _ => ?_) | with_reducible refine Calmly.gl_ff ?_ (fun _ _ => ?_)); (first | exact .move _ | exact .load _ _ | exact .fieldAddr _ _ _ (by kernel_rfl) | exact .assign _ | exact .binOp _ _ _ _ _ rfl | exact .indexAddr _ _ _ | exact .len _ _ (by kernel_rfl) | exact .field _ _ _ | exact .extract _ _ | exact .pick _ _ _ | exact .build _ _ | exact .slice _ _ _ _ _ | exact .unOp _ _ _ rfl | exact .index _ _ _ | exact .max _ _ _ rfl rfl | exact .min _ _ _ rfl rfl)) | with_reducible refine Calmly.gl_tf (fun _ _ => ?_) | with_reducible refine Calmly.gl_ft (fun _ _ => ?_)) | ((with_reducible refine Calmly.is_eff ?_); refine Calmly.mix_eff rfl (fun _ _ => ?_)) | ((with_reducible refine Calmly.is_gf ?_); refine Calmly.mix_gf rfl rfl rfl ?_; first | with_reducible refine Calmly.gf_tt (fun _ _ => ?_) | with_reducible refine Calmly.gf_ff (fun _ _ => ?_) | with_reducible refine Calmly.gf_tf (kept_of hk) (fun _ _ => ?_) | with_reducible refine Calmly.gf_ft (kept_of hk) (fun _ _ => ?_)) | ((with_reducible refine Calmly.is_tail ?_); first | refine Calmly.mix_tail_nil ?_ | refine Calmly.mix_tail rfl (fun _ _ => ?_)) | ((with_reducible refine Calmly.is_kept ?_); refine ⟨kept_of hk, ?_⟩) | (with_reducible refine Calmly.mix_alt ?_ ?_))
  obtain ⟨s1, s2, _, _⟩ := set2 (x := .int .i64 (x.tdiv g)) (y := .int .i64 (y.tdiv g)) g0 g1
  refine bodyPost_ret (v := .agg #[.int .i64 (x.tdiv g), .int .i64 (y.tdiv g)]) (by simp [results, Try.results127, go_sem, s1, s2]) rfl ⟨by rw [← HP.out, ← HQ.out, HF.out], ?_⟩
  exact (BW.setCell (by simp) _).setCell (by simp) _

theorem minL_succ (l : List (Int × Int)) (k : Nat) (h0 : 0 < k) (hk : k < l.length) : minL (l.take (k + 1)) = minQ (minL (l.take k)) (l[k]?.getD (0, 0)) := by
  rw [List.take_succ_eq_append_getElem hk, List.getElem?_eq_getElem hk]
  cases l with
  | nil => simp at hk
  | cons b l =>
    cases k with
    | zero => omega
    | succ k =>
      have hk' : k < l.length := by simpa using hk
      show List.foldl minQ b (List.take k l ++ [l[k]]) = minQ (List.foldl minQ b (List.take k l)) l[k]
      rw [List.foldl_append]
      rfl
theorem minL_one (l : List (Int × Int)) (h : 0 < l.length) : minL (l.take 1) = l[0]?.getD (0, 0) := by
  cases l with
  | nil => simp at h
  | cons b l => simp [minL]
theorem minL_bd {l : List (Int × Int)} (hb : ∀ j : Nat, -1000000 ≤ (l[j]?.getD (0, 0)).1 ∧ (l[j]?.getD (0, 0)).1 ≤ 1000000 ∧ -1000000 ≤ (l[j]?.getD (0, 0)).2 ∧ (l[j]?.getD (0, 0)).2 ≤ 1000000) (k : Nat) (h0 : 0 < k) (hk : k ≤ l.length) :
    -1000000 ≤ (minL (l.take k)).1 ∧ (minL (l.take k)).1 ≤ 1000000 ∧ -1000000 ≤ (minL (l.take k)).2 ∧ (minL (l.take k)).2 ≤ 1000000 := by
  induction k with
  | zero => omega
  | succ k ih =>
    rcases Nat.eq_zero_or_pos k with rfl | h
    · rw [minL_one l (by omega)]
      exact hb 0
    · rw [minL_succ l k h (by omega)]
      unfold minQ
      split
      · exact hb k
      · exact ih h (by omega)

set_option maxRecDepth 100000 in
set_option maxHeartbeats 4000000 in
theorem MinFunc_any (a : Option Addr) (n c : Nat) (l : List (Int × Int)) (w : World) (h1 : SR w a n c l) (h0 : 0 < n) (hb : ∀ j : Nat, -1000000 ≤ (l[j]?.getD (0, 0)).1 ∧ (l[j]?.getD (0, 0)).1 ≤ 1000000 ∧ -1000000 ≤ (l[j]?.getD (0, 0)).2 ∧ (l[j]?.getD (0, 0)).2 ≤ 1000000) (X Y : Int) (hX : (minL l).1 = X) (hY : (minL l).2 = Y) :
    Calls Try.prog 135 #[.slice a n c, .func (.func 136) #[] #[]] w fun e w' => e = .returned (.agg #[.int .i64 X, .int .i64 Y]) ∧ Below w.heap.size w w' := by
  obtain ⟨l1, l2⟩ : n ≤ l.length ∧ l.length ≤ n := by have := h1.len; omega
  have m1 := h1.max
  have c1 := h1.cap
  obtain ⟨b, o, rfl, hc⟩ := h1.at_ h0
  obtain ⟨y0, y1⟩ := hc 0 h0
  have hm1 := minL_one l (by omega)
  obtain ⟨x, hx⟩ : ∃ x, l[0]?.getD (0, 0) = x := ⟨_, rfl⟩
  obtain ⟨xp, xq⟩ := x
  rw [hx] at hm1 y0 y1
  simp only [Nat.zero_mul, Nat.add_zero] at y0 y1
  have hl0 : (0 : Int) < (n : Int) := by omega
  have hl1 : (1 : Int) ≤ (n : Int) := by omega
  have HX := Lib.hid hX
  have HY := Lib.hid hY
  have HB := Lib.hid hb
  have HC := Lib.hid hc
  have HM1 := Lib.hid hm1
  clear hX hY hb hc hx hm1
  have hA : ∀ (A : World) (o : Obj), Below A.heap.size A (A.alloc o) := fun A o => (Below.refl _ _).alloc (Nat.le_refl _) _
  have p4 := box1 (w := w) (o := .cells #[.int .i64 0, .int .i64 0] 86) (hA (w.alloc (.cells #[.int .i64 0, .int .i64 0] 86)) (.cells #[.int .i64 xp, .int .i64 xq] 86))
  have p5 := alloc_new (w.alloc (.cells #[.int .i64 0, .int .i64 0] 86)) (.cells #[.int .i64 xp, .int .i64 xq] 86)
  have BW : Below w.heap.size w ((w.alloc (.cells #[.int .i64 0, .int .i64 0] 86)).alloc (.cells #[.int .i64 xp, .int .i64 xq] 86)) := ((Below.refl _ _).alloc (Nat.le_refl _) _).alloc (by simp) _
  simp only [World.size_alloc] at p5
  replace y0 := cell_keep y0 (hA w (.cells #[.int .i64 0, .int .i64 0] 86))
  replace y1 := cell_keep y1 (hA w (.cells #[.int .i64 0, .int .i64 0] 86))
  go_enter Try.func135, Try.ntmps135
  go_wp2_with fail
  go_loopw [6] (fun i wr => ∃ (k : Nat) (x y : Int), 1 ≤ k ∧ k ≤ n ∧ i = .int .i64 k ∧ minL (l.take k) = (x, y) ∧ wr.heap[w.heap.size]? = some (.cells #[.int .i64 0, .int .i64 0] 86) ∧ wr.heap[w.heap.size + 1]? = some (.cells #[.int .i64 x, .int .i64 y] 86) ∧ Below w.heap.size w wr) (fun i _ => n - (intOf i).toNat)
  case atStart => exact ⟨1, xp, xq, by omega, by omega, rfl, HM1.out, p4, p5, BW⟩
  case round =>
    obtain ⟨k, x, y, hk0, hkn, rfl, ht, q4, q5, hbr⟩ := hrel
    have HT := Lib.hid ht
    clear ht p4 p5 BW y0 y1
    have hrs := hbr.size
    by_cases hlt : k < n
    · obtain ⟨rr, hrr⟩ : ∃ rr, l[k]?.getD (0, 0) = rr := ⟨_, rfl⟩
      obtain ⟨u, v⟩ := rr
      obtain ⟨z0, z1⟩ := HC.out k hlt
      replace z0 := cell_keep z0 hbr
      replace z1 := cell_keep z1 hbr
      have hbk := HB.out k
      have hbm := minL_bd HB.out k (by omega) (by omega)
      have hs := minL_succ l k (by omega) (by omega)
      rw [HT.out] at hbm hs
      rw [hrr] at hbk hs z0 z1
      dsimp only at z0 z1 hbm hbk
      obtain ⟨c1', c2, c3, c4⟩ := hbk
      obtain ⟨d1, d2, d3, d4⟩ := hbm
      have hi1 : (k : Int) < (n : Int) := by omega
      have hi0 : (0 : Int) ≤ (k : Int) := by omega
      have HZ := Lib.hid hrr
      by_cases hq : u * y < x * v
      · have hcc : cmpQ (u * y) (x * v) = -1 := by unfold cmpQ; rw [if_pos hq]
        have hm : minL (l.take (k + 1)) = (u, v) := by rw [hs]; unfold minQ; exact if_pos hq
        have HCC := Lib.hid hcc
        have HM := Lib.hid hm
        clear hcc hm hq hrr
        clear hs
        go_wp2_with fail
        refine Calmly.wp_region_mix 7 (.fl 0 <| .fl 1 <| .fl 2 <| .fl 3 <| .fl 4 <| .fl 5 <| .eff 6 <| .tail [7]) (by kernel_rfl) (by kernel_rfl) ?_
        have hd := (Below.refl wr.heap.size wr).drew
        replace q4 := blk_keep q4 hd
        replace q5 := blk_keep q5 hd
        have BV := hbr.trans (hd.mono hrs)
        clear hd hbr z0 z1
        generalize wr.drew = V at q4 q5 BV ⊢
        (try clear g0 g1 g2 g3 z0 z1); have z0 := cell_keep (HC.out k hlt).1 BV; have z1 := cell_keep (HC.out k hlt).2 BV; rw [HZ.out] at z0 z1; dsimp only at z0 z1; have g0 := cell_block q5 0; have g1 := cell_block q5 1; have g2 := frozen_block q5 0; have g3 := frozen_block q5 1
        have hk := Below.refl V.heap.size V
        go_wp2_with (first | ((with_reducible refine Calmly.is_fl ?_); refine Calmly.mix_fl rfl ?_ (fun _ _ => ?_); (first | exact .move _ | exact .load _ _ | exact .fieldAddr _ _ _ (by kernel_rfl) | exact .assign _ | exact .binOp _ _ _ _ _ rfl | exact .indexAddr _ _ _ | exact .len _ _ (by kernel_rfl) | exact .field _ _ _ | exact .extract _ _ | exact .pick _ _ _ | exact .build _ _ | exact .slice _ _ _ _ _ | exact .unOp _ _ _ rfl | exact .index _ _ _ | exact .max _ _ _ rfl rfl | exact .min _ _ _ rfl rfl)) | ((with_reducible refine Calmly.is_gl ?_); refine Calmly.mix_gl rfl rfl rfl ?_; first | ((first | with_reducible refine Calmly.gl_tt ?_ (fun _ _ => ?_) | with_reducible refine Calmly.gl_ff ?_ (fun _ _ => ?_)); (first | exact .move _ | exact .load _ _ | exact .fieldAddr _ _ _ (by kernel_rfl) | exact .assign _ | exact .binOp _ _ _ _ _ rfl | exact .indexAddr _ _ _ | exact .len _ _ (by kernel_rfl) | exact .field _ _ _ | exact .extract _ _ | exact .pick _ _ _ | exact .build _ _ | exact .slice _ _ _ _ _ | exact .unOp _ _ _ rfl | exact .index _ _ _ | exact .max _ _ _ rfl rfl | exact .min _ _ _ rfl rfl)) | with_reducible refine Calmly.gl_tf (fun _ _ => ?_) | with_reducible refine Calmly.gl_ft (fun _ _ => ?_)) | ((with_reducible refine Calmly.is_eff ?_); refine Calmly.mix_eff rfl (fun _ _ => ?_)) | ((with_reducible refine Calmly.is_gf ?_); refine Calmly.mix_gf rfl rfl rfl ?_; first | with_reducible refine Calmly.gf_tt (fun _ _ => ?_) | with_reducible refine Calmly.gf_ff (fun _ _ => ?_) | with_reducible refine Calmly.gf_tf (kept_of hk) (fun _ _ => ?_) | with_reducible refine Calmly.gf_ft (kept_of hk) (fun _ _ => ?_)) | ((with_reducible refine Calmly.is_tail ?_); first | refine Calmly.mix_tail_nil ?_ | refine Calmly.mix_tail rfl (fun _ _ => ?_)) | ((with_reducible refine Calmly.is_kept ?_); refine ⟨kept_of hk, ?_⟩) | (with_reducible refine Calmly.mix_alt ?_ ?_) | (go_at_call 136; refine (less_any u v x y _ c1' c2 c3 c4 d1 d2 d3 d4).mono ?_; rintro e w3 ⟨rfl, hs⟩; rw [HCC.out]; replace hk := step_of hk hs; clear hs; replace q4 := blk_keep q4 hk; replace q5 := blk_keep q5 hk; replace BV := BV.trans (hk.mono BV.size); (try clear g0 g1 g2 g3 z0 z1); have z0 := cell_keep (HC.out k hlt).1 BV; have z1 := cell_keep (HC.out k hlt).2 BV; rw [HZ.out] at z0 z1; dsimp only at z0 z1; have g0 := cell_block q5 0; have g1 := cell_block q5 1; have g2 := frozen_block q5 0; have g3 := frozen_block q5 1))
        refine ⟨⟨k + 1, u, v, by omega, by omega, by go_num, HM.out, ?_, blk_setAt (blk_setAt q5 0 _) 1 _, (BV.setCell (by simp) _).setCell (by simp) _⟩, by simp [intOf]; omega⟩
        rw [Below.heap_setCell _ _ _ _ (by simp), Below.heap_setCell _ _ _ _ (by simp)]
        exact q4
      · obtain ⟨cc, hcc⟩ : ∃ cc, cmpQ (u * y) (x * v) = cc := ⟨_, rfl⟩
        have hc0 : 0 ≤ cc := by rw [← hcc]; unfold cmpQ; rw [if_neg hq]; split <;> decide
        have hm : minL (l.take (k + 1)) = (x, y) := by rw [hs]; unfold minQ; exact if_neg hq
        have HCC := Lib.hid hcc
        have HM := Lib.hid hm
        clear hcc hm hq hrr
        clear hs
        go_wp2_with fail
        refine Calmly.wp_region_mix 7 (.fl 0 <| .fl 1 <| .fl 2 <| .fl 3 <| .fl 4 <| .fl 5 <| .eff 6 <| .tail [7]) (by kernel_rfl) (by kernel_rfl) ?_
        have hd := (Below.refl wr.heap.size wr).drew
        replace q4 := blk_keep q4 hd
        replace q5 := blk_keep q5 hd
        have BV := hbr.trans (hd.mono hrs)
        clear hd hbr z0 z1
        generalize wr.drew = V at q4 q5 BV ⊢
        (try clear g0 g1 g2 g3 z0 z1); have z0 := cell_keep (HC.out k hlt).1 BV; have z1 := cell_keep (HC.out k hlt).2 BV; rw [HZ.out] at z0 z1; dsimp only at z0 z1; have g0 := cell_block q5 0; have g1 := cell_block q5 1; have g2 := frozen_block q5 0; have g3 := frozen_block q5 1
        have hk := Below.refl V.heap.size V
        go_wp2_with (first | ((with_reducible refine Calmly.is_fl ?_); refine Calmly.mix_fl rfl ?_ (fun _ _ => ?_); (first | exact .move _ | exact .load _ _ | exact .fieldAddr _ _ _ (by kernel_rfl) | exact .assign _ | exact .binOp _ _ _ _ _ rfl | exact .indexAddr _ _ _ | exact .len _ _ (by kernel_rfl) | exact .field _ _ _ | exact .extract _ _ | exact .pick _ _ _ | exact .build _ _ | exact .slice _ _ _ _ _ | exact .unOp _ _ _ rfl | exact .index _ _ _ | exact .max _ _ _ rfl rfl | exact .min _ _ _ rfl rfl)) | ((with_reducible refine Calmly.is_gl ?_); refine Calmly.mix_gl rfl rfl rfl ?_; first | ((first | with_reducible refine Calmly.gl_tt ?_ (fun _ _ => ?_) | with_reducible refine Calmly.gl_ff ?_ (fun _ _ => ?_)); (first | exact .move _ | exact .load _ _ | exact .fieldAddr _ _ _ (by kernel_rfl) | exact .assign _ | exact .binOp _ _ _ _ _ rfl | exact .indexAddr _ _ _ | exact .len _ _ (by kernel_rfl) | exact .field _ _ _ | exact .extract _ _ | exact .pick _ _ _ | exact .build _ _ | exact .slice _ _ _ _ _ | exact .unOp _ _ _ rfl | exact .index _ _ _ | exact .max _ _ _ rfl rfl | exact .min _ _ _ rfl rfl)) | with_reducible refine Calmly.gl_tf (fun _ _ => ?_) | with_reducible refine Calmly.gl_ft (fun _ _ => ?_)) | ((with_reducible refine Calmly.is_eff ?_); refine Calmly.mix_eff rfl (fun _ _ => ?_)) | ((with_reducible refine Calmly.is_gf ?_); refine Calmly.mix_gf rfl rfl rfl ?_; first | with_reducible refine Calmly.gf_tt (fun _ _ => ?_) | with_reducible refine Calmly.gf_ff (fun _ _ => ?_) | with_reducible refine Calmly.gf_tf (kept_of hk) (fun _ _ => ?_) | with_reducible refine Calmly.gf_ft (kept_of hk) (fun _ _ => ?_)) | ((with_reducible refine Calmly.is_tail ?_); first | refine Calmly.mix_tail_nil ?_ | refine Calmly.mix_tail rfl (fun _ _ => ?_)) | ((with_reducible refine Calmly.is_kept ?_); refine ⟨kept_of hk, ?_⟩) | (with_reducible refine Calmly.mix_alt ?_ ?_) | (go_at_call 136; refine (less_any u v x y _ c1' c2 c3 c4 d1 d2 d3 d4).mono ?_; rintro e w3 ⟨rfl, hs⟩; rw [HCC.out]; replace hk := step_of hk hs; clear hs; replace q4 := blk_keep q4 hk; replace q5 := blk_keep q5 hk; replace BV := BV.trans (hk.mono BV.size); (try clear g0 g1 g2 g3 z0 z1); have z0 := cell_keep (HC.out k hlt).1 BV; have z1 := cell_keep (HC.out k hlt).2 BV; rw [HZ.out] at z0 z1; dsimp only at z0 z1; have g0 := cell_block q5 0; have g1 := cell_block q5 1; have g2 := frozen_block q5 0; have g3 := frozen_block q5 1))
        exact ⟨⟨k + 1, x, y, by omega, by omega, by go_num, HM.out, q4, q5, BV⟩, by simp [intOf]; omega⟩
    · have hle : (n : Int) ≤ (k : Int) := by omega
      have g0 := cell_block q5 0
      have g1 := cell_block q5 1
      have r0 := cell_block q4 0
      have r1 := cell_block q4 1
      have r2 := frozen_block q4 0
      have r3 := frozen_block q4 1
      have hm := HT.out
      rw [List.take_of_length_le (by omega)] at hm
      have hX := HX.out
      have hY := HY.out
      rw [hm] at hX hY
      dsimp only at hX hY
      subst hX hY
      clear hm
      go_wp2_with fail
      obtain ⟨s1, s2, _, _⟩ := set2 (x := .int .i64 x) (y := .int .i64 y) r0 r1
      refine bodyPost_ret (v := .agg #[.int .i64 x, .int .i64 y]) (by simp [results, Try.results135, go_sem, s1, s2]) rfl ⟨rfl, ?_⟩
      exact (hbr.setCell (by simp) _).setCell (by simp) _
end Go.Proofs.Ytiibdndchkbefaa

namespace Go.Proofs.Ytiibdndchkbefaa
open Go.RowKit
open Calmly (Kept)

/-- An append of a list that is not empty to a row of the call's own, within a plan. -/
theorem mix_appL (i : Nat) {k : Calmly.Plan} {dst : Option Tmp} {s x : Operand} {ty : TypeId} {pos : String} {after : Array Edge} {a : Act} {W0 w : World} {ops : Array Oper} {Q : Exit → Act → World → Prop} {B : Nat} {av lv : Option Addr} {n c m lc : Nat} {xs ys : List Int}
    (hi : ops[i]? = some ⟨dst, .call { callee := .builtin .append, args := #[s, x], argTypes := #[22, 22] }, ty, pos, after, none⟩)
    (hown : OwI w B av n c xs) (hl : SI w lv m lc ys) (hm : 0 < m) (hs : a.eval s = .slice av n c) (hx : a.eval x = .slice lv m lc) (hb1 : n + m ≤ 17592186044416) (hB : B ≤ w.heap.size)
    (h : ∀ a' c' w', OwI w' B a' (n + m) c' (xs ++ ys) → Below B w w' → Kept W0 w' ∧ Calmly.WpMix Try.prog ops Q W0 k (a.put dst (.slice a' (n + m) c')) w') :
    Calmly.WpMix Try.prog ops Q W0 (.eff i k) a w := by
  refine Calmly.mix_eff hi (fun K hK => ?_)
  obtain ⟨i0, hi0, hz0, hz1, hz2⟩ := info_parts Try.info_int
  obtain ⟨g1, g2, g3, g4⟩ := hl
  have hrow : ∀ j, (Value.slice av n c).ownBlock = some j → B ≤ j := fun j hj => (World.ownsRow.lt hown j hj).1
  rcases g4 with rfl | ⟨b, off, rfl, hc⟩
  · omega
  · obtain ⟨v', w', hrun, r1, r2, _⟩ := run_append_own (P := Try.prog) w B 22 ty _ i0 (.int .i64 0) 1 8 Try.underlying22 hi0 hz0 hz1 hz2 rfl (by decide) (.slice av n c) n (xs.map (Value.int .i64)) hown ⟨b, off, none⟩ m lc (ys.map (Value.int .i64)) g1 (by
      intro j u hj
      have hjl : j < (ys.map (Value.int .i64)).length := (List.getElem?_eq_some_iff.1 hj).1
      have h2 : ((⟨b, off, none⟩ : Addr).add j) = ⟨b, off + j, none⟩ := by
        unfold Addr.add
        split
        · rename_i h0; subst h0; rfl
        · rfl
      rw [h2, hc j (by omega)]
      exact hj) (oneCell_ints ys) (by unfold maxLen; omega) (by omega) hB
    unfold Oper.wp
    simp [execOp, resolve, invoke, builtin, hs, hx, hrun, Result.andThen]
    obtain ⟨a', c', rfl⟩ := owns_slice r1
    exact hK _ _ (h a' c' w' (by unfold OwI; simpa using r1) (grown_below r2 hB hrow))

/-- The first index that is bad, of so many. -/
def fBad (bad : Nat → Bool) : Nat → Nat → Option Nat
  | _, 0 => none
  | k, m + 1 => if bad k = true then some k else fBad bad (k + 1) m
theorem fBad_none {bad : Nat → Bool} {k m : Nat} (h : ∀ t, k ≤ t → t < k + m → bad t = false) : fBad bad k m = none := by
  induction m generalizing k with
  | zero => rfl
  | succ m ih =>
    rw [fBad, h k (by omega) (by omega)]
    exact ih (fun t h1 h2 => h t (by omega) (by omega))
/-- What is returned for the first bad index. -/
def ckOut : Option Nat → Int × Int
  | none => (0, 0)
  | some t => ((t : Int), 19)
/-- A part differs from the sample by another number than the prices say. -/
def ckBad (xs ps : List Int) (D d v u : Int) (n : Nat) (t : Nat) : Bool := decide (fracF (ps[t]?.getD 0 - xs[t]?.getD 0 * D) D ≠ fracF (v + u * ((n : Int) - (t : Int))) d)
end Go.Proofs.Ytiibdndchkbefaa
