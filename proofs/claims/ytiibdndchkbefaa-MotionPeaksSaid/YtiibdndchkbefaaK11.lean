/- Contracts of chapter 2: rows of fractions, fractions compared, and the least of some. Contracts of chapter 2: the greatest scale. -/
import Derived.Test.YtiibdndchkbefaaK10
namespace Go.Proofs.Ytiibdndchkbefaa
open Go.RowKit
open Calmly (Kept)


theorem Try.info_frac : (Try.prog.info? 86).map (fun i => (i.zero, i.size, i.bytes)) = some (some (.agg #[.int .i64 0, .int .i64 0]), 2, 16) := by kernel_rfl

/-- A row of fractions of the call's own. -/
def OwF (w : World) (B : Nat) (a : Option Addr) (n c : Nat) (l : List (Int × Int)) : Prop := w.ownsRow B 86 2 (.slice a n c) n (rv l)
theorem OwF.nil (w : World) (B : Nat) : OwF w B none 0 0 [] := World.ownsRow_nil w B _ 2
theorem OwF.sr {w : World} {B : Nat} {a : Option Addr} {n c : Nat} {l : List (Int × Int)} (h : OwF w B a n c l) : SR w a n c l := by
  obtain ⟨a', c', he, hs⟩ := Sl.of_owns h
  cases he
  exact hs
theorem OwF.len {w : World} {B : Nat} {a : Option Addr} {n c : Nat} {l : List (Int × Int)} (h : OwF w B a n c l) : n = l.length := h.sr.len
theorem OwF.below {w w' : World} {B B' : Nat} {a : Option Addr} {n c : Nat} {l : List (Int × Int)} (h : OwF w B a n c l) (hb : Below B' w w') (hB : w.heap.size ≤ B') : OwF w' B a n c l := by
  obtain ⟨h1, h2⟩ := h
  refine ⟨h1, ?_⟩
  rcases h2 with h2 | ⟨g, cap, cur, hv, hg, hh, r⟩
  · exact .inl h2
  · refine .inr ⟨g, cap, cur, hv, hg, ?_, r⟩
    rw [hb.block g (by have := (Array.getElem?_eq_some_iff.1 hh).1; omega)]
    exact hh
theorem OwF.keep {w w' : World} {B : Nat} {a : Option Addr} {n c : Nat} {l : List (Int × Int)} (h : OwF w B a n c l) (hb : Below w.heap.size w w') : OwF w' B a n c l := h.below hb (Nat.le_refl _)
theorem OwF.drew {w : World} {B : Nat} {a : Option Addr} {n c : Nat} {l : List (Int × Int)} (h : OwF w B a n c l) : OwF w.drew B a n c l := h
theorem OwF.weak {w : World} {B B' : Nat} {a : Option Addr} {n c : Nat} {l : List (Int × Int)} (h : OwF w B a n c l) (hB : B' ≤ B) : OwF w B' a n c l := by
  obtain ⟨h1, h2⟩ := h
  refine ⟨h1, ?_⟩
  rcases h2 with h2 | ⟨g, cap, cur, hv, hg, r⟩
  · exact .inl h2
  · exact .inr ⟨g, cap, cur, hv, Nat.le_trans hB hg, r⟩
/-- A store below the call's own rows. -/
theorem OwF.under {w : World} {B : Nat} {a : Option Addr} {n c : Nat} {l : List (Int × Int)} (h : OwF w B a n c l) {r o : Nat} (hr : r < B) (v : Value) : OwF (w.setCell ⟨r, o, none⟩ v) B a n c l := by
  obtain ⟨h1, h2⟩ := h
  refine ⟨h1, ?_⟩
  rcases h2 with h2 | ⟨g, cap, cur, hv, hg, hh, r'⟩
  · exact .inl h2
  · refine .inr ⟨g, cap, cur, hv, hg, ?_, r'⟩
    rw [Below.heap_setCell _ _ _ _ (by show g ≠ r; omega)]
    exact hh
theorem appF {ops : Array Oper} {rest : List Oper} {o : Oper} {a : Act} {Q : Exit → Act → World → Prop} {w0 : World} {B : Nat} {av : Option Addr} {n c : Nat} {l : List (Int × Int)} {x y : Int} (hgd : o.guard = none) (s x' : Operand)
    (ho : o.op = .call { callee := .builtin .append, args := #[s, x'], argTypes := #[168, 168] })
    (hown : OwF w0 B av n c l) (hs : a.eval s = .slice av n c) (hx : a.eval x' = .slice (some ⟨w0.heap.size, 0, none⟩) 1 1)
    (hb1 : n + 1 ≤ 1099511627776) (hB : B ≤ w0.heap.size)
    (h : ∀ a' c' w', OwF w' B a' (n + 1) c' (l ++ [(x, y)]) → Below B w0 w' → w0.heap.size < w'.heap.size → wpList Try.prog ops Q rest (a.put o.dst (.slice a' (n + 1) c')) w') :
    wpList Try.prog ops Q (o :: rest) a (w0.alloc (.cells #[.int .i64 x, .int .i64 y] 86)) := by
  obtain ⟨i0, hi, hz0, hz1, hz2⟩ := info_parts Try.info_frac
  refine app1 hgd s x' _ ho B _ i0 (.agg #[.int .i64 0, .int .i64 0]) 2 16 Try.underlying168 hi hz0 hz1 hz2 rfl (by decide) av n c _ hown #[.int .i64 x, .int .i64 y] hs hx rfl (by simp [Value.oneCell']) (by omega) (by omega) hB ?_
  intro a' c' w1 h1 h2 h3
  exact h a' c' w1 (by unfold OwF; rw [rv_append]; exact h1) h2 h3

set_option maxHeartbeats 400000 in
theorem nan_any (x : Int) (w : World) : Calls Try.prog 166 #[.int .i64 x] w fun e w' => e = .returned (.bool false) ∧ w = w' := by
  go_enter Try.func166, Try.ntmps166
  go_wp2_with fail
  go_ret
  exact ⟨ret_bool (by simp), rfl⟩
set_option maxHeartbeats 400000 in
theorem compare_int (x y : Int) (w : World) : Calls Try.prog 137 #[.int .i64 x, .int .i64 y] w fun e w' => e = .returned (.int .i64 (cmpQ x y)) ∧ w = w' := by
  go_enter Try.func137, Try.ntmps137
  go_wp2_with fail
  refine (nan_any _ _).mono ?_
  rintro e w1 ⟨rfl, rfl⟩
  go_wp2_with fail
  refine (nan_any _ _).mono ?_
  rintro e w1 ⟨rfl, rfl⟩
  go_wp2_with fail
  all_goals
    go_ret
    refine ⟨ret_int ?_, rfl⟩
    unfold cmpQ
    first
      | rw [if_pos (by assumption)]
      | rw [if_neg (by omega), if_pos (by assumption)]
      | rw [if_neg (by omega), if_neg (by omega)]
theorem frac_mul {x y : Int} (h1 : -1000000 ≤ x) (h2 : x ≤ 1000000) (h3 : -1000000 ≤ y) (h4 : y ≤ 1000000) : -1000000000000 ≤ x * y ∧ x * y ≤ 1000000000000 := by
  have e : (x * y).natAbs ≤ 1000000 * 1000000 := by
    rw [Int.natAbs_mul]
    exact Nat.mul_le_mul (by omega) (by omega)
  omega
set_option maxRecDepth 100000 in
set_option maxHeartbeats 400000 in
theorem less_any (x y x' y' : Int) (w : World) (h1 : -1000000 ≤ x) (h2 : x ≤ 1000000) (h3 : -1000000 ≤ y) (h4 : y ≤ 1000000) (h1' : -1000000 ≤ x') (h2' : x' ≤ 1000000) (h3' : -1000000 ≤ y') (h4' : y' ≤ 1000000) :
    Calls Try.prog 136 #[.agg #[.int .i64 x, .int .i64 y], .agg #[.int .i64 x', .int .i64 y']] w fun e w' => e = .returned (.int .i64 (cmpQ (x * y') (x' * y))) ∧ Below w.heap.size w w' := by
  have hb2 : Below w.heap.size w ((w.alloc (.cells #[.int .i64 x, .int .i64 y] 86)).alloc (.cells #[.int .i64 x', .int .i64 y'] 86)) := ((Below.refl _ _).alloc (Nat.le_refl _) _).alloc (by simp) _
  obtain ⟨a1, a2⟩ := frac_mul h1 h2 h3' h4'
  obtain ⟨b1, b2⟩ := frac_mul h1' h2' h3 h4
  go_enter Try.func136, Try.ntmps136
  go_wp2_with fail
  refine (compare_int _ _ _).mono ?_
  rintro e w1 ⟨rfl, rfl⟩
  go_wp2_with fail
  go_ret
  exact ⟨rfl, hb2⟩
set_option maxRecDepth 100000 in
set_option maxHeartbeats 1000000 in
theorem Cmp_fr (x y x' y' : Int) (w : World) (h1 : -1000000 ≤ x) (h2 : x ≤ 1000000) (h3 : -1000000 ≤ y) (h4 : y ≤ 1000000) (h1' : -1000000 ≤ x') (h2' : x' ≤ 1000000) (h3' : -1000000 ≤ y') (h4' : y' ≤ 1000000) :
    Calls Try.prog 55 #[.agg #[.int .i64 x, .int .i64 y], .agg #[.int .i64 x', .int .i64 y']] w fun e w' => e = .returned (.int .i64 (cmpQ (x * y') (x' * y))) ∧ Below w.heap.size w w' := by
  have hb2 : Below w.heap.size w ((w.alloc (.cells #[.int .i64 x, .int .i64 y] 86)).alloc (.cells #[.int .i64 x', .int .i64 y'] 86)) := ((Below.refl _ _).alloc (Nat.le_refl _) _).alloc (by simp) _
  obtain ⟨a1, a2⟩ := frac_mul h1 h2 h3' h4'
  obtain ⟨b1, b2⟩ := frac_mul h1' h2' h3 h4
  go_enter Try.func55, Try.ntmps55
  go_wp2_with fail
  refine Calmly.wp_region_mix 11 (.fl 0 <| .fl 1 <| .fl 2 <| .fl 3 <| .fl 4 <| .fl 5 <| .fl 6 <| .fl 7 <| .fl 8 <| .fl 9 <| .fl 10 <| .tail [11]) (by kernel_rfl) (by kernel_rfl) ?_
  go_wp2_with (first | ((with_reducible refine Calmly.is_fl ?_); refine Calmly.mix_fl rfl ?_ (fun _ _ => ?_); (first | exact .move _ | exact .load _ _ | exact .fieldAddr _ _ _ (by kernel_rfl) | exact .assign _ | exact .binOp _ _ _ _ _ rfl | exact .indexAddr _ _ _ | exact .len _ _ (by kernel_rfl) | exact .field _ _ _ | exact .extract _ _ | exact .pick _ _ _ | exact .build _ _ | exact .slice _ _ _ _ _ | exact .unOp _ _ _ rfl | exact .index _ _ _ | exact .max _ _ _ rfl rfl | exact .min _ _ _ rfl rfl)) | ((with_reducible refine Calmly.is_gl ?_); refine Calmly.mix_gl rfl rfl rfl ?_; first | ((first | with_reducible refine Calmly.gl_tt ?_ (fun _ _ => ?_) | with_reducible refine Calmly.gl_ff ?_ (fun _ _ => ?_)); (first | exact .move _ | exact .load _ _ | exact .fieldAddr _ _ _ (by kernel_rfl) | exact .assign _ | exact .binOp _ _ _ _ _ rfl | exact .indexAddr _ _ _ | exact .len _ _ (by kernel_rfl) | exact .field _ _ _ | exact .extract _ _ | exact .pick _ _ _ | exact .build _ _ | exact .slice _ _ _ _ _ | exact .unOp _ _ _ rfl | exact .index _ _ _ | exact .max _ _ _ rfl rfl | exact .min _ _ _ rfl rfl)) | with_reducible refine Calmly.gl_tf (fun _ _ => ?_) | with_reducible refine Calmly.gl_ft (fun _ _ => ?_)) | ((with_reducible refine Calmly.is_eff ?_); refine Calmly.mix_eff rfl (fun _ _ => ?_)) | ((with_reducible refine Calmly.is_gf ?_); refine Calmly.mix_gf rfl rfl rfl ?_; first | with_reducible refine Calmly.gf_tt (fun _ _ => ?_) | with_reducible refine Calmly.gf_ff (fun _ _ => ?_) | with_reducible refine Calmly.gf_tf (kept_of hk) (fun _ _ => ?_) | with_reducible refine Calmly.gf_ft (kept_of hk) (fun _ _ => ?_)) | ((with_reducible refine Calmly.is_tail ?_); first | refine Calmly.mix_tail_nil ?_ | refine Calmly.mix_tail rfl (fun _ _ => ?_)) | ((with_reducible refine Calmly.is_kept ?_); refine ⟨kept_of hk, ?_⟩) | (with_reducible refine Calmly.mix_alt ?_ ?_))
  all_goals
    go_ret
    refine ⟨?_, hb2.drew⟩
    unfold cmpQ
    first
      | (rw [if_pos (by assumption)]; rfl)
      | (rw [if_neg (by omega), if_pos (by assumption)]; rfl)
      | (rw [if_neg (by omega), if_neg (by omega)]; rfl)

set_option maxRecDepth 100000 in
set_option maxHeartbeats 4000000 in
theorem Lowest_fr (x y : Int) (w : World) (hx1 : -9223372036854775807 ≤ x) (hx2 : x ≤ 9223372036854775807) (hy1 : 0 < y) (hy2 : y ≤ 9223372036854775807) (P Q : Int) (hP : (fracF x y).1 = P) (hQ : (fracF x y).2 = Q) :
    Calls Try.prog 138 #[.int .i64 x, .int .i64 y] w fun e w' => e = .returned (.agg #[.int .i64 P, .int .i64 Q]) ∧ Below w.heap.size w w' := by
  have hb : ∀ o, Below w.heap.size w (w.alloc o) := fun o => (Below.refl _ _).alloc (Nat.le_refl _) _
  have hnew := alloc_new w (.cells #[.int .i64 0, .int .i64 0] 86)
  have HP := Lib.hid hP
  have HQ := Lib.hid hQ
  clear hP hQ
  go_enter Try.func138, Try.ntmps138
  go_wp2_with fail
  refine (gcd_any x y _ (by omega) (by omega) (by omega) (by omega)).mono ?_
  rintro e w1 ⟨rfl, k, rfl⟩
  have hg0 : (0 : Int) < Int.gcd x y := by have := Int.gcd_pos_of_ne_zero_right (a := x) (b := y) (by omega); omega
  have hg1 : (Int.gcd x y : Int) ≤ 9223372036854775807 := by have := Int.gcd_le_right x hy1; omega
  obtain ⟨g, hgg⟩ : ∃ g : Int, (Int.gcd x y : Int) = g := ⟨_, rfl⟩
  have hf : fracF x y = (x.tdiv g, y.tdiv g) := by unfold fracF; rw [hgg]
  have HF := Lib.hid hf
  rw [hgg] at hg0 hg1 ⊢
  clear hf hgg
  have hg2 : (g == 0) = false := by simp; omega
  have b1 : -9223372036854775807 ≤ x.tdiv g ∧ x.tdiv g ≤ 9223372036854775807 := by
    have := Int.natAbs_tdiv_le_natAbs x g
    omega
  have b2 : -9223372036854775807 ≤ y.tdiv g ∧ y.tdiv g ≤ 9223372036854775807 := by
    have := Int.natAbs_tdiv_le_natAbs y g
    omega
  obtain ⟨b11, b12⟩ := b1
  obtain ⟨b21, b22⟩ := b2
  have hy0 : 0 ≤ y := by omega
  go_wp2_with fail
  refine Calmly.wp_region_mix 6 (.fl 0 <| .fl 1 <| .fl 2 <| .fl 3 <| .fl 4 <| .fl 5 <| .tail [6, 7]) (by kernel_rfl) (by kernel_rfl) ?_
  go_wp2_with (first | ((with_reducible refine Calmly.is_fl ?_); refine Calmly.mix_fl rfl ?_ (fun _ _ => ?_); (first | exact .move _ | exact .load _ _ | exact .fieldAddr _ _ _ (by kernel_rfl) | exact .assign _ | exact .binOp _ _ _ _ _ rfl | exact .indexAddr _ _ _ | exact .len _ _ (by kernel_rfl) | exact .field _ _ _ | exact .extract _ _ | exact .pick _ _ _ | exact .build _ _ | exact .slice _ _ _ _ _ | exact .unOp _ _ _ rfl | exact .index _ _ _ | exact .max _ _ _ rfl rfl | exact .min _ _ _ rfl rfl)) | ((with_reducible refine Calmly.is_gl ?_); refine Calmly.mix_gl rfl rfl rfl ?_; first | ((first | with_reducible refine Calmly.gl_tt ?_ (fun _ _ => ?_) | with_reducible refine Calmly.gl_ff ?_ (fun _ _ => ?_)); (first | exact .move _ | exact .load _ _ | exact .fieldAddr _ _ _ (by kernel_rfl) | exact .assign _ | exact .binOp _ _ _ _ _ rfl | exact .indexAddr _ _ _ | exact .len _ _ (by kernel_rfl) | exact .field _ _ _ | exact .extract _ _ | exact .pick _ _ _ | exact .build _ _ | exact .slice _ _ _ _ _ | exact .unOp _ _ _ rfl | exact .index _ _ _ | exact .max _ _ _ rfl rfl | exact .min _ _ _ rfl rfl)) | with_reducible refine Calmly.gl_tf (fun _ _ => ?_) | with_reducible refine Calmly.gl_ft (fun _ _ => ?_)) | ((with_reducible refine Calmly.is_eff ?_); refine Calmly.mix_eff rfl (fun _ _ => ?_)) | ((with_reducible refine Calmly.is_gf ?_); refine Calmly.mix_gf rfl rfl rfl ?_; first | with_reducible refine Calmly.gf_tt (fun _ _ => ?_) | with_reducible refine Calmly.gf_ff (fun _ _ => ?_) | with_reducible refine Calmly.gf_tf (kept_of hk) (fun _ _ => ?_) | with_reducible refine Calmly.gf_ft (kept_of hk) (fun _ _ => ?_)) | ((with_reducible refine Calmly.is_tail ?_); first | refine Calmly.mix_tail_nil ?_ | refine Calmly.mix_tail rfl (fun _ _ => ?_)) | ((with_reducible refine Calmly.is_kept ?_); refine ⟨kept_of hk, ?_⟩) | (with_reducible refine Calmly.mix_alt ?_ ?_))
  refine bodyPost_ret (v := .agg #[.int .i64 (x.tdiv g), .int .i64 (y.tdiv g)]) (by simp [results, Try.results138, go_sem]) rfl ⟨by rw [← HP.out, ← HQ.out, HF.out], ?_⟩
  exact ((below_drewN ((Below.refl _ _).alloc (Nat.le_refl _) _) k).drew.setCell (by simp) _).setCell (by simp) _

theorem gcds_two (x y : Int) : (gcds [x, y] : Int) = Int.gcd x y := by
  simp [gcds, Int.gcd]

set_option maxRecDepth 100000 in
set_option maxHeartbeats 4000000 in
theorem fraction_any (x y : Int) (w : World) (hx1 : -9223372036854775807 ≤ x) (hx2 : x ≤ 9223372036854775807) (hy1 : 0 < y) (hy2 : y ≤ 9223372036854775807) (P Q : Int) (hP : (fracF x y).1 = P) (hQ : (fracF x y).2 = Q) :
    Calls Try.prog 127 #[.int .i64 x, .int .i64 y] w fun e w' => e = .returned (.agg #[.int .i64 P, .int .i64 Q]) ∧ Below w.heap.size w w' := by
  have hnew := alloc_new w (.cells #[.int .i64 0, .int .i64 0] 86)
  have HP := Lib.hid hP
  have HQ := Lib.hid hQ
  have BW : Below w.heap.size w (w.alloc (.cells #[.int .i64 0, .int .i64 0] 86)) := (Below.refl _ _).alloc (Nat.le_refl _) _
  clear hP hQ
  go_enter Try.func127, Try.ntmps127
  go_wp2_with fail
  obtain ⟨W, hW⟩ : ∃ W, w.alloc (.cells #[.int .i64 0, .int .i64 0] 86) = W := ⟨_, rfl⟩
  have hWs : w.heap.size + 1 = W.heap.size := by rw [← hW]; simp
  rw [hW] at hnew BW ⊢
  clear hW
  refine (nDivisor_any _ 2 2 [x, y] _ (SI.two _ _ _ _ hWs) (by intro v hv; simp at hv; omega)).mono ?_
  rintro e w1 ⟨rfl, k, rfl⟩
  rw [gcds_two]
  have hW2 : Below W.heap.size W ((W.alloc (.cells #[.int .i64 x, .int .i64 y] 3)).drewN k) := below_drewN ((Below.refl _ _).alloc (Nat.le_refl _) _) k
  generalize World.drewN _ k = W2 at hW2 ⊢
  replace BW := BW.trans (hW2.mono BW.size)
  replace hnew := blk_keep hnew hW2
  clear hW2
  have hg0 : (0 : Int) < Int.gcd x y := by have := Int.gcd_pos_of_ne_zero_right (a := x) (b := y) (by omega); omega
  have hg1 : (Int.gcd x y : Int) ≤ 9223372036854775807 := by have := Int.gcd_le_right x hy1; omega
  obtain ⟨g, hgg⟩ : ∃ g : Int, (Int.gcd x y : Int) = g := ⟨_, rfl⟩
  have hf : fracF x y = (x.tdiv g, y.tdiv g) := by unfold fracF; rw [hgg]
  have HF := Lib.hid hf
  rw [hgg] at hg0 hg1 ⊢
  clear hf hgg
  have hg2 : (g == 0) = false := by simp; omega
  have b1 : -9223372036854775807 ≤ x.tdiv g ∧ x.tdiv g ≤ 9223372036854775807 := by
    have := Int.natAbs_tdiv_le_natAbs x g
    omega
  have b2 : -9223372036854775807 ≤ y.tdiv g ∧ y.tdiv g ≤ 9223372036854775807 := by
    have := Int.natAbs_tdiv_le_natAbs y g
    omega
  obtain ⟨b11, b12⟩ := b1
  obtain ⟨b21, b22⟩ := b2
  have g0 := cell_block hnew 0
  have g1 := cell_block hnew 1
  have g3 := frozen_block hnew 0
  have g4 := frozen_block hnew 1
  go_wp2_with fail
  refine Calmly.wp_region_mix 6 (.fl 0 <| .fl 1 <| .fl 2 <| .fl 3 <| .fl 4 <| .fl 5 <| .tail [6, 7]) (by kernel_rfl) (by kernel_rfl) ?_
  replace BW := BW.drew
  replace hnew := blk_keep hnew (Below.refl _ _).drew
  clear g0 g1 g3 g4
  generalize World.drew _ = V2 at hnew BW ⊢
  have g0 := cell_block hnew 0
  have g1 := cell_block hnew 1
  have g3 := frozen_block hnew 0
  have g4 := frozen_block hnew 1
  have hk := Below.refl V2.heap.size V2
  go_wp2_with (first | ((with_reducible refine Calmly.is_fl ?_); refine Calmly.mix_fl rfl ?_ (fun _ _ => ?_); (first | exact .move _ | exact .load _ _ | exact .fieldAddr _ _ _ (by kernel_rfl) | exact .assign _ | exact .binOp _ _ _ _ _ rfl | exact .indexAddr _ _ _ | exact .len _ _ (by kernel_rfl) | exact .field _ _ _ | exact .extract _ _ | exact .pick _ _ _ | exact .build _ _ | exact .slice _ _ _ _ _ | exact .unOp _ _ _ rfl | exact .index _ _ _ | exact .max _ _ _ rfl rfl | exact .min _ _ _ rfl rfl)) | ((with_reducible refine Calmly.is_gl ?_); refine Calmly.mix_gl rfl rfl rfl ?_; first | ((first | with_reducible refine Calmly.gl_tt ?_ (fun _ _ => ?_) | with_reducible refine Calmly.gl_ff ?_ (fun _ _ => ?_)); (first | exact .move _ | exact .load _ _ | exact .fieldAddr _ _ _ (by kernel_rfl) | exact .assign _ | exact .binOp _ _ _ _ _ rfl | exact .indexAddr _ _ _ | exact .len _ _ (by kernel_rfl) | exact .field _ _ _ | exact .extract _ _ | exact .pick _ _ _ | exact .build _ _ | exact .slice _ _ _ _ _ | exact .unOp _ _ _ rfl | exact .index _ _ _ | exact .max _ _ _ rfl rfl | exact .min _ _ _ rfl rfl)) | with_reducible refine Calmly.gl_tf (fun _ _ => ?_) | with_reducible refine Calmly.gl_ft (fun _ _ => ?_)) | ((with_reducible refine Calmly.is_eff ?_); refine Calmly.mix_eff rfl (fun _ _ => ?_)) | ((with_reducible refine Calmly.is_gf ?_); refine Calmly.mix_gf rfl rfl rfl ?_; first | with_reducible refine Calmly.gf_tt (fun _ _ => ?_) | with_reducible refine Calmly.gf_ff (fun _ _ => ?_) | with_reducible refine Calmly.gf_tf (kept_of hk) (fun _ _ => ?_) | with_reducible refine Calmly.gf_ft (kept_of hk) (fun _ _ => ?_)) | ((with_reducible refine Calmly.is_tail ?_); first | refine Calmly.mix_tail_nil ?_ | refine Calmly.mix_tail rfl (fun _ _ => ?_)) | ((with_reducible refine Calmly.is_kept ?_); refine ⟨kept_of hk, ?_⟩) | (with_reducible refine Calmly.mix_alt ?_ ?_))
  obtain ⟨s1, s2, _, _⟩ := set2 (x := .int .i64 (x.tdiv g)) (y := .int .i64 (y.tdiv g)) g0 g1
  refine bodyPost_ret (v := .agg #[.int .i64 (x.tdiv g), .int .i64 (y.tdiv g)]) (by simp [results, Try.results127, go_sem, s1, s2]) rfl ⟨by rw [← HP.out, ← HQ.out, HF.out], ?_⟩
  exact (BW.setCell (by simp) _).setCell (by simp) _

theorem minL_succ (l : List (Int × Int)) (k : Nat) (h0 : 0 < k) (hk : k < l.length) : minL (l.take (k + 1)) = minQ (minL (l.take k)) (l[k]?.getD (0, 0)) := by
  rw [List.take_succ_eq_append_getElem hk, List.getElem?_eq_getElem hk]
  cases l with
  | nil => simp at hk
  | cons b l =>
    cases k with
    | zero => omega
    | succ k =>
      have hk' : k < l.length := by simpa using hk
      show List.foldl minQ b (List.take k l ++ [l[k]]) = minQ (List.foldl minQ b (List.take k l)) l[k]
      rw [List.foldl_append]
      rfl
theorem minL_one (l : List (Int × Int)) (h : 0 < l.length) : minL (l.take 1) = l[0]?.getD (0, 0) := by
  cases l with
  | nil => simp at h
  | cons b l => simp [minL]
theorem minL_bd {l : List (Int × Int)} (hb : ∀ j : Nat, -1000000 ≤ (l[j]?.getD (0, 0)).1 ∧ (l[j]?.getD (0, 0)).1 ≤ 1000000 ∧ -1000000 ≤ (l[j]?.getD (0, 0)).2 ∧ (l[j]?.getD (0, 0)).2 ≤ 1000000) (k : Nat) (h0 : 0 < k) (hk : k ≤ l.length) :
    -1000000 ≤ (minL (l.take k)).1 ∧ (minL (l.take k)).1 ≤ 1000000 ∧ -1000000 ≤ (minL (l.take k)).2 ∧ (minL (l.take k)).2 ≤ 1000000 := by
  induction k with
  | zero => omega
  | succ k ih =>
    rcases Nat.eq_zero_or_pos k with rfl | h
    · rw [minL_one l (by omega)]
      exact hb 0
    · rw [minL_succ l k h (by omega)]
      unfold minQ
      split
      · exact hb k
      · exact ih h (by omega)

set_option maxRecDepth 100000 in
set_option maxHeartbeats 4000000 in
theorem MinFunc_any (a : Option Addr) (n c : Nat) (l : List (Int × Int)) (w : World) (h1 : SR w a n c l) (h0 : 0 < n) (hb : ∀ j : Nat, -1000000 ≤ (l[j]?.getD (0, 0)).1 ∧ (l[j]?.getD (0, 0)).1 ≤ 1000000 ∧ -1000000 ≤ (l[j]?.getD (0, 0)).2 ∧ (l[j]?.getD (0, 0)).2 ≤ 1000000) (X Y : Int) (hX : (minL l).1 = X) (hY : (minL l).2 = Y) :
    Calls Try.prog 135 #[.slice a n c, .func (.func 136) #[] #[]] w fun e w' => e = .returned (.agg #[.int .i64 X, .int .i64 Y]) ∧ Below w.heap.size w w' := by
  obtain ⟨l1, l2⟩ : n ≤ l.length ∧ l.length ≤ n := by have := h1.len; omega
  have m1 := h1.max
  have c1 := h1.cap
  obtain ⟨b, o, rfl, hc⟩ := h1.at_ h0
  obtain ⟨y0, y1⟩ := hc 0 h0
  have hm1 := minL_one l (by omega)
  obtain ⟨x, hx⟩ : ∃ x, l[0]?.getD (0, 0) = x := ⟨_, rfl⟩
  obtain ⟨xp, xq⟩ := x
  rw [hx] at hm1 y0 y1
  simp only [Nat.zero_mul, Nat.add_zero] at y0 y1
  have hl0 : (0 : Int) < (n : Int) := by omega
  have hl1 : (1 : Int) ≤ (n : Int) := by omega
  have HX := Lib.hid hX
  have HY := Lib.hid hY
  have HB := Lib.hid hb
  have HC := Lib.hid hc
  have HM1 := Lib.hid hm1
  clear hX hY hb hc hx hm1
  have hA : ∀ (A : World) (o : Obj), Below A.heap.size A (A.alloc o) := fun A o => (Below.refl _ _).alloc (Nat.le_refl _) _
  have p4 := box1 (w := w) (o := .cells #[.int .i64 0, .int .i64 0] 86) (hA (w.alloc (.cells #[.int .i64 0, .int .i64 0] 86)) (.cells #[.int .i64 xp, .int .i64 xq] 86))
  have p5 := alloc_new (w.alloc (.cells #[.int .i64 0, .int .i64 0] 86)) (.cells #[.int .i64 xp, .int .i64 xq] 86)
  have BW : Below w.heap.size w ((w.alloc (.cells #[.int .i64 0, .int .i64 0] 86)).alloc (.cells #[.int .i64 xp, .int .i64 xq] 86)) := ((Below.refl _ _).alloc (Nat.le_refl _) _).alloc (by simp) _
  simp only [World.size_alloc] at p5
  replace y0 := cell_keep y0 (hA w (.cells #[.int .i64 0, .int .i64 0] 86))
  replace y1 := cell_keep y1 (hA w (.cells #[.int .i64 0, .int .i64 0] 86))
  go_enter Try.func135, Try.ntmps135
  go_wp2_with fail
  go_loopw [6] (fun i wr => ∃ (k : Nat) (x y : Int), 1 ≤ k ∧ k ≤ n ∧ i = .int .i64 k ∧ minL (l.take k) = (x, y) ∧ wr.heap[w.heap.size]? = some (.cells #[.int .i64 0, .int .i64 0] 86) ∧ wr.heap[w.heap.size + 1]? = some (.cells #[.int .i64 x, .int .i64 y] 86) ∧ Below w.heap.size w wr) (fun i _ => n - (intOf i).toNat)
  case atStart => exact ⟨1, xp, xq, by omega, by omega, rfl, HM1.out, p4, p5, BW⟩
  case round =>
    obtain ⟨k, x, y, hk0, hkn, rfl, ht, q4, q5, hbr⟩ := hrel
    have HT := Lib.hid ht
    clear ht p4 p5 BW y0 y1
    have hrs := hbr.size
    by_cases hlt : k < n
    · obtain ⟨rr, hrr⟩ : ∃ rr, l[k]?.getD (0, 0) = rr := ⟨_, rfl⟩
      obtain ⟨u, v⟩ := rr
      obtain ⟨z0, z1⟩ := HC.out k hlt
      replace z0 := cell_keep z0 hbr
      replace z1 := cell_keep z1 hbr
      have hbk := HB.out k
      have hbm := minL_bd HB.out k (by omega) (by omega)
      have hs := minL_succ l k (by omega) (by omega)
      rw [HT.out] at hbm hs
      rw [hrr] at hbk hs z0 z1
      dsimp only at z0 z1 hbm hbk
      obtain ⟨c1', c2, c3, c4⟩ := hbk
      obtain ⟨d1, d2, d3, d4⟩ := hbm
      have hi1 : (k : Int) < (n : Int) := by omega
      have hi0 : (0 : Int) ≤ (k : Int) := by omega
      have HZ := Lib.hid hrr
      by_cases hq : u * y < x * v
      · have hcc : cmpQ (u * y) (x * v) = -1 := by unfold cmpQ; rw [if_pos hq]
        have hm : minL (l.take (k + 1)) = (u, v) := by rw [hs]; unfold minQ; exact if_pos hq
        have HCC := Lib.hid hcc
        have HM := Lib.hid hm
        clear hcc hm hq hrr
        clear hs
        go_wp2_with fail
        refine Calmly.wp_region_mix 7 (.fl 0 <| .fl 1 <| .fl 2 <| .fl 3 <| .fl 4 <| .fl 5 <| .eff 6 <| .tail [7]) (by kernel_rfl) (by kernel_rfl) ?_
        have hd := (Below.refl wr.heap.size wr).drew
        replace q4 := blk_keep q4 hd
        replace q5 := blk_keep q5 hd
        have BV := hbr.trans (hd.mono hrs)
        clear hd hbr z0 z1
        generalize wr.drew = V at q4 q5 BV ⊢
        (try clear g0 g1 g2 g3 z0 z1); have z0 := cell_keep (HC.out k hlt).1 BV; have z1 := cell_keep (HC.out k hlt).2 BV; rw [HZ.out] at z0 z1; dsimp only at z0 z1; have g0 := cell_block q5 0; have g1 := cell_block q5 1; have g2 := frozen_block q5 0; have g3 := frozen_block q5 1
        have hk := Below.refl V.heap.size V
        go_wp2_with (first | ((with_reducible refine Calmly.is_fl ?_); refine Calmly.mix_fl rfl ?_ (fun _ _ => ?_); (first | exact .move _ | exact .load _ _ | exact .fieldAddr _ _ _ (by kernel_rfl) | exact .assign _ | exact .binOp _ _ _ _ _ rfl | exact .indexAddr _ _ _ | exact .len _ _ (by kernel_rfl) | exact .field _ _ _ | exact .extract _ _ | exact .pick _ _ _ | exact .build _ _ | exact .slice _ _ _ _ _ | exact .unOp _ _ _ rfl | exact .index _ _ _ | exact .max _ _ _ rfl rfl | exact .min _ _ _ rfl rfl)) | ((with_reducible refine Calmly.is_gl ?_); refine Calmly.mix_gl rfl rfl rfl ?_; first | ((first | with_reducible refine Calmly.gl_tt ?_ (fun _ _ => ?_) | with_reducible refine Calmly.gl_ff ?_ (fun _ _ => ?_)); (first | exact .move _ | exact .load _ _ | exact .fieldAddr _ _ _ (by kernel_rfl) | exact .assign _ | exact .binOp _ _ _ _ _ rfl | exact .indexAddr _ _ _ | exact .len _ _ (by kernel_rfl) | exact .field _ _ _ | exact .extract _ _ | exact .pick _ _ _ | exact .build _ _ | exact .slice _ _ _ _ _ | exact .unOp _ _ _ rfl | exact .index _ _ _ | exact .max _ _ _ rfl rfl | exact .min _ _ _ rfl rfl)) | with_reducible refine Calmly.gl_tf (fun _ _ => ?_) | with_reducible refine Calmly.gl_ft (fun _ _ => ?_)) | ((with_reducible refine Calmly.is_eff ?_); refine Calmly.mix_eff rfl (fun _ _ => ?_)) | ((with_reducible refine Calmly.is_gf ?_); refine Calmly.mix_gf rfl rfl rfl ?_; first | with_reducible refine Calmly.gf_tt (fun _ _ => ?_) | with_reducible refine Calmly.gf_ff (fun _ _ => ?_) | with_reducible refine Calmly.gf_tf (kept_of hk) (fun _ _ => ?_) | with_reducible refine Calmly.gf_ft (kept_of hk) (fun _ _ => ?_)) | ((with_reducible refine Calmly.is_tail ?_); first | refine Calmly.mix_tail_nil ?_ | refine Calmly.mix_tail rfl (fun _ _ => ?_)) | ((with_reducible refine Calmly.is_kept ?_); refine ⟨kept_of hk, ?_⟩) | (with_reducible refine Calmly.mix_alt ?_ ?_) | (go_at_call 136; refine (less_any u v x y _ c1' c2 c3 c4 d1 d2 d3 d4).mono ?_; rintro e w3 ⟨rfl, hs⟩; rw [HCC.out]; replace hk := step_of hk hs; clear hs; replace q4 := blk_keep q4 hk; replace q5 := blk_keep q5 hk; replace BV := BV.trans (hk.mono BV.size); (try clear g0 g1 g2 g3 z0 z1); have z0 := cell_keep (HC.out k hlt).1 BV; have z1 := cell_keep (HC.out k hlt).2 BV; rw [HZ.out] at z0 z1; dsimp only at z0 z1; have g0 := cell_block q5 0; have g1 := cell_block q5 1; have g2 := frozen_block q5 0; have g3 := frozen_block q5 1))
        refine ⟨⟨k + 1, u, v, by omega, by omega, by go_num, HM.out, ?_, blk_setAt (blk_setAt q5 0 _) 1 _, (BV.setCell (by simp) _).setCell (by simp) _⟩, by simp [intOf]; omega⟩
        rw [Below.heap_setCell _ _ _ _ (by simp), Below.heap_setCell _ _ _ _ (by simp)]
        exact q4
      · obtain ⟨cc, hcc⟩ : ∃ cc, cmpQ (u * y) (x * v) = cc := ⟨_, rfl⟩
        have hc0 : 0 ≤ cc := by rw [← hcc]; unfold cmpQ; rw [if_neg hq]; split <;> decide
        have hm : minL (l.take (k + 1)) = (x, y) := by rw [hs]; unfold minQ; exact if_neg hq
        have HCC := Lib.hid hcc
        have HM := Lib.hid hm
        clear hcc hm hq hrr
        clear hs
        go_wp2_with fail
        refine Calmly.wp_region_mix 7 (.fl 0 <| .fl 1 <| .fl 2 <| .fl 3 <| .fl 4 <| .fl 5 <| .eff 6 <| .tail [7]) (by kernel_rfl) (by kernel_rfl) ?_
        have hd := (Below.refl wr.heap.size wr).drew
        replace q4 := blk_keep q4 hd
        replace q5 := blk_keep q5 hd
        have BV := hbr.trans (hd.mono hrs)
        clear hd hbr z0 z1
        generalize wr.drew = V at q4 q5 BV ⊢
        (try clear g0 g1 g2 g3 z0 z1); have z0 := cell_keep (HC.out k hlt).1 BV; have z1 := cell_keep (HC.out k hlt).2 BV; rw [HZ.out] at z0 z1; dsimp only at z0 z1; have g0 := cell_block q5 0; have g1 := cell_block q5 1; have g2 := frozen_block q5 0; have g3 := frozen_block q5 1
        have hk := Below.refl V.heap.size V
        go_wp2_with (first | ((with_reducible refine Calmly.is_fl ?_); refine Calmly.mix_fl rfl ?_ (fun _ _ => ?_); (first | exact .move _ | exact .load _ _ | exact .fieldAddr _ _ _ (by kernel_rfl) | exact .assign _ | exact .binOp _ _ _ _ _ rfl | exact .indexAddr _ _ _ | exact .len _ _ (by kernel_rfl) | exact .field _ _ _ | exact .extract _ _ | exact .pick _ _ _ | exact .build _ _ | exact .slice _ _ _ _ _ | exact .unOp _ _ _ rfl | exact .index _ _ _ | exact .max _ _ _ rfl rfl | exact .min _ _ _ rfl rfl)) | ((with_reducible refine Calmly.is_gl ?_); refine Calmly.mix_gl rfl rfl rfl ?_; first | ((first | with_reducible refine Calmly.gl_tt ?_ (fun _ _ => ?_) | with_reducible refine Calmly.gl_ff ?_ (fun _ _ => ?_)); (first | exact .move _ | exact .load _ _ | exact .fieldAddr _ _ _ (by kernel_rfl) | exact .assign _ | exact .binOp _ _ _ _ _ rfl | exact .indexAddr _ _ _ | exact .len _ _ (by kernel_rfl) | exact .field _ _ _ | exact .extract _ _ | exact .pick _ _ _ | exact .build _ _ | exact .slice _ _ _ _ _ | exact .unOp _ _ _ rfl | exact .index _ _ _ | exact .max _ _ _ rfl rfl | exact .min _ _ _ rfl rfl)) | with_reducible refine Calmly.gl_tf (fun _ _ => ?_) | with_reducible refine Calmly.gl_ft (fun _ _ => ?_)) | ((with_reducible refine Calmly.is_eff ?_); refine Calmly.mix_eff rfl (fun _ _ => ?_)) | ((with_reducible refine Calmly.is_gf ?_); refine Calmly.mix_gf rfl rfl rfl ?_; first | with_reducible refine Calmly.gf_tt (fun _ _ => ?_) | with_reducible refine Calmly.gf_ff (fun _ _ => ?_) | with_reducible refine Calmly.gf_tf (kept_of hk) (fun _ _ => ?_) | with_reducible refine Calmly.gf_ft (kept_of hk) (fun _ _ => ?_)) | ((with_reducible refine Calmly.is_tail ?_); first | refine Calmly.mix_tail_nil ?_ | refine Calmly.mix_tail rfl (fun _ _ => ?_)) | ((with_reducible refine Calmly.is_kept ?_); refine ⟨kept_of hk, ?_⟩) | (with_reducible refine Calmly.mix_alt ?_ ?_) | (go_at_call 136; refine (less_any u v x y _ c1' c2 c3 c4 d1 d2 d3 d4).mono ?_; rintro e w3 ⟨rfl, hs⟩; rw [HCC.out]; replace hk := step_of hk hs; clear hs; replace q4 := blk_keep q4 hk; replace q5 := blk_keep q5 hk; replace BV := BV.trans (hk.mono BV.size); (try clear g0 g1 g2 g3 z0 z1); have z0 := cell_keep (HC.out k hlt).1 BV; have z1 := cell_keep (HC.out k hlt).2 BV; rw [HZ.out] at z0 z1; dsimp only at z0 z1; have g0 := cell_block q5 0; have g1 := cell_block q5 1; have g2 := frozen_block q5 0; have g3 := frozen_block q5 1))
        exact ⟨⟨k + 1, x, y, by omega, by omega, by go_num, HM.out, q4, q5, BV⟩, by simp [intOf]; omega⟩
    · have hle : (n : Int) ≤ (k : Int) := by omega
      have g0 := cell_block q5 0
      have g1 := cell_block q5 1
      have r0 := cell_block q4 0
      have r1 := cell_block q4 1
      have r2 := frozen_block q4 0
      have r3 := frozen_block q4 1
      have hm := HT.out
      rw [List.take_of_length_le (by omega)] at hm
      have hX := HX.out
      have hY := HY.out
      rw [hm] at hX hY
      dsimp only at hX hY
      subst hX hY
      clear hm
      go_wp2_with fail
      obtain ⟨s1, s2, _, _⟩ := set2 (x := .int .i64 x) (y := .int .i64 y) r0 r1
      refine bodyPost_ret (v := .agg #[.int .i64 x, .int .i64 y]) (by simp [results, Try.results135, go_sem, s1, s2]) rfl ⟨rfl, ?_⟩
      exact (hbr.setCell (by simp) _).setCell (by simp) _
end Go.Proofs.Ytiibdndchkbefaa

namespace Go.Proofs.Ytiibdndchkbefaa
open Go.RowKit
open Calmly (Kept)

/-- All three limits are limits. -/
def limB (xa xv xd : Int) : Bool := wIn xa 0 1000000 && wIn xv 0 1000000 && wIn xd 0 1000000
/-- The fractions of the first peaks, of those that are above 0. -/
def scT (xa xv xd a v d : Int) : Nat → List (Int × Int)
  | 0 => []
  | 1 => if 0 < a then [fracF xa a] else []
  | 2 => (if 0 < a then [fracF xa a] else []) ++ (if 0 < v then [fracF xv v] else [])
  | _ => scL xa xv xd a v d
theorem scT_get {xa xv xd a v d : Int} {k : Nat} {p q : Int} (h : (k = 0 ∧ p = xa ∧ q = a) ∨ (k = 1 ∧ p = xv ∧ q = v) ∨ (k = 2 ∧ p = xd ∧ q = d)) : scT xa xv xd a v d (k + 1) = scT xa xv xd a v d k ++ (if 0 < q then [fracF p q] else []) := by
  rcases h with ⟨rfl, rfl, rfl⟩ | ⟨rfl, rfl, rfl⟩ | ⟨rfl, rfl, rfl⟩
  · simp [scT]
  · rfl
  · rfl
theorem scL_bd {xa xv xd a v d : Int} (h1 : 0 ≤ xa ∧ xa ≤ 1000000) (h2 : 0 ≤ xv ∧ xv ≤ 1000000) (h3 : 0 ≤ xd ∧ xd ≤ 1000000) (k1 : a ≤ 1000000) (k2 : v ≤ 1000000) (k3 : d ≤ 1000000) (j : Nat) :
    -1000000 ≤ ((scL xa xv xd a v d)[j]?.getD (0, 0)).1 ∧ ((scL xa xv xd a v d)[j]?.getD (0, 0)).1 ≤ 1000000 ∧ -1000000 ≤ ((scL xa xv xd a v d)[j]?.getD (0, 0)).2 ∧ ((scL xa xv xd a v d)[j]?.getD (0, 0)).2 ≤ 1000000 := by
  have key : ∀ x ∈ scL xa xv xd a v d, -1000000 ≤ x.1 ∧ x.1 ≤ 1000000 ∧ 0 < x.2 ∧ x.2 ≤ 1000000 := by
    intro x hx
    unfold scL at hx
    simp only [List.mem_append] at hx
    rcases hx with (hx | hx) | hx
    · split at hx
      · simp only [List.mem_singleton] at hx
        subst hx
        exact fracF_bd xa a (by assumption) 1000000 (by omega) h1.2 k1
      · cases hx
    · split at hx
      · simp only [List.mem_singleton] at hx
        subst hx
        exact fracF_bd xv v (by assumption) 1000000 (by omega) h2.2 k2
      · cases hx
    · split at hx
      · simp only [List.mem_singleton] at hx
        subst hx
        exact fracF_bd xd d (by assumption) 1000000 (by omega) h3.2 k3
      · cases hx
  rcases Nat.lt_or_ge j (scL xa xv xd a v d).length with hj | hj
  · rw [List.getElem?_eq_getElem hj, Option.getD_some]
    have := key _ (List.getElem_mem hj)
    omega
  · rw [List.getElem?_eq_none hj]
    simp
theorem gsT_nn (xs : List Int) (k : Nat) : 0 ≤ gsT xs k := by
  induction k with
  | zero => simp [gsT]
  | succ k ih =>
    unfold gsT
    omega
theorem scT_len (xa xv xd a v d : Int) (k : Nat) (h : k ≤ 3) : (scT xa xv xd a v d k).length ≤ k := by
  rcases (show k = 0 ∨ k = 1 ∨ k = 2 ∨ k = 3 by omega) with rfl | rfl | rfl | rfl
  · simp [scT]
  · show (if 0 < a then [fracF xa a] else []).length ≤ 1
    split <;> simp
  · show ((if 0 < a then [fracF xa a] else []) ++ (if 0 < v then [fracF xv v] else [])).length ≤ 2
    split <;> split <;> simp
  · show (scL xa xv xd a v d).length ≤ 3
    unfold scL
    split <;> split <;> split <;> simp
theorem scL_zero (xa xv xd : Int) : scL xa xv xd 0 0 0 = [] := by simp [scL]
theorem isLim_any (x : Int) (w : World) : Calls Try.prog 134 #[.int .i64 x] w fun e w' => e = .returned (.bool (wIn x 0 1000000)) ∧ w = w' := by
  go_enter Try.func134, Try.ntmps134
  go_wp2_with fail
  refine (nWithin_any _ _ _ _).mono ?_
  rintro e w1 ⟨rfl, rfl⟩
  go_wp2_with fail
  go_ret
  exact ⟨rfl, rfl⟩

set_option maxRecDepth 100000 in
set_option maxHeartbeats 4000000 in
theorem GreatestScale_any (step : Int) (a : Option Addr) (n c : Nat) (xs : List Int) (xa xv xd : Int) (w : World) (h1 : SI w a n c xs) (F E P Q A V D : Int) (hF : firstE [(recF step xs).2, unlessE (limB xa xv xd) 2] = F) (hno : F ≠ 0 → E = F ∧ P = 0 ∧ Q = 0)
    (hpk : F = 0 → gsT xs n = A ∧ gsT (sumsF xs) n = V ∧ gsT (sumsF (sumsF xs)) n = D) (hz : F = 0 → A = 0 → E = 12 ∧ P = 0 ∧ Q = 0) (hok : F = 0 → A ≠ 0 → E = 0 ∧ (scF xa xv xd A V D).1 = P ∧ (scF xa xv xd A V D).2 = Q) :
    Calls Try.prog 76 #[.agg #[.int .i64 step, .slice a n c], .agg #[.int .i64 xa, .int .i64 xv, .int .i64 xd]] w fun e w' => e = .returned (.tuple #[.agg #[.int .i64 P, .int .i64 Q], .int .i64 E]) ∧ Below w.heap.size w w' := by
  have hA : ∀ (A : World) (o : Obj), Below A.heap.size A (A.alloc o) := fun A o => (Below.refl _ _).alloc (Nat.le_refl _) _
  have m1 := h1.max
  have c1 := h1.cap
  obtain ⟨R, hR⟩ : ∃ R, limB xa xv xd = R := ⟨_, rfl⟩
  rw [hR] at hF
  obtain ⟨rE, hrE⟩ : ∃ x, (recF step xs).2 = x := ⟨_, rfl⟩
  rw [hrE] at hF
  have HRE := Lib.hid hrE
  have HF := Lib.hid hF
  have HNO := Lib.hid hno
  have HPK := Lib.hid hpk
  have HZ := Lib.hid hz
  have HOK := Lib.hid hok
  have HR := Lib.hid hR
  clear hF hno hpk hz hok hrE
  obtain ⟨W, hW⟩ : ∃ W, ((w.alloc (.cells #[.int .i64 step, .slice a n c] 24)).alloc (.cells #[.int .i64 xa, .int .i64 xv, .int .i64 xd] 75)).alloc (.cells #[.int .i64 0, .int .i64 0] 86) = W := ⟨_, rfl⟩
  have BW : Below w.heap.size w W := by rw [← hW]; exact (((Below.refl _ _).alloc (Nat.le_refl _) _).alloc (by simp) _).alloc (by simp; omega) _
  have x2 : W.heap[w.heap.size]? = some (.cells #[.int .i64 step, .slice a n c] 24) := by
    rw [← hW]
    exact blk_keep (blk_keep (alloc_new w _) (hA _ _)) (hA _ _)
  have x3 : W.heap[w.heap.size + 1]? = some (.cells #[.int .i64 xa, .int .i64 xv, .int .i64 xd] 75) := by
    rw [← hW]
    have := alloc_new (w.alloc (.cells #[.int .i64 step, .slice a n c] 24)) (.cells #[.int .i64 xa, .int .i64 xv, .int .i64 xd] 75)
    simp only [World.size_alloc] at this
    exact blk_keep this (hA _ _)
  have x4 : W.heap[w.heap.size + 1 + 1]? = some (.cells #[.int .i64 0, .int .i64 0] 86) := by
    rw [← hW]
    have := alloc_new ((w.alloc (.cells #[.int .i64 step, .slice a n c] 24)).alloc (.cells #[.int .i64 xa, .int .i64 xv, .int .i64 xd] 75)) (.cells #[.int .i64 0, .int .i64 0] 86)
    simpa only [World.size_alloc] using this
  have f0 := cell_block x2 0
  have f1 := cell_block x2 1
  have g0 := cell_block x3 0
  have g1 := cell_block x3 1
  have g2 := cell_block x3 2
  have HW := Lib.hid hW
  clear hW
  go_enter Try.func76, Try.ntmps76
  go_wp2_with fail
  rw [HW.out]
  have hcase : (R = false) ∨ (R = true ∧ wIn xa 0 1000000 = true ∧ wIn xv 0 1000000 = true ∧ wIn xd 0 1000000 = true) := by
    rw [← HR.out]
    unfold limB
    cases wIn xa 0 1000000 <;> cases wIn xv 0 1000000 <;> cases wIn xd 0 1000000 <;> simp
  rcases hcase with hR0 | ⟨hR1, ha1, hv1, hd1⟩
  · subst hR0
    have hFn : F ≠ 0 := by
      rw [← HF.out]
      by_cases h : rE = 0
      · rw [h]; decide
      · rw [firstE, if_neg h]; exact h
    obtain ⟨rfl, rfl, rfl⟩ := HNO.out hFn
    have b1 : (E != 0) = true := by simpa using hFn
    have hlim := HR.out
    unfold limB at hlim
    have HLIM := Lib.hid hlim
    clear hFn hlim HNO HPK HZ HOK
    refine (isLim_any _ _).mono ?_
    rintro e w' ⟨rfl, rfl⟩
    cases ha : wIn xa 0 1000000
    case' true =>
      go_wp2_with fail
      refine (isLim_any _ _).mono ?_
      rintro e w' ⟨rfl, rfl⟩
      cases hv : wIn xv 0 1000000
      case' true =>
        go_wp2_with fail
        refine (isLim_any _ _).mono ?_
        rintro e w' ⟨rfl, rfl⟩
        have hd : wIn xd 0 1000000 = false := by
          have := HLIM.out
          rw [ha, hv] at this
          simpa using this
        rw [hd]
    all_goals
      go_wp2_with fail
      refine (recordErr_any step a n c xs _ (h1.keep BW) rE HRE.out).mono ?_
      rintro e w1 ⟨rfl, hs⟩
      replace x4 := blk_keep x4 hs
      replace BW := BW.trans (hs.mono BW.size)
      clear hs f0 f1 g0 g1 g2 x2 x3
      go_wp2_with fail
      refine (nUnless_any _ _ _).mono ?_
      rintro e w' ⟨rfl, rfl⟩
      go_wp2_with fail
      refine (nFirst_any _ 2 2 _ _ (SI.two _ _ _ _ rfl)).mono ?_
      rintro e w' ⟨rfl, rfl⟩
      rw [HF.out]
      have hs := hA w1 (.cells #[.int .i64 rE, .int .i64 (unlessE false 2)] 30)
      replace x4 := blk_keep x4 hs
      replace BW := BW.trans (hs.mono BW.size)
      clear hs
      generalize w1.alloc _ = w2 at x4 BW ⊢
      have r0 := cell_block x4 0
      have r1 := cell_block x4 1
      have r2 := frozen_block x4 0
      have r3 := frozen_block x4 1
      go_wp2_with fail
      obtain ⟨s1, s2, _, _⟩ := set2 (x := .int .i64 0) (y := .int .i64 0) r0 r1
      refine bodyPost_ret (v := .tuple #[.agg #[.int .i64 0, .int .i64 0], .int .i64 E]) (by simp [results, Try.results76, go_sem, s1, s2]) rfl ⟨rfl, ?_⟩
      exact (BW.setCell (by simp; omega) _).setCell (by simp; omega) _
  · refine (isLim_any _ _).mono ?_
    rintro e w' ⟨rfl, rfl⟩
    rw [ha1]
    go_wp2_with fail
    refine (isLim_any _ _).mono ?_
    rintro e w' ⟨rfl, rfl⟩
    rw [hv1]
    go_wp2_with fail
    refine (isLim_any _ _).mono ?_
    rintro e w' ⟨rfl, rfl⟩
    rw [hd1]
    go_wp2_with fail
    refine (recordErr_any step a n c xs _ (h1.keep BW) rE HRE.out).mono ?_
    rintro e w1 ⟨rfl, hs⟩
    replace x2 := blk_keep x2 hs
    replace x3 := blk_keep x3 hs
    replace x4 := blk_keep x4 hs
    replace BW := BW.trans (hs.mono BW.size)
    clear hs f0 f1 g0 g1 g2
    go_wp2_with fail
    refine (nUnless_any _ _ _).mono ?_
    rintro e w' ⟨rfl, rfl⟩
    subst hR1
    go_wp2_with fail
    refine (nFirst_any _ 2 2 _ _ (SI.two _ _ _ _ rfl)).mono ?_
    rintro e w' ⟨rfl, rfl⟩
    rw [HF.out]
    have hs := hA w1 (.cells #[.int .i64 rE, .int .i64 (unlessE true 2)] 30)
    replace x2 := blk_keep x2 hs
    replace x3 := blk_keep x3 hs
    replace x4 := blk_keep x4 hs
    replace BW := BW.trans (hs.mono BW.size)
    clear hs
    generalize w1.alloc _ = w2 at x2 x3 x4 BW ⊢
    have f0 := cell_block x2 0
    have f1 := cell_block x2 1
    have g0 := cell_block x3 0
    have g1 := cell_block x3 1
    have g2 := cell_block x3 2
    have r0 := cell_block x4 0
    have r1 := cell_block x4 1
    have r2 := frozen_block x4 0
    have r3 := frozen_block x4 1
    by_cases hz : F = 0
    case neg =>
      obtain ⟨rfl, rfl, rfl⟩ := HNO.out hz
      have b1 : (E != 0) = true := by simpa using hz
      clear hz
      go_wp2_with fail
      obtain ⟨s1, s2, _, _⟩ := set2 (x := .int .i64 0) (y := .int .i64 0) r0 r1
      refine bodyPost_ret (v := .tuple #[.agg #[.int .i64 0, .int .i64 0], .int .i64 E]) (by simp [results, Try.results76, go_sem, s1, s2]) rfl ⟨rfl, ?_⟩
      exact (BW.setCell (by simp; omega) _).setCell (by simp; omega) _
    subst hz
    have hrE : rE = 0 := by
      have := HF.out
      by_cases h : rE = 0
      · exact h
      · rw [firstE, if_neg h] at this
        exact this
    obtain ⟨pA, pV, pD⟩ := HPK.out rfl
    obtain ⟨q1, q2, q3, q4, q5⟩ := recF_ok (HRE.out.trans hrE)
    have hl := h1.len
    have hn0 : 0 < n := by omega
    have hn : n ≤ 26 := by omega
    have H5 := Lib.hid q5
    have HPA := Lib.hid pA
    have HPV := Lib.hid pV
    have HPD := Lib.hid pD
    clear q1 q2 q3 q4 q5 pA pV pD hl
    go_wp2_with fail
    refine (peaks_any step a n c xs _ (h1.keep BW) hn0 hn H5.out A V D HPA.out HPV.out HPD.out).mono ?_
    rintro e w3 ⟨rfl, hs⟩
    replace x3 := blk_keep x3 hs
    replace x4 := blk_keep x4 hs
    replace BW := BW.trans (hs.mono BW.size)
    clear hs x2 f0 f1 g0 g1 g2 r0 r1 r2 r3
    have hs := hA w3 (.cells #[.int .i64 A, .int .i64 V, .int .i64 D] 75)
    have y9 := alloc_new w3 (.cells #[.int .i64 A, .int .i64 V, .int .i64 D] 75)
    replace x3 := blk_keep x3 hs
    replace x4 := blk_keep x4 hs
    replace BW := BW.trans (hs.mono BW.size)
    clear hs
    have g0 := cell_block x3 0
    have g1 := cell_block x3 1
    have g2 := cell_block x3 2
    have k0 := cell_block y9 0
    have k1 := cell_block y9 1
    have k2 := cell_block y9 2
    go_wp2_with fail
    have hs := hA (w3.alloc (.cells #[.int .i64 A, .int .i64 V, .int .i64 D] 75)) (.cells #[.int .i64 xa, .int .i64 A, .int .i64 xv, .int .i64 V, .int .i64 xd, .int .i64 D] 104)
    have y8 := alloc_new (w3.alloc (.cells #[.int .i64 A, .int .i64 V, .int .i64 D] 75)) (.cells #[.int .i64 xa, .int .i64 A, .int .i64 xv, .int .i64 V, .int .i64 xd, .int .i64 D] 104)
    simp only [World.size_alloc] at y8
    replace x4 := blk_keep x4 hs
    replace BW := BW.trans (hs.mono BW.size)
    clear hs x3 y9 g0 g1 g2 k0 k1 k2
    generalize World.alloc (World.alloc w3 _) _ = W2 at y8 x4 BW ⊢
    have hp : 0 ≤ A ∧ A ≤ 1000000 ∧ 0 ≤ V ∧ V ≤ 1000000 ∧ 0 ≤ D ∧ D ≤ 1000000 := by
      obtain ⟨p1, p2⟩ := pk_bd (xs := xs) (by have := h1.len; omega) H5.out
      rw [← HPA.out, ← HPV.out, ← HPD.out]
      refine ⟨gsT_nn _ _, ?_, gsT_nn _ _, ?_, gsT_nn _ _, ?_⟩ <;> refine (gsT_le _ 1000000 (by omega) n).2 fun j _ => ?_
      · have := H5.out j; omega
      · have := p1 j; omega
      · have := p2 j; omega
    obtain ⟨pa0, pa1, pv0, pv1, pd0, pd1⟩ := hp
    have hlim : (0 ≤ xa ∧ xa ≤ 1000000) ∧ (0 ≤ xv ∧ xv ≤ 1000000) ∧ (0 ≤ xd ∧ xd ≤ 1000000) := ⟨wIn_iff.1 ha1, wIn_iff.1 hv1, wIn_iff.1 hd1⟩
    obtain ⟨la, lv, ld⟩ := hlim
    go_loopw [58, 10] (fun i s wr => ∃ (k : Nat) (a' : Option Addr) (n' c' : Nat), k ≤ 3 ∧ i = .int .i64 k ∧ s = .slice a' n' c' ∧ OwF wr W2.heap.size a' n' c' (scT xa xv xd A V D k) ∧ Below W2.heap.size W2 wr) (fun i _ _ => 3 - (intOf i).toNat)
    case atStart => exact ⟨0, none, 0, 0, by omega, rfl, rfl, OwF.nil _ _, Below.refl _ _⟩
    case round =>
      obtain ⟨k, a', n', c', hk3, rfl, rfl, how, hbr⟩ := hrel
      have hrs := hbr.size
      replace y8 := blk_keep y8 hbr
      replace x4 := blk_keep x4 hbr
      have BR := BW.trans (hbr.mono BW.size)
      have hlen := how.len
      have hl3 := scT_len xa xv xd A V D k hk3
      have hcap := how.sr.cap
      have hmax := how.sr.max
      by_cases hlt : k < 3
      · obtain ⟨px, pp, hc0, hc1, hst, lp0, lp1, pp0, pp1⟩ : ∃ px pp : Int, wr.cell? ⟨w3.heap.size + 1, k * 2, none⟩ = some (.int .i64 px) ∧ wr.cell? ⟨w3.heap.size + 1, k * 2 + 1, none⟩ = some (.int .i64 pp) ∧ scT xa xv xd A V D (k + 1) = scT xa xv xd A V D k ++ (if 0 < pp then [fracF px pp] else []) ∧ 0 ≤ px ∧ px ≤ 1000000 ∧ 0 ≤ pp ∧ pp ≤ 1000000 := by
          rcases (show k = 0 ∨ k = 1 ∨ k = 2 by omega) with rfl | rfl | rfl
          · exact ⟨xa, A, cell_block y8 0, cell_block y8 1, scT_get (.inl ⟨rfl, rfl, rfl⟩), la.1, la.2, pa0, pa1⟩
          · exact ⟨xv, V, cell_block y8 2, cell_block y8 3, scT_get (.inr (.inl ⟨rfl, rfl, rfl⟩)), lv.1, lv.2, pv0, pv1⟩
          · exact ⟨xd, D, cell_block y8 4, cell_block y8 5, scT_get (.inr (.inr ⟨rfl, rfl, rfl⟩)), ld.1, ld.2, pd0, pd1⟩
        have HST := Lib.hid hst
        have hi1 : (k : Int) < 3 := by omega
        have hi0 : (0 : Int) ≤ (k : Int) := by omega
        have HLEN := Lib.hid hlen
        have hn3 : n' ≤ 3 := by omega
        clear hst hlen
        have hs0 := hA wr (.cells #[.int .i64 px, .int .i64 pp] 104)
        by_cases hp : 0 < pp
        · have hd0 := HST.out
          rw [if_pos hp] at hd0
          have HD0 := Lib.hid hd0
          clear hd0
          obtain ⟨fp, hfp⟩ : ∃ x, (fracF px pp).1 = x := ⟨_, rfl⟩
          obtain ⟨fq, hfq⟩ : ∃ x, (fracF px pp).2 = x := ⟨_, rfl⟩
          have HFP := Lib.hid hfp
          have HFQ := Lib.hid hfq
          clear hfp hfq
          go_wp2_with fail
          refine (fraction_any px pp _ (by omega) (by omega) hp (by omega) fp fq HFP.out HFQ.out).mono ?_
          rintro e w5 ⟨rfl, hs⟩
          have hs5 := hs0.trans (hs.mono hs0.size)
          have how5 := how.keep hs5
          have hb5 := hbr.trans (hs5.mono hrs)
          have hz5 := hb5.size
          clear hs hs0 hs5
          go_wp2_with (first | (at_builtin; refine appF rfl _ _ rfl how5 rfl rfl (by omega) (by omega) ?_; intro a2 c2 w6 ho6 hb6 hs6))
          go_roundw
          case rel => exact ⟨k + 1, a2, n' + 1, c2, by omega, by go_num, rfl, by rw [HD0.out, show fracF px pp = (fp, fq) from by rw [← HFP.out, ← HFQ.out]]; exact ho6, hb5.trans hb6⟩
          case measure => simp [intOf]; omega
        · have hp' : pp ≤ 0 := by omega
          have hd0 := HST.out
          rw [if_neg hp, List.append_nil] at hd0
          have HD0 := Lib.hid hd0
          clear hd0
          go_wp2_with fail
          go_roundw
          case rel => exact ⟨k + 1, a', n', c', by omega, by go_num, rfl, by rw [HD0.out]; exact how.keep hs0, hbr.trans (hs0.mono hrs)⟩
          case measure => simp [intOf]; omega
      · obtain rfl : k = 3 := by omega
        have hsc : scT xa xv xd A V D 3 = scL xa xv xd A V D := rfl
        rw [hsc] at hlen how
        have r0 := cell_block x4 0
        have r1 := cell_block x4 1
        have r2 := frozen_block x4 0
        have r3 := frozen_block x4 1
        by_cases hz : A = 0
        · obtain ⟨z1, z2, z3⟩ := HZ.out trivial hz
          obtain ⟨z4, z5⟩ := peaks_zero (xs := xs) (n := n) (by have := h1.len; omega) (by rw [HPA.out]; exact hz)
          rw [HPV.out] at z4
          rw [HPD.out] at z5
          subst z1 z2 z3 hz z4 z5
          rw [scL_zero] at hlen
          obtain rfl : n' = 0 := hlen
          clear hsc HZ HOK HPA HPV HPD pa0 pa1 pv0 pv1 pd0 pd1
          go_wp2_with fail
          obtain ⟨s1, s2, _, _⟩ := set2 (x := .int .i64 0) (y := .int .i64 0) r0 r1
          refine bodyPost_ret (v := .tuple #[.agg #[.int .i64 0, .int .i64 0], .int .i64 12]) (by simp [results, Try.results76, go_sem, s1, s2]) rfl ⟨rfl, ?_⟩
          exact (BR.setCell (by simp; omega) _).setCell (by simp; omega) _
        · obtain ⟨z1, z2, z3⟩ := HOK.out trivial hz
          subst z1
          have hA0 : 0 < A := by omega
          have hn1 : 0 < n' := by
            rw [hlen]
            unfold scL
            rw [if_pos hA0]
            simp
          have hmin := minL_scL (xa := xa) (xv := xv) (xd := xd) (v := V) (d := D) hA0
          rw [← hmin] at z2 z3
          have HZ2 := Lib.hid z2
          have HZ3 := Lib.hid z3
          have HBD := Lib.hid (scL_bd la lv ld pa1 pv1 pd1)
          have hn1' : ((n' : Int) == 0) = false := by rw [beq_eq_false_iff_ne]; omega
          clear z2 z3 hmin hsc hz hlen
          go_wp2_with fail
          refine (MinFunc_any a' n' c' _ _ how.sr hn1 HBD.out P Q HZ2.out HZ3.out).mono ?_
          rintro e w5 ⟨rfl, hs⟩
          replace x4 := blk_keep x4 hs
          replace BR := BR.trans (hs.mono BR.size)
          clear hs r0 r1 r2 r3
          have r0 := cell_block x4 0
          have r1 := cell_block x4 1
          have r2 := frozen_block x4 0
          have r3 := frozen_block x4 1
          go_wp2_with fail
          obtain ⟨s1, s2, _, _⟩ := set2 (x := .int .i64 P) (y := .int .i64 Q) r0 r1
          refine bodyPost_ret (v := .tuple #[.agg #[.int .i64 P, .int .i64 Q], .int .i64 0]) (by simp [results, Try.results76, go_sem, s1, s2]) rfl ⟨rfl, ?_⟩
          exact (BR.setCell (by simp; omega) _).setCell (by simp; omega) _
end Go.Proofs.Ytiibdndchkbefaa
