/- The law ModalSigns, walked. -/
import Derived.Test.YtmaidjankakppaaQa
import Derived.Test.YtmaidjankakppaaQb
import Derived.Test.YtmaidjankakppaaAw
namespace Go.Proofs.Ytmaidjankakppaa
open Go.RowKit Go.Wides
open Calmly (Kept)

/-- How many digits the sum and the power have at most. -/
def eL : Nat → Nat
  | 0 => 7
  | i + 1 => 4 * eL i + 18
theorem eL_bd (i : Nat) (hi : i ≤ 5) : 7 ≤ eL i ∧ eL i ≤ 20000 := by
  rcases (by omega : i = 0 ∨ i = 1 ∨ i = 2 ∨ i = 3 ∨ i = 4 ∨ i = 5) with rfl | rfl | rfl | rfl | rfl | rfl <;> decide

theorem SI.here {w : World} {b o n c : Nat} {xs : List Int} (h : SI w (some ⟨b, o, none⟩) n c xs) {k : Nat} (hk : k < n) : w.cell? ⟨b, o + k, none⟩ = some (.int .i64 (xs[k]?.getD 0)) := by
  obtain ⟨b', o', he, hc⟩ := h.at_ (by omega)
  cases he
  exact hc k hk
theorem RatV.set4 {V : World} {r : Nat} {s : Int} {a : Option Addr} {m c : Nat} {s' : Int} {a' : Option Addr} {m' c' : Nat} {q : Rat} (h : RatV V s a m c s' a' m' c' q) (hT : BlkT V r 72) (x y z u : Value) :
    RatV ((((V.setCell ⟨r, 0, none⟩ x).setCell ⟨r, 1, none⟩ y).setCell ⟨r, 2, none⟩ z).setCell ⟨r, 3, none⟩ u) s a m c s' a' m' c' q :=
  ⟨(((h.1.set hT (by decide)).set (hT.set _ _) (by decide)).set ((hT.set _ _).set _ _) (by decide)).set (((hT.set _ _).set _ _).set _ _) (by decide),
    (((h.2.set hT (by decide)).set (hT.set _ _) (by decide)).set ((hT.set _ _).set _ _) (by decide)).set (((hT.set _ _).set _ _).set _ _) (by decide)⟩

set_option maxRecDepth 100000 in
set_option maxHeartbeats 8000000 in
theorem ModalSigns_walk (a b : Option Addr) (n c m d : Nat) (ms ks : List Int) (x y x' y' : Int) (w : World) (h1 : SI w a n c ms) (h2 : SI w b m d ks) (hx1 : -9223372036854775808 ≤ x) (hx2 : x ≤ 9223372036854775807) (hy2 : y ≤ 9223372036854775807)
    (hx1' : -9223372036854775808 ≤ x') (hx2' : x' ≤ 9223372036854775807) (hy2' : y' ≤ 9223372036854775807) :
    Calls Try.prog 7 #[.agg #[.slice a n c, .slice b m d], .agg #[.int .i64 x, .int .i64 y], .agg #[.int .i64 x', .int .i64 y']] w fun e w' => e = .returned (.bool true) ∧ Below w.heap.size w w' := by
  have m1 := h1.max
  have c1 := h1.cap
  have m2 := h2.max
  have c2 := h2.cap
  have hA : ∀ (A : World) (o : Obj), Below A.heap.size A (A.alloc o) := fun A o => (Below.refl _ _).alloc (Nat.le_refl _) _
  have BW : Below w.heap.size w (((w.alloc (.cells #[.slice a n c, .slice b m d] 24)).alloc (.cells #[.int .i64 x, .int .i64 y] 34)).alloc (.cells #[.int .i64 x', .int .i64 y'] 34)) := (((Below.refl _ _).alloc (Nat.le_refl _) _).alloc (by simp) _).alloc (by simp <;> omega) _
  obtain ⟨C, hC⟩ : ∃ C, (checkF ms ks).2 = C := ⟨_, rfl⟩
  obtain ⟨D, hD⟩ : ∃ D, squareE x y = D := ⟨_, rfl⟩
  obtain ⟨E, hE⟩ : ∃ D, squareE x' y' = D := ⟨_, rfl⟩
  have HC := Lib.hid hC
  have HD := Lib.hid hD
  have HE := Lib.hid hE
  clear hC hD hE
  go_enter Try.func7, Try.ntmps7
  go_wp2_with fail
  refine (awake_any _).mono ?_
  rintro e w1 ⟨rfl, hs⟩
  obtain ⟨x1, x2, x3⟩ := box3 (w := w) (o := .cells #[.slice a n c, .slice b m d] 24) (o' := .cells #[.int .i64 x, .int .i64 y] 34) (o'' := .cells #[.int .i64 x', .int .i64 y'] 34) hs
  replace BW := BW.trans (hs.mono BW.size)
  have f0 := cell_block x1 0
  have f1 := cell_block x1 1
  clear hs
  by_cases hz : C = 0
  case neg =>
    have hz1 : (C != 0) = true := by simpa using hz
    clear hz
    go_wp2_with fail
    refine (FrameErr_any a b n c m d ms ks _ (h1.keep BW) (h2.keep BW)).mono ?_
    rintro e w2 ⟨rfl, hs⟩
    rw [HC.out]
    go_wp2_with fail
    go_ret
    exact ⟨rfl, BW.trans (hs.mono BW.size)⟩
  subst hz
  go_wp2_with fail
  refine (FrameErr_any a b n c m d ms ks _ (h1.keep BW) (h2.keep BW)).mono ?_
  rintro e w2 ⟨rfl, hs⟩
  rw [HC.out]
  replace BW := BW.trans (hs.mono BW.size)
  replace x1 := blk_keep x1 hs
  replace x2 := blk_keep x2 hs
  replace x3 := blk_keep x3 hs
  clear hs f0 f1
  have f0 := cell_block x2 0
  have f1 := cell_block x2 1
  by_cases hz : D = 0
  case neg =>
    have hz1 : (D != 0) = true := by simpa using hz
    clear hz
    go_wp2_with fail
    refine (rSquareErr_any x y _ hx1 hx2 hy2).mono ?_
    rintro e w3 ⟨rfl, hs⟩
    rw [HD.out]
    go_wp2_with fail
    go_ret
    exact ⟨rfl, BW.trans (hs.mono BW.size)⟩
  subst hz
  go_wp2_with fail
  refine (rSquareErr_any x y _ hx1 hx2 hy2).mono ?_
  rintro e w3 ⟨rfl, hs⟩
  rw [HD.out]
  replace BW := BW.trans (hs.mono BW.size)
  replace x1 := blk_keep x1 hs
  replace x2 := blk_keep x2 hs
  replace x3 := blk_keep x3 hs
  clear hs f0 f1
  have f0 := cell_block x3 0
  have f1 := cell_block x3 1
  by_cases hz : E = 0
  case neg =>
    have hz1 : (E != 0) = true := by simpa using hz
    clear hz
    go_wp2_with fail
    refine (rSquareErr_any x' y' _ hx1' hx2' hy2').mono ?_
    rintro e w4 ⟨rfl, hs⟩
    rw [HE.out]
    go_wp2_with fail
    go_ret
    exact ⟨rfl, BW.trans (hs.mono BW.size)⟩
  subst hz
  go_wp2_with fail
  refine (rSquareErr_any x' y' _ hx1' hx2' hy2').mono ?_
  rintro e w4 ⟨rfl, hs⟩
  rw [HE.out]
  replace BW := BW.trans (hs.mono BW.size)
  replace x1 := blk_keep x1 hs
  replace x2 := blk_keep x2 hs
  replace x3 := blk_keep x3 hs
  clear hs f0 f1
  clear hx1 hx2 hy2 hx1' hx2' hy2'
  have hf := fr_of HC.out
  obtain ⟨l1, l2⟩ : n ≤ ms.length ∧ ms.length ≤ n := by have := h1.len; omega
  obtain rfl : n = m := by have := h2.len; have := hf.len; omega
  obtain ⟨l5, l6⟩ : 0 < n ∧ n ≤ 4 := by have := hf.pos; have := hf.few; omega
  obtain ⟨s1, s2, s3, s4, s5⟩ := squareE_ok HD.out
  obtain ⟨t1, t2, t3, t4, t5⟩ := squareE_ok HE.out
  have HS := Lib.hid s1
  have HT := Lib.hid t1
  clear s1 t1
  have f0 := cell_block x2 0
  have f1 := cell_block x2 1
  have f2 := cell_block x3 0
  have f3 := cell_block x3 1
  have hlt := blk_lt x3
  go_wp2_with fail
  refine (Cmp_any x y x' y' _ (by omega) (by omega) (by omega) (by omega) (by omega) (by omega) (by omega) (by omega)).mono ?_
  rintro e w5 ⟨rfl, hs⟩
  replace BW := BW.trans (hs.mono BW.size)
  replace x1 := blk_keep x1 hs
  replace x2 := blk_keep x2 hs
  replace x3 := blk_keep x3 hs
  clear hs f0 f1 f2 f3 hlt
  have f0 := cell_block x2 0
  have f1 := cell_block x2 1
  have f2 := cell_block x3 0
  have f3 := cell_block x3 1
  have g0 := frozen_block x2 0
  have g1 := frozen_block x2 1
  have g2 := frozen_block x3 0
  have g3 := frozen_block x3 1
  have hlt := blk_lt x3
  by_cases hsw : x' * y < x * y'
  case' pos =>
    rw [show cmpQ (x * y') (x' * y) = 1 from by unfold cmpQ; rw [if_neg (by omega), if_pos hsw]]
    go_wp2_with fail
    replace x1 := blk_other' (blk_other' (blk_other' (blk_other' x1 (show w.heap.size ≠ w.heap.size + 1 by omega) 0 (.int .i64 x')) (show w.heap.size ≠ w.heap.size + 1 by omega) 1 (.int .i64 y')) (show w.heap.size ≠ w.heap.size + 1 + 1 by omega) 0 (.int .i64 x)) (show w.heap.size ≠ w.heap.size + 1 + 1 by omega) 1 (.int .i64 y)
    replace x2 := blk_other' (blk_other' (blkSet (blkSet x2 0 (.int .i64 x')) 1 (.int .i64 y')) (show w.heap.size + 1 ≠ w.heap.size + 1 + 1 by omega) 0 (.int .i64 x)) (show w.heap.size + 1 ≠ w.heap.size + 1 + 1 by omega) 1 (.int .i64 y)
    replace x3 := blkSet (blkSet (blk_other' (blk_other' x3 (show w.heap.size + 1 + 1 ≠ w.heap.size + 1 by omega) 0 (.int .i64 x')) (show w.heap.size + 1 + 1 ≠ w.heap.size + 1 by omega) 1 (.int .i64 y')) 0 (.int .i64 x)) 1 (.int .i64 y)
    replace BW := (((BW.setCell (p := ⟨w.heap.size + 1, 0, none⟩) (by show _ ≤ w.heap.size + 1; omega) (.int .i64 x')).setCell (p := ⟨w.heap.size + 1, 1, none⟩) (by show _ ≤ w.heap.size + 1; omega) (.int .i64 y')).setCell (p := ⟨w.heap.size + 1 + 1, 0, none⟩) (by show _ ≤ w.heap.size + 1 + 1; omega) (.int .i64 x)).setCell (p := ⟨w.heap.size + 1 + 1, 1, none⟩) (by show _ ≤ w.heap.size + 1 + 1; omega) (.int .i64 y)
    clear f0 f1 f2 f3 g0 g1 g2 g3 hlt
    generalize ((((w5.setCell ⟨w.heap.size + 1, 0, none⟩ (.int .i64 x')).setCell ⟨w.heap.size + 1, 1, none⟩ (.int .i64 y')).setCell ⟨w.heap.size + 1 + 1, 0, none⟩ (.int .i64 x)).setCell ⟨w.heap.size + 1 + 1, 1, none⟩ (.int .i64 y)) = W6 at x1 x2 x3 BW ⊢
    obtain ⟨p1, hp⟩ : ∃ p, p = x' := ⟨_, rfl⟩
    subst hp
    obtain ⟨q1, hp⟩ : ∃ p, p = y' := ⟨_, rfl⟩
    subst hp
    obtain ⟨p2, hp⟩ : ∃ p, p = x := ⟨_, rfl⟩
    subst hp
    obtain ⟨q2, hp⟩ : ∃ p, p = y := ⟨_, rfl⟩
    subst hp
    have HLE := Lib.hid (show p1 * q2 ≤ p2 * q1 by omega)
    have HAE := HE
    have HBE := HD
    have HLA := HT
    have HLB := HS
    clear HD HE HS HT hsw
    replace x2 : W6.heap[w.heap.size + 1]? = some (.cells #[.int .i64 p1, .int .i64 q1] 34) := x2
    replace x3 : W6.heap[w.heap.size + 1 + 1]? = some (.cells #[.int .i64 p2, .int .i64 q2] 34) := x3
  case' neg =>
    have hsz : cmpQ (x * y') (x' * y) ≤ 0 := by unfold cmpQ; split <;> (try split) <;> omega
    obtain ⟨z, hz⟩ : ∃ z, cmpQ (x * y') (x' * y) = z := ⟨_, rfl⟩
    rw [hz] at hsz ⊢
    clear hz
    go_wp2_with fail
    clear f0 f1 f2 f3 g0 g1 g2 g3 hlt
    obtain ⟨W6, hp⟩ : ∃ p, p = w5 := ⟨_, rfl⟩
    subst hp
    obtain ⟨p1, hp⟩ : ∃ p, p = x := ⟨_, rfl⟩
    subst hp
    obtain ⟨q1, hp⟩ : ∃ p, p = y := ⟨_, rfl⟩
    subst hp
    obtain ⟨p2, hp⟩ : ∃ p, p = x' := ⟨_, rfl⟩
    subst hp
    obtain ⟨q2, hp⟩ : ∃ p, p = y' := ⟨_, rfl⟩
    subst hp
    have HLE := Lib.hid (show p1 * q2 ≤ p2 * q1 by omega)
    have HAE := HD
    have HBE := HE
    have HLA := HS
    have HLB := HT
    clear HD HE HS HT hsw hsz
  all_goals
    as_aux_lemma =>
      have bp1 : -1000000 ≤ p1 := by omega
      have bp2 : p1 ≤ 1000000 := by omega
      have bq1 : -1000000 ≤ q1 := by omega
      have bq2 : q1 ≤ 1000000 := by omega
      have HAE' := Lib.hid (show (if (checkF ms ks).2 = 0 then squareE p1 q1 else (checkF ms ks).2) = 0 by rw [if_pos HC.out]; exact HAE.out)
      have HBE' := Lib.hid (show (if (checkF ms ks).2 = 0 then squareE p2 q2 else (checkF ms ks).2) = 0 by rw [if_pos HC.out]; exact HBE.out)
      clear HAE HBE
      have HAE := HAE'
      have HBE := HBE'
      clear HAE' HBE'
      obtain ⟨A, hA'⟩ : ∃ A, belowF ms ks p1 q1 = A := ⟨_, rfl⟩
      obtain ⟨B, hB'⟩ : ∃ B, belowF ms ks p2 q2 = B := ⟨_, rfl⟩
      obtain ⟨M, hM'⟩ : ∃ M, modeF ms ks p1 q1 = M := ⟨_, rfl⟩
      have v1 := (below_bd ms ks p1 q1).1
      have v2 := below_mono hf (num := p1) (den := q1) (num' := p2) (den' := q2) (by omega) (by omega) HLE.out
      have v3 := (below_bd ms ks p2 q2).2
      have v4 : Hid (p1 ≤ 0 → belowF ms ks p1 q1 = 0) := Lib.hid (fun h => (below_zero hf (by omega) h).1)
      have v5 : Hid (M = true → belowF ms ks p1 q1 < ms.length) := Lib.hid (fun h => mode_below hf (by omega) (hM'.trans h))
      have v6 : Hid (M = true → ¬ (p1 = p2 ∧ q1 = q2) → belowF ms ks p1 q1 < belowF ms ks p2 q2) := Lib.hid (fun h hne => below_mode hf (by omega) (by omega) (by
        rcases Int.lt_or_eq_of_le HLE.out with h1 | h1
        · exact h1
        · exact absurd (low_eq HLA.out HLB.out h1) hne) (hM'.trans h))
      rw [hA'] at v1 v2 v4 v5 v6
      rw [hB'] at v2 v3 v6
      have HA := Lib.hid hA'
      have HB := Lib.hid hB'
      have HM := Lib.hid hM'
      clear hA' hB' hM'
      have f0 := True.intro
      have f1 := f0
      have f2 := f0
      have f3 := f0
      refine Calmly.wp_region_mix 8 (.fl 0 <| .fl 2 <| .eff 1 <| .eff 3 <| .fl 4 <| .fl 5 <| .fl 6 <| .fl 7 <| .tail [8]) (by kernel_rfl) (by kernel_rfl) ?_
      replace x1 : W6.drew.heap[w.heap.size]? = some (.cells #[.slice a n c, .slice b n d] 24) := x1
      replace x2 : W6.drew.heap[w.heap.size + 1]? = some (.cells #[.int .i64 p1, .int .i64 q1] 34) := x2
      replace x3 : W6.drew.heap[w.heap.size + 1 + 1]? = some (.cells #[.int .i64 p2, .int .i64 q2] 34) := x3
      replace BW := BW.drew
      clear f0 f1 f2 f3
      generalize W6.drew = V1 at x1 x2 x3 BW ⊢
      have f0 := cell_block x1 0
      have f1 := cell_block x1 1
      have f2 := cell_block x2 0
      have f3 := cell_block x2 1
      have f4 := cell_block x3 0
      have f5 := cell_block x3 1
      have hlt := blk_lt x3
      have hk := Below.refl V1.heap.size V1
      go_wp2_with (first | ((with_reducible refine Calmly.is_fl ?_); refine Calmly.mix_fl rfl ?_ (fun _ _ => ?_); (first | exact .move _ | exact .load _ _ | exact .fieldAddr _ _ _ (by kernel_rfl) | exact .assign _ | exact .binOp _ _ _ _ _ rfl | exact .indexAddr _ _ _ | exact .len _ _ (by kernel_rfl) | exact .field _ _ _ | exact .extract _ _ | exact .pick _ _ _ | exact .build _ _ | exact .slice _ _ _ _ _ | exact .unOp _ _ _ rfl | exact .index _ _ _ | exact .max _ _ _ rfl rfl | exact .min _ _ _ rfl rfl)) | ((with_reducible refine Calmly.is_gl ?_); refine Calmly.mix_gl rfl rfl rfl ?_; first | ((first | with_reducible refine Calmly.gl_tt ?_ (fun _ _ => ?_) | with_reducible refine Calmly.gl_ff ?_ (fun _ _ => ?_)); (first | exact .move _ | exact .load _ _ | exact .fieldAddr _ _ _ (by kernel_rfl) | exact .assign _ | exact .binOp _ _ _ _ _ rfl | exact .indexAddr _ _ _ | exact .len _ _ (by kernel_rfl) | exact .field _ _ _ | exact .extract _ _ | exact .pick _ _ _ | exact .build _ _ | exact .slice _ _ _ _ _ | exact .unOp _ _ _ rfl | exact .index _ _ _ | exact .max _ _ _ rfl rfl | exact .min _ _ _ rfl rfl)) | with_reducible refine Calmly.gl_tf (fun _ _ => ?_) | with_reducible refine Calmly.gl_ft (fun _ _ => ?_)) | ((with_reducible refine Calmly.is_eff ?_); refine Calmly.mix_eff rfl (fun _ _ => ?_)) | ((with_reducible refine Calmly.is_gf ?_); refine Calmly.mix_gf rfl rfl rfl ?_; first | with_reducible refine Calmly.gf_tt (fun _ _ => ?_) | with_reducible refine Calmly.gf_ff (fun _ _ => ?_) | with_reducible refine Calmly.gf_tf (kept_of hk) (fun _ _ => ?_) | with_reducible refine Calmly.gf_ft (kept_of hk) (fun _ _ => ?_)) | ((with_reducible refine Calmly.is_tail ?_); first | refine Calmly.mix_tail_nil ?_ | refine Calmly.mix_tail rfl (fun _ _ => ?_)) | ((with_reducible refine Calmly.is_kept ?_); refine ⟨kept_of hk, ?_⟩) | (with_reducible refine Calmly.mix_alt ?_ ?_) | (go_at_call 18; refine (Copy_any a b n c n d ms ks _ ((h1.keep BW).keep hk) ((h2.keep BW).keep hk) (by omega) (by omega)).mono ?_; rintro e w' ⟨a1, c1', b1, d1', BB, rfl, oA1, oB1, hB, hgB, hs⟩; replace hk := step_of hk hs; clear hgB hs) | (go_at_call 36; refine (CountBelow_any _ _ n _ n _ ms ks p1 q1 _ oA1.si oB1.si (by omega) (by omega) (by omega) 0 A HAE.out (fun _ => HA.out) (fun h => absurd rfl h)).mono ?_; rintro e w7 ⟨rfl, hs⟩; replace hk := step_of hk hs; clear hs oA1 oB1 hB))
      replace BW := BW.trans (hk.mono BW.size)
      replace x1 := blk_keep x1 hk
      replace x2 := blk_keep x2 hk
      replace x3 := blk_keep x3 hk
      clear hk f0 f1 f2 f3 f4 f5 hlt
      have f0 := cell_block x1 0
      have f1 := cell_block x1 1
      have f2 := cell_block x2 0
      have f3 := cell_block x2 1
      have f4 := cell_block x3 0
      have f5 := cell_block x3 1
      have hlt := blk_lt x3
      refine Calmly.wp_region_mix 8 (.fl 0 <| .fl 2 <| .eff 1 <| .eff 3 <| .fl 4 <| .fl 5 <| .fl 6 <| .fl 7 <| .tail [8]) (by kernel_rfl) (by kernel_rfl) ?_
      replace x1 : w7.drew.heap[w.heap.size]? = some (.cells #[.slice a n c, .slice b n d] 24) := x1
      replace x2 : w7.drew.heap[w.heap.size + 1]? = some (.cells #[.int .i64 p1, .int .i64 q1] 34) := x2
      replace x3 : w7.drew.heap[w.heap.size + 1 + 1]? = some (.cells #[.int .i64 p2, .int .i64 q2] 34) := x3
      replace BW := BW.drew
      clear f0 f1 f2 f3 f4 f5 hlt
      generalize w7.drew = V2 at x1 x2 x3 BW ⊢
      have f0 := cell_block x1 0
      have f1 := cell_block x1 1
      have f2 := cell_block x2 0
      have f3 := cell_block x2 1
      have f4 := cell_block x3 0
      have f5 := cell_block x3 1
      have hlt := blk_lt x3
      have hk := Below.refl V2.heap.size V2
      go_wp2_with (first | ((with_reducible refine Calmly.is_fl ?_); refine Calmly.mix_fl rfl ?_ (fun _ _ => ?_); (first | exact .move _ | exact .load _ _ | exact .fieldAddr _ _ _ (by kernel_rfl) | exact .assign _ | exact .binOp _ _ _ _ _ rfl | exact .indexAddr _ _ _ | exact .len _ _ (by kernel_rfl) | exact .field _ _ _ | exact .extract _ _ | exact .pick _ _ _ | exact .build _ _ | exact .slice _ _ _ _ _ | exact .unOp _ _ _ rfl | exact .index _ _ _ | exact .max _ _ _ rfl rfl | exact .min _ _ _ rfl rfl)) | ((with_reducible refine Calmly.is_gl ?_); refine Calmly.mix_gl rfl rfl rfl ?_; first | ((first | with_reducible refine Calmly.gl_tt ?_ (fun _ _ => ?_) | with_reducible refine Calmly.gl_ff ?_ (fun _ _ => ?_)); (first | exact .move _ | exact .load _ _ | exact .fieldAddr _ _ _ (by kernel_rfl) | exact .assign _ | exact .binOp _ _ _ _ _ rfl | exact .indexAddr _ _ _ | exact .len _ _ (by kernel_rfl) | exact .field _ _ _ | exact .extract _ _ | exact .pick _ _ _ | exact .build _ _ | exact .slice _ _ _ _ _ | exact .unOp _ _ _ rfl | exact .index _ _ _ | exact .max _ _ _ rfl rfl | exact .min _ _ _ rfl rfl)) | with_reducible refine Calmly.gl_tf (fun _ _ => ?_) | with_reducible refine Calmly.gl_ft (fun _ _ => ?_)) | ((with_reducible refine Calmly.is_eff ?_); refine Calmly.mix_eff rfl (fun _ _ => ?_)) | ((with_reducible refine Calmly.is_gf ?_); refine Calmly.mix_gf rfl rfl rfl ?_; first | with_reducible refine Calmly.gf_tt (fun _ _ => ?_) | with_reducible refine Calmly.gf_ff (fun _ _ => ?_) | with_reducible refine Calmly.gf_tf (kept_of hk) (fun _ _ => ?_) | with_reducible refine Calmly.gf_ft (kept_of hk) (fun _ _ => ?_)) | ((with_reducible refine Calmly.is_tail ?_); first | refine Calmly.mix_tail_nil ?_ | refine Calmly.mix_tail rfl (fun _ _ => ?_)) | ((with_reducible refine Calmly.is_kept ?_); refine ⟨kept_of hk, ?_⟩) | (with_reducible refine Calmly.mix_alt ?_ ?_) | (go_at_call 18; refine (Copy_any a b n c n d ms ks _ ((h1.keep BW).keep hk) ((h2.keep BW).keep hk) (by omega) (by omega)).mono ?_; rintro e w' ⟨a1, c1', b1, d1', BB, rfl, oA1, oB1, hB, hgB, hs⟩; replace hk := step_of hk hs; clear hgB hs) | (go_at_call 36; refine (CountBelow_any _ _ n _ n _ ms ks p2 q2 _ oA1.si oB1.si (by omega) (by omega) (by omega) 0 B HBE.out (fun _ => HB.out) (fun h => absurd rfl h)).mono ?_; rintro e w8 ⟨rfl, hs⟩; replace hk := step_of hk hs; clear hs oA1 oB1 hB))
      replace BW := BW.trans (hk.mono BW.size)
      replace x1 := blk_keep x1 hk
      replace x2 := blk_keep x2 hk
      replace x3 := blk_keep x3 hk
      clear hk f0 f1 f2 f3 f4 f5 hlt
      have f0 := cell_block x1 0
      have f1 := cell_block x1 1
      have f2 := cell_block x2 0
      have f3 := cell_block x2 1
      have f4 := cell_block x3 0
      have f5 := cell_block x3 1
      have hlt := blk_lt x3
      refine Calmly.wp_region_mix 8 (.fl 0 <| .fl 2 <| .eff 1 <| .eff 3 <| .fl 4 <| .fl 5 <| .fl 6 <| .fl 7 <| .tail [8]) (by kernel_rfl) (by kernel_rfl) ?_
      replace x1 : w8.drew.heap[w.heap.size]? = some (.cells #[.slice a n c, .slice b n d] 24) := x1
      replace x2 : w8.drew.heap[w.heap.size + 1]? = some (.cells #[.int .i64 p1, .int .i64 q1] 34) := x2
      replace x3 : w8.drew.heap[w.heap.size + 1 + 1]? = some (.cells #[.int .i64 p2, .int .i64 q2] 34) := x3
      replace BW := BW.drew
      clear f0 f1 f2 f3 f4 f5 hlt
      generalize w8.drew = V3 at x1 x2 x3 BW ⊢
      have f0 := cell_block x1 0
      have f1 := cell_block x1 1
      have f2 := cell_block x2 0
      have f3 := cell_block x2 1
      have f4 := cell_block x3 0
      have f5 := cell_block x3 1
      have hlt := blk_lt x3
      have hk := Below.refl V3.heap.size V3
      go_wp2_with (first | ((with_reducible refine Calmly.is_fl ?_); refine Calmly.mix_fl rfl ?_ (fun _ _ => ?_); (first | exact .move _ | exact .load _ _ | exact .fieldAddr _ _ _ (by kernel_rfl) | exact .assign _ | exact .binOp _ _ _ _ _ rfl | exact .indexAddr _ _ _ | exact .len _ _ (by kernel_rfl) | exact .field _ _ _ | exact .extract _ _ | exact .pick _ _ _ | exact .build _ _ | exact .slice _ _ _ _ _ | exact .unOp _ _ _ rfl | exact .index _ _ _ | exact .max _ _ _ rfl rfl | exact .min _ _ _ rfl rfl)) | ((with_reducible refine Calmly.is_gl ?_); refine Calmly.mix_gl rfl rfl rfl ?_; first | ((first | with_reducible refine Calmly.gl_tt ?_ (fun _ _ => ?_) | with_reducible refine Calmly.gl_ff ?_ (fun _ _ => ?_)); (first | exact .move _ | exact .load _ _ | exact .fieldAddr _ _ _ (by kernel_rfl) | exact .assign _ | exact .binOp _ _ _ _ _ rfl | exact .indexAddr _ _ _ | exact .len _ _ (by kernel_rfl) | exact .field _ _ _ | exact .extract _ _ | exact .pick _ _ _ | exact .build _ _ | exact .slice _ _ _ _ _ | exact .unOp _ _ _ rfl | exact .index _ _ _ | exact .max _ _ _ rfl rfl | exact .min _ _ _ rfl rfl)) | with_reducible refine Calmly.gl_tf (fun _ _ => ?_) | with_reducible refine Calmly.gl_ft (fun _ _ => ?_)) | ((with_reducible refine Calmly.is_eff ?_); refine Calmly.mix_eff rfl (fun _ _ => ?_)) | ((with_reducible refine Calmly.is_gf ?_); refine Calmly.mix_gf rfl rfl rfl ?_; first | with_reducible refine Calmly.gf_tt (fun _ _ => ?_) | with_reducible refine Calmly.gf_ff (fun _ _ => ?_) | with_reducible refine Calmly.gf_tf (kept_of hk) (fun _ _ => ?_) | with_reducible refine Calmly.gf_ft (kept_of hk) (fun _ _ => ?_)) | ((with_reducible refine Calmly.is_tail ?_); first | refine Calmly.mix_tail_nil ?_ | refine Calmly.mix_tail rfl (fun _ _ => ?_)) | ((with_reducible refine Calmly.is_kept ?_); refine ⟨kept_of hk, ?_⟩) | (with_reducible refine Calmly.mix_alt ?_ ?_) | (go_at_call 18; refine (Copy_any a b n c n d ms ks _ ((h1.keep BW).keep hk) ((h2.keep BW).keep hk) (by omega) (by omega)).mono ?_; rintro e w' ⟨a1, c1', b1, d1', BB, rfl, oA1, oB1, hB, hgB, hs⟩; replace hk := step_of hk hs; clear hgB hs) | (go_at_call 38; refine (IsMode_any _ _ n _ n _ ms ks p1 q1 _ oA1.si oB1.si (by omega) (by omega) (by omega) 0 M HAE.out (fun _ => HM.out) (fun h => absurd rfl h)).mono ?_; rintro e w9 ⟨rfl, hs⟩; replace hk := step_of hk hs; clear hs oA1 oB1 hB; have y1 := blk_keep x1 hk; have j0 := cell_block y1 0; have j1 := cell_block y1 1))
      refine (PolynomialOf_ok _ _ n _ n _ ms ks _ oA1.si oB1.si HC.out).mono ?_
      rintro e w10 ⟨pa, pc, rfl, oP, hs⟩
      replace hk := step_of hk hs
      clear hs oA1 oB1 hB y1 j0 j1
      replace BW := BW.trans (hk.mono BW.size)
      replace x1 := blk_keep x1 hk
      replace x2 := blk_keep x2 hk
      replace x3 := blk_keep x3 hk
      clear hk f0 f1 f2 f3 f4 f5 hlt
      have f0 := cell_block x1 0
      have f1 := cell_block x1 1
      have f2 := cell_block x2 0
      have f3 := cell_block x2 1
      have f4 := cell_block x3 0
      have f5 := cell_block x3 1
      have hlt := blk_lt x3
      have pP := oP.si
      clear oP
      have hpl := pP.len
      have hpl1 : (polyF ms ks).length ≤ n + 1 ∧ n + 1 ≤ (polyF ms ks).length := by omega
      clear hpl
      obtain ⟨pb, po, rfl, _⟩ := pP.at_ (by omega)
      have hn1 : wIn A 0 B = true := wIn_iff.2 ⟨v1, v2⟩
      have hn2 : B ≤ (n : Int) := by omega
      go_wp2_with fail
      refine (within_any _ _ _ _).mono ?_
      rintro e w11 ⟨rfl, rfl⟩
      rw [hn1]
      go_wp2_with fail
      refine (RatioInt_any 0 _ (by omega) (by omega)).mono ?_
      rintro e w12 ⟨⟨gs, ga, gn, gc, gs', ga', gn', gc', rfl, gh, gh', gV⟩, hs⟩
      replace BW := BW.trans (hs.mono BW.size)
      replace x1 := blk_keep x1 hs
      replace x2 := blk_keep x2 hs
      replace x3 := blk_keep x3 hs
      have hs0 := hs
      clear hs f0 f1 f2 f3 f4 f5 hlt
      have f0 := cell_block x1 0
      have f1 := cell_block x1 1
      have f2 := cell_block x2 0
      have f3 := cell_block x2 1
      have f4 := cell_block x3 0
      have f5 := cell_block x3 1
      have hlt := blk_lt x3
      replace pP := pP.keep hs0
      go_wp2_with fail
      refine (RatioInt_any 1 _ (by omega) (by omega)).mono ?_
      rintro e w13 ⟨⟨ps, qa, pn, qc, ps', qa', pn', qc', rfl, ph, ph', pV⟩, hs⟩
      replace BW := BW.trans (hs.mono BW.size)
      replace x1 := blk_keep x1 hs
      replace x2 := blk_keep x2 hs
      replace x3 := blk_keep x3 hs
      have hs0 := hs
      clear hs f0 f1 f2 f3 f4 f5 hlt
      have f0 := cell_block x1 0
      have f1 := cell_block x1 1
      have f2 := cell_block x2 0
      have f3 := cell_block x2 1
      have f4 := cell_block x3 0
      have f5 := cell_block x3 1
      have hlt := blk_lt x3
      replace pP := pP.keep hs0
      replace gV := gV.keep hs0
      clear hs0
      go_wp2_with fail
      have hb : Below w13.heap.size w13 ((w13.alloc (.cells #[.int .i64 gs, .slice ga gn gc, .int .i64 gs', .slice ga' gn' gc'] 72)).alloc (.cells #[.int .i64 ps, .slice qa pn qc, .int .i64 ps', .slice qa' pn' qc'] 72)) := ((Below.refl _ _).alloc (Nat.le_refl _) _).alloc (by simp) _
      obtain ⟨X4, X5⟩ := box2 (w := w13) (o := .cells #[.int .i64 gs, .slice ga gn gc, .int .i64 gs', .slice ga' gn' gc'] 72) (o' := .cells #[.int .i64 ps, .slice qa pn qc, .int .i64 ps', .slice qa' pn' qc'] 72) (Below.refl _ ((w13.alloc (.cells #[.int .i64 gs, .slice ga gn gc, .int .i64 gs', .slice ga' gn' gc'] 72)).alloc (.cells #[.int .i64 ps, .slice qa pn qc, .int .i64 ps', .slice qa' pn' qc'] 72)))
      have gV1 : RatV _ gs ga gn gc gs' ga' gn' gc' (sumP (polyF ms ks) (Rat.divInt p1 q1) 0) := gV.keep hb
      replace pV : RatV w13 ps qa pn qc ps' qa' pn' qc' (Rat.divInt p1 q1 ^ 0) := by rw [Rat.pow_zero]; exact pV
      have pV1 := pV.keep hb
      clear gV pV
      have hlt13 : w.heap.size + 1 + 1 < w13.heap.size := hlt
      clear f0 f1 f2 f3 f4 f5 hlt
      have hpf : Hid (∀ j : Nat, -10000000 ≤ (polyF ms ks)[j]?.getD 0 ∧ (polyF ms ks)[j]?.getD 0 ≤ 10000000) := Lib.hid (poly_fine (by omega) hf.m hf.k0)
      go_loopw [17] (fun z wr => ∃ (k : Nat) (s : Int) (sa : Option Addr) (sn sc : Nat) (s' : Int) (sa' : Option Addr) (sn' sc' : Nat) (t : Int) (ta : Option Addr) (tn tc : Nat) (t' : Int) (ta' : Option Addr) (tn' tc' : Nat), k ≤ n + 1 ∧ z = .int .i64 (k : Int) ∧ Below w13.heap.size w13 wr ∧
        wr.heap[w13.heap.size]? = some (.cells #[.int .i64 s, .slice sa sn sc, .int .i64 s', .slice sa' sn' sc'] 72) ∧ wr.heap[w13.heap.size + 1]? = some (.cells #[.int .i64 t, .slice ta tn tc, .int .i64 t', .slice ta' tn' tc'] 72) ∧ RatV wr s sa sn sc s' sa' sn' sc' (sumP (polyF ms ks) (Rat.divInt p1 q1) k) ∧ RatV wr t ta tn tc t' ta' tn' tc' (Rat.divInt p1 q1 ^ k) ∧ sn ≤ eL k ∧ sn' ≤ eL k ∧ tn ≤ eL k ∧ tn' ≤ eL k) (fun z _ => n + 1 - (intOf z).toNat)
      case atStart => exact ⟨0, _, _, _, _, _, _, _, _, _, _, _, _, _, _, _, _, by omega, rfl, hb, X4, X5, gV1, pV1, by show _ ≤ 7; omega, by show _ ≤ 7; omega, by show _ ≤ 7; omega, by show _ ≤ 7; omega⟩
      case round =>
        clear X4 X5 gV1 pV1 hb
        obtain ⟨k, s, sa, sn, sc, s', sa', sn', sc', t, ta, tn, tc, t', ta', tn', tc', hk0, rfl, hbr, X4, X5, sV, tV, hl1, hl2, hl3, hl4⟩ := hrel
        replace BW := BW.trans (hbr.mono BW.size)
        replace x1 := blk_keep x1 hbr
        replace x2 := blk_keep x2 hbr
        replace x3 := blk_keep x3 hbr
        obtain ⟨el1, el2⟩ := eL_bd k (by omega)
        by_cases hlk : k < n + 1
        · have hcp := (pP.keep hbr).here hlk
          have hi : (k : Int) < (n : Int) + 1 := by omega
          have hi0 : (0 : Int) ≤ (k : Int) := by omega
          obtain ⟨pk, hpk⟩ : ∃ v, (polyF ms ks)[k]?.getD 0 = v := ⟨_, rfl⟩
          have hpkb := hpf.out k
          rw [hpk] at hcp hpkb
          have HPK := Lib.hid hpk
          have hwi : wIn pk (-1099511627776) 1099511627776 = true := wIn_iff.2 ⟨by omega, by omega⟩
          clear hpk
          go_wp2_with fail
          refine (within_any _ _ _ _).mono ?_
          rintro e v1 ⟨rfl, rfl⟩
          rw [hwi]
          go_wp2_with fail
          refine Calmly.wp_region_mix 9 (.fl 0 <| .fl 1 <| .fl 2 <| .fl 3 <| .fl 4 <| .fl 6 <| .eff 5 <| .eff 7 <| .eff 8 <| .tail [9]) (by kernel_rfl) (by kernel_rfl) ?_
          replace x2 : wr.drew.heap[w.heap.size + 1]? = some (.cells #[.int .i64 p1, .int .i64 q1] 34) := x2
          replace X4 : wr.drew.heap[w13.heap.size]? = some (.cells #[.int .i64 s, .slice sa sn sc, .int .i64 s', .slice sa' sn' sc'] 72) := X4
          replace X5 : wr.drew.heap[w13.heap.size + 1]? = some (.cells #[.int .i64 t, .slice ta tn tc, .int .i64 t', .slice ta' tn' tc'] 72) := X5
          replace hcp : wr.drew.cell? ⟨pb, po + k, none⟩ = some (.int .i64 pk) := hcp
          replace hbr := hbr.drew
          replace sV := sV.keep (Below.refl _ _).drew
          replace tV := tV.keep (Below.refl _ _).drew
          clear BW x1 x3
          generalize wr.drew = V at *
          have g0 := cell_block X4 0
          have g1 := cell_block X4 1
          have g2 := cell_block X4 2
          have g3 := cell_block X4 3
          have j0 := cell_block X5 0
          have j1 := cell_block X5 1
          have j2 := cell_block X5 2
          have j3 := cell_block X5 3
          have hk := Below.refl V.heap.size V
          go_wp2_with (first | ((with_reducible refine Calmly.is_fl ?_); refine Calmly.mix_fl rfl ?_ (fun _ _ => ?_); (first | exact .move _ | exact .load _ _ | exact .fieldAddr _ _ _ (by kernel_rfl) | exact .assign _ | exact .binOp _ _ _ _ _ rfl | exact .indexAddr _ _ _ | exact .len _ _ (by kernel_rfl) | exact .field _ _ _ | exact .extract _ _ | exact .pick _ _ _ | exact .build _ _ | exact .slice _ _ _ _ _ | exact .unOp _ _ _ rfl | exact .index _ _ _ | exact .max _ _ _ rfl rfl | exact .min _ _ _ rfl rfl)) | ((with_reducible refine Calmly.is_gl ?_); refine Calmly.mix_gl rfl rfl rfl ?_; first | ((first | with_reducible refine Calmly.gl_tt ?_ (fun _ _ => ?_) | with_reducible refine Calmly.gl_ff ?_ (fun _ _ => ?_)); (first | exact .move _ | exact .load _ _ | exact .fieldAddr _ _ _ (by kernel_rfl) | exact .assign _ | exact .binOp _ _ _ _ _ rfl | exact .indexAddr _ _ _ | exact .len _ _ (by kernel_rfl) | exact .field _ _ _ | exact .extract _ _ | exact .pick _ _ _ | exact .build _ _ | exact .slice _ _ _ _ _ | exact .unOp _ _ _ rfl | exact .index _ _ _ | exact .max _ _ _ rfl rfl | exact .min _ _ _ rfl rfl)) | with_reducible refine Calmly.gl_tf (fun _ _ => ?_) | with_reducible refine Calmly.gl_ft (fun _ _ => ?_)) | ((with_reducible refine Calmly.is_eff ?_); refine Calmly.mix_eff rfl (fun _ _ => ?_)) | ((with_reducible refine Calmly.is_gf ?_); refine Calmly.mix_gf rfl rfl rfl ?_; first | with_reducible refine Calmly.gf_tt (fun _ _ => ?_) | with_reducible refine Calmly.gf_ff (fun _ _ => ?_) | with_reducible refine Calmly.gf_tf (kept_of hk) (fun _ _ => ?_) | with_reducible refine Calmly.gf_ft (kept_of hk) (fun _ _ => ?_)) | ((with_reducible refine Calmly.is_kept ?_); refine ⟨kept_of hk, ?_⟩) | (with_reducible refine Calmly.mix_alt ?_ ?_) | (go_at_call 47; refine (RatioInt_any _ _ (by omega) (by omega)).mono ?_; rintro e v2 ⟨⟨es, eb, en, ec, es', eb', en', ec', rfl, eh, eh', rA⟩, hs⟩; replace hk := step_of hk hs; clear hs) | (go_at_call 49; refine (RatioMul_any _ _ _ _ _ _ _ _ _ _ _ _ _ _ _ _ (eL k) _ _ _ rA (tV.keep hk) (by omega) (by omega) (by omega) (by omega) (by omega)).mono ?_; rintro e v3 ⟨⟨fs, fb, fn, fc, fs', fb', fn', fc', rfl, fh, fh', rB⟩, hs⟩; replace hk := step_of hk hs; clear hs) | (go_at_call 48; refine (RatioAdd_any _ _ _ _ _ _ _ _ _ _ _ _ _ _ _ _ (2 * eL k + 6) _ _ _ (sV.keep hk) rB (by omega) (by omega) (by omega) (by omega) (by omega)).mono ?_; rintro e v4 ⟨⟨hs', hb', hn', hc', hs'', hb'', hn'', hc'', rfl, hh, hh', rJ⟩, hs⟩; replace hk := step_of hk hs; clear hs))
          have Y4 := blk_keep X4 hk
          have Y5 := blk_keep X5 hk
          have Y2 := blk_keep x2 hk
          have tV2 := (tV.keep hk).set4 (⟨_, Y4⟩ : BlkT _ w13.heap.size 72)
          have i0 := cell_block Y4 0
          have i1 := cell_block Y4 1
          have i2 := cell_block Y4 2
          have i3 := cell_block Y4 3
          have i4 := frozen_block Y4 0
          have i5 := frozen_block Y4 1
          have i6 := frozen_block Y4 2
          have i7 := frozen_block Y4 3
          obtain ⟨Z4, _, _⟩ := ratFin Y4 rJ.1 rJ.2
          have sV2 := rJ.set4 (⟨_, Y4⟩ : BlkT _ w13.heap.size 72) (.int .i64 hs') (.slice hb' hn' hc') (.int .i64 hs'') (.slice hb'' hn'' hc'')
          have hbr2 := hbr.trans (hk.mono hbr.size)
          go_wp2_with (first | ((with_reducible refine Calmly.is_fl ?_); refine Calmly.mix_fl rfl ?_ (fun _ _ => ?_); (first | exact .move _ | exact .load _ _ | exact .fieldAddr _ _ _ (by kernel_rfl) | exact .assign _ | exact .binOp _ _ _ _ _ rfl | exact .indexAddr _ _ _ | exact .len _ _ (by kernel_rfl) | exact .field _ _ _ | exact .extract _ _ | exact .pick _ _ _ | exact .build _ _ | exact .slice _ _ _ _ _ | exact .unOp _ _ _ rfl | exact .index _ _ _ | exact .max _ _ _ rfl rfl | exact .min _ _ _ rfl rfl)) | ((with_reducible refine Calmly.is_gl ?_); refine Calmly.mix_gl rfl rfl rfl ?_; first | ((first | with_reducible refine Calmly.gl_tt ?_ (fun _ _ => ?_) | with_reducible refine Calmly.gl_ff ?_ (fun _ _ => ?_)); (first | exact .move _ | exact .load _ _ | exact .fieldAddr _ _ _ (by kernel_rfl) | exact .assign _ | exact .binOp _ _ _ _ _ rfl | exact .indexAddr _ _ _ | exact .len _ _ (by kernel_rfl) | exact .field _ _ _ | exact .extract _ _ | exact .pick _ _ _ | exact .build _ _ | exact .slice _ _ _ _ _ | exact .unOp _ _ _ rfl | exact .index _ _ _ | exact .max _ _ _ rfl rfl | exact .min _ _ _ rfl rfl)) | with_reducible refine Calmly.gl_tf (fun _ _ => ?_) | with_reducible refine Calmly.gl_ft (fun _ _ => ?_)) | ((with_reducible refine Calmly.is_eff ?_); refine Calmly.mix_eff rfl (fun _ _ => ?_)) | ((with_reducible refine Calmly.is_gf ?_); refine Calmly.mix_gf rfl rfl rfl ?_; first | with_reducible refine Calmly.gf_tt (fun _ _ => ?_) | with_reducible refine Calmly.gf_ff (fun _ _ => ?_) | with_reducible refine Calmly.gf_tf (kept_of hk) (fun _ _ => ?_) | with_reducible refine Calmly.gf_ft (kept_of hk) (fun _ _ => ?_)) | ((with_reducible refine Calmly.is_tail ?_); first | refine Calmly.mix_tail_nil ?_ | refine Calmly.mix_tail rfl (fun _ _ => ?_)) | ((with_reducible refine Calmly.is_kept ?_); refine ⟨kept_of hk, ?_⟩) | (with_reducible refine Calmly.mix_alt ?_ ?_))
          have Z5 := blk_other' (blk_other' (blk_other' (blk_other' Y5 (show w13.heap.size + 1 ≠ w13.heap.size by omega) 0 (.int .i64 hs')) (show w13.heap.size + 1 ≠ w13.heap.size by omega) 1 (.slice hb' hn' hc')) (show w13.heap.size + 1 ≠ w13.heap.size by omega) 2 (.int .i64 hs'')) (show w13.heap.size + 1 ≠ w13.heap.size by omega) 3 (.slice hb'' hn'' hc'')
          have Z2 := blk_other' (blk_other' (blk_other' (blk_other' Y2 (show w.heap.size + 1 ≠ w13.heap.size by omega) 0 (.int .i64 hs')) (show w.heap.size + 1 ≠ w13.heap.size by omega) 1 (.slice hb' hn' hc')) (show w.heap.size + 1 ≠ w13.heap.size by omega) 2 (.int .i64 hs'')) (show w.heap.size + 1 ≠ w13.heap.size by omega) 3 (.slice hb'' hn'' hc'')
          replace tV2 := tV2 (.int .i64 hs') (.slice hb' hn' hc') (.int .i64 hs'') (.slice hb'' hn'' hc'')
          have hbr3 := below4 (x := .int .i64 hs') (y := .slice hb' hn' hc') (z := .int .i64 hs'') (u := .slice hb'' hn'' hc'') hbr2 (Nat.le_refl w13.heap.size)
          clear i0 i1 i2 i3 i4 i5 i6 i7 Y4 Y5 Y2 X4 X5 x2 g0 g1 g2 g3 j0 j1 j2 j3 hk hbr hbr2 sV tV rA rB rJ hcp
          generalize ((((v4.setCell ⟨w13.heap.size, 0, none⟩ (.int .i64 hs')).setCell ⟨w13.heap.size, 1, none⟩ (.slice hb' hn' hc')).setCell ⟨w13.heap.size, 2, none⟩ (.int .i64 hs'')).setCell ⟨w13.heap.size, 3, none⟩ (.slice hb'' hn'' hc'')) = V2 at *
          refine Calmly.wp_region_mix 4 (.fl 0 <| .fl 1 <| .eff 2 <| .eff 3 <| .tail [4]) (by kernel_rfl) (by kernel_rfl) ?_
          replace Z2 : V2.drew.heap[w.heap.size + 1]? = some (.cells #[.int .i64 p1, .int .i64 q1] 34) := Z2
          replace Z4 : V2.drew.heap[w13.heap.size]? = some (.cells #[.int .i64 hs', .slice hb' hn' hc', .int .i64 hs'', .slice hb'' hn'' hc''] 72) := Z4
          replace Z5 : V2.drew.heap[w13.heap.size + 1]? = some (.cells #[.int .i64 t, .slice ta tn tc, .int .i64 t', .slice ta' tn' tc'] 72) := Z5
          have hd := (Below.refl V2.heap.size V2).drew
          replace hbr3 := hbr3.drew
          replace sV2 := sV2.keep hd
          replace tV2 := tV2.keep hd
          clear hd
          generalize V2.drew = V at *
          have g2 := cell_block Z2 0
          have g3 := cell_block Z2 1
          have j0 := cell_block Z5 0
          have j1 := cell_block Z5 1
          have j2 := cell_block Z5 2
          have j3 := cell_block Z5 3
          have hk := Below.refl V.heap.size V
          go_wp2_with (first | ((with_reducible refine Calmly.is_fl ?_); refine Calmly.mix_fl rfl ?_ (fun _ _ => ?_); (first | exact .move _ | exact .load _ _ | exact .fieldAddr _ _ _ (by kernel_rfl) | exact .assign _ | exact .binOp _ _ _ _ _ rfl | exact .indexAddr _ _ _ | exact .len _ _ (by kernel_rfl) | exact .field _ _ _ | exact .extract _ _ | exact .pick _ _ _ | exact .build _ _ | exact .slice _ _ _ _ _ | exact .unOp _ _ _ rfl | exact .index _ _ _ | exact .max _ _ _ rfl rfl | exact .min _ _ _ rfl rfl)) | ((with_reducible refine Calmly.is_gl ?_); refine Calmly.mix_gl rfl rfl rfl ?_; first | ((first | with_reducible refine Calmly.gl_tt ?_ (fun _ _ => ?_) | with_reducible refine Calmly.gl_ff ?_ (fun _ _ => ?_)); (first | exact .move _ | exact .load _ _ | exact .fieldAddr _ _ _ (by kernel_rfl) | exact .assign _ | exact .binOp _ _ _ _ _ rfl | exact .indexAddr _ _ _ | exact .len _ _ (by kernel_rfl) | exact .field _ _ _ | exact .extract _ _ | exact .pick _ _ _ | exact .build _ _ | exact .slice _ _ _ _ _ | exact .unOp _ _ _ rfl | exact .index _ _ _ | exact .max _ _ _ rfl rfl | exact .min _ _ _ rfl rfl)) | with_reducible refine Calmly.gl_tf (fun _ _ => ?_) | with_reducible refine Calmly.gl_ft (fun _ _ => ?_)) | ((with_reducible refine Calmly.is_eff ?_); refine Calmly.mix_eff rfl (fun _ _ => ?_)) | ((with_reducible refine Calmly.is_gf ?_); refine Calmly.mix_gf rfl rfl rfl ?_; first | with_reducible refine Calmly.gf_tt (fun _ _ => ?_) | with_reducible refine Calmly.gf_ff (fun _ _ => ?_) | with_reducible refine Calmly.gf_tf (kept_of hk) (fun _ _ => ?_) | with_reducible refine Calmly.gf_ft (kept_of hk) (fun _ _ => ?_)) | ((with_reducible refine Calmly.is_kept ?_); refine ⟨kept_of hk, ?_⟩) | (with_reducible refine Calmly.mix_alt ?_ ?_) | (go_at_call 40; refine (RatioFrom_any _ _ _ (by omega) (by omega) (by omega) (by omega) (by omega)).mono ?_; rintro e v5 ⟨⟨es, eb, en, ec, es', eb', en', ec', rfl, eh, eh', rA⟩, hs⟩; replace hk := step_of hk hs; clear hs) | (go_at_call 49; refine (RatioMul_any _ _ _ _ _ _ _ _ _ _ _ _ _ _ _ _ (eL k) _ _ _ (tV2.keep hk) rA (by omega) (by omega) (by omega) (by omega) (by omega)).mono ?_; rintro e v6 ⟨⟨fs, fb, fn, fc, fs', fb', fn', fc', rfl, fh, fh', rB⟩, hs⟩; replace hk := step_of hk hs; clear hs))
          have Y4 := blk_keep Z4 hk
          have Y5 := blk_keep Z5 hk
          have i0 := cell_block Y5 0
          have i1 := cell_block Y5 1
          have i2 := cell_block Y5 2
          have i3 := cell_block Y5 3
          have i4 := frozen_block Y5 0
          have i5 := frozen_block Y5 1
          have i6 := frozen_block Y5 2
          have i7 := frozen_block Y5 3
          obtain ⟨A5, _, _⟩ := ratFin Y5 rB.1 rB.2
          have tV3 := rB.set4 (⟨_, Y5⟩ : BlkT _ (w13.heap.size + 1) 72) (.int .i64 fs) (.slice fb fn fc) (.int .i64 fs') (.slice fb' fn' fc')
          have A4 := blk_other' (blk_other' (blk_other' (blk_other' Y4 (show w13.heap.size ≠ w13.heap.size + 1 by omega) 0 (.int .i64 fs)) (show w13.heap.size ≠ w13.heap.size + 1 by omega) 1 (.slice fb fn fc)) (show w13.heap.size ≠ w13.heap.size + 1 by omega) 2 (.int .i64 fs')) (show w13.heap.size ≠ w13.heap.size + 1 by omega) 3 (.slice fb' fn' fc')
          have hV := (sV2.keep hk).set4 (⟨_, Y5⟩ : BlkT _ (w13.heap.size + 1) 72) (.int .i64 fs) (.slice fb fn fc) (.int .i64 fs') (.slice fb' fn' fc')
          have hbr4 := below4 (x := .int .i64 fs) (y := .slice fb fn fc) (z := .int .i64 fs') (u := .slice fb' fn' fc') (hbr3.trans (hk.mono hbr3.size)) (show w13.heap.size ≤ w13.heap.size + 1 by omega)
          have hel : eL (k + 1) = 4 * eL k + 18 := rfl
          clear hbr3 sV2 tV2 g2 g3 j0 j1 j2 j3 Z2 Z4 Z5 Y4
          go_wp2_with (first | ((with_reducible refine Calmly.is_fl ?_); refine Calmly.mix_fl rfl ?_ (fun _ _ => ?_); (first | exact .move _ | exact .load _ _ | exact .fieldAddr _ _ _ (by kernel_rfl) | exact .assign _ | exact .binOp _ _ _ _ _ rfl | exact .indexAddr _ _ _ | exact .len _ _ (by kernel_rfl) | exact .field _ _ _ | exact .extract _ _ | exact .pick _ _ _ | exact .build _ _ | exact .slice _ _ _ _ _ | exact .unOp _ _ _ rfl | exact .index _ _ _ | exact .max _ _ _ rfl rfl | exact .min _ _ _ rfl rfl)) | ((with_reducible refine Calmly.is_gl ?_); refine Calmly.mix_gl rfl rfl rfl ?_; first | ((first | with_reducible refine Calmly.gl_tt ?_ (fun _ _ => ?_) | with_reducible refine Calmly.gl_ff ?_ (fun _ _ => ?_)); (first | exact .move _ | exact .load _ _ | exact .fieldAddr _ _ _ (by kernel_rfl) | exact .assign _ | exact .binOp _ _ _ _ _ rfl | exact .indexAddr _ _ _ | exact .len _ _ (by kernel_rfl) | exact .field _ _ _ | exact .extract _ _ | exact .pick _ _ _ | exact .build _ _ | exact .slice _ _ _ _ _ | exact .unOp _ _ _ rfl | exact .index _ _ _ | exact .max _ _ _ rfl rfl | exact .min _ _ _ rfl rfl)) | with_reducible refine Calmly.gl_tf (fun _ _ => ?_) | with_reducible refine Calmly.gl_ft (fun _ _ => ?_)) | ((with_reducible refine Calmly.is_eff ?_); refine Calmly.mix_eff rfl (fun _ _ => ?_)) | ((with_reducible refine Calmly.is_gf ?_); refine Calmly.mix_gf rfl rfl rfl ?_; first | with_reducible refine Calmly.gf_tt (fun _ _ => ?_) | with_reducible refine Calmly.gf_ff (fun _ _ => ?_) | with_reducible refine Calmly.gf_tf (kept_of hk) (fun _ _ => ?_) | with_reducible refine Calmly.gf_ft (kept_of hk) (fun _ _ => ?_)) | ((with_reducible refine Calmly.is_tail ?_); first | refine Calmly.mix_tail_nil ?_ | refine Calmly.mix_tail rfl (fun _ _ => ?_)) | ((with_reducible refine Calmly.is_kept ?_); refine ⟨kept_of hk, ?_⟩) | (with_reducible refine Calmly.mix_alt ?_ ?_))
          go_roundw
          case rel => exact ⟨k + 1, _, _, _, _, _, _, _, _, _, _, _, _, _, _, _, _, by omega, by go_num, hbr4, A4, A5, by rw [← HPK.out] at hV; exact hV, by rw [Rat.pow_succ]; exact tV3, by omega, by omega, by omega, by omega⟩
          case measure => simp [intOf]; omega
        · obtain rfl : k = n + 1 := by omega
          have hle : (n : Int) + 1 ≤ ((n + 1 : Nat) : Int) := by omega
          have g0 := cell_block X4 0
          have g1 := cell_block X4 1
          have g2 := cell_block X4 2
          have g3 := cell_block X4 3
          go_wp2_with fail
          refine (RatioSign_any _ _ _ _ _ _ _ _ _ _ sV).mono ?_
          rintro e v1 ⟨rfl, hs⟩
          replace BW := BW.trans (hs.mono BW.size)
          replace x1 := blk_keep x1 hs
          replace x2 := blk_keep x2 hs
          replace x3 := blk_keep x3 hs
          clear hs g0 g1 g2 g3 X4 X5 sV tV hbr pP
          have hsg : ((sumP (polyF ms ks) (Rat.divInt p1 q1) (n + 1)).num.sign == 0) = M := by
            have e1 : n = ms.length := by omega
            rw [show n + 1 = ms.length + 1 by omega, sumP_poly]
            exact (modeQ_F hf p1 q1 (by omega)).trans HM.out
          obtain ⟨sg, hsg2⟩ : ∃ v, (sumP (polyF ms ks) (Rat.divInt p1 q1) (n + 1)).num.sign = v := ⟨_, rfl⟩
          rw [hsg2] at hsg ⊢
          clear hsg2
          have f0 := cell_block x1 0
          have f1 := cell_block x1 1
          have f2 := cell_block x2 0
          have f3 := cell_block x2 1
          have f4 := cell_block x3 0
          have f5 := cell_block x3 1
          have hM5 := v5.out
          have hM6 := v6.out
          have hneq : Hid (M = true → (¬ p1 = p2 → A < B) ∧ (¬ q1 = q2 → A < B)) := Lib.hid (fun h1 => ⟨fun h2 => hM6 h1 (fun h4 => h2 h4.1), fun h2 => hM6 h1 (fun h4 => h2 h4.2)⟩)
          have hmlt : Hid (M = true → (A == (n : Int)) = false) := Lib.hid (fun h1 => by
            have := hM5 h1
            simp
            omega)
          clear hM5 hM6 v5 v6
          cases M
          case' true =>
            obtain rfl : sg = 0 := by simpa using hsg
            have hm2 := hmlt.out rfl
            obtain ⟨hm4, hm5⟩ := hneq.out rfl
            replace hm4 := Lib.hid hm4
            replace hm5 := Lib.hid hm5
            clear hmlt hneq hsg
            go_wp2_with fail
          case' false =>
            clear hmlt hneq
            go_wp2_with fail
          all_goals first | (exfalso; have := hm4.out (by assumption); omega) | (exfalso; have := hm5.out (by assumption); omega) | skip
          all_goals
            try (rename p1 = p2 => ep; clear ep)
            try (rename q1 = q2 => eq; clear eq)
            try (rename ¬ p1 = p2 => ep; clear ep)
            try (rename ¬ q1 = q2 => eq; clear eq)
          all_goals
            clear f0 f1 f2 f3 f4 f5
            have hms0 := hf.m 0 hf.pos
            obtain ⟨ba, oa, rfl, hca⟩ := (h1.keep BW).at_ (by omega)
            obtain ⟨bb, ob, rfl, hcb⟩ := (h2.keep BW).at_ (by omega)
            have em := hca 0 (by omega)
            rw [Nat.add_zero] at em
            obtain ⟨mz, hmz⟩ : ∃ v, ms[0]?.getD 0 = v := ⟨_, rfl⟩
            rw [hmz] at em hms0
            have HMZ := Lib.hid hmz
            clear hmz hca hcb
            have f0 := cell_block x1 0
            have f1 := cell_block x1 1
            refine Calmly.wp_region_mix 5 (.fl 0 <| .fl 1 <| .fl 2 <| .fl 3 <| .fl 4 <| .tail [5]) (by kernel_rfl) (by kernel_rfl) ?_
            replace x1 : v1.drew.heap[w.heap.size]? = some (.cells #[.slice (some ⟨ba, oa, none⟩) n c, .slice (some ⟨bb, ob, none⟩) n d] 24) := x1
            replace x2 : v1.drew.heap[w.heap.size + 1]? = some (.cells #[.int .i64 p1, .int .i64 q1] 34) := x2
            replace x3 : v1.drew.heap[w.heap.size + 1 + 1]? = some (.cells #[.int .i64 p2, .int .i64 q2] 34) := x3
            replace em : v1.drew.cell? ⟨ba, oa, none⟩ = some (.int .i64 mz) := em
            replace BW := BW.drew
            clear f0 f1
            generalize v1.drew = U at *
            have f0 := cell_block x1 0
            have f1 := cell_block x1 1
            have hk := Below.refl U.heap.size U
            go_wp2_with (first | ((with_reducible refine Calmly.is_fl ?_); refine Calmly.mix_fl rfl ?_ (fun _ _ => ?_); (first | exact .move _ | exact .load _ _ | exact .fieldAddr _ _ _ (by kernel_rfl) | exact .assign _ | exact .binOp _ _ _ _ _ rfl | exact .indexAddr _ _ _ | exact .len _ _ (by kernel_rfl) | exact .field _ _ _ | exact .extract _ _ | exact .pick _ _ _ | exact .build _ _ | exact .slice _ _ _ _ _ | exact .unOp _ _ _ rfl | exact .index _ _ _ | exact .max _ _ _ rfl rfl | exact .min _ _ _ rfl rfl)) | ((with_reducible refine Calmly.is_gl ?_); refine Calmly.mix_gl rfl rfl rfl ?_; first | ((first | with_reducible refine Calmly.gl_tt ?_ (fun _ _ => ?_) | with_reducible refine Calmly.gl_ff ?_ (fun _ _ => ?_)); (first | exact .move _ | exact .load _ _ | exact .fieldAddr _ _ _ (by kernel_rfl) | exact .assign _ | exact .binOp _ _ _ _ _ rfl | exact .indexAddr _ _ _ | exact .len _ _ (by kernel_rfl) | exact .field _ _ _ | exact .extract _ _ | exact .pick _ _ _ | exact .build _ _ | exact .slice _ _ _ _ _ | exact .unOp _ _ _ rfl | exact .index _ _ _ | exact .max _ _ _ rfl rfl | exact .min _ _ _ rfl rfl)) | with_reducible refine Calmly.gl_tf (fun _ _ => ?_) | with_reducible refine Calmly.gl_ft (fun _ _ => ?_)) | ((with_reducible refine Calmly.is_eff ?_); refine Calmly.mix_eff rfl (fun _ _ => ?_)) | ((with_reducible refine Calmly.is_gf ?_); refine Calmly.mix_gf rfl rfl rfl ?_; first | with_reducible refine Calmly.gf_tt (fun _ _ => ?_) | with_reducible refine Calmly.gf_ff (fun _ _ => ?_) | with_reducible refine Calmly.gf_tf (kept_of hk) (fun _ _ => ?_) | with_reducible refine Calmly.gf_ft (kept_of hk) (fun _ _ => ?_)) | ((with_reducible refine Calmly.is_tail ?_); first | refine Calmly.mix_tail_nil ?_ | refine Calmly.mix_tail rfl (fun _ _ => ?_)) | ((with_reducible refine Calmly.is_kept ?_); refine ⟨kept_of hk, ?_⟩) | (with_reducible refine Calmly.mix_alt ?_ ?_))
            clear f0 f1 hk em
            go_loopw [18, 19, 20] (fun sz mz' z wr => ∃ (k : Nat) (S T : Int), k ≤ n ∧ z = .int .i64 (k : Int) ∧ sz = .int .i64 S ∧ mz' = .int .i64 T ∧ (0 ≤ S ∧ S ≤ 20) ∧ (1 ≤ T ∧ T ≤ 10) ∧ (0 < k → 1 ≤ S) ∧ Hid (∀ i, i < k → ks[i]?.getD 0 ≤ S) ∧ Hid (∀ i, i < k → T ≤ ms[i]?.getD 0) ∧ Below U.heap.size U wr) (fun _ _ z _ => n - (intOf z).toNat)
            case atStart => exact ⟨0, 0, mz, by omega, rfl, rfl, rfl, by omega, hms0, fun h => by omega, Lib.hid (fun i hi => by omega), Lib.hid (fun i hi => by omega), Below.refl _ _⟩
            case round =>
              obtain ⟨k, S, T, hk0, rfl, rfl, rfl, hS, hT, hS1, hKS, hMS, hbr⟩ := hrel
              replace BW := BW.trans (hbr.mono BW.size)
              replace x1 := blk_keep x1 hbr
              replace x2 := blk_keep x2 hbr
              replace x3 := blk_keep x3 hbr
              have f0 := cell_block x1 0
              have f1 := cell_block x1 1
              by_cases hlk : k < n
              · have ea := (h1.keep BW).here hlk
                have eb := (h2.keep BW).here hlk
                have hi : (k : Int) < (n : Int) := by omega
                have hi0 : (0 : Int) ≤ (k : Int) := by omega
                have hmb := hf.m k (by omega)
                have hkb := hf.k k (by omega)
                obtain ⟨mk, hmk⟩ : ∃ v, ms[k]?.getD 0 = v := ⟨_, rfl⟩
                obtain ⟨kk, hkk⟩ : ∃ v, ks[k]?.getD 0 = v := ⟨_, rfl⟩
                rw [hmk] at ea hmb
                rw [hkk] at eb hkb
                have HMK := Lib.hid hmk
                have HKK := Lib.hid hkk
                clear hmk hkk
                go_wp2_with fail
                refine Calmly.wp_region_mix 15 (.fl 0 <| .fl 1 <| .fl 2 <| .fl 3 <| .fl 4 <| .fl 5 <| .fl 6 <| .fl 7 <| .fl 8 <| .fl 9 <| .fl 10 <| .fl 11 <| .fl 12 <| .fl 13 <| .fl 14 <| .tail [15]) (by kernel_rfl) (by kernel_rfl) ?_
                replace x1 : wr.drew.heap[w.heap.size]? = some (.cells #[.slice (some ⟨ba, oa, none⟩) n c, .slice (some ⟨bb, ob, none⟩) n d] 24) := x1
                replace ea : wr.drew.cell? ⟨ba, oa + k, none⟩ = some (.int .i64 mk) := ea
                replace eb : wr.drew.cell? ⟨bb, ob + k, none⟩ = some (.int .i64 kk) := eb
                replace hbr := hbr.drew
                clear BW x2 x3 f0 f1
                generalize wr.drew = V at *
                have f0 := cell_block x1 0
                have f1 := cell_block x1 1
                have hk := Below.refl V.heap.size V
                go_wp2_with (first | ((with_reducible refine Calmly.is_fl ?_); refine Calmly.mix_fl rfl ?_ (fun _ _ => ?_); (first | exact .move _ | exact .load _ _ | exact .fieldAddr _ _ _ (by kernel_rfl) | exact .assign _ | exact .binOp _ _ _ _ _ rfl | exact .indexAddr _ _ _ | exact .len _ _ (by kernel_rfl) | exact .field _ _ _ | exact .extract _ _ | exact .pick _ _ _ | exact .build _ _ | exact .slice _ _ _ _ _ | exact .unOp _ _ _ rfl | exact .index _ _ _ | exact .max _ _ _ rfl rfl | exact .min _ _ _ rfl rfl)) | ((with_reducible refine Calmly.is_gl ?_); refine Calmly.mix_gl rfl rfl rfl ?_; first | ((first | with_reducible refine Calmly.gl_tt ?_ (fun _ _ => ?_) | with_reducible refine Calmly.gl_ff ?_ (fun _ _ => ?_)); (first | exact .move _ | exact .load _ _ | exact .fieldAddr _ _ _ (by kernel_rfl) | exact .assign _ | exact .binOp _ _ _ _ _ rfl | exact .indexAddr _ _ _ | exact .len _ _ (by kernel_rfl) | exact .field _ _ _ | exact .extract _ _ | exact .pick _ _ _ | exact .build _ _ | exact .slice _ _ _ _ _ | exact .unOp _ _ _ rfl | exact .index _ _ _ | exact .max _ _ _ rfl rfl | exact .min _ _ _ rfl rfl)) | with_reducible refine Calmly.gl_tf (fun _ _ => ?_) | with_reducible refine Calmly.gl_ft (fun _ _ => ?_)) | ((with_reducible refine Calmly.is_eff ?_); refine Calmly.mix_eff rfl (fun _ _ => ?_)) | ((with_reducible refine Calmly.is_gf ?_); refine Calmly.mix_gf rfl rfl rfl ?_; first | with_reducible refine Calmly.gf_tt (fun _ _ => ?_) | with_reducible refine Calmly.gf_ff (fun _ _ => ?_) | with_reducible refine Calmly.gf_tf (kept_of hk) (fun _ _ => ?_) | with_reducible refine Calmly.gf_ft (kept_of hk) (fun _ _ => ?_)) | ((with_reducible refine Calmly.is_tail ?_); first | refine Calmly.mix_tail_nil ?_ | refine Calmly.mix_tail rfl (fun _ _ => ?_)) | ((with_reducible refine Calmly.is_kept ?_); refine ⟨kept_of hk, ?_⟩) | (with_reducible refine Calmly.mix_alt ?_ ?_))
                go_roundw
                case rel =>
                  have hk1 : Hid (∀ i, i < k + 1 → ks[i]?.getD 0 ≤ if S < kk then kk else S) := Lib.hid (fun i hi => by
                    rcases (by omega : i < k ∨ i = k) with h | h
                    · have := hKS.out i h
                      split <;> omega
                    · rw [h, HKK.out]
                      split <;> omega)
                  have hm1 : Hid (∀ i, i < k + 1 → (if mk < T then mk else T) ≤ ms[i]?.getD 0) := Lib.hid (fun i hi => by
                    rcases (by omega : i < k ∨ i = k) with h | h
                    · have := hMS.out i h
                      split <;> omega
                    · rw [h, HMK.out]
                      split <;> omega)
                  exact ⟨k + 1, _, _, by omega, by go_num, rfl, rfl, by split <;> omega, by split <;> omega, fun _ => by split <;> omega, hk1, hm1, hbr⟩
                case measure => simp [intOf]; omega
              · have hle : (n : Int) ≤ (k : Int) := by omega
                have l5k : 0 < k := by omega
                have hall : Hid (p2 * T ≤ 4 * S * q2 ∨ B = (n : Int)) := Lib.hid (by
                  rcases Int.lt_or_le (4 * S * q2) (p2 * T) with h | h
                  · right
                    have := below_all hf (num := p2) (den := q2) (K := S) (M := T) (by omega) (by have := hS1 l5k; omega) (by omega) (fun i hi => hKS.out i (by omega)) (fun i hi => hMS.out i (by omega)) h
                    rw [HB.out] at this
                    omega
                  · exact .inl h)
                have hSp := hS1 l5k
                clear hS1 hKS hMS
                by_cases hp0 : p1 ≤ 0
                case' pos =>
                  have hA0 : (A != 0) = false := by rw [v4.out hp0]; rfl
                  have hcz : cmpQ (p1 * 1) (0 * q1) ≤ 0 := by unfold cmpQ; rw [Int.mul_one, Int.zero_mul]; split <;> (try split) <;> omega
                case' neg =>
                  have hcz : 0 < cmpQ (p1 * 1) (0 * q1) := by unfold cmpQ; rw [Int.mul_one, Int.zero_mul, if_neg (by omega), if_pos (by omega)]; decide
                  clear hp0
                all_goals
                  clear v4
                  go_wp2_with fail
                  refine Calmly.wp_region_mix 7 (.fl 0 <| .eff 1 <| .eff 2 <| .fl 3 <| .fl 4 <| .gl 5 <| .gl 6 <| .tail [7]) (by kernel_rfl) (by kernel_rfl) ?_
                  replace x1 : wr.drew.heap[w.heap.size]? = some (.cells #[.slice (some ⟨ba, oa, none⟩) n c, .slice (some ⟨bb, ob, none⟩) n d] 24) := x1
                  replace x2 : wr.drew.heap[w.heap.size + 1]? = some (.cells #[.int .i64 p1, .int .i64 q1] 34) := x2
                  replace x3 : wr.drew.heap[w.heap.size + 1 + 1]? = some (.cells #[.int .i64 p2, .int .i64 q2] 34) := x3
                  replace BW := BW.drew
                  clear f0 f1 hbr
                  generalize wr.drew = V at *
                  have f2 := cell_block x2 0
                  have f3 := cell_block x2 1
                  have hk := Below.refl V.heap.size V
                  obtain ⟨zc, hzc⟩ : ∃ z, cmpQ (p1 * 1) (0 * q1) = z := ⟨_, rfl⟩
                  rw [hzc] at hcz
                  have HZC := Lib.hid hzc
                  first | have hczb : decide (zc ≤ 0) = true := decide_eq_true hcz | have hczb : decide (zc ≤ 0) = false := decide_eq_false (by omega)
                  clear hzc
                  go_wp2_with (first | ((with_reducible refine Calmly.is_fl ?_); refine Calmly.mix_fl rfl ?_ (fun _ _ => ?_); (first | exact .move _ | exact .load _ _ | exact .fieldAddr _ _ _ (by kernel_rfl) | exact .assign _ | exact .binOp _ _ _ _ _ rfl | exact .indexAddr _ _ _ | exact .len _ _ (by kernel_rfl) | exact .field _ _ _ | exact .extract _ _ | exact .pick _ _ _ | exact .build _ _ | exact .slice _ _ _ _ _ | exact .unOp _ _ _ rfl | exact .index _ _ _ | exact .max _ _ _ rfl rfl | exact .min _ _ _ rfl rfl)) | ((with_reducible refine Calmly.is_gl ?_); refine Calmly.mix_gl rfl rfl rfl ?_; first | ((first | with_reducible refine Calmly.gl_tt ?_ (fun _ _ => ?_) | with_reducible refine Calmly.gl_ff ?_ (fun _ _ => ?_)); (first | exact .move _ | exact .load _ _ | exact .fieldAddr _ _ _ (by kernel_rfl) | exact .assign _ | exact .binOp _ _ _ _ _ rfl | exact .indexAddr _ _ _ | exact .len _ _ (by kernel_rfl) | exact .field _ _ _ | exact .extract _ _ | exact .pick _ _ _ | exact .build _ _ | exact .slice _ _ _ _ _ | exact .unOp _ _ _ rfl | exact .index _ _ _ | exact .max _ _ _ rfl rfl | exact .min _ _ _ rfl rfl)) | with_reducible refine Calmly.gl_tf (fun _ _ => ?_) | with_reducible refine Calmly.gl_ft (fun _ _ => ?_)) | ((with_reducible refine Calmly.is_eff ?_); refine Calmly.mix_eff rfl (fun _ _ => ?_)) | ((with_reducible refine Calmly.is_gf ?_); refine Calmly.mix_gf rfl rfl rfl ?_; first | with_reducible refine Calmly.gf_tt (fun _ _ => ?_) | with_reducible refine Calmly.gf_ff (fun _ _ => ?_) | with_reducible refine Calmly.gf_tf (kept_of hk) (fun _ _ => ?_) | with_reducible refine Calmly.gf_ft (kept_of hk) (fun _ _ => ?_)) | ((with_reducible refine Calmly.is_tail ?_); first | refine Calmly.mix_tail_nil ?_ | refine Calmly.mix_tail rfl (fun _ _ => ?_)) | ((with_reducible refine Calmly.is_kept ?_); refine ⟨kept_of hk, ?_⟩) | (with_reducible refine Calmly.mix_alt ?_ ?_) | (go_at_call 51; refine (Whole_any _ _).mono ?_; rintro e v2 ⟨rfl, hs⟩; replace hk := step_of hk hs; clear hs) | (go_at_call 46; refine (Cmp_any p1 q1 0 1 _ bp1 bp2 bq1 bq2 (by decide) (by decide) (by decide) (by decide)).mono ?_; rintro e v3 ⟨rfl, hs⟩; rw [HZC.out]; replace hk := step_of hk hs; clear hs; have y1 := blk_keep x1 hk; have y3 := blk_keep x3 hk; have j0 := cell_block y1 0; have j1 := cell_block y1 1; have j2 := cell_block y3 0; have j3 := cell_block y3 1))
                  replace BW := BW.trans (hk.mono BW.size)
                  obtain ⟨zd, hzd⟩ : ∃ z, cmpQ (p2 * T) (4 * S * q2) = z := ⟨_, rfl⟩
                  have hd : zd ≤ 0 ∨ B = (n : Int) := by
                    rcases hall.out with h | h
                    · left
                      rw [← hzd]
                      unfold cmpQ
                      split <;> (try split) <;> omega
                    · exact .inr h
                  have HZD := Lib.hid hzd
                  clear hzd hall hk
                  refine (compare_any _ _ _ _ _ (by omega) (by omega) (by omega) (by omega) (by omega) (by omega) (by omega) (by omega)).mono ?_
                  rintro e v4 ⟨rfl, rfl⟩
                  rw [HZD.out]
                  by_cases hz0 : zd ≤ 0
                  · clear hd
                    go_wp2_with fail
                    go_ret
                    exact ⟨rfl, BW⟩
                  · have hz1 : 0 < zd := by omega
                    obtain rfl : B = (n : Int) := by rcases hd with h | h <;> omega
                    clear hd hz0
                    go_wp2_with fail
                    go_ret
                    exact ⟨rfl, BW⟩
end Go.Proofs.Ytmaidjankakppaa
