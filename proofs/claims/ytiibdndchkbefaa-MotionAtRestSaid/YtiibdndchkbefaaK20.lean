/- The law MotionAtRest, walked. -/
import Derived.Test.YtiibdndchkbefaaK19
namespace Go.Proofs.Ytiibdndchkbefaa
open Go.RowKit Go.Wides
open Calmly (Kept)


theorem ratSet4 {V : World} {r : Nat} {s : Int} {a : Option Addr} {m c : Nat} {s' : Int} {a' : Option Addr} {m' c' : Nat} {q : Rat} (h : RatV V s a m c s' a' m' c' q) (hT : BlkT V r 118) (x y z u : Value) :
    RatV ((((V.setCell ⟨r, 0, none⟩ x).setCell ⟨r, 1, none⟩ y).setCell ⟨r, 2, none⟩ z).setCell ⟨r, 3, none⟩ u) s a m c s' a' m' c' q :=
  ⟨(((h.1.set hT (by decide)).set (hT.set _ _) (by decide)).set ((hT.set _ _).set _ _) (by decide)).set (((hT.set _ _).set _ _).set _ _) (by decide),
    (((h.2.set hT (by decide)).set (hT.set _ _) (by decide)).set ((hT.set _ _).set _ _) (by decide)).set (((hT.set _ _).set _ _).set _ _) (by decide)⟩
theorem blkSet4 {V : World} {b r : Nat} {o : Obj} (h : V.heap[b]? = some o) (hne : b ≠ r) (x y z u : Value) : ((((V.setCell ⟨r, 0, none⟩ x).setCell ⟨r, 1, none⟩ y).setCell ⟨r, 2, none⟩ z).setCell ⟨r, 3, none⟩ u).heap[b]? = some o := by
  rw [Below.heap_setCell _ _ _ _ hne, Below.heap_setCell _ _ _ _ hne, Below.heap_setCell _ _ _ _ hne, Below.heap_setCell _ _ _ _ hne]
  exact h
theorem kept_allocR {W w : World} {o : Obj} {G : Prop} (h : Below W.heap.size W w) (k : Below w.heap.size w (w.alloc o) → Below W.heap.size W (w.alloc o) → (w.alloc o).heap[w.heap.size]? = some o → W.heap.size ≤ w.heap.size → G) : Kept W (w.alloc o) ∧ G :=
  ⟨kept_of (h.alloc h.size o), k ((Below.refl _ _).alloc (Nat.le_refl _) _) (h.alloc h.size o) (alloc_new w o) h.size⟩
theorem smp_bd {x : Int} (h : smp x = true) : -1000 ≤ x ∧ x ≤ 1000 := wIn_iff.1 h
theorem far_bd {xs os : List Int} {k : Nat} (h : ∀ t, t < k → -1000 ≤ os[t]?.getD 0 ∧ os[t]?.getD 0 ≤ 1000) (hb : ∀ j : Nat, -1000 ≤ xs[j]?.getD 0 ∧ xs[j]?.getD 0 ≤ 1000) :
    -(4000000 * (k : Int)) ≤ sF (fun t => (os[t]?.getD 0 - xs[t]?.getD 0) * (os[t]?.getD 0 - xs[t]?.getD 0)) k ∧ sF (fun t => (os[t]?.getD 0 - xs[t]?.getD 0) * (os[t]?.getD 0 - xs[t]?.getD 0)) k ≤ 4000000 * (k : Int) := by
  induction k with
  | zero => simp [sF]
  | succ k ih =>
    have h1 := ih (fun t ht => h t (by omega))
    have h2 := h k (by omega)
    have h3 := hb k
    have h4 := pr_bd (c := os[k]?.getD 0 - xs[k]?.getD 0) (a := os[k]?.getD 0 - xs[k]?.getD 0) (C := 2000) (A := 2000) (by omega) (by omega) (by omega) (by omega)
    rw [sF]
    omega
theorem mul_abs_le {x g y : Int} (hg : 0 < g) (h : x * g = y) : x.natAbs ≤ y.natAbs := by
  rw [← h, Int.natAbs_mul]
  exact Nat.le_mul_of_pos_right _ (by omega)
theorem rest_bd {xs : List Int} (hb : ∀ j : Nat, -1000 ≤ xs[j]?.getD 0 ∧ xs[j]?.getD 0 ≤ 1000) (h1 : 2 ≤ xs.length) (h2 : xs.length ≤ 24) :
    (1 ≤ restD xs ∧ restD xs ≤ 27600) ∧ ∀ j : Nat, -3000000000 ≤ (restP xs)[j]?.getD 0 ∧ (restP xs)[j]?.getD 0 ≤ 3000000000 := by
  obtain ⟨g, hg, e1, e2, e3, _, e5⟩ := rest_low h1 h2
  have hp := pr_nums hb h1 h2
  refine ⟨?_, fun j => ?_⟩
  · have := mul_abs_le hg e1
    omega
  · rcases Nat.lt_or_ge j xs.length with hj | hj
    · have h3 := mul_abs_le hg (e3 j hj)
      have h4 := (rsT_bd hb h1 h2 j hj).2.2
      omega
    · rw [List.getElem?_eq_none (by omega)]
      simp
theorem prtB_of {ps : List Int} (h : ∀ j : Nat, -1000000000000 ≤ ps[j]?.getD 0 ∧ ps[j]?.getD 0 ≤ 1000000000000) (k : Nat) : prtB ps k = true := by
  induction k with
  | zero => rfl
  | succ k ih => rw [prtB, ih, prt, wIn_iff.2 (h k)]; rfl
set_option maxRecDepth 100000 in
set_option maxHeartbeats 8000000 in
theorem MotionAtRest_walk (step : Int) (a : Option Addr) (n c : Nat) (xs : List Int) (b : Option Addr) (m e : Nat) (os : List Int) (X0 Y : Int) (w : World) (h1 : SI w a n c xs) (h2 : SI w b m e os) (hX1 : -9223372036854775808 ≤ X0) (hX2 : X0 ≤ 9223372036854775807) :
    Calls Try.prog 12 #[.agg #[.int .i64 step, .slice a n c], .slice b m e, .agg #[.int .i64 X0, .int .i64 Y]] w fun r w' => r = .returned (.bool true) ∧ Below w.heap.size w w' := by
  have hA : ∀ (A : World) (o : Obj), Below A.heap.size A (A.alloc o) := fun A o => (Below.refl _ _).alloc (Nat.le_refl _) _
  have x1 := box1 (w := w) (o := .cells #[.int .i64 step, .slice a n c] 24) (hA (w.alloc (.cells #[.int .i64 step, .slice a n c] 24)) (.cells #[.int .i64 X0, .int .i64 Y] 104))
  have x2 := alloc_new (w.alloc (.cells #[.int .i64 step, .slice a n c] 24)) (.cells #[.int .i64 X0, .int .i64 Y] 104)
  have BW : Below w.heap.size w ((w.alloc (.cells #[.int .i64 step, .slice a n c] 24)).alloc (.cells #[.int .i64 X0, .int .i64 Y] 104)) := ((Below.refl _ _).alloc (Nat.le_refl _) _).alloc (by simp) _
  simp only [World.size_alloc] at x2
  obtain ⟨l1, l2⟩ : n ≤ xs.length ∧ xs.length ≤ n := by have := h1.len; omega
  obtain ⟨i1, i2⟩ : m ≤ os.length ∧ os.length ≤ m := by have := h2.len; omega
  have m1 := h1.max
  have c1 := h1.cap
  have m2 := h2.max
  have c2 := h2.cap
  go_enter Try.func12, Try.ntmps12
  go_wp2_with fail
  refine (awake_any _).mono ?_
  rintro r w1 ⟨rfl, hs⟩
  replace x1 := blk_keep x1 hs; replace x2 := blk_keep x2 hs; (try replace x7 := blk_keep x7 hs); (try replace x9 := blk_keep x9 hs); (try replace xs0 := blk_keep xs0 hs); (try replace sP := sP.keep hs); (try replace gV := gV.keep hs); replace BW := BW.trans (hs.mono BW.size); clear hs; (try clear f0 f1 g0 g1 p0 p1 q0 q1 q2 t0 t1 t2 t3); have f0 := cell_block x1 0; have f1 := cell_block x1 1; have g0 := cell_block x2 0; have g1 := cell_block x2 1; (try have p0 := cell_block x7 0); (try have p1 := cell_block x7 1); (try have q0 := cell_block x9 0); (try have q1 := cell_block x9 1); (try have q2 := cell_block x9 2); (try have t0 := cell_block xs0 0); (try have t1 := cell_block xs0 1); (try have t2 := cell_block xs0 2); (try have t3 := cell_block xs0 3)
  obtain ⟨rE, hrE⟩ : ∃ x, (recF step xs).2 = x := ⟨_, rfl⟩
  have HRE := Lib.hid hrE
  clear hrE
  go_wp2_with fail
  refine (rRecordErr_any step a n c xs _ (h1.keep BW) rE HRE.out).mono ?_
  rintro r w2 ⟨rfl, hs⟩
  replace x1 := blk_keep x1 hs; replace x2 := blk_keep x2 hs; (try replace x7 := blk_keep x7 hs); (try replace x9 := blk_keep x9 hs); (try replace xs0 := blk_keep xs0 hs); (try replace sP := sP.keep hs); (try replace gV := gV.keep hs); replace BW := BW.trans (hs.mono BW.size); clear hs; (try clear f0 f1 g0 g1 p0 p1 q0 q1 q2 t0 t1 t2 t3); have f0 := cell_block x1 0; have f1 := cell_block x1 1; have g0 := cell_block x2 0; have g1 := cell_block x2 1; (try have p0 := cell_block x7 0); (try have p1 := cell_block x7 1); (try have q0 := cell_block x9 0); (try have q1 := cell_block x9 1); (try have q2 := cell_block x9 2); (try have t0 := cell_block xs0 0); (try have t1 := cell_block xs0 1); (try have t2 := cell_block xs0 2); (try have t3 := cell_block xs0 3)
  by_cases hz : rE = 0
  case neg =>
    have b1 : (rE != 0) = true := by simpa using hz
    clear hz
    go_wp2_with fail
    go_ret
    exact ⟨rfl, BW⟩
  subst hz
  by_cases hY : -1000 ≤ Y ∧ Y ≤ 1000
  case neg =>
    have hw : wIn Y (-1000) 1000 = false := by
      cases h : wIn Y (-1000) 1000
      · rfl
      · exact absurd (wIn_iff.1 h) hY
    go_wp2_with (first | (go_at_call 28; refine (within_any _ _ _ _).mono ?_; rintro e w' ⟨rfl, rfl⟩))
    go_ret
    exact ⟨rfl, BW⟩
  have hw : wIn Y (-1000) 1000 = true := wIn_iff.2 hY
  obtain ⟨hY1, hY2⟩ := hY
  obtain ⟨r1, r2, r3, r4, r5⟩ := recF_ok HRE.out
  have hn0 : 0 < n := by omega
  have hn1 : 2 ≤ xs.length := by omega
  have hn2 : xs.length ≤ 24 := by omega
  have hn3 : n ≤ 24 := by omega
  have H5 := Lib.hid r5
  clear r1 r2 r3 r4 r5
  obtain ⟨D, hD⟩ : ∃ x, restD xs = x := ⟨_, rfl⟩
  obtain ⟨ps, hps⟩ : ∃ x, restP xs = x := ⟨_, rfl⟩
  obtain ⟨d, hd⟩ : ∃ x, prDen xs = x := ⟨_, rfl⟩
  obtain ⟨v, hv⟩ : ∃ x, prVel xs = x := ⟨_, rfl⟩
  obtain ⟨u, hu⟩ : ∃ x, prDis xs = x := ⟨_, rfl⟩
  have HD := Lib.hid hD
  have HPS := Lib.hid hps
  have Hd := Lib.hid hd
  have Hv := Lib.hid hv
  have Hu := Lib.hid hu
  clear hD hps hd hv hu
  go_wp2_with (first | (go_at_call 28; refine (within_any _ _ _ _).mono ?_; rintro e w' ⟨rfl, rfl⟩))
  refine (copy_any step a n c xs _ (h1.keep BW) (by omega)).mono ?_
  rintro r w3 ⟨a1, k1, rfl, s1, hs⟩
  replace x1 := blk_keep x1 hs; replace x2 := blk_keep x2 hs; (try replace x7 := blk_keep x7 hs); (try replace x9 := blk_keep x9 hs); (try replace xs0 := blk_keep xs0 hs); (try replace sP := sP.keep hs); (try replace gV := gV.keep hs); replace BW := BW.trans (hs.mono BW.size); clear hs; (try clear f0 f1 g0 g1 p0 p1 q0 q1 q2 t0 t1 t2 t3); have f0 := cell_block x1 0; have f1 := cell_block x1 1; have g0 := cell_block x2 0; have g1 := cell_block x2 1; (try have p0 := cell_block x7 0); (try have p1 := cell_block x7 1); (try have q0 := cell_block x9 0); (try have q1 := cell_block x9 1); (try have q2 := cell_block x9 2); (try have t0 := cell_block xs0 0); (try have t1 := cell_block xs0 1); (try have t2 := cell_block xs0 2); (try have t3 := cell_block xs0 3)
  go_wp2_with fail
  refine (RestOf_any step a1 n k1 xs _ s1 0 D ps HRE.out (fun h => absurd rfl h) (fun _ => ⟨HD.out, HPS.out⟩)).mono ?_
  rintro r w4 ⟨aP, nP, cP, rfl, sP, hs⟩
  obtain ⟨⟨D1, D2⟩, hpb⟩ := rest_bd H5.out hn1 hn2
  obtain ⟨_, _, _, plen, _, pgcd, _⟩ := rest_low hn1 hn2
  obtain ⟨ps1, ps2⟩ := rest_sums hn1 hn2
  obtain ⟨⟨d1, d2⟩, ⟨v1, v2⟩, u1, u2⟩ := pr_nums H5.out hn1 hn2
  obtain ⟨_, _, _, _, _, dgcd, _⟩ := prices_low hn1 hn2
  have pnone := rest_none hn1 hn2
  rw [HD.out] at D1 D2 pgcd pnone
  rw [HPS.out] at hpb plen pgcd ps1 ps2 pnone
  rw [Hd.out] at d1 d2 dgcd pnone
  rw [Hv.out] at v1 v2 dgcd pnone
  rw [Hu.out] at u1 u2 dgcd pnone
  have hxn : xs.length = n := by omega
  rw [hxn] at ps1 ps2 pnone plen
  obtain rfl : n = nP := by have := sP.len; omega
  have HPB := Lib.hid hpb
  have HPG := Lib.hid pgcd
  have HDG := Lib.hid dgcd
  have HS1 := Lib.hid ps1
  have HS2 := Lib.hid ps2
  have HNO := Lib.hid pnone
  have HPL := Lib.hid plen
  have cP1 := sP.cap
  have cP2 := sP.max
  clear hpb pgcd dgcd ps1 ps2 pnone plen hxn s1
  replace x1 := blk_keep x1 hs; replace x2 := blk_keep x2 hs; (try replace x7 := blk_keep x7 hs); (try replace x9 := blk_keep x9 hs); (try replace xs0 := blk_keep xs0 hs); (try replace sP := sP.keep hs); (try replace gV := gV.keep hs); replace BW := BW.trans (hs.mono BW.size)
  clear hs
  have hs := hA w4 (.cells #[.int .i64 D, .slice aP n cP] 106)
  have x7 := alloc_new w4 (.cells #[.int .i64 D, .slice aP n cP] 106)
  replace x1 := blk_keep x1 hs
  replace x2 := blk_keep x2 hs
  replace sP := sP.keep hs
  replace BW := BW.trans (hs.mono BW.size)
  clear hs
  (try clear f0 f1 g0 g1 p0 p1 q0 q1 q2 t0 t1 t2 t3); have f0 := cell_block x1 0; have f1 := cell_block x1 1; have g0 := cell_block x2 0; have g1 := cell_block x2 1; (try have p0 := cell_block x7 0); (try have p1 := cell_block x7 1); (try have q0 := cell_block x9 0); (try have q1 := cell_block x9 1); (try have q2 := cell_block x9 2); (try have t0 := cell_block xs0 0); (try have t1 := cell_block xs0 1); (try have t2 := cell_block xs0 2); (try have t3 := cell_block xs0 3)
  go_wp2_with fail
  obtain ⟨b7, hb7⟩ : ∃ b, w4.heap.size = b := ⟨_, rfl⟩
  clear f0 f1 g0 g1 p0 p1
  generalize World.alloc w4 _ = w5 at x1 x2 x7 sP BW ⊢
  rw [hb7] at x7 ⊢
  clear hb7
  refine (copy_any step a n c xs _ (h1.keep BW) (by omega)).mono ?_
  rintro r w6 ⟨a1, k1, rfl, s1, hs⟩
  replace x1 := blk_keep x1 hs; replace x2 := blk_keep x2 hs; (try replace x7 := blk_keep x7 hs); (try replace x9 := blk_keep x9 hs); (try replace xs0 := blk_keep xs0 hs); (try replace sP := sP.keep hs); (try replace gV := gV.keep hs); replace BW := BW.trans (hs.mono BW.size); clear hs; (try clear f0 f1 g0 g1 p0 p1 q0 q1 q2 t0 t1 t2 t3); have f0 := cell_block x1 0; have f1 := cell_block x1 1; have g0 := cell_block x2 0; have g1 := cell_block x2 1; (try have p0 := cell_block x7 0); (try have p1 := cell_block x7 1); (try have q0 := cell_block x9 0); (try have q1 := cell_block x9 1); (try have q2 := cell_block x9 2); (try have t0 := cell_block xs0 0); (try have t1 := cell_block xs0 1); (try have t2 := cell_block xs0 2); (try have t3 := cell_block xs0 3)
  go_wp2_with fail
  refine (PricesOf_any step a1 n k1 xs _ s1 0 d v u HRE.out (fun h => absurd rfl h) (fun _ => ⟨Hd.out, Hv.out, Hu.out⟩)).mono ?_
  rintro r w7 ⟨rfl, hs⟩
  replace x1 := blk_keep x1 hs; replace x2 := blk_keep x2 hs; (try replace x7 := blk_keep x7 hs); (try replace x9 := blk_keep x9 hs); (try replace xs0 := blk_keep xs0 hs); (try replace sP := sP.keep hs); (try replace gV := gV.keep hs); replace BW := BW.trans (hs.mono BW.size)
  clear hs s1
  have hs := hA w7 (.cells #[.int .i64 d, .int .i64 v, .int .i64 u] 110)
  have x9 := alloc_new w7 (.cells #[.int .i64 d, .int .i64 v, .int .i64 u] 110)
  replace x1 := blk_keep x1 hs
  replace x2 := blk_keep x2 hs
  replace x7 := blk_keep x7 hs
  replace sP := sP.keep hs
  replace BW := BW.trans (hs.mono BW.size)
  clear hs
  (try clear f0 f1 g0 g1 p0 p1 q0 q1 q2 t0 t1 t2 t3); have f0 := cell_block x1 0; have f1 := cell_block x1 1; have g0 := cell_block x2 0; have g1 := cell_block x2 1; (try have p0 := cell_block x7 0); (try have p1 := cell_block x7 1); (try have q0 := cell_block x9 0); (try have q1 := cell_block x9 1); (try have q2 := cell_block x9 2); (try have t0 := cell_block xs0 0); (try have t1 := cell_block xs0 1); (try have t2 := cell_block xs0 2); (try have t3 := cell_block xs0 3)
  go_wp2_with fail
  refine Calmly.wp_region_mix 10 (.fl 0 <| .fl 2 <| .fl 4 <| .eff 1 <| .eff 3 <| .eff 5 <| .fl 6 <| .fl 7 <| .fl 8 <| .fl 9 <| .tail [10]) (by kernel_rfl) (by kernel_rfl) ?_
  obtain ⟨b9, hb9⟩ : ∃ b, w7.heap.size = b := ⟨_, rfl⟩
  clear f0 f1 g0 g1 p0 p1 q0 q1 q2
  generalize World.alloc w7 _ = w8 at x1 x2 x7 x9 sP BW ⊢
  rw [hb9] at x9 ⊢
  clear hb9
  have hs := (Below.refl w8.heap.size w8).drew
  replace x1 := blk_keep x1 hs; replace x2 := blk_keep x2 hs; (try replace x7 := blk_keep x7 hs); (try replace x9 := blk_keep x9 hs); (try replace xs0 := blk_keep xs0 hs); (try replace sP := sP.keep hs); (try replace gV := gV.keep hs); replace BW := BW.trans (hs.mono BW.size)
  clear hs
  generalize w8.drew = V1 at x1 x2 x7 x9 sP BW ⊢
  (try clear f0 f1 g0 g1 p0 p1 q0 q1 q2 t0 t1 t2 t3); have f0 := cell_block x1 0; have f1 := cell_block x1 1; have g0 := cell_block x2 0; have g1 := cell_block x2 1; (try have p0 := cell_block x7 0); (try have p1 := cell_block x7 1); (try have q0 := cell_block x9 0); (try have q1 := cell_block x9 1); (try have q2 := cell_block x9 2); (try have t0 := cell_block xs0 0); (try have t1 := cell_block xs0 1); (try have t2 := cell_block xs0 2); (try have t3 := cell_block xs0 3)
  have hk := Below.refl V1.heap.size V1
  have hdn : dnm D = true := wIn_iff.2 (by omega)
  have hpt := prtB_of (ps := ps) (fun j => by have := HPB.out j; omega) n
  have HF1 : Hid (firstE [(recF step xs).2, unlessE (dnm D) 2, unlessE ((n : Int) == (n : Int)) 10, unlessE (prtB ps n) 2] = 0) := Lib.hid (by rw [HRE.out, hdn, hpt]; simp [firstE, unlessE])
  have HF2 : Hid (firstE [unlessE (((gcds ([D] ++ ps) : Nat) : Int) == 1) 3, unlessE (decide (gcds [d, v, u] = 1)) 3] = 0) := Lib.hid (by rw [HPG.out, HDG.out]; rfl)
  clear hdn hpt
  go_wp2_with (first | ((with_reducible refine Calmly.is_fl ?_); refine Calmly.mix_fl rfl ?_ (fun _ _ => ?_); (first | exact .move _ | exact .load _ _ | exact .fieldAddr _ _ _ (by kernel_rfl) | exact .assign _ | exact .binOp _ _ _ _ _ rfl | exact .indexAddr _ _ _ | exact .len _ _ (by kernel_rfl) | exact .field _ _ _ | exact .extract _ _ | exact .pick _ _ _ | exact .build _ _ | exact .slice _ _ _ _ _ | exact .unOp _ _ _ rfl | exact .index _ _ _ | exact .max _ _ _ rfl rfl | exact .min _ _ _ rfl rfl)) | ((with_reducible refine Calmly.is_gl ?_); refine Calmly.mix_gl rfl rfl rfl ?_; first | ((first | with_reducible refine Calmly.gl_tt ?_ (fun _ _ => ?_) | with_reducible refine Calmly.gl_ff ?_ (fun _ _ => ?_)); (first | exact .move _ | exact .load _ _ | exact .fieldAddr _ _ _ (by kernel_rfl) | exact .assign _ | exact .binOp _ _ _ _ _ rfl | exact .indexAddr _ _ _ | exact .len _ _ (by kernel_rfl) | exact .field _ _ _ | exact .extract _ _ | exact .pick _ _ _ | exact .build _ _ | exact .slice _ _ _ _ _ | exact .unOp _ _ _ rfl | exact .index _ _ _ | exact .max _ _ _ rfl rfl | exact .min _ _ _ rfl rfl)) | with_reducible refine Calmly.gl_tf (fun _ _ => ?_) | with_reducible refine Calmly.gl_ft (fun _ _ => ?_)) | ((with_reducible refine Calmly.is_eff ?_); refine Calmly.mix_eff rfl (fun _ _ => ?_)) | ((with_reducible refine Calmly.is_gf ?_); refine Calmly.mix_gf rfl rfl rfl ?_; first | with_reducible refine Calmly.gf_tt (fun _ _ => ?_) | with_reducible refine Calmly.gf_ff (fun _ _ => ?_) | with_reducible refine Calmly.gf_tf (kept_of hk) (fun _ _ => ?_) | with_reducible refine Calmly.gf_ft (kept_of hk) (fun _ _ => ?_)) | ((with_reducible refine Calmly.is_tail ?_); first | refine Calmly.mix_tail_nil ?_ | refine Calmly.mix_tail rfl (fun _ _ => ?_)) | ((with_reducible refine Calmly.is_kept ?_); refine ⟨kept_of hk, ?_⟩) | (with_reducible refine Calmly.mix_alt ?_ ?_) | (go_at_call 18; refine (copy_any step a n c xs _ ((h1.keep BW).keep hk) (by omega)).mono ?_; rintro r w10 ⟨a1, k1, rfl, s1, hs⟩; replace hk := step_of hk hs; clear hs) | (go_at_call 66; refine (copyParts_any D aP n cP ps _ (sP.keep hk) (by omega)).mono ?_; rintro r w11 ⟨a2, k2, rfl, o2, hs⟩; have s2 := o2.si; replace hk := step_of hk hs; replace s1 := s1.keep hs; clear hs o2) | (go_at_call 65; refine (CheckRest_any step a1 n k1 xs D a2 n k2 ps d v u _ s1 s2 d1 (by omega) (by omega) (by omega) (by omega) (by omega) 0 0 0 0 HF1.out HF2.out (fun h => absurd rfl h) (fun _ h => absurd rfl h) (fun _ _ h => absurd HS1.out h) (fun _ _ _ h => absurd HS2.out h) (fun _ _ _ _ => by rw [HNO.out]; rfl)).mono ?_; rintro r w12 ⟨rfl, hs⟩; replace hk := step_of hk hs; clear hs s1 s2))
  have hs := hk
  clear hk HF1 HF2
  replace x1 := blk_keep x1 hs; replace x2 := blk_keep x2 hs; (try replace x7 := blk_keep x7 hs); (try replace x9 := blk_keep x9 hs); (try replace xs0 := blk_keep xs0 hs); (try replace sP := sP.keep hs); (try replace gV := gV.keep hs); replace BW := BW.trans (hs.mono BW.size); clear hs; (try clear f0 f1 g0 g1 p0 p1 q0 q1 q2 t0 t1 t2 t3); have f0 := cell_block x1 0; have f1 := cell_block x1 1; have g0 := cell_block x2 0; have g1 := cell_block x2 1; (try have p0 := cell_block x7 0); (try have p1 := cell_block x7 1); (try have q0 := cell_block x9 0); (try have q1 := cell_block x9 1); (try have q2 := cell_block x9 2); (try have t0 := cell_block xs0 0); (try have t1 := cell_block xs0 1); (try have t2 := cell_block xs0 2); (try have t3 := cell_block xs0 3)
  refine (RatioInt_any 0 _ (by omega) (by omega)).mono ?_
  rintro r w13 ⟨⟨s0, ra0, rn0, rc0, s0', ra0', rn0', rc0', rfl, hl1, hl2, rA0⟩, hs⟩
  replace x1 := blk_keep x1 hs; replace x2 := blk_keep x2 hs; (try replace x7 := blk_keep x7 hs); (try replace x9 := blk_keep x9 hs); (try replace xs0 := blk_keep xs0 hs); (try replace sP := sP.keep hs); (try replace gV := gV.keep hs); replace BW := BW.trans (hs.mono BW.size)
  clear hs f0 f1 g0 g1 p0 p1 q0 q1 q2
  have hs := hA w13 (.cells #[.int .i64 s0, .slice ra0 rn0 rc0, .int .i64 s0', .slice ra0' rn0' rc0'] 118)
  have y13 := alloc_new w13 (.cells #[.int .i64 s0, .slice ra0 rn0 rc0, .int .i64 s0', .slice ra0' rn0' rc0'] 118)
  have gV0 := rA0.keep hs
  have hBs := BW.size
  clear rA0
  go_wp2_with fail
  go_loopw [14] (fun i wr => ∃ (k : Nat) (s : Int) (ra : Option Addr) (rn rc : Nat) (s' : Int) (ra' : Option Addr) (rn' rc' : Nat), k ≤ n ∧ i = .int .i64 k ∧ Below w13.heap.size w13 wr ∧ wr.heap[w13.heap.size]? = some (.cells #[.int .i64 s, .slice ra rn rc, .int .i64 s', .slice ra' rn' rc'] 118) ∧ RatV wr s ra rn rc s' ra' rn' rc' (qS xs ps D k) ∧ rn ≤ LK k ∧ rn' ≤ LK k) (fun i _ => n - (intOf i).toNat)
  case atStart => exact ⟨0, _, _, _, _, _, _, _, _, by omega, rfl, hs, y13, gV0, by show _ ≤ 46; omega, by show _ ≤ 46; omega⟩
  case round =>
    obtain ⟨k, rs, ra, rn, rc, rs', ra', rn', rc', hkn, rfl, hbr, xs0, gV, hn1', hn2'⟩ := hrel
    clear hs y13 gV0
    have hrs := hbr.size
    obtain ⟨lk1, lk2⟩ := LK_bd k (by omega)
    replace x1 := blk_keep x1 hbr
    replace x2 := blk_keep x2 hbr
    replace x7 := blk_keep x7 hbr
    replace x9 := blk_keep x9 hbr
    replace sP := sP.keep hbr
    replace BW := BW.trans (hbr.mono BW.size)
    (try clear f0 f1 g0 g1 p0 p1 q0 q1 q2 t0 t1 t2 t3); have f0 := cell_block x1 0; have f1 := cell_block x1 1; have g0 := cell_block x2 0; have g1 := cell_block x2 1; (try have p0 := cell_block x7 0); (try have p1 := cell_block x7 1); (try have q0 := cell_block x9 0); (try have q1 := cell_block x9 1); (try have q2 := cell_block x9 2); (try have t0 := cell_block xs0 0); (try have t1 := cell_block xs0 1); (try have t2 := cell_block xs0 2); (try have t3 := cell_block xs0 3)
    by_cases hlt : k < n
    · obtain ⟨ba, oa, rfl, hca⟩ := (h1.keep BW).at_ (by omega)
      obtain ⟨bb, ob, rfl, hcb⟩ := sP.at_ (by omega)
      have ea := hca k hlt
      have eb := hcb k hlt
      have hxk := H5.out k
      have hpk := HPB.out k
      have hq : qS xs ps D (k + 1) = qS xs ps D k + (Rat.divInt (ps[k]?.getD 0) D - ((xs[k]?.getD 0 : Int) : Rat)) * (Rat.divInt (ps[k]?.getD 0) D - ((xs[k]?.getD 0 : Int) : Rat)) := rfl
      obtain ⟨x, hx⟩ : ∃ x, xs[k]?.getD 0 = x := ⟨_, rfl⟩
      obtain ⟨p, hp⟩ : ∃ x, ps[k]?.getD 0 = x := ⟨_, rfl⟩
      rw [hx] at ea hxk hq
      rw [hp] at eb hpk hq
      obtain ⟨hx1, hx2⟩ := hxk
      obtain ⟨hp1, hp2⟩ := hpk
      have HQ := Lib.hid hq
      have hi : (k : Int) < (n : Int) := by omega
      have hi0 : (0 : Int) ≤ (k : Int) := by omega
      clear hca hcb hx hp hq
      go_wp2_with fail
      refine Calmly.wp_region_mix 16 (.fl 0 <| .fl 1 <| .fl 2 <| .fl 3 <| .fl 4 <| .fl 5 <| .fl 6 <| .fl 8 <| .fl 9 <| .fl 10 <| .fl 11 <| .fl 12 <| .alt 7 (.alt 13 (.alt 14 (.eff 15 <| .tail [16]) (.eff 15 (.eff 14 <| .tail [16]))) (.eff 15 (.eff 13 <| .eff 14 <| .tail [16]))) (.eff 15 (.eff 7 <| .eff 13 <| .eff 14 <| .tail [16]))) (by kernel_rfl) (by kernel_rfl) ?_
      have hs := (Below.refl wr.heap.size wr).drew
      replace x1 := blk_keep x1 hs; replace x2 := blk_keep x2 hs; (try replace x7 := blk_keep x7 hs); (try replace x9 := blk_keep x9 hs); (try replace xs0 := blk_keep xs0 hs); (try replace sP := sP.keep hs); (try replace gV := gV.keep hs); replace BW := BW.trans (hs.mono BW.size)
      have hbr' := hbr.trans (hs.mono hrs)
      replace ea := cell_keep ea hs
      replace eb := cell_keep eb hs
      clear hs
      generalize wr.drew = U at x1 x2 x7 x9 xs0 sP gV BW hbr' ea eb ⊢
      (try clear f0 f1 g0 g1 p0 p1 q0 q1 q2 t0 t1 t2 t3); have f0 := cell_block x1 0; have f1 := cell_block x1 1; have g0 := cell_block x2 0; have g1 := cell_block x2 1; (try have p0 := cell_block x7 0); (try have p1 := cell_block x7 1); (try have q0 := cell_block x9 0); (try have q1 := cell_block x9 1); (try have q2 := cell_block x9 2); (try have t0 := cell_block xs0 0); (try have t1 := cell_block xs0 1); (try have t2 := cell_block xs0 2); (try have t3 := cell_block xs0 3)
      have hk := Below.refl U.heap.size U
      go_wp2_with (first | ((with_reducible refine Calmly.is_fl ?_); refine Calmly.mix_fl rfl ?_ (fun _ _ => ?_); (first | exact .move _ | exact .load _ _ | exact .fieldAddr _ _ _ (by kernel_rfl) | exact .assign _ | exact .binOp _ _ _ _ _ rfl | exact .indexAddr _ _ _ | exact .len _ _ (by kernel_rfl) | exact .field _ _ _ | exact .extract _ _ | exact .pick _ _ _ | exact .build _ _ | exact .slice _ _ _ _ _ | exact .unOp _ _ _ rfl | exact .index _ _ _ | exact .max _ _ _ rfl rfl | exact .min _ _ _ rfl rfl)) | ((with_reducible refine Calmly.is_gl ?_); refine Calmly.mix_gl rfl rfl rfl ?_; first | ((first | with_reducible refine Calmly.gl_tt ?_ (fun _ _ => ?_) | with_reducible refine Calmly.gl_ff ?_ (fun _ _ => ?_)); (first | exact .move _ | exact .load _ _ | exact .fieldAddr _ _ _ (by kernel_rfl) | exact .assign _ | exact .binOp _ _ _ _ _ rfl | exact .indexAddr _ _ _ | exact .len _ _ (by kernel_rfl) | exact .field _ _ _ | exact .extract _ _ | exact .pick _ _ _ | exact .build _ _ | exact .slice _ _ _ _ _ | exact .unOp _ _ _ rfl | exact .index _ _ _ | exact .max _ _ _ rfl rfl | exact .min _ _ _ rfl rfl)) | with_reducible refine Calmly.gl_tf (fun _ _ => ?_) | with_reducible refine Calmly.gl_ft (fun _ _ => ?_)) | ((with_reducible refine Calmly.is_eff ?_); refine Calmly.mix_eff rfl (fun _ _ => ?_)) | ((with_reducible refine Calmly.is_gf ?_); refine Calmly.mix_gf rfl rfl rfl ?_; first | with_reducible refine Calmly.gf_tt (fun _ _ => ?_) | with_reducible refine Calmly.gf_ff (fun _ _ => ?_) | with_reducible refine Calmly.gf_tf (kept_of hk) (fun _ _ => ?_) | with_reducible refine Calmly.gf_ft (kept_of hk) (fun _ _ => ?_)) | ((with_reducible refine Calmly.is_kept ?_); refine ⟨kept_of hk, ?_⟩) | (with_reducible refine Calmly.mix_alt ?_ ?_) | (go_at_call 69; refine (RatioOf_any p D _ (by omega) (by omega) (by omega) (by omega) (by omega)).mono ?_; rintro r v1 ⟨⟨es, eb', en, ec, es', eb'', en', ec', rfl, eh, eh', rA⟩, hs⟩; replace hk := step_of hk hs; (try replace pA := blk_keep pA hs); clear hs) | (go_at_call 67; refine (RatioInt_any x _ (by omega) (by omega)).mono ?_; rintro r v2 ⟨⟨fs, fb, fn, fc, fs', fb', fn', fc', rfl, fh, fh', rB⟩, hs⟩; replace hk := step_of hk hs; (try replace pA := blk_keep pA hs); replace rA := rA.keep hs; clear hs) | (go_at_call 68; refine (RatioSub_any _ _ _ _ _ _ _ _ _ _ _ _ _ _ _ _ 7 _ _ _ rA rB (by omega) (by omega) (by omega) (by omega) (by omega)).mono ?_; rintro r v3 ⟨⟨js, jb, jn, jc, js', jb', jn', jc', rfl, jh, jh', rJ⟩, hs⟩; replace hk := step_of hk hs; (try replace pA := blk_keep pA hs); clear hs rA rB) | (refine kept_allocR hk (fun hs hk' hblk hAge => ?_); (try replace rA := rA.keep hs); (try replace rB := rB.keep hs); (try replace rJ := rJ.keep hs); (first | generalize World.alloc _ _ = W' at hs hk' hblk rA rB ⊢ | generalize World.alloc _ _ = W' at hs hk' hblk rA ⊢ | generalize World.alloc _ _ = W' at hs hk' hblk rJ ⊢ | generalize World.alloc _ _ = W' at hs hk' hblk ⊢); replace hk := hk'; clear hk'; have pA := hblk; clear hs hblk))
      all_goals
        as_aux_lemma =>
        have zA0 := cell_block pA 0
        have zA1 := cell_block pA 1
        have zA2 := cell_block pA 2
        have zA3 := cell_block pA 3
        have zA4 := frozen_block pA 0
        have zA5 := frozen_block pA 1
        have zA6 := frozen_block pA 2
        have zA7 := frozen_block pA 3
        have hAge' : U.heap.size ≤ _ := hAge
        have hs := below4 (x := .int .i64 js) (y := .slice jb jn jc) (z := .int .i64 js') (u := .slice jb' jn' jc') hk hAge
        have rS := ratSet4 rJ ⟨_, pA⟩ (.int .i64 js) (.slice jb jn jc) (.int .i64 js') (.slice jb' jn' jc')
        have pA' := (ratFin pA rJ.1 rJ.2).1
        replace x1 := blk_keep x1 hs; replace x2 := blk_keep x2 hs; (try replace x7 := blk_keep x7 hs); (try replace x9 := blk_keep x9 hs); (try replace xs0 := blk_keep xs0 hs); (try replace sP := sP.keep hs); (try replace gV := gV.keep hs); replace BW := BW.trans (hs.mono BW.size)
        replace hbr' := hbr'.trans (hs.mono hbr'.size)
        go_wp2_with (first | ((with_reducible refine Calmly.is_fl ?_); refine Calmly.mix_fl rfl ?_ (fun _ _ => ?_); (first | exact .move _ | exact .load _ _ | exact .fieldAddr _ _ _ (by kernel_rfl) | exact .assign _ | exact .binOp _ _ _ _ _ rfl | exact .indexAddr _ _ _ | exact .len _ _ (by kernel_rfl) | exact .field _ _ _ | exact .extract _ _ | exact .pick _ _ _ | exact .build _ _ | exact .slice _ _ _ _ _ | exact .unOp _ _ _ rfl | exact .index _ _ _ | exact .max _ _ _ rfl rfl | exact .min _ _ _ rfl rfl)) | ((with_reducible refine Calmly.is_gl ?_); refine Calmly.mix_gl rfl rfl rfl ?_; first | ((first | with_reducible refine Calmly.gl_tt ?_ (fun _ _ => ?_) | with_reducible refine Calmly.gl_ff ?_ (fun _ _ => ?_)); (first | exact .move _ | exact .load _ _ | exact .fieldAddr _ _ _ (by kernel_rfl) | exact .assign _ | exact .binOp _ _ _ _ _ rfl | exact .indexAddr _ _ _ | exact .len _ _ (by kernel_rfl) | exact .field _ _ _ | exact .extract _ _ | exact .pick _ _ _ | exact .build _ _ | exact .slice _ _ _ _ _ | exact .unOp _ _ _ rfl | exact .index _ _ _ | exact .max _ _ _ rfl rfl | exact .min _ _ _ rfl rfl)) | with_reducible refine Calmly.gl_tf (fun _ _ => ?_) | with_reducible refine Calmly.gl_ft (fun _ _ => ?_)) | ((with_reducible refine Calmly.is_eff ?_); refine Calmly.mix_eff rfl (fun _ _ => ?_)) | ((with_reducible refine Calmly.is_gf ?_); refine Calmly.mix_gf rfl rfl rfl ?_; first | with_reducible refine Calmly.gf_tt (fun _ _ => ?_) | with_reducible refine Calmly.gf_ff (fun _ _ => ?_) | with_reducible refine Calmly.gf_tf (kept_of hk) (fun _ _ => ?_) | with_reducible refine Calmly.gf_ft (kept_of hk) (fun _ _ => ?_)) | ((with_reducible refine Calmly.is_tail ?_); first | refine Calmly.mix_tail_nil ?_ | refine Calmly.mix_tail rfl (fun _ _ => ?_)) | ((with_reducible refine Calmly.is_kept ?_); refine ⟨kept_of hk, ?_⟩) | (with_reducible refine Calmly.mix_alt ?_ ?_))
        clear hs hk zA0 zA1 zA2 zA3 zA4 zA5 zA6 zA7 f0 f1 g0 g1 p0 p1 q0 q1 q2 t0 t1 t2 t3 pA rJ
        generalize World.setCell (World.setCell (World.setCell (World.setCell _ _ _) _ _) _ _) _ _ = U2 at x1 x2 x7 x9 xs0 sP gV BW hbr' pA' rS ⊢
        refine Calmly.wp_region_mix 5 (.fl 0 <| .fl 1 <| .fl 2 <| .eff 3 <| .eff 4 <| .tail [5]) (by kernel_rfl) (by kernel_rfl) ?_
        have hs := (Below.refl U2.heap.size U2).drew
        replace x1 := blk_keep x1 hs; replace x2 := blk_keep x2 hs; (try replace x7 := blk_keep x7 hs); (try replace x9 := blk_keep x9 hs); (try replace xs0 := blk_keep xs0 hs); (try replace sP := sP.keep hs); (try replace gV := gV.keep hs); replace BW := BW.trans (hs.mono BW.size)
        replace hbr' := hbr'.trans (hs.mono hbr'.size)
        replace pA' := blk_keep pA' hs
        replace rS := rS.keep hs
        clear hs
        generalize U2.drew = U3 at x1 x2 x7 x9 xs0 sP gV BW hbr' pA' rS ⊢
        (try clear f0 f1 g0 g1 p0 p1 q0 q1 q2 t0 t1 t2 t3); have f0 := cell_block x1 0; have f1 := cell_block x1 1; have g0 := cell_block x2 0; have g1 := cell_block x2 1; (try have p0 := cell_block x7 0); (try have p1 := cell_block x7 1); (try have q0 := cell_block x9 0); (try have q1 := cell_block x9 1); (try have q2 := cell_block x9 2); (try have t0 := cell_block xs0 0); (try have t1 := cell_block xs0 1); (try have t2 := cell_block xs0 2); (try have t3 := cell_block xs0 3)
        have z0 := cell_block pA' 0
        have z1 := cell_block pA' 1
        have z2 := cell_block pA' 2
        have z3 := cell_block pA' 3
        have hk := Below.refl U3.heap.size U3
        go_wp2_with (first | ((with_reducible refine Calmly.is_fl ?_); refine Calmly.mix_fl rfl ?_ (fun _ _ => ?_); (first | exact .move _ | exact .load _ _ | exact .fieldAddr _ _ _ (by kernel_rfl) | exact .assign _ | exact .binOp _ _ _ _ _ rfl | exact .indexAddr _ _ _ | exact .len _ _ (by kernel_rfl) | exact .field _ _ _ | exact .extract _ _ | exact .pick _ _ _ | exact .build _ _ | exact .slice _ _ _ _ _ | exact .unOp _ _ _ rfl | exact .index _ _ _ | exact .max _ _ _ rfl rfl | exact .min _ _ _ rfl rfl)) | ((with_reducible refine Calmly.is_gl ?_); refine Calmly.mix_gl rfl rfl rfl ?_; first | ((first | with_reducible refine Calmly.gl_tt ?_ (fun _ _ => ?_) | with_reducible refine Calmly.gl_ff ?_ (fun _ _ => ?_)); (first | exact .move _ | exact .load _ _ | exact .fieldAddr _ _ _ (by kernel_rfl) | exact .assign _ | exact .binOp _ _ _ _ _ rfl | exact .indexAddr _ _ _ | exact .len _ _ (by kernel_rfl) | exact .field _ _ _ | exact .extract _ _ | exact .pick _ _ _ | exact .build _ _ | exact .slice _ _ _ _ _ | exact .unOp _ _ _ rfl | exact .index _ _ _ | exact .max _ _ _ rfl rfl | exact .min _ _ _ rfl rfl)) | with_reducible refine Calmly.gl_tf (fun _ _ => ?_) | with_reducible refine Calmly.gl_ft (fun _ _ => ?_)) | ((with_reducible refine Calmly.is_eff ?_); refine Calmly.mix_eff rfl (fun _ _ => ?_)) | ((with_reducible refine Calmly.is_gf ?_); refine Calmly.mix_gf rfl rfl rfl ?_; first | with_reducible refine Calmly.gf_tt (fun _ _ => ?_) | with_reducible refine Calmly.gf_ff (fun _ _ => ?_) | with_reducible refine Calmly.gf_tf (kept_of hk) (fun _ _ => ?_) | with_reducible refine Calmly.gf_ft (kept_of hk) (fun _ _ => ?_)) | ((with_reducible refine Calmly.is_kept ?_); refine ⟨kept_of hk, ?_⟩) | (with_reducible refine Calmly.mix_alt ?_ ?_) | (go_at_call 71; refine (RatioMul_any _ _ _ _ _ _ _ _ _ _ _ _ _ _ _ _ 20 _ _ _ rS rS (by omega) (by omega) (by omega) (by omega) (by omega)).mono ?_; rintro r v5 ⟨⟨us, ub, un, uc, us', ub', un', uc', rfl, uh, uh', rM⟩, hs⟩; replace hk := step_of hk hs; clear hs) | (go_at_call 70; refine (RatioAdd_any _ _ _ _ _ _ _ _ _ _ _ _ _ _ _ _ (LK k) _ _ _ (gV.keep hk) rM (by omega) (by omega) (by omega) (by omega) (by omega)).mono ?_; rintro r v6 ⟨⟨ys, yb, yn, yc, ys', yb', yn', yc', rfl, yh, yh', rY⟩, hs⟩; replace hk := step_of hk hs; clear hs))
        have Y3 := blk_keep xs0 hk
        have i0 := cell_block Y3 0
        have i1 := cell_block Y3 1
        have i2 := cell_block Y3 2
        have i3 := cell_block Y3 3
        have i4 := frozen_block Y3 0
        have i5 := frozen_block Y3 1
        have i6 := frozen_block Y3 2
        have i7 := frozen_block Y3 3
        have hbr6 := hbr'.trans (hk.mono hbr'.size)
        have X9 := (ratFin Y3 rY.1 rY.2).1
        have rZ := ratSet4 rY ⟨_, Y3⟩ (.int .i64 ys) (.slice yb yn yc) (.int .i64 ys') (.slice yb' yn' yc')
        rw [← HQ.out] at rZ
        have hLK : LK (k + 1) = 2 * LK k + 6 := rfl
        go_wp2_with (first | ((with_reducible refine Calmly.is_fl ?_); refine Calmly.mix_fl rfl ?_ (fun _ _ => ?_); (first | exact .move _ | exact .load _ _ | exact .fieldAddr _ _ _ (by kernel_rfl) | exact .assign _ | exact .binOp _ _ _ _ _ rfl | exact .indexAddr _ _ _ | exact .len _ _ (by kernel_rfl) | exact .field _ _ _ | exact .extract _ _ | exact .pick _ _ _ | exact .build _ _ | exact .slice _ _ _ _ _ | exact .unOp _ _ _ rfl | exact .index _ _ _ | exact .max _ _ _ rfl rfl | exact .min _ _ _ rfl rfl)) | ((with_reducible refine Calmly.is_gl ?_); refine Calmly.mix_gl rfl rfl rfl ?_; first | ((first | with_reducible refine Calmly.gl_tt ?_ (fun _ _ => ?_) | with_reducible refine Calmly.gl_ff ?_ (fun _ _ => ?_)); (first | exact .move _ | exact .load _ _ | exact .fieldAddr _ _ _ (by kernel_rfl) | exact .assign _ | exact .binOp _ _ _ _ _ rfl | exact .indexAddr _ _ _ | exact .len _ _ (by kernel_rfl) | exact .field _ _ _ | exact .extract _ _ | exact .pick _ _ _ | exact .build _ _ | exact .slice _ _ _ _ _ | exact .unOp _ _ _ rfl | exact .index _ _ _ | exact .max _ _ _ rfl rfl | exact .min _ _ _ rfl rfl)) | with_reducible refine Calmly.gl_tf (fun _ _ => ?_) | with_reducible refine Calmly.gl_ft (fun _ _ => ?_)) | ((with_reducible refine Calmly.is_eff ?_); refine Calmly.mix_eff rfl (fun _ _ => ?_)) | ((with_reducible refine Calmly.is_gf ?_); refine Calmly.mix_gf rfl rfl rfl ?_; first | with_reducible refine Calmly.gf_tt (fun _ _ => ?_) | with_reducible refine Calmly.gf_ff (fun _ _ => ?_) | with_reducible refine Calmly.gf_tf (kept_of hk) (fun _ _ => ?_) | with_reducible refine Calmly.gf_ft (kept_of hk) (fun _ _ => ?_)) | ((with_reducible refine Calmly.is_tail ?_); first | refine Calmly.mix_tail_nil ?_ | refine Calmly.mix_tail rfl (fun _ _ => ?_)) | ((with_reducible refine Calmly.is_kept ?_); refine ⟨kept_of hk, ?_⟩) | (with_reducible refine Calmly.mix_alt ?_ ?_))
        go_roundw
        case rel => exact ⟨k + 1, _, _, _, _, _, _, _, _, by omega, by go_num, below4 hbr6 (Nat.le_refl _), X9, rZ, by omega, by omega⟩
        case measure => simp [intOf]; omega
    · obtain rfl : n = k := by omega
      have hle : (n : Int) ≤ (n : Int) := by omega
      clear hkn hlt
      by_cases hY0 : Y = 0
      case' pos =>
        have bY : (Y != 0) = false := by simpa using hY0
        clear hY0
        go_wp2_with fail
      case' neg =>
        have bY : (Y != 0) = true := by simpa using hY0
        have W1 := x1
        have W2 := x2
        have W7 := x7
        have W9 := x9
        have W0 := xs0
        have WP := sP
        have WV := gV
        have WB := BW
        go_wp2_with fail
        refine (copyParts_any D aP n cP ps _ sP (by omega)).mono ?_
        rintro r q1' ⟨a2, k2, rfl, o2, hs⟩
        have hq := hs
        clear hs f0 f1 g0 g1 p0 p1 q0 q1 q2 t0 t1 t2 t3 x1 x2 x7 x9 xs0 sP gV BW
        have hs := hA q1' (.cells #[.int .i64 D, .slice a2 n k2] 106)
        have x16 := alloc_new q1' (.cells #[.int .i64 D, .slice a2 n k2] 106)
        obtain ⟨g2, rfl, hg2, hg2'⟩ := o2.at_ hn0
        have hne16 : q1'.heap.size ≠ g2 := by omega
        replace o2 := o2.keep hs
        replace hq := hq.trans (hs.mono hq.size)
        have mk2 := o2.si.max
        have ck2 := o2.si.cap
        clear hs
        have g0 := cell_block (blk_keep W2 hq) 0
        have g1 := cell_block (blk_keep W2 hq) 1
        have s0' := cell_block x16 0
        have s1' := cell_block x16 1
        go_wp2_with fail
        obtain ⟨b16, hb16⟩ : ∃ b, q1'.heap.size = b := ⟨_, rfl⟩
        clear g0 g1 s0' s1'
        generalize World.alloc q1' _ = q2' at hq x16 o2 ⊢
        rw [hb16] at x16 hne16 hg2' ⊢
        clear hb16
        refine (mod_any X0 (n : Int) _ (by omega) (by omega) hX1 hX2).mono ?_
        rintro r q3' ⟨rfl, rfl⟩
        obtain ⟨kk, hkk, hkn⟩ : ∃ kk : Nat, X0 % (n : Int) = (kk : Int) ∧ kk < n := by
          have e1 := Int.emod_nonneg X0 (show (n : Int) ≠ 0 by omega)
          have e2 := Int.emod_lt_of_pos X0 (show (0 : Int) < (n : Int) by omega)
          exact ⟨(X0 % (n : Int)).toNat, by omega, by omega⟩
        rw [hkk]
        have ec := o2.cell kk hkn
        have hpk := HPB.out kk
        obtain ⟨pk, hpk'⟩ : ∃ x, ps[kk]?.getD 0 = x := ⟨_, rfl⟩
        rw [hpk'] at ec hpk
        obtain ⟨hpk1, hpk2⟩ := hpk
        have HPK := Lib.hid hpk'
        have hwp : wIn pk (-1000000000000) 1000000000000 = true := wIn_iff.2 (by omega)
        have hik : (kk : Int) < (n : Int) := by omega
        have hi0k : (0 : Int) ≤ (kk : Int) := by omega
        clear hkk hpk'
        have s1' := cell_block x16 1
        go_wp2_with (first | (go_at_call 28; refine (within_any _ _ _ _).mono ?_; rintro e w' ⟨rfl, rfl⟩))
        refine Calmly.wp_region_mix 11 (.fl 0 <| .fl 1 <| .fl 2 <| .fl 3 <| .fl 4 <| .fl 5 <| .fl 6 <| .fl 7 <| .fl 8 <| .fl 9 <| .fl 10 <| .tail [11, 12]) (by kernel_rfl) (by kernel_rfl) ?_
        have hs := (Below.refl q2'.heap.size q2').drew
        replace hq := hq.trans (hs.mono hq.size)
        replace x16 := blk_keep x16 hs
        replace o2 := o2.keep hs
        replace ec := cell_keep ec hs
        clear hs s1'
        generalize q2'.drew = q4' at hq x16 o2 ec ⊢
        have g1 := cell_block (blk_keep W2 hq) 1
        have s1' := cell_block x16 1
        have fk := o2.free kk
        have hk := Below.refl q4'.heap.size q4'
        have st := o2.stored kk (pk + Y)
        have hsz2 : wr.heap.size ≤ g2 := by omega
        have hq5 : Below wr.heap.size wr (q4'.setCell ⟨g2, kk, none⟩ (.int .i64 (pk + Y))) := hq.setCell (p := ⟨g2, kk, none⟩) hsz2 _
        have y16 : (q4'.setCell ⟨g2, kk, none⟩ (.int .i64 (pk + Y))).heap[b16]? = some (.cells #[.int .i64 D, .slice (some ⟨g2, 0, none⟩) n k2] 106) := by
          rw [Below.heap_setCell _ _ _ _ hne16]
          exact x16
        have s2' := st.1.si
        go_wp2_with (first | ((with_reducible refine Calmly.is_fl ?_); refine Calmly.mix_fl rfl ?_ (fun _ _ => ?_); (first | exact .move _ | exact .load _ _ | exact .fieldAddr _ _ _ (by kernel_rfl) | exact .assign _ | exact .binOp _ _ _ _ _ rfl | exact .indexAddr _ _ _ | exact .len _ _ (by kernel_rfl) | exact .field _ _ _ | exact .extract _ _ | exact .pick _ _ _ | exact .build _ _ | exact .slice _ _ _ _ _ | exact .unOp _ _ _ rfl | exact .index _ _ _ | exact .max _ _ _ rfl rfl | exact .min _ _ _ rfl rfl)) | ((with_reducible refine Calmly.is_gl ?_); refine Calmly.mix_gl rfl rfl rfl ?_; first | ((first | with_reducible refine Calmly.gl_tt ?_ (fun _ _ => ?_) | with_reducible refine Calmly.gl_ff ?_ (fun _ _ => ?_)); (first | exact .move _ | exact .load _ _ | exact .fieldAddr _ _ _ (by kernel_rfl) | exact .assign _ | exact .binOp _ _ _ _ _ rfl | exact .indexAddr _ _ _ | exact .len _ _ (by kernel_rfl) | exact .field _ _ _ | exact .extract _ _ | exact .pick _ _ _ | exact .build _ _ | exact .slice _ _ _ _ _ | exact .unOp _ _ _ rfl | exact .index _ _ _ | exact .max _ _ _ rfl rfl | exact .min _ _ _ rfl rfl)) | with_reducible refine Calmly.gl_tf (fun _ _ => ?_) | with_reducible refine Calmly.gl_ft (fun _ _ => ?_)) | ((with_reducible refine Calmly.is_eff ?_); refine Calmly.mix_eff rfl (fun _ _ => ?_)) | ((with_reducible refine Calmly.is_gf ?_); refine Calmly.mix_gf rfl rfl rfl ?_; first | with_reducible refine Calmly.gf_tt (fun _ _ => ?_) | with_reducible refine Calmly.gf_ff (fun _ _ => ?_) | with_reducible refine Calmly.gf_tf (kept_of hk) (fun _ _ => ?_) | with_reducible refine Calmly.gf_ft (kept_of hk) (fun _ _ => ?_)) | ((with_reducible refine Calmly.is_tail ?_); first | refine Calmly.mix_tail_nil ?_ | refine Calmly.mix_tail rfl (fun _ _ => ?_)) | ((with_reducible refine Calmly.is_kept ?_); refine ⟨kept_of hk, ?_⟩) | (with_reducible refine Calmly.mix_alt ?_ ?_))
        clear hk hq x16 o2 ec g1 s1' fk st
        refine Calmly.wp_region_mix 9 (.fl 0 <| .fl 2 <| .fl 3 <| .eff 1 <| .eff 4 <| .fl 5 <| .fl 6 <| .fl 7 <| .fl 8 <| .tail [9]) (by kernel_rfl) (by kernel_rfl) ?_
        have hs := (Below.refl (q4'.setCell ⟨g2, kk, none⟩ (.int .i64 (pk + Y))).heap.size (q4'.setCell ⟨g2, kk, none⟩ (.int .i64 (pk + Y)))).drew
        replace hq5 := hq5.trans (hs.mono hq5.size)
        replace y16 := blk_keep y16 hs
        replace s2' := s2'.keep hs
        clear hs
        generalize World.drew _ = q6 at hq5 y16 s2' ⊢
        have x1 := blk_keep W1 hq5
        have x9 := blk_keep W9 hq5
        have BW := WB.trans (hq5.mono WB.size)
        have f0 := cell_block x1 0
        have f1 := cell_block x1 1
        have s0' := cell_block y16 0
        have s1' := cell_block y16 1
        have q0 := cell_block x9 0
        have q1 := cell_block x9 1
        have q2 := cell_block x9 2
        have hk := Below.refl q6.heap.size q6
        obtain ⟨ps', hps'⟩ : ∃ l, ps.set kk (pk + Y) = l := ⟨_, rfl⟩
        have hsum : sumT ps' n ≠ 0 := by
          rw [← hps', sumT_set ps kk n (pk + Y) hkn (by have := HPL.out; omega), HS1.out, HPK.out]
          omega
        rw [hps'] at s2'
        obtain ⟨F1, hF1⟩ : ∃ F, firstE [(recF step xs).2, unlessE (dnm D) 2, unlessE ((n : Int) == (n : Int)) 10, unlessE (prtB ps' n) 2] = F := ⟨_, rfl⟩
        obtain ⟨F2, hF2⟩ : ∃ F, firstE [unlessE (((gcds ([D] ++ ps') : Nat) : Int) == 1) 3, unlessE (decide (gcds [d, v, u] = 1)) 3] = F := ⟨_, rfl⟩
        obtain ⟨I, E, hE0, z1, z2, z3⟩ : ∃ I E : Int, E ≠ 0 ∧ (F1 ≠ 0 → I = 0 ∧ E = F1) ∧ (F1 = 0 → F2 ≠ 0 → I = 0 ∧ E = F2) ∧ (F1 = 0 → F2 = 0 → I = 0 ∧ E = 21) := by
          by_cases k1 : F1 = 0
          · by_cases k2 : F2 = 0
            · exact ⟨0, 21, by decide, fun h => absurd k1 h, fun _ h => absurd k2 h, fun _ _ => ⟨rfl, rfl⟩⟩
            · exact ⟨0, F2, k2, fun h => absurd k1 h, fun _ _ => ⟨rfl, rfl⟩, fun _ h => absurd h k2⟩
          · exact ⟨0, F1, k1, fun _ => ⟨rfl, rfl⟩, fun h => absurd h k1, fun h => absurd h k1⟩
        have HF1 := Lib.hid hF1
        have HF2 := Lib.hid hF2
        have HZ1 := Lib.hid z1
        have HZ2 := Lib.hid z2
        have HZ3 := Lib.hid z3
        have HSU := Lib.hid hsum
        have bE : (E == 0) = false := by simpa using hE0
        have M0 := Lib.hid True.intro
        clear hF1 hF2 z1 z2 z3 hsum hE0 hps'
        go_wp2_with (first | ((with_reducible refine Calmly.is_fl ?_); refine Calmly.mix_fl rfl ?_ (fun _ _ => ?_); (first | exact .move _ | exact .load _ _ | exact .fieldAddr _ _ _ (by kernel_rfl) | exact .assign _ | exact .binOp _ _ _ _ _ rfl | exact .indexAddr _ _ _ | exact .len _ _ (by kernel_rfl) | exact .field _ _ _ | exact .extract _ _ | exact .pick _ _ _ | exact .build _ _ | exact .slice _ _ _ _ _ | exact .unOp _ _ _ rfl | exact .index _ _ _ | exact .max _ _ _ rfl rfl | exact .min _ _ _ rfl rfl)) | ((with_reducible refine Calmly.is_gl ?_); refine Calmly.mix_gl rfl rfl rfl ?_; first | ((first | with_reducible refine Calmly.gl_tt ?_ (fun _ _ => ?_) | with_reducible refine Calmly.gl_ff ?_ (fun _ _ => ?_)); (first | exact .move _ | exact .load _ _ | exact .fieldAddr _ _ _ (by kernel_rfl) | exact .assign _ | exact .binOp _ _ _ _ _ rfl | exact .indexAddr _ _ _ | exact .len _ _ (by kernel_rfl) | exact .field _ _ _ | exact .extract _ _ | exact .pick _ _ _ | exact .build _ _ | exact .slice _ _ _ _ _ | exact .unOp _ _ _ rfl | exact .index _ _ _ | exact .max _ _ _ rfl rfl | exact .min _ _ _ rfl rfl)) | with_reducible refine Calmly.gl_tf (fun _ _ => ?_) | with_reducible refine Calmly.gl_ft (fun _ _ => ?_)) | ((with_reducible refine Calmly.is_eff ?_); refine Calmly.mix_eff rfl (fun _ _ => ?_)) | ((with_reducible refine Calmly.is_gf ?_); refine Calmly.mix_gf rfl rfl rfl ?_; first | with_reducible refine Calmly.gf_tt (fun _ _ => ?_) | with_reducible refine Calmly.gf_ff (fun _ _ => ?_) | with_reducible refine Calmly.gf_tf (kept_of hk) (fun _ _ => ?_) | with_reducible refine Calmly.gf_ft (kept_of hk) (fun _ _ => ?_)) | ((with_reducible refine Calmly.is_tail ?_); first | refine Calmly.mix_tail_nil ?_ | refine Calmly.mix_tail rfl (fun _ _ => ?_)) | ((with_reducible refine Calmly.is_kept ?_); refine ⟨kept_of hk, ?_⟩) | (with_reducible refine Calmly.mix_alt ?_ ?_) | (have _ := M0.out; clear M0; go_at_call 18; refine (copy_any step a n c xs _ ((h1.keep BW).keep hk) (by omega)).mono ?_; rintro r q7 ⟨a1, k1, rfl, s1, hs⟩; replace hk := step_of hk hs; clear hs) | (go_at_call 65; refine (CheckRest_any step a1 n k1 xs D _ n k2 ps' d v u _ s1 (s2'.keep hk) d1 (by omega) (by omega) (by omega) (by omega) (by omega) I E F1 F2 HF1.out HF2.out HZ1.out HZ2.out (fun e1 e2 _ => HZ3.out e1 e2) (fun _ _ h => absurd h HSU.out) (fun _ _ h => absurd h HSU.out)).mono ?_; rintro r q8 ⟨rfl, hs⟩; replace hk := step_of hk hs; clear hs s1; have f0' := cell_block (blk_keep x1 hk) 0; have f1' := cell_block (blk_keep x1 hk) 1))
        replace hq5 := hq5.trans (hk.mono hq5.size)
        clear f0 f1 f0' f1' s0' s1' q0 q1 q2 x1 x9 BW hk s2' y16
        have x1 := blk_keep W1 hq5
        have x2 := blk_keep W2 hq5
        have x7 := blk_keep W7 hq5
        have x9 := blk_keep W9 hq5
        have xs0 := blk_keep W0 hq5
        have sP := WP.keep hq5
        have gV := WV.keep hq5
        have BW := WB.trans (hq5.mono WB.size)
        clear W1 W2 W7 W9 W0 WP WV WB hq5
      all_goals
        as_aux_lemma =>
        refine (copy_any step a n c xs _ (h1.keep BW) (by omega)).mono ?_
        rintro r y1 ⟨a1, k1, rfl, s1, hs⟩
        replace x1 := blk_keep x1 hs; replace x2 := blk_keep x2 hs; (try replace x7 := blk_keep x7 hs); (try replace x9 := blk_keep x9 hs); (try replace xs0 := blk_keep xs0 hs); (try replace sP := sP.keep hs); (try replace gV := gV.keep hs); replace BW := BW.trans (hs.mono BW.size); clear hs; (try clear f0 f1 g0 g1 p0 p1 q0 q1 q2 t0 t1 t2 t3); have f0 := cell_block x1 0; have f1 := cell_block x1 1; have g0 := cell_block x2 0; have g1 := cell_block x2 1; (try have p0 := cell_block x7 0); (try have p1 := cell_block x7 1); (try have q0 := cell_block x9 0); (try have q1 := cell_block x9 1); (try have q2 := cell_block x9 2); (try have t0 := cell_block xs0 0); (try have t1 := cell_block xs0 1); (try have t2 := cell_block xs0 2); (try have t3 := cell_block xs0 3)
        obtain ⟨EV, hEV⟩ : ∃ x, sumT xs n = x := ⟨_, rfl⟩
        obtain ⟨ED, hED⟩ : ∃ x, sumT (sumsF xs) n = x := ⟨_, rfl⟩
        have HEV := Lib.hid hEV
        have HED := Lib.hid hED
        clear hEV hED
        go_wp2_with fail
        refine (EndOf_any step a1 n k1 xs _ s1 0 EV ED HRE.out (fun h => absurd rfl h) (fun _ => ⟨HEV.out, HED.out⟩)).mono ?_
        rintro r y2 ⟨rfl, hs⟩
        replace x1 := blk_keep x1 hs; replace x2 := blk_keep x2 hs; (try replace x7 := blk_keep x7 hs); (try replace x9 := blk_keep x9 hs); (try replace xs0 := blk_keep xs0 hs); (try replace sP := sP.keep hs); (try replace gV := gV.keep hs); replace BW := BW.trans (hs.mono BW.size)
        clear hs s1 f0 f1 g0 g1 p0 p1 q0 q1 q2 t0 t1 t2 t3
        have hs := hA y2 (.cells #[.int .i64 EV, .int .i64 ED] 58)
        have xE := alloc_new y2 (.cells #[.int .i64 EV, .int .i64 ED] 58)
        replace x1 := blk_keep x1 hs; replace x2 := blk_keep x2 hs; (try replace x7 := blk_keep x7 hs); (try replace x9 := blk_keep x9 hs); (try replace xs0 := blk_keep xs0 hs); (try replace sP := sP.keep hs); (try replace gV := gV.keep hs); replace BW := BW.trans (hs.mono BW.size); clear hs; (try clear f0 f1 g0 g1 p0 p1 q0 q1 q2 t0 t1 t2 t3); have f0 := cell_block x1 0; have f1 := cell_block x1 1; have g0 := cell_block x2 0; have g1 := cell_block x2 1; (try have p0 := cell_block x7 0); (try have p1 := cell_block x7 1); (try have q0 := cell_block x9 0); (try have q1 := cell_block x9 1); (try have q2 := cell_block x9 2); (try have t0 := cell_block xs0 0); (try have t1 := cell_block xs0 1); (try have t2 := cell_block xs0 2); (try have t3 := cell_block xs0 3)
        have e0 := cell_block xE 0
        have e1 := cell_block xE 1
        by_cases hE : EV = 0 ∧ ED = 0
        case' pos =>
          obtain ⟨o1, o2, o3, o4, o5⟩ := rest_own hn1 hn2 (by rw [show xs.length = n by omega, HEV.out]; exact hE.1) (by rw [show xs.length = n by omega, HED.out]; exact hE.2)
          rw [Hd.out] at o1
          rw [Hv.out] at o2
          rw [Hu.out] at o3
          rw [HD.out] at o4
          rw [HPS.out] at o5
          obtain ⟨E1, E2⟩ := hE
          subst E1 E2
          subst o1 o2 o3
          have hsame : decide (D = 1 ∧ ps = xs) = true := decide_eq_true ⟨o4, o5⟩
          have HSM := Lib.hid hsame
          clear o4 o5 hsame
          go_wp2_with fail
          obtain ⟨bE, hbE⟩ : ∃ b, y2.heap.size = b := ⟨_, rfl⟩
          clear f0 f1 g0 g1 p0 p1 q0 q1 q2 t0 t1 t2 t3 e0 e1
          generalize World.alloc y2 _ = y3 at x1 x2 x7 x9 xs0 sP gV xE BW ⊢
          rw [hbE] at xE ⊢
          clear hbE
          refine (sameParts_any D 1 aP a n n cP c ps xs _ sP (h1.keep BW) true HSM.out).mono ?_
          rintro r y4 ⟨rfl, hs⟩
          replace x1 := blk_keep x1 hs; replace x2 := blk_keep x2 hs; (try replace x7 := blk_keep x7 hs); (try replace x9 := blk_keep x9 hs); (try replace xs0 := blk_keep xs0 hs); (try replace sP := sP.keep hs); (try replace gV := gV.keep hs); replace BW := BW.trans (hs.mono BW.size); clear hs; (try clear f0 f1 g0 g1 p0 p1 q0 q1 q2 t0 t1 t2 t3); have f0 := cell_block x1 0; have f1 := cell_block x1 1; have g0 := cell_block x2 0; have g1 := cell_block x2 1; (try have p0 := cell_block x7 0); (try have p1 := cell_block x7 1); (try have q0 := cell_block x9 0); (try have q1 := cell_block x9 1); (try have q2 := cell_block x9 2); (try have t0 := cell_block xs0 0); (try have t1 := cell_block xs0 1); (try have t2 := cell_block xs0 2); (try have t3 := cell_block xs0 3)
        case' neg =>
          have hE' : EV ≠ 0 ∨ (EV = 0 ∧ ED ≠ 0) := by omega
          clear hE
          rcases hE' with hE' | ⟨rfl, hE'⟩
        all_goals
          by_cases hm : m = n
          case neg =>
            have bm : ((m : Int) != (n : Int)) = true := by simp; omega
            go_wp2_with fail
            go_ret
            exact ⟨rfl, BW⟩
          subst hm
          have bm : ((m : Int) != (m : Int)) = false := by simp
          go_wp2_with fail
          go_loopw [23, 22] (fun i fa wr => ∃ k : Nat, k ≤ m ∧ i = .int .i64 k ∧ fa = .int .i64 (sF (fun t => (os[t]?.getD 0 - xs[t]?.getD 0) * (os[t]?.getD 0 - xs[t]?.getD 0)) k) ∧ (∀ j, j < k → smp (os[j]?.getD 0) = true) ∧ Below w.heap.size w wr ∧ wr.heap[w.heap.size]? = some (.cells #[.int .i64 step, .slice a m c] 24) ∧ wr.heap[w13.heap.size]? = some (.cells #[.int .i64 rs, .slice ra rn rc, .int .i64 rs', .slice ra' rn' rc'] 118) ∧ RatV wr rs ra rn rc rs' ra' rn' rc' (qS xs ps D m)) (fun i _ _ => m - (intOf i).toNat)
          case atStart => exact ⟨0, by omega, rfl, rfl, fun j hj => by omega, BW, x1, xs0, gV⟩
          case round =>
            (try clear e0 e1); clear x1 xs0 gV BW xE sP x2 x7 x9 f0 f1 g0 g1 p0 p1 q0 q1 q2 t0 t1 t2 t3
            obtain ⟨k, hkm, rfl, rfl, hsm, BW, x1, xs0, gV⟩ := hrel
            have hpos := fun (t : Nat) (ht : t < k) => smp_bd (hsm t ht)
            have hfb := far_bd (xs := xs) (os := os) (k := k) hpos H5.out
            obtain ⟨far, hfar⟩ : ∃ x, sF (fun t => (os[t]?.getD 0 - xs[t]?.getD 0) * (os[t]?.getD 0 - xs[t]?.getD 0)) k = x := ⟨_, rfl⟩
            rw [hfar] at hfb ⊢
            obtain ⟨hf1, hf2⟩ := hfb
            have HFAR := Lib.hid hfar
            have HSM := Lib.hid hsm
            clear hfar hsm hpos
            by_cases hlt : k < m
            · obtain ⟨ba, oa, rfl, hca⟩ := (h1.keep BW).at_ (by omega)
              obtain ⟨bo, oo, rfl, hco⟩ := (h2.keep BW).at_ (by omega)
              have ea := hca k hlt
              have eo := hco k hlt
              have hxk := H5.out k
              obtain ⟨x, hx⟩ : ∃ x, xs[k]?.getD 0 = x := ⟨_, rfl⟩
              obtain ⟨o, ho⟩ : ∃ x, os[k]?.getD 0 = x := ⟨_, rfl⟩
              rw [hx] at ea hxk
              rw [ho] at eo
              have hi : (k : Int) < (m : Int) := by omega
              have hi0 : (0 : Int) ≤ (k : Int) := by omega
              have HX := Lib.hid hx
              have HO := Lib.hid ho
              clear hca hco hx ho
              go_wp2_with fail
              refine (rIsSample_any _ _).mono ?_
              rintro r z1 ⟨rfl, rfl⟩
              cases hso : smp o
              · go_wp2_with fail
                go_ret
                exact ⟨rfl, BW⟩
              · have hob := smp_bd hso
                obtain ⟨ho1, ho2⟩ := hob
                obtain ⟨hx1, hx2⟩ := hxk
                obtain ⟨df, hdf⟩ : ∃ y, o - x = y := ⟨_, rfl⟩
                obtain ⟨df1, df2⟩ : -2000 ≤ df ∧ df ≤ 2000 := by omega
                obtain ⟨sq1, sq2⟩ := pr_bd (c := df) (a := df) (C := 2000) (A := 2000) df1 df2 df1 df2
                obtain ⟨sq, hsq⟩ : ∃ y, df * df = y := ⟨_, rfl⟩
                rw [hsq] at sq1 sq2
                have hnext : sF (fun t => (os[t]?.getD 0 - xs[t]?.getD 0) * (os[t]?.getD 0 - xs[t]?.getD 0)) (k + 1) = far + sq := by
                  rw [sF, HFAR.out, HX.out, HO.out, hdf, hsq]
                have hsn : ∀ j, j < k + 1 → smp (os[j]?.getD 0) = true := by
                  intro j hj
                  rcases Nat.lt_or_ge j k with h | h
                  · exact HSM.out j h
                  · obtain rfl : j = k := by omega
                    rw [HO.out]; exact hso
                have HNX := Lib.hid hnext
                have HSN := Lib.hid hsn
                clear hnext hsn hso
                have f1 := cell_block x1 1
                go_wp2_with fail
                refine Calmly.wp_region_mix 22 (.fl 0 <| .fl 1 <| .fl 2 <| .fl 3 <| .fl 4 <| .fl 5 <| .fl 6 <| .fl 7 <| .fl 8 <| .fl 9 <| .fl 10 <| .fl 11 <| .fl 12 <| .fl 13 <| .fl 14 <| .fl 15 <| .fl 16 <| .fl 17 <| .fl 18 <| .fl 19 <| .fl 20 <| .fl 21 <| .tail [22, 23]) (by kernel_rfl) (by kernel_rfl) ?_
                have hs := (Below.refl wr.heap.size wr).drew
                replace x1 := blk_keep x1 hs
                replace xs0 := blk_keep xs0 hs
                replace gV := gV.keep hs
                replace BW := BW.trans (hs.mono BW.size)
                replace ea := cell_keep ea hs
                replace eo := cell_keep eo hs
                clear hs f1
                generalize wr.drew = z2 at x1 xs0 gV BW ea eo ⊢
                have f1 := cell_block x1 1
                have hk := Below.refl z2.heap.size z2
                go_wp2_with (first | ((with_reducible refine Calmly.is_fl ?_); refine Calmly.mix_fl rfl ?_ (fun _ _ => ?_); (first | exact .move _ | exact .load _ _ | exact .fieldAddr _ _ _ (by kernel_rfl) | exact .assign _ | exact .binOp _ _ _ _ _ rfl | exact .indexAddr _ _ _ | exact .len _ _ (by kernel_rfl) | exact .field _ _ _ | exact .extract _ _ | exact .pick _ _ _ | exact .build _ _ | exact .slice _ _ _ _ _ | exact .unOp _ _ _ rfl | exact .index _ _ _ | exact .max _ _ _ rfl rfl | exact .min _ _ _ rfl rfl)) | ((with_reducible refine Calmly.is_gl ?_); refine Calmly.mix_gl rfl rfl rfl ?_; first | ((first | with_reducible refine Calmly.gl_tt ?_ (fun _ _ => ?_) | with_reducible refine Calmly.gl_ff ?_ (fun _ _ => ?_)); (first | exact .move _ | exact .load _ _ | exact .fieldAddr _ _ _ (by kernel_rfl) | exact .assign _ | exact .binOp _ _ _ _ _ rfl | exact .indexAddr _ _ _ | exact .len _ _ (by kernel_rfl) | exact .field _ _ _ | exact .extract _ _ | exact .pick _ _ _ | exact .build _ _ | exact .slice _ _ _ _ _ | exact .unOp _ _ _ rfl | exact .index _ _ _ | exact .max _ _ _ rfl rfl | exact .min _ _ _ rfl rfl)) | with_reducible refine Calmly.gl_tf (fun _ _ => ?_) | with_reducible refine Calmly.gl_ft (fun _ _ => ?_)) | ((with_reducible refine Calmly.is_eff ?_); refine Calmly.mix_eff rfl (fun _ _ => ?_)) | ((with_reducible refine Calmly.is_gf ?_); refine Calmly.mix_gf rfl rfl rfl ?_; first | with_reducible refine Calmly.gf_tt (fun _ _ => ?_) | with_reducible refine Calmly.gf_ff (fun _ _ => ?_) | with_reducible refine Calmly.gf_tf (kept_of hk) (fun _ _ => ?_) | with_reducible refine Calmly.gf_ft (kept_of hk) (fun _ _ => ?_)) | ((with_reducible refine Calmly.is_tail ?_); first | refine Calmly.mix_tail_nil ?_ | refine Calmly.mix_tail rfl (fun _ _ => ?_)) | ((with_reducible refine Calmly.is_kept ?_); refine ⟨kept_of hk, ?_⟩) | (with_reducible refine Calmly.mix_alt ?_ ?_))
                go_roundw
                case rel => exact ⟨k + 1, by omega, by go_num, by rw [HNX.out], HSN.out, BW, x1, xs0, gV⟩
                case measure => simp [intOf]; omega
            · obtain rfl : m = k := by omega
              have hle : (m : Int) ≤ (m : Int) := by omega
              have hob : ∀ j : Nat, -1000000000000 ≤ os[j]?.getD 0 ∧ os[j]?.getD 0 ≤ 1000000000000 := by
                intro j
                rcases Nat.lt_or_ge j m with hj | hj
                · have := smp_bd (HSM.out j hj); omega
                · rw [List.getElem?_eq_none (by omega)]
                  simp
              have HOB := Lib.hid hob
              obtain ⟨OV, hOV⟩ : ∃ x, sumT os m = x := ⟨_, rfl⟩
              obtain ⟨OD, hOD⟩ : ∃ x, sumT (sumsF os) m = x := ⟨_, rfl⟩
              have HOV := Lib.hid hOV
              have HOD := Lib.hid hOD
              clear hob hOV hOD
              go_wp2_with fail
              refine (rEnd_any b m e os _ (h2.keep BW) (by omega) HOB.out OV OD HOV.out HOD.out).mono ?_
              rintro r z3 ⟨rfl, hs⟩
              replace xs0 := blk_keep xs0 hs
              replace gV := gV.keep hs
              replace BW := BW.trans (hs.mono BW.size)
              clear hs
              by_cases hO : OV = 0 ∧ OD = 0
              · obtain ⟨O1, O2⟩ := hO
                subst O1 O2
                have hnear := rest_near (o := os) hn1 hn2 (by omega) (by rw [show xs.length = m by omega]; exact HOV.out) (by rw [show xs.length = m by omega]; exact HOD.out)
                rw [HD.out, HPS.out, show xs.length = m by omega, HFAR.out] at hnear
                obtain ⟨cc, hcc⟩ : ∃ x, cmpI ((qS xs ps D m).num * (((far : Rat).den : Nat) : Int)) ((far : Rat).num * ((qS xs ps D m).den : Int)) = x := ⟨_, rfl⟩
                have hc0 : cc ≤ 0 := by rw [← hcc]; exact qS_cmp (by omega) hnear
                have HCC := Lib.hid hcc
                obtain ⟨lk1, lk2⟩ := LK_bd m (by omega)
                clear hnear hcc
                go_wp2_with fail
                refine Calmly.wp_region_mix 4 (.fl 0 <| .fl 1 <| .eff 2 <| .eff 3 <| .tail [4, 5]) (by kernel_rfl) (by kernel_rfl) ?_
                have hs := (Below.refl z3.heap.size z3).drew
                replace xs0 := blk_keep xs0 hs
                replace gV := gV.keep hs
                replace BW := BW.trans (hs.mono BW.size)
                clear hs
                generalize z3.drew = z4 at xs0 gV BW ⊢
                have t0 := cell_block xs0 0
                have t1 := cell_block xs0 1
                have t2 := cell_block xs0 2
                have t3 := cell_block xs0 3
                have hk := Below.refl z4.heap.size z4
                go_wp2_with (first | ((with_reducible refine Calmly.is_fl ?_); refine Calmly.mix_fl rfl ?_ (fun _ _ => ?_); (first | exact .move _ | exact .load _ _ | exact .fieldAddr _ _ _ (by kernel_rfl) | exact .assign _ | exact .binOp _ _ _ _ _ rfl | exact .indexAddr _ _ _ | exact .len _ _ (by kernel_rfl) | exact .field _ _ _ | exact .extract _ _ | exact .pick _ _ _ | exact .build _ _ | exact .slice _ _ _ _ _ | exact .unOp _ _ _ rfl | exact .index _ _ _ | exact .max _ _ _ rfl rfl | exact .min _ _ _ rfl rfl)) | ((with_reducible refine Calmly.is_gl ?_); refine Calmly.mix_gl rfl rfl rfl ?_; first | ((first | with_reducible refine Calmly.gl_tt ?_ (fun _ _ => ?_) | with_reducible refine Calmly.gl_ff ?_ (fun _ _ => ?_)); (first | exact .move _ | exact .load _ _ | exact .fieldAddr _ _ _ (by kernel_rfl) | exact .assign _ | exact .binOp _ _ _ _ _ rfl | exact .indexAddr _ _ _ | exact .len _ _ (by kernel_rfl) | exact .field _ _ _ | exact .extract _ _ | exact .pick _ _ _ | exact .build _ _ | exact .slice _ _ _ _ _ | exact .unOp _ _ _ rfl | exact .index _ _ _ | exact .max _ _ _ rfl rfl | exact .min _ _ _ rfl rfl)) | with_reducible refine Calmly.gl_tf (fun _ _ => ?_) | with_reducible refine Calmly.gl_ft (fun _ _ => ?_)) | ((with_reducible refine Calmly.is_eff ?_); refine Calmly.mix_eff rfl (fun _ _ => ?_)) | ((with_reducible refine Calmly.is_gf ?_); refine Calmly.mix_gf rfl rfl rfl ?_; first | with_reducible refine Calmly.gf_tt (fun _ _ => ?_) | with_reducible refine Calmly.gf_ff (fun _ _ => ?_) | with_reducible refine Calmly.gf_tf (kept_of hk) (fun _ _ => ?_) | with_reducible refine Calmly.gf_ft (kept_of hk) (fun _ _ => ?_)) | ((with_reducible refine Calmly.is_tail ?_); first | refine Calmly.mix_tail_nil ?_ | refine Calmly.mix_tail rfl (fun _ _ => ?_)) | ((with_reducible refine Calmly.is_kept ?_); refine ⟨kept_of hk, ?_⟩) | (with_reducible refine Calmly.mix_alt ?_ ?_) | (go_at_call 67; refine (RatioInt_any far _ (by omega) (by omega)).mono ?_; rintro r z5 ⟨⟨fs, fb, fn, fc, fs', fb', fn', fc', rfl, fh, fh', rB⟩, hs⟩; replace hk := step_of hk hs; clear hs) | (go_at_call 75; refine (RatioCmp_any _ _ _ _ _ _ _ _ _ _ _ _ _ _ _ _ (LK m) _ _ _ (gV.keep hk) rB (by omega) (by omega) (by omega) (by omega) (by omega)).mono ?_; rintro r z6 ⟨rfl, hs⟩; rw [HCC.out]; replace hk := step_of hk hs; clear hs))
                go_ret
                exact ⟨rfl, BW.trans (hk.mono BW.size)⟩
              · have hO' : OV ≠ 0 ∨ (OV = 0 ∧ OD ≠ 0) := by omega
                clear hO
                rcases hO' with hO' | ⟨rfl, hO'⟩
                · go_wp2_with fail
                  go_ret
                  exact ⟨rfl, BW⟩
                · go_wp2_with fail
                  go_ret
                  exact ⟨rfl, BW⟩
end Go.Proofs.Ytiibdndchkbefaa
