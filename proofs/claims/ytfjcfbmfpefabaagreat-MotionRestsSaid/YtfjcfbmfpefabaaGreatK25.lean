/- The reference's check of a rest with its prices. The distance of a rest as a fraction; copies of parts. -/
import Derived.Test.YtfjcfbmfpefabaaGreatK24
namespace Go.Proofs.YtfjcfbmfpefabaaGreat
open Go.RowKit Go.Wides
open Calmly (Kept)

/-- What the check of a rest returns for a valid record, one question after the other. -/
def ckH (xs ps : List Int) (D d v u : Int) (n : Nat) : Int × Int := ckOut (fBad (ckBad xs ps D d v u n) 0 n)
def ckG (xs ps : List Int) (D d v u : Int) (n : Nat) : Int × Int := if sumT (sumsF ps) n = 0 then ckH xs ps D d v u n else (1, 21)
def ckF (xs ps : List Int) (D d v u : Int) (n : Nat) : Int × Int := if sumT ps n = 0 then ckG xs ps D d v u n else (0, 21)
def ckE (xs ps : List Int) (D d v u : Int) (n : Nat) : Int × Int := if gcds [d, v, u] = 1 then ckF xs ps D d v u n else (0, 3)
def ckD (xs ps : List Int) (D d v u : Int) (n : Nat) : Int × Int := if (dnm d && (prt v && prt u)) = true then ckE xs ps D d v u n else (0, 2)
def ckC (xs ps : List Int) (D d v u : Int) (n : Nat) : Int × Int := if gcds ([D] ++ ps) = 1 then ckD xs ps D d v u n else (0, 3)
def ckB (xs ps : List Int) (D d v u : Int) (n m : Nat) : Int × Int := if prtB ps m = true then ckC xs ps D d v u n else (0, 2)
def ckA (xs ps : List Int) (D d v u : Int) (n m : Nat) : Int × Int := if m = n then ckB xs ps D d v u n m else (0, 10)
def ckAll (xs ps : List Int) (D d v u : Int) (n m : Nat) : Int × Int := if dnm D = true then ckA xs ps D d v u n m else (0, 2)

theorem rat_cross {p q : Rat} : cmpI (p.num * (q.den : Int)) (q.num * (p.den : Int)) = 0 ↔ p = q := by
  constructor
  · intro h
    have h2 : p.num * (q.den : Int) = q.num * (p.den : Int) := by
      unfold cmpI at h
      split at h
      · cases h
      · split at h
        · assumption
        · cases h
    have e1 := Rat.num_divInt_den p
    have e2 := Rat.num_divInt_den q
    rw [← e1, ← e2, Rat.divInt_eq_divInt_iff (by have := p.den_pos; omega) (by have := q.den_pos; omega)]
    exact h2
  · rintro rfl
    exact cmpI_eq rfl
theorem frac_iff {x y z t : Int} (hy : 0 < y) (ht : 0 < t) : fracF x y = fracF z t ↔ Rat.divInt x y = Rat.divInt z t := by
  rw [Rat.divInt_eq_divInt_iff (by omega) (by omega)]
  obtain ⟨g, hg, e1, e2⟩ := fracF_parts x y hy
  obtain ⟨h, hh, e3, e4⟩ := fracF_parts z t ht
  constructor
  · intro he
    rw [he] at e1 e2
    rw [e1, e2, e3, e4]
    grind
  · intro he
    have h1 : fracF (x * t) (y * t) = fracF x y := fracF_mul ht
    have h2 : fracF (z * y) (t * y) = fracF z t := fracF_mul hy
    rw [← h1, ← h2, he, Int.mul_comm y t]
/-- The comparison of a change with what the prices say. -/
theorem ck_cmp (xs ps : List Int) {D d : Int} (v u : Int) (n t : Nat) (hD : 0 < D) (hd : 0 < d) :
    ckBad xs ps D d v u n t = true ↔ Rat.divInt (ps[t]?.getD 0) D - ((xs[t]?.getD 0 : Int) : Rat) ≠ Rat.divInt v d + Rat.divInt u d * (((n : Int) - (t : Int) : Int) : Rat) := by
  unfold ckBad
  rw [decide_eq_true_iff]
  have hD' : (D : Rat) ≠ 0 := by simpa using (show D ≠ 0 by omega)
  have hd' : (d : Rat) ≠ 0 := by simpa using (show d ≠ 0 by omega)
  have e1 : Rat.divInt (ps[t]?.getD 0) D - ((xs[t]?.getD 0 : Int) : Rat) = Rat.divInt (ps[t]?.getD 0 - xs[t]?.getD 0 * D) D := by
    rw [Rat.divInt_eq_div, Rat.divInt_eq_div]
    push_cast
    grind
  have e2 : Rat.divInt v d + Rat.divInt u d * (((n : Int) - (t : Int) : Int) : Rat) = Rat.divInt (v + u * ((n : Int) - (t : Int))) d := by
    rw [Rat.divInt_eq_div, Rat.divInt_eq_div, Rat.divInt_eq_div]
    push_cast
    grind
  rw [e1, e2, ne_eq, ne_eq, not_congr (frac_iff hD hd)]

structure StopC (p : Prop) : Prop where
  out : p
theorem packC {V U : World} {r : Nat} {u0 u1 u2 u3 : Value} {s : Int} {a : Option Addr} {m c : Nat} {s' : Int} {a' : Option Addr} {m' c' : Nat} {x : Rat} (p : U.heap[r]? = some (.cells #[u0, u1, u2, u3] 80)) (h : RatV U s a m c s' a' m' c' x) (hk : Below V.heap.size V U) (hr : V.heap.size ≤ r) :
    ∃ b X, ((((U.setCell ⟨r, 0, none⟩ (.int .i64 s)).setCell ⟨r, 1, none⟩ (.slice a m c)).setCell ⟨r, 2, none⟩ (.int .i64 s')).setCell ⟨r, 3, none⟩ (.slice a' m' c')) = X ∧ r = b ∧ V.heap.size ≤ b ∧ Below V.heap.size V X ∧ X.heap[b]? = some (.cells #[.int .i64 s, .slice a m c, .int .i64 s', .slice a' m' c'] 80) ∧ RatV X s a m c s' a' m' c' x ∧ (∀ b', BlkT U b' 3 → X.heap[b']? = U.heap[b']?) := by
  obtain ⟨X4, W1, W2⟩ := ratFin p h.1 h.2
  exact ⟨r, _, rfl, rfl, hr, below4 hk hr, X4, ⟨W1, W2⟩, set4_frame ⟨_, p⟩ 0 _ _ _ _⟩

set_option maxRecDepth 100000 in
set_option maxHeartbeats 8000000 in
theorem rCheckRest_any (a : Option Addr) (n c : Nat) (xs : List Int) (D : Int) (b : Option Addr) (m e : Nat) (ps : List Int) (d v u : Int) (w : World) (h1 : SI w a n c xs) (h2 : SI w b m e ps) (hn2 : 2 ≤ n) (hn : n ≤ 24) (hb : ∀ j : Nat, -1000 ≤ xs[j]?.getD 0 ∧ xs[j]?.getD 0 ≤ 1000) (I E : Int) (hI : ckAll xs ps D d v u n m = (I, E)) :
    Calls Tryz.prog 14 #[.slice a n c, .agg #[.int .i64 D, .slice b m e], .agg #[.int .i64 d, .int .i64 v, .int .i64 u]] w fun r w' => r = .returned (.tuple #[.int .i64 I, .int .i64 E]) ∧ Below w.heap.size w w' := by
  have hA : ∀ (A : World) (o : Obj), Below A.heap.size A (A.alloc o) := fun A o => (Below.refl _ _).alloc (Nat.le_refl _) _
  obtain ⟨l1, l2⟩ : n ≤ xs.length ∧ xs.length ≤ n := by have := h1.len; omega
  obtain ⟨i1, i2⟩ : m ≤ ps.length ∧ ps.length ≤ m := by have := h2.len; omega
  have m1 := h1.max
  have c1 := h1.cap
  have m2 := h2.max
  have c2 := h2.cap
  have HI := Lib.hid hI
  have HB := Lib.hid hb
  clear hI hb
  have x2 := alloc_new (w.alloc (.cells #[.int .i64 D, .slice b m e] 26)) (.cells #[.int .i64 d, .int .i64 v, .int .i64 u] 28)
  have x1 := blk_keep (alloc_new w (.cells #[.int .i64 D, .slice b m e] 26)) (hA _ (.cells #[.int .i64 d, .int .i64 v, .int .i64 u] 28))
  have BW : Below w.heap.size w ((w.alloc (.cells #[.int .i64 D, .slice b m e] 26)).alloc (.cells #[.int .i64 d, .int .i64 v, .int .i64 u] 28)) := ((Below.refl _ _).alloc (Nat.le_refl _) _).alloc (by simp) _
  simp only [World.size_alloc] at x2
  obtain ⟨W, hW⟩ : ∃ W, (w.alloc (.cells #[.int .i64 D, .slice b m e] 26)).alloc (.cells #[.int .i64 d, .int .i64 v, .int .i64 u] 28) = W := ⟨_, rfl⟩
  rw [hW] at x1 x2 BW
  have HW := Lib.hid hW
  clear hW
  go_enter Tryz.func14, Tryz.ntmps14
  have f0 := cell_block x1 0
  have f1 := cell_block x1 1
  have g0 := cell_block x2 0
  have g1 := cell_block x2 1
  have g2 := cell_block x2 2
  have f0' := f0
  rw [← HW.out] at f0'
  go_wp2_with fail
  rw [HW.out]
  refine (within_any _ _ _ _).mono ?_
  rintro r w1 ⟨rfl, rfl⟩
  by_cases hD : dnm D = true
  case neg =>
    have h9 := (if_neg hD).symm.trans HI.out
    cases h9
    have hDD : wIn D 1 1000000000 = false := by simpa [dnm] using hD
    clear hD
    go_wp2_with fail
    refine bodyPost_ret (v := .tuple #[.int .i64 0, .int .i64 2]) (by simp [results, Tryz.results14, go_sem]) rfl ⟨rfl, BW⟩
  replace HI := Lib.hid (show ckA xs ps D d v u n m = (I, E) from (if_pos hD).symm.trans HI.out)
  have hDD : wIn D 1 1000000000 = true := hD
  have hDb : 1 ≤ D ∧ D ≤ 1000000000 := wIn_iff.1 hDD
  clear hD
  by_cases hmn : m = n
  case neg =>
    have h9 := (if_neg hmn).symm.trans HI.out
    cases h9
    have hmn' : ((m : Int) == (n : Int)) = false := by simp; omega
    clear hmn
    go_wp2_with fail
    refine bodyPost_ret (v := .tuple #[.int .i64 0, .int .i64 10]) (by simp [results, Tryz.results14, go_sem]) rfl ⟨rfl, BW⟩
  replace HI := Lib.hid (show ckB xs ps D d v u n m = (I, E) from (if_pos hmn).symm.trans HI.out)
  subst hmn
  have hmm : ((m : Int) == (m : Int)) = true := by simp
  go_wp2_with fail
  clear f0' HW
  go_loopw [8] (fun z wr => ∃ t : Nat, z = .int .i64 (t : Int) ∧ t ≤ m ∧ prtB ps t = true ∧ wr = W) (fun z _ => m - (intOf z).toNat)
  case atStart => exact ⟨0, rfl, by omega, rfl, rfl⟩
  case round =>
    obtain ⟨t, rfl, ht0, hpt, rfl⟩ := hrel
    by_cases hlt : t < m
    · have hk1 : (t : Int) < (m : Int) := by omega
      have hk2 : (0 : Int) ≤ (t : Int) := by omega
      obtain ⟨ba, oa, rfl, hca⟩ := (h2.keep BW).at_ (by omega)
      have ea := hca t hlt
      have HPT := Lib.hid hpt
      have hno := fun h => prtB_no (xs := ps) (k := t) hlt h
      have HNO := Lib.hid hno
      have hst : prtB ps (t + 1) = (prtB ps t && prt (ps[t]?.getD 0)) := rfl
      have HST := Lib.hid hst
      obtain ⟨x, hx⟩ : ∃ v, ps[t]?.getD 0 = v := ⟨_, rfl⟩
      rw [hx] at ea HNO HST
      clear hca hx hpt hno hst
      go_wp2_with fail
      refine (rIsPart_any x _).mono ?_
      rintro r w5 ⟨rfl, rfl⟩
      rcases hpx : prt x with _ | _
      · have hbf := HNO.out hpx
        have h9 := (if_neg (by rw [hbf]; decide)).symm.trans HI.out
        cases h9
        clear hbf
        go_wp2_with fail
        refine bodyPost_ret (v := .tuple #[.int .i64 0, .int .i64 2]) (by simp [results, Tryz.results14, go_sem]) rfl ⟨rfl, BW⟩
      · have HPX := Lib.hid hpx
        clear hpx
        go_wp2_with fail
        go_roundw
        case rel => exact ⟨t + 1, by go_num, by omega, by rw [HST.out, HPT.out, HPX.out]; rfl, by simp⟩
        case measure => simp [intOf]; omega
    · obtain rfl : t = m := by omega
      replace HI := Lib.hid (show ckC xs ps D d v u t = (I, E) from (if_pos hpt).symm.trans HI.out)
      have hpb : ∀ j : Nat, -1000000000000 ≤ ps[j]?.getD 0 ∧ ps[j]?.getD 0 ≤ 1000000000000 := by
        intro j
        rcases Nat.lt_or_ge j t with hj | hj
        · exact wIn_iff.1 (prtB_all hpt j hj)
        · rw [List.getElem?_eq_none (by omega)]
          simp
      have HPB := Lib.hid hpb
      clear hpb hpt hlt
      obtain ⟨G, hG⟩ : ∃ g, ((gcds ([D] ++ ps) : Nat) : Int) = g := ⟨_, rfl⟩
      go_wp2_with fail
      refine (rGcdOf_any D b t e ps _ (h2.keep BW) (by omega) (by omega) (by omega) (fun j => by have := HPB.out j; omega) G hG).mono ?_
      rintro r w5 ⟨rfl, hs⟩
      replace x1 := blk_keep x1 hs
      replace x2 := blk_keep x2 hs
      replace BW := BW.trans (hs.mono BW.size)
      clear hs f0 f1 g0 g1 g2
      have f0 := cell_block x1 0
      have f1 := cell_block x1 1
      have g0 := cell_block x2 0
      have g1 := cell_block x2 1
      have g2 := cell_block x2 2
      by_cases hg1 : gcds ([D] ++ ps) = 1
      case neg =>
        have h9 := (if_neg hg1).symm.trans HI.out
        cases h9
        have hgg : (G != 1) = true := bne_iff_ne.2 (fun h => hg1 (by omega))
        clear hG hg1
        go_wp2_with fail
        refine bodyPost_ret (v := .tuple #[.int .i64 0, .int .i64 3]) (by simp [results, Tryz.results14, go_sem]) rfl ⟨rfl, BW⟩
      replace HI := Lib.hid (show ckD xs ps D d v u t = (I, E) from (if_pos hg1).symm.trans HI.out)
      have hgg : (G != 1) = false := by rw [← hG, hg1]; rfl
      clear hG hg1
      go_wp2_with fail
      refine (within_any _ _ _ _).mono ?_
      rintro r w6 ⟨rfl, rfl⟩
      rcases hdd : wIn d 1 1000000000 with _ | _
      · have h9 := (if_neg (by rw [show dnm d = false from hdd]; simp)).symm.trans HI.out
        cases h9
        clear hdd
        go_wp2_with fail
        refine bodyPost_ret (v := .tuple #[.int .i64 0, .int .i64 2]) (by simp [results, Tryz.results14, go_sem]) rfl ⟨rfl, BW⟩
      have HDD := Lib.hid hdd
      clear hdd
      go_wp2_with fail
      refine (rIsPart_any v _).mono ?_
      rintro r w7 ⟨rfl, rfl⟩
      rcases hvv : prt v with _ | _
      · have h9 := (if_neg (by rw [hvv]; simp)).symm.trans HI.out
        cases h9
        clear hvv
        go_wp2_with fail
        refine bodyPost_ret (v := .tuple #[.int .i64 0, .int .i64 2]) (by simp [results, Tryz.results14, go_sem]) rfl ⟨rfl, BW⟩
      have HVV := Lib.hid hvv
      clear hvv
      go_wp2_with fail
      refine (rIsPart_any u _).mono ?_
      rintro r w8 ⟨rfl, rfl⟩
      rcases huu : prt u with _ | _
      · have h9 := (if_neg (by rw [huu]; simp)).symm.trans HI.out
        cases h9
        clear huu
        go_wp2_with fail
        refine bodyPost_ret (v := .tuple #[.int .i64 0, .int .i64 2]) (by simp [results, Tryz.results14, go_sem]) rfl ⟨rfl, BW⟩
      replace HI := Lib.hid (show ckE xs ps D d v u t = (I, E) from (if_pos (by rw [show dnm d = true from HDD.out, HVV.out, huu]; rfl)).symm.trans HI.out)
      have hdb : 1 ≤ d ∧ d ≤ 1000000000 := wIn_iff.1 HDD.out
      have hvb : -1000000000000 ≤ v ∧ v ≤ 1000000000000 := wIn_iff.1 HVV.out
      have hub : -1000000000000 ≤ u ∧ u ≤ 1000000000000 := wIn_iff.1 huu
      clear HDD HVV huu hgg
      obtain ⟨G2, hG⟩ : ∃ g, ((gcds ([d] ++ [v, u]) : Nat) : Int) = g := ⟨_, rfl⟩
      go_wp2_with fail
      have hal := (Below.refl w5.heap.size w5).alloc (Nat.le_refl _) (.cells #[.int .i64 v, .int .i64 u] 3)
      refine (rGcdOf_any d _ 2 2 [v, u] _ (SI.two w5 v u 3 rfl) (by omega) (by omega) (by omega) (fun j => by
        rcases (by omega : j = 0 ∨ j = 1 ∨ 2 ≤ j) with rfl | rfl | hj
        · simp; omega
        · simp; omega
        · rw [List.getElem?_eq_none (by simpa using hj)]; simp) G2 hG).mono ?_
      rintro r w9 ⟨rfl, hs⟩
      have hs2 := hal.trans (hs.mono (by simp))
      replace x1 := blk_keep x1 hs2
      replace x2 := blk_keep x2 hs2
      replace BW := BW.trans (hs2.mono BW.size)
      clear hs hs2 hal f0 f1 g0 g1 g2
      have f0 := cell_block x1 0
      have f1 := cell_block x1 1
      have g0 := cell_block x2 0
      have g1 := cell_block x2 1
      have g2 := cell_block x2 2
      by_cases hg1 : gcds [d, v, u] = 1
      case neg =>
        have h9 := (if_neg hg1).symm.trans HI.out
        cases h9
        have hgg : (G2 != 1) = true := bne_iff_ne.2 (fun h => hg1 (by have : ((gcds [d, v, u] : Nat) : Int) = G2 := hG; omega))
        clear hG hg1
        go_wp2_with fail
        refine bodyPost_ret (v := .tuple #[.int .i64 0, .int .i64 3]) (by simp [results, Tryz.results14, go_sem]) rfl ⟨rfl, BW⟩
      replace HI := Lib.hid (show ckF xs ps D d v u t = (I, E) from (if_pos hg1).symm.trans HI.out)
      have hgg : (G2 != 1) = false := by rw [← hG, show gcds ([d] ++ [v, u]) = 1 from hg1]; rfl
      clear hG hg1
      obtain ⟨A1, hA1⟩ : ∃ z, sumT ps t = z := ⟨_, rfl⟩
      obtain ⟨A2, hA2⟩ : ∃ z, sumT (sumsF ps) t = z := ⟨_, rfl⟩
      go_wp2_with fail
      refine (rEnd_any b t e ps _ (h2.keep BW) (by omega) HPB.out A1 A2 hA1 hA2).mono ?_
      rintro r w10 ⟨rfl, hs⟩
      replace x1 := blk_keep x1 hs
      replace x2 := blk_keep x2 hs
      replace BW := BW.trans (hs.mono BW.size)
      clear hs f0 f1 g0 g1 g2 hgg
      have hal := (Below.refl w10.heap.size w10).alloc (Nat.le_refl _) (.cells #[.int .i64 A1, .int .i64 A2] 71)
      have x3 := alloc_new w10 (.cells #[.int .i64 A1, .int .i64 A2] 71)
      replace x1 := blk_keep x1 hal
      replace x2 := blk_keep x2 hal
      replace BW := BW.trans (hal.mono BW.size)
      have k0 := cell_block x3 0
      have k1 := cell_block x3 1
      by_cases hs1 : sumT ps t = 0
      case neg =>
        have h9 := (if_neg hs1).symm.trans HI.out
        cases h9
        have hss : (A1 != 0) = true := bne_iff_ne.2 (by rw [← hA1]; exact hs1)
        clear hA1 hA2 hs1
        go_wp2_with fail
        refine bodyPost_ret (v := .tuple #[.int .i64 0, .int .i64 21]) (by simp [results, Tryz.results14, go_sem]) rfl ⟨rfl, BW⟩
      replace HI := Lib.hid (show ckG xs ps D d v u t = (I, E) from (if_pos hs1).symm.trans HI.out)
      have hss : (A1 != 0) = false := by rw [← hA1, hs1]; rfl
      clear hs1
      by_cases hs2 : sumT (sumsF ps) t = 0
      case neg =>
        have h9 := (if_neg hs2).symm.trans HI.out
        cases h9
        have hss2 : (A2 != 0) = true := bne_iff_ne.2 (by rw [← hA2]; exact hs2)
        clear hA1 hA2 hs2
        go_wp2_with fail
        refine bodyPost_ret (v := .tuple #[.int .i64 1, .int .i64 21]) (by simp [results, Tryz.results14, go_sem]) rfl ⟨rfl, BW⟩
      replace HI := Lib.hid (show ckOut (fBad (ckBad xs ps D d v u t) 0 t) = (I, E) from (if_pos hs2).symm.trans HI.out)
      have hss2 : (A2 != 0) = false := by rw [← hA2, hs2]; rfl
      clear hs2 hA1 hA2
      go_wp2_with fail
      clear hss hss2 k0 k1 x3 hal
      generalize World.alloc _ _ = w11 at x1 x2 BW ⊢
      have hl2 := blk_lt x2
      go_loopw [10] (fun z wr => ∃ j : Nat, z = .int .i64 (j : Int) ∧ j ≤ t ∧ ckOut (fBad (ckBad xs ps D d v u t) j (t - j)) = (I, E) ∧ Below w11.heap.size w11 wr) (fun z _ => t - (intOf z).toNat)
      case atStart => exact ⟨0, rfl, by omega, by rw [Nat.sub_zero]; exact HI.out, Below.refl _ _⟩
      case round =>
        obtain ⟨j, rfl, hj0, hck, hbr⟩ := hrel
        clear HI
        have Bw := BW.trans (hbr.mono BW.size)
        have y1 := blk_keep x1 hbr
        have y2 := blk_keep x2 hbr
        by_cases hjl : j < t
        · have hj1 : (j : Int) < (t : Int) := by omega
          have hj2 : (0 : Int) ≤ (j : Int) := by omega
          obtain ⟨ba, oa, rfl, hca⟩ := (h1.keep Bw).at_ (by omega)
          have ea := hca j hjl
          obtain ⟨bb, ob, rfl, hcb⟩ := (h2.keep Bw).at_ (by omega)
          have eb := hcb j hjl
          have hxb := HB.out j
          have hpb := HPB.out j
          have hcmp := ck_cmp xs ps v u t j (show 0 < D by omega) (show 0 < d by omega)
          have e9 : t - j = (t - (j + 1)) + 1 := by omega
          rw [e9, fBad] at hck
          obtain ⟨x, hx⟩ : ∃ z, xs[j]?.getD 0 = z := ⟨_, rfl⟩
          obtain ⟨y, hy⟩ : ∃ z, ps[j]?.getD 0 = z := ⟨_, rfl⟩
          rw [hx] at ea hxb hcmp
          rw [hy] at eb hpb hcmp
          have HCMP := Lib.hid hcmp
          have HCK := Lib.hid hck
          clear hca hcb hx hy hcmp hck e9
          have f0 := cell_block y1 0
          have f1 := cell_block y1 1
          go_wp2_with fail
          refine Calmly.wp_region_mix 15 (.fl 0 <| .fl 1 <| .fl 2 <| .fl 3 <| .fl 4 <| .fl 5 <| .fl 6 <| .fl 8 <| .fl 9 <| .fl 10 <| .fl 11 <| .alt 7 (.alt 12 (.alt 13 (.eff 14 <| .tail [15]) (.eff 14 (.eff 13 <| .tail [15]))) (.eff 14 (.eff 12 <| .eff 13 <| .tail [15]))) (.eff 14 (.eff 7 <| .eff 12 <| .eff 13 <| .tail [15]))) (by kernel_rfl) (by kernel_rfl) ?_
          replace y1 := blk_keep y1 (Below.refl _ _).drew
          replace y2 := blk_keep y2 (Below.refl _ _).drew
          replace ea := cell_keep ea (Below.refl _ _).drew
          replace eb := cell_keep eb (Below.refl _ _).drew
          replace hbr := hbr.drew
          replace Bw := Bw.drew
          clear f0 f1
          generalize wr.drew = V at *
          have f0 := cell_block y1 0
          have f1 := cell_block y1 1
          have hk := Below.refl V.heap.size V
          rename_i K hK
          have hK' := fun a w (h : StopC _) => hK a w h.out
          clear hK
          have hkk : ∀ (b7 : Nat) (y82 y83 y84 y85 y86 y87 y88 y89 y90 y91 y92 y93 y94 y95 : Value) (c1 : Int) (c2 : Option Addr) (c3 c4 : Nat) (c5 : Int) (c6 : Option Addr) (c7 c8 : Nat) (X : World), V.heap.size ≤ b7 → Below V.heap.size V X → X.heap[b7]? = some (.cells #[.int .i64 c1, .slice c2 c3 c4, .int .i64 c5, .slice c6 c7 c8] 80) → RatV X c1 c2 c3 c4 c5 c6 c7 c8 (Rat.divInt y D - ((x : Int) : Rat)) → c3 ≤ 20 → c7 ≤ 20 → K { tmps := #[Value.slice (some { block := ba, off := oa }) t c, Value.agg #[Value.int IntKind.i64 D, Value.slice (some { block := bb, off := ob }) t e], Value.agg #[Value.int IntKind.i64 d, Value.int IntKind.i64 v, Value.int IntKind.i64 u], undef, Value.pointer (some { block := w.heap.size, off := 0 }), Value.pointer (some { block := w.heap.size + 1, off := 0 }), u6, u7, Value.int IntKind.i64 ↑t, Value.pointer (some { block := w10.heap.size, off := 0 }), Value.int IntKind.i64 ↑j, Value.pointer (some { block := b7, off := 0 }), u12, Value.pointer (some { block := w.heap.size, off := 0 }), Value.int IntKind.i64 D, Value.bool true, Value.bool false, Value.pointer (some { block := w.heap.size, off := 1 }), Value.slice (some { block := bb, off := ob }) t e, Value.int IntKind.i64 ↑t, Value.slice (some { block := ba, off := oa }) t c, Value.int IntKind.i64 ↑t, Value.bool false, Value.int IntKind.i64 ↑t, Value.slice (some { block := ba, off := oa }) t c, Value.int IntKind.i64 ↑t, Value.bool false, u27, u28, u29, u30, u31, u32, u33, u34, u35, Value.pointer (some { block := w.heap.size, off := 0 }), Value.int IntKind.i64 D, Value.pointer (some { block := w.heap.size, off := 1 }), Value.slice (some { block := bb, off := ob }) t e, Value.int IntKind.i64 G, Value.bool false, Value.pointer (some { block := w.heap.size + 1, off := 0 }), Value.int IntKind.i64 d, Value.bool true, Value.bool false, Value.bool false, Value.pointer (some { block := w.heap.size + 1, off := 1 }), Value.int IntKind.i64 v, Value.bool true, Value.bool false, Value.bool false, Value.bool false, Value.pointer (some { block := w.heap.size + 1, off := 2 }), Value.int IntKind.i64 u, Value.bool true, Value.bool false, Value.bool false, Value.pointer (some { block := w.heap.size + 1, off := 0 }), Value.int IntKind.i64 d, Value.pointer (some { block := w.heap.size + 1, off := 1 }), Value.int IntKind.i64 v, Value.pointer (some { block := w.heap.size + 1, off := 2 }), Value.int IntKind.i64 u, Value.slice (some { block := w5.heap.size, off := 0 }) 2 2, Value.int IntKind.i64 G2, Value.bool false, Value.pointer (some { block := w.heap.size, off := 1 }), Value.slice (some { block := bb, off := ob }) t e, Value.agg #[Value.int IntKind.i64 A1, Value.int IntKind.i64 A2], Value.pointer (some { block := w10.heap.size, off := 0 }), Value.int IntKind.i64 A1, Value.bool false, Value.pointer (some { block := w10.heap.size, off := 1 }), Value.int IntKind.i64 A2, Value.bool false, Value.int IntKind.i64 ↑j, Value.slice (some { block := ba, off := oa }) t c, Value.int IntKind.i64 ↑t, Value.bool true, u80, u81, y82, y83, y84, y85, y86, y87, y88, y89, y90, y91, y92, y93, y94, y95, u96, u97, u98, u99, u100, u101, u102, u103, u104, u105, u106, u107, u108, u109, u110, u111, u112, u113, u114, u115, u116, u117], defers := [] } X := by
            intro b7 y82 y83 y84 y85 y86 y87 y88 y89 y90 y91 y92 y93 y94 y95 c1 c2 c3 c4 c5 c6 c7 c8 X hb7 hX X7 rX hc3 hc7
            refine hK' _ _ ⟨?_⟩
            clear hK' K f0 f1 ea eb
            replace y1 := blk_keep y1 hX
            replace y2 := blk_keep y2 hX
            replace hbr := hbr.trans (hX.mono hbr.size)
            replace Bw := Bw.trans (hX.mono Bw.size)
            have g0 := cell_block y2 0
            have g1 := cell_block y2 1
            have g2 := cell_block y2 2
            go_wp2_with fail
            refine Calmly.wp_region_mix 18 (.fl 0 <| .fl 1 <| .fl 2 <| .fl 3 <| .fl 5 <| .fl 6 <| .fl 7 <| .fl 8 <| .fl 10 <| .fl 11 <| .fl 12 <| .fl 13 <| .alt 4 (.alt 9 (.alt 14 (.alt 15 (.alt 16 (.eff 17 <| .tail [18]) (.eff 17 (.eff 16 <| .tail [18]))) (.eff 17 (.eff 15 <| .eff 16 <| .tail [18]))) (.eff 17 (.eff 14 <| .eff 15 <| .eff 16 <| .tail [18]))) (.eff 17 (.eff 9 <| .eff 14 <| .eff 15 <| .eff 16 <| .tail [18]))) (.eff 17 (.eff 4 <| .eff 9 <| .eff 14 <| .eff 15 <| .eff 16 <| .tail [18]))) (by kernel_rfl) (by kernel_rfl) ?_
            replace X7 := blk_keep X7 (Below.refl _ _).drew
            replace y1 := blk_keep y1 (Below.refl _ _).drew
            replace y2 := blk_keep y2 (Below.refl _ _).drew
            replace rX := rX.keep (Below.refl _ _).drew
            replace hbr := hbr.drew
            replace Bw := Bw.drew
            clear g0 g1 g2 hX
            generalize X.drew = Y at *
            have g0 := cell_block y2 0
            have g1 := cell_block y2 1
            have g2 := cell_block y2 2
            have hl7 := blk_lt X7
            have hk := Below.refl Y.heap.size Y
            rename_i K hK
            have hK' := fun a w (h : StopC _) => hK a w h.out
            clear hK
            go_wp2_with (first | ((with_reducible refine Calmly.is_fl ?_); refine Calmly.mix_fl rfl ?_ (fun _ _ => ?_); (first | exact .move _ | exact .load _ _ | exact .fieldAddr _ _ _ (by kernel_rfl) | exact .assign _ | exact .binOp _ _ _ _ _ rfl | exact .indexAddr _ _ _ | exact .len _ _ (by kernel_rfl) | exact .field _ _ _ | exact .extract _ _ | exact .pick _ _ _ | exact .build _ _ | exact .slice _ _ _ _ _ | exact .unOp _ _ _ rfl | exact .index _ _ _ | exact .max _ _ _ rfl rfl | exact .min _ _ _ rfl rfl)) | ((with_reducible refine Calmly.is_gl ?_); refine Calmly.mix_gl rfl rfl rfl ?_; first | ((first | with_reducible refine Calmly.gl_tt ?_ (fun _ _ => ?_) | with_reducible refine Calmly.gl_ff ?_ (fun _ _ => ?_)); (first | exact .move _ | exact .load _ _ | exact .fieldAddr _ _ _ (by kernel_rfl) | exact .assign _ | exact .binOp _ _ _ _ _ rfl | exact .indexAddr _ _ _ | exact .len _ _ (by kernel_rfl) | exact .field _ _ _ | exact .extract _ _ | exact .pick _ _ _ | exact .build _ _ | exact .slice _ _ _ _ _ | exact .unOp _ _ _ rfl | exact .index _ _ _ | exact .max _ _ _ rfl rfl | exact .min _ _ _ rfl rfl)) | with_reducible refine Calmly.gl_tf (fun _ _ => ?_) | with_reducible refine Calmly.gl_ft (fun _ _ => ?_)) | ((with_reducible refine Calmly.is_eff ?_); refine Calmly.mix_eff rfl (fun _ _ => ?_)) | ((with_reducible refine Calmly.is_gf ?_); refine Calmly.mix_gf rfl rfl rfl ?_; first | with_reducible refine Calmly.gf_tt (fun _ _ => ?_) | with_reducible refine Calmly.gf_ff (fun _ _ => ?_) | with_reducible refine Calmly.gf_tf (kept_of hk) (fun _ _ => ?_) | with_reducible refine Calmly.gf_ft (kept_of hk) (fun _ _ => ?_)) | ((with_reducible refine Calmly.is_kept ?_); refine ⟨kept_of hk, ?_⟩) | (with_reducible refine Calmly.mix_alt ?_ ?_) | (go_at_call 47; have hmk := rA; refine (RatioOf_any u d _ (by omega) (by omega) (by omega) (by omega) (by omega)).mono ?_; rintro e w' ⟨⟨q1, q2, q3, q4, q5, q6, q7, q8, rfl, qh, qh', rB⟩, hs⟩; replace hk := step_of hk hs; replace rA := rA.keep hs; replace rX := rX.keep hs; (try replace k8 := blk_keep k8 hs); clear hs hmk) | (go_at_call 47; refine (RatioOf_any v d _ (by omega) (by omega) (by omega) (by omega) (by omega)).mono ?_; rintro e w' ⟨⟨p1, p2, p3, p4, p5, p6, p7, p8, rfl, ph, ph', rA⟩, hs⟩; replace hk := step_of hk hs; replace rX := rX.keep hs; (try replace k8 := blk_keep k8 hs); clear hs) | (go_at_call 39; refine (RatioInt_any ((t : Int) - (j : Int)) _ (by omega) (by omega)).mono ?_; rintro e w' ⟨⟨n1, n2, n3, n4, n5, n6, n7, n8, rfl, nh, nh', rC⟩, hs⟩; replace hk := step_of hk hs; replace rA := rA.keep hs; replace rB := rB.keep hs; replace rX := rX.keep hs; (try replace k8 := blk_keep k8 hs); clear hs) | (go_at_call 40; refine (RatioMul_any _ _ _ _ _ _ _ _ _ _ _ _ _ _ _ _ 7 _ _ _ rB rC (by omega) (by omega) (by omega) (by omega) (by omega)).mono ?_; rintro e w' ⟨⟨m1, m2, m3, m4, m5, m6, m7, m8, rfl, mh, mh', rM⟩, hs⟩; replace hk := step_of hk hs; replace rA := rA.keep hs; replace rX := rX.keep hs; (try replace k8 := blk_keep k8 hs); clear hs) | (go_at_call 38; refine (RatioAdd_any _ _ _ _ _ _ _ _ _ _ _ _ _ _ _ _ 20 _ _ _ rA rM (by omega) (by omega) (by omega) (by omega) (by omega)).mono ?_; rintro e w' ⟨⟨a1, a2, a3, a4, a5, a6, a7, a8, rfl, ah, ah', rE⟩, hs⟩; replace hk := step_of hk hs; replace rX := rX.keep hs; (try replace k8 := blk_keep k8 hs); clear hs) | (refine kept_allocS hk (fun hs hk' hblk hge => ?_); generalize World.alloc _ _ = W' at hs hk' hblk ⊢; replace hk := hk'; clear hk'; (try replace rA := rA.keep hs); (try replace rB := rB.keep hs); (try replace rC := rC.keep hs); (try replace rM := rM.keep hs); (try replace rE := rE.keep hs); replace rX := rX.keep hs; have k8 := hblk; clear hs hblk))
            all_goals
              have z0 := cell_block k8 0
              have z1 := cell_block k8 1
              have z2 := cell_block k8 2
              have z3 := cell_block k8 3
              have z4 := frozen_block k8 0
              have z5 := frozen_block k8 1
              have z6 := frozen_block k8 2
              have z7 := frozen_block k8 3
              clear g0 g1 g2
            go_wp2_with (first | ((with_reducible refine Calmly.is_fl ?_); refine Calmly.mix_fl rfl ?_ (fun _ _ => ?_); (first | exact .move _ | exact .load _ _ | exact .fieldAddr _ _ _ (by kernel_rfl) | exact .assign _ | exact .binOp _ _ _ _ _ rfl | exact .indexAddr _ _ _ | exact .len _ _ (by kernel_rfl) | exact .field _ _ _ | exact .extract _ _ | exact .pick _ _ _ | exact .build _ _ | exact .slice _ _ _ _ _ | exact .unOp _ _ _ rfl | exact .index _ _ _ | exact .max _ _ _ rfl rfl | exact .min _ _ _ rfl rfl)) | ((with_reducible refine Calmly.is_gl ?_); refine Calmly.mix_gl rfl rfl rfl ?_; first | ((first | with_reducible refine Calmly.gl_tt ?_ (fun _ _ => ?_) | with_reducible refine Calmly.gl_ff ?_ (fun _ _ => ?_)); (first | exact .move _ | exact .load _ _ | exact .fieldAddr _ _ _ (by kernel_rfl) | exact .assign _ | exact .binOp _ _ _ _ _ rfl | exact .indexAddr _ _ _ | exact .len _ _ (by kernel_rfl) | exact .field _ _ _ | exact .extract _ _ | exact .pick _ _ _ | exact .build _ _ | exact .slice _ _ _ _ _ | exact .unOp _ _ _ rfl | exact .index _ _ _ | exact .max _ _ _ rfl rfl | exact .min _ _ _ rfl rfl)) | with_reducible refine Calmly.gl_tf (fun _ _ => ?_) | with_reducible refine Calmly.gl_ft (fun _ _ => ?_)) | ((with_reducible refine Calmly.is_eff ?_); refine Calmly.mix_eff rfl (fun _ _ => ?_)) | ((with_reducible refine Calmly.is_gf ?_); refine Calmly.mix_gf rfl rfl rfl ?_; first | with_reducible refine Calmly.gf_tt (fun _ _ => ?_) | with_reducible refine Calmly.gf_ff (fun _ _ => ?_) | with_reducible refine Calmly.gf_tf (kept_of hk) (fun _ _ => ?_) | with_reducible refine Calmly.gf_ft (kept_of hk) (fun _ _ => ?_)) | ((with_reducible refine Calmly.is_tail ?_); first | refine Calmly.mix_tail_nil ?_ | refine Calmly.mix_tail rfl (fun _ _ => ?_)) | ((with_reducible refine Calmly.is_kept ?_); refine ⟨kept_of hk, ?_⟩) | (with_reducible refine Calmly.mix_alt ?_ ?_))
            all_goals
              refine ⟨?_⟩
              obtain ⟨b8, Z, e2, e1, hb8, hZ, Z8, rZ, hfr⟩ := packC k8 rE hk (by omega)
              rw [e2, e1]
              replace rX := ratFrame rX hfr
              replace X7 := blk_keep X7 hZ
              replace hbr := hbr.trans (hZ.mono hbr.size)
              replace Bw := Bw.trans (hZ.mono Bw.size)
              clear e2 e1 k8 rE hk z0 z1 z2 z3 z4 z5 z6 z7 hfr hZ
              have f0 := cell_block X7 0
              have f1 := cell_block X7 1
              have f2 := cell_block X7 2
              have f3 := cell_block X7 3
              have g0 := cell_block Z8 0
              have g1 := cell_block Z8 1
              have g2 := cell_block Z8 2
              have g3 := cell_block Z8 3
            all_goals as_aux_lemma =>
              have hcmp := HCMP.out
              generalize Rat.divInt y D - ((x : Int) : Rat) = P9 at rX hcmp
              generalize Rat.divInt v d + Rat.divInt u d * (((t : Int) - (j : Int) : Int) : Rat) = Q9 at rZ hcmp
              replace HCMP := Lib.hid hcmp
              clear hcmp
              go_wp2_with fail
              refine (RatioCmp_any _ _ _ _ _ _ _ _ _ _ _ _ _ _ _ _ 100 _ _ Z rX rZ (by omega) (by omega) (by omega) (by omega) (by omega)).mono ?_
              rintro e w' ⟨rfl, hs⟩
              replace hbr := hbr.trans (hs.mono hbr.size)
              replace Bw := Bw.trans (hs.mono Bw.size)
              clear hs
              have hc := HCK.out
              by_cases hbad : ckBad xs ps D d v u t j = true
              · have hne := HCMP.out.1 hbad
                have hcn := bne_iff_ne.2 (fun h => hne (rat_cross.1 h))
                rw [if_pos hbad] at hc
                have h9 : ((j : Int), (19 : Int)) = (I, E) := hc
                cases h9
                clear hc hbad hne
                go_wp2_with fail
                refine bodyPost_ret (v := .tuple #[.int .i64 (j : Int), .int .i64 19]) (by simp [results, Tryz.results14, go_sem]) rfl ⟨rfl, Bw⟩
              · have heq := Decidable.byContradiction (fun h => hbad (HCMP.out.2 h))
                have hcn : (cmpI _ _ != 0) = false := bne_eq_false_iff_eq.2 (rat_cross.2 heq)
                rw [if_neg hbad] at hc
                have HC := Lib.hid hc
                clear hc hbad heq
                go_wp2_with fail
                go_roundw
                case rel => exact ⟨j + 1, by go_num, by omega, HC.out, hbr⟩
                case measure => simp [intOf]; omega
          have HKK := Lib.hid hkk
          clear hkk hK'
          go_wp2_with (first | ((with_reducible refine Calmly.is_fl ?_); refine Calmly.mix_fl rfl ?_ (fun _ _ => ?_); (first | exact .move _ | exact .load _ _ | exact .fieldAddr _ _ _ (by kernel_rfl) | exact .assign _ | exact .binOp _ _ _ _ _ rfl | exact .indexAddr _ _ _ | exact .len _ _ (by kernel_rfl) | exact .field _ _ _ | exact .extract _ _ | exact .pick _ _ _ | exact .build _ _ | exact .slice _ _ _ _ _ | exact .unOp _ _ _ rfl | exact .index _ _ _ | exact .max _ _ _ rfl rfl | exact .min _ _ _ rfl rfl)) | ((with_reducible refine Calmly.is_gl ?_); refine Calmly.mix_gl rfl rfl rfl ?_; first | ((first | with_reducible refine Calmly.gl_tt ?_ (fun _ _ => ?_) | with_reducible refine Calmly.gl_ff ?_ (fun _ _ => ?_)); (first | exact .move _ | exact .load _ _ | exact .fieldAddr _ _ _ (by kernel_rfl) | exact .assign _ | exact .binOp _ _ _ _ _ rfl | exact .indexAddr _ _ _ | exact .len _ _ (by kernel_rfl) | exact .field _ _ _ | exact .extract _ _ | exact .pick _ _ _ | exact .build _ _ | exact .slice _ _ _ _ _ | exact .unOp _ _ _ rfl | exact .index _ _ _ | exact .max _ _ _ rfl rfl | exact .min _ _ _ rfl rfl)) | with_reducible refine Calmly.gl_tf (fun _ _ => ?_) | with_reducible refine Calmly.gl_ft (fun _ _ => ?_)) | ((with_reducible refine Calmly.is_eff ?_); refine Calmly.mix_eff rfl (fun _ _ => ?_)) | ((with_reducible refine Calmly.is_gf ?_); refine Calmly.mix_gf rfl rfl rfl ?_; first | with_reducible refine Calmly.gf_tt (fun _ _ => ?_) | with_reducible refine Calmly.gf_ff (fun _ _ => ?_) | with_reducible refine Calmly.gf_tf (kept_of hk) (fun _ _ => ?_) | with_reducible refine Calmly.gf_ft (kept_of hk) (fun _ _ => ?_)) | ((with_reducible refine Calmly.is_kept ?_); refine ⟨kept_of hk, ?_⟩) | (with_reducible refine Calmly.mix_alt ?_ ?_) | (go_at_call 47; refine (RatioOf_any y D _ (by omega) (by omega) (by omega) (by omega) (by omega)).mono ?_; rintro e w' ⟨⟨p1, p2, p3, p4, p5, p6, p7, p8, rfl, ph, ph', rA⟩, hs⟩; replace hk := step_of hk hs; (try replace q8 := blk_keep q8 hs); clear hs) | (go_at_call 39; refine (RatioInt_any x _ (by omega) (by omega)).mono ?_; rintro e w' ⟨⟨i1, i2, i3, i4, i5, i6, i7, i8, rfl, ih, ih', rB⟩, hs⟩; replace hk := step_of hk hs; replace rA := rA.keep hs; (try replace q8 := blk_keep q8 hs); clear hs) | (go_at_call 46; refine (RatioSub_any _ _ _ _ _ _ _ _ _ _ _ _ _ _ _ _ 7 _ _ _ rA rB (by omega) (by omega) (by omega) (by omega) (by omega)).mono ?_; rintro e w' ⟨⟨c1, c2, c3, c4, c5, c6, c7, c8, rfl, ch, ch', rC⟩, hs⟩; replace hk := step_of hk hs; (try replace q8 := blk_keep q8 hs); clear hs) | (refine kept_allocS hk (fun hs hk' hblk hge => ?_); generalize World.alloc _ _ = W' at hs hk' hblk ⊢; replace hk := hk'; clear hk'; (try replace rA := rA.keep hs); (try replace rB := rB.keep hs); (try replace rC := rC.keep hs); have q8 := hblk; clear hs hblk))
          all_goals
            have z0 := cell_block q8 0
            have z1 := cell_block q8 1
            have z2 := cell_block q8 2
            have z3 := cell_block q8 3
            have z4 := frozen_block q8 0
            have z5 := frozen_block q8 1
            have z6 := frozen_block q8 2
            have z7 := frozen_block q8 3
          go_wp2_with (first | ((with_reducible refine Calmly.is_fl ?_); refine Calmly.mix_fl rfl ?_ (fun _ _ => ?_); (first | exact .move _ | exact .load _ _ | exact .fieldAddr _ _ _ (by kernel_rfl) | exact .assign _ | exact .binOp _ _ _ _ _ rfl | exact .indexAddr _ _ _ | exact .len _ _ (by kernel_rfl) | exact .field _ _ _ | exact .extract _ _ | exact .pick _ _ _ | exact .build _ _ | exact .slice _ _ _ _ _ | exact .unOp _ _ _ rfl | exact .index _ _ _ | exact .max _ _ _ rfl rfl | exact .min _ _ _ rfl rfl)) | ((with_reducible refine Calmly.is_gl ?_); refine Calmly.mix_gl rfl rfl rfl ?_; first | ((first | with_reducible refine Calmly.gl_tt ?_ (fun _ _ => ?_) | with_reducible refine Calmly.gl_ff ?_ (fun _ _ => ?_)); (first | exact .move _ | exact .load _ _ | exact .fieldAddr _ _ _ (by kernel_rfl) | exact .assign _ | exact .binOp _ _ _ _ _ rfl | exact .indexAddr _ _ _ | exact .len _ _ (by kernel_rfl) | exact .field _ _ _ | exact .extract _ _ | exact .pick _ _ _ | exact .build _ _ | exact .slice _ _ _ _ _ | exact .unOp _ _ _ rfl | exact .index _ _ _ | exact .max _ _ _ rfl rfl | exact .min _ _ _ rfl rfl)) | with_reducible refine Calmly.gl_tf (fun _ _ => ?_) | with_reducible refine Calmly.gl_ft (fun _ _ => ?_)) | ((with_reducible refine Calmly.is_eff ?_); refine Calmly.mix_eff rfl (fun _ _ => ?_)) | ((with_reducible refine Calmly.is_gf ?_); refine Calmly.mix_gf rfl rfl rfl ?_; first | with_reducible refine Calmly.gf_tt (fun _ _ => ?_) | with_reducible refine Calmly.gf_ff (fun _ _ => ?_) | with_reducible refine Calmly.gf_tf (kept_of hk) (fun _ _ => ?_) | with_reducible refine Calmly.gf_ft (kept_of hk) (fun _ _ => ?_)) | ((with_reducible refine Calmly.is_tail ?_); first | refine Calmly.mix_tail_nil ?_ | refine Calmly.mix_tail rfl (fun _ _ => ?_)) | ((with_reducible refine Calmly.is_kept ?_); refine ⟨kept_of hk, ?_⟩) | (with_reducible refine Calmly.mix_alt ?_ ?_))
          all_goals
            obtain ⟨b7, X, e2, e1, hb7, hX, X7, rX, _⟩ := packC q8 rC hk (by omega)
            rw [e2, e1]
            exact HKK.out _ _ _ _ _ _ _ _ _ _ _ _ _ _ _ _ _ _ _ _ _ _ _ _ hb7 hX X7 rX (by omega) (by omega)
        · obtain rfl : j = t := by omega
          rw [Nat.sub_self] at hck
          have h9 : ((0 : Int), (0 : Int)) = (I, E) := hck
          cases h9
          go_wp2_with fail
          refine bodyPost_ret (v := .tuple #[.int .i64 0, .int .i64 0]) (by simp [results, Tryz.results14, go_sem]) rfl ⟨rfl, Bw⟩
end Go.Proofs.YtfjcfbmfpefabaaGreat

namespace Go.Proofs.YtfjcfbmfpefabaaGreat
open Go.RowKit Go.Wides
open Calmly (Kept)

/-- How long the numbers of the distance may become. -/
def LK : Nat → Nat
  | 0 => 46
  | k + 1 => 2 * LK k + 6
theorem LK_bd (k : Nat) (h : k ≤ 24) : 46 ≤ LK k ∧ LK k ≤ 1000000000 := by
  have key : ∀ k : Fin 25, 46 ≤ LK k ∧ LK k ≤ 1000000000 := by decide
  exact key ⟨k, by omega⟩
/-- The distance of parts from samples. -/
def qS (xs ps : List Int) (D : Int) : Nat → Rat
  | 0 => ((0 : Int) : Rat)
  | k + 1 => qS xs ps D k + (Rat.divInt (ps[k]?.getD 0) D - ((xs[k]?.getD 0 : Int) : Rat)) * (Rat.divInt (ps[k]?.getD 0) D - ((xs[k]?.getD 0 : Int) : Rat))
theorem rat_sq (y x D p : Rat) (h : y * D = p) : (y - x) * (y - x) * (D * D) = (p - x * D) * (p - x * D) := by
  subst h
  grind
theorem rat_div (p D : Int) (h : D ≠ 0) : Rat.divInt p D * (D : Rat) = (p : Rat) := by
  have : (D : Rat) ≠ 0 := by simpa using h
  rw [Rat.divInt_eq_div]
  grind
theorem rat_cancel (a b c : Rat) (h : a * c ≤ b * c) (hc : 0 < c) : a ≤ b := by
  rcases (Rat.le_total (a := a) (b := b)) with h1 | h1
  · exact h1
  · have h2 := Rat.mul_le_mul_of_nonneg_right h1 (Rat.le_of_lt hc)
    have h3 : a * c = b * c := Rat.le_antisymm h h2
    have : c ≠ 0 := fun h => by rw [h] at hc; exact absurd hc (by decide)
    have h4 : a = b := by grind
    rw [h4]
    exact Rat.le_refl
theorem qS_eq (xs ps : List Int) (D : Int) (hD : 0 < D) (k : Nat) : qS xs ps D k * ((D : Rat) * (D : Rat)) = ((sF (fun t => (ps[t]?.getD 0 - xs[t]?.getD 0 * D) * (ps[t]?.getD 0 - xs[t]?.getD 0 * D)) k : Int) : Rat) := by
  induction k with
  | zero => simp [qS, sF]
  | succ k ih =>
    rw [qS, sF, Rat.add_mul, ih, rat_sq _ _ _ _ (rat_div (ps[k]?.getD 0) D (by omega))]
    push_cast
    rfl
/-- The comparison at the end. -/
theorem qS_cmp {xs ps : List Int} {D : Int} (hD : 0 < D) {n : Nat} {F : Int} (h : sF (fun t => (ps[t]?.getD 0 - xs[t]?.getD 0 * D) * (ps[t]?.getD 0 - xs[t]?.getD 0 * D)) n ≤ D * D * F) :
    cmpI ((qS xs ps D n).num * (((F : Rat).den : Nat) : Int)) ((F : Rat).num * ((qS xs ps D n).den : Int)) ≤ 0 := by
  have hle : qS xs ps D n ≤ (F : Rat) := by
    have hD' : (0 : Rat) < (D : Rat) := by exact_mod_cast hD
    refine rat_cancel _ _ ((D : Rat) * (D : Rat)) ?_ (Rat.mul_pos hD' hD')
    rw [qS_eq xs ps D hD n]
    have h2 : ((sF (fun t => (ps[t]?.getD 0 - xs[t]?.getD 0 * D) * (ps[t]?.getD 0 - xs[t]?.getD 0 * D)) n : Int) : Rat) ≤ ((D * D * F : Int) : Rat) := by exact_mod_cast h
    have h3 : ((D * D * F : Int) : Rat) = (F : Rat) * ((D : Rat) * (D : Rat)) := by push_cast; grind
    rw [h3] at h2
    exact h2
  have := (Rat.le_iff _ _).1 hle
  unfold cmpI
  split
  · decide
  · split
    · decide
    · omega

set_option maxRecDepth 100000 in
set_option maxHeartbeats 1000000 in
theorem copyParts_any (step : Int) (a : Option Addr) (n c : Nat) (xs : List Int) (w : World) (h1 : SI w a n c xs) (hn : n ≤ 1099511627776) :
    Calls Tryz.prog 10 #[.agg #[.int .i64 step, .slice a n c]] w fun e w' => ∃ a' c', e = .returned (.agg #[.int .i64 step, .slice a' n c']) ∧ OwI w' (w.heap.size + 2) a' n c' xs ∧ Below w.heap.size w w' := by
  have hb2 : Below w.heap.size w ((w.alloc (.cells #[.int .i64 step, .slice a n c] 26)).alloc (.cells #[.int .i64 0, .slice none 0 0] 26)) := ((Below.refl _ _).alloc (Nat.le_refl _) _).alloc (by simp) _
  go_enter Tryz.func10, Tryz.ntmps10
  go_wp2_with fail
  refine (copyInts_any a n c xs _ (h1.keep hb2) hn).mono ?_
  rintro e w1 ⟨a', c', rfl, o1, hs⟩
  obtain ⟨x1, x2⟩ := box2 (w := w) (o := .cells #[.int .i64 step, .slice a n c] 26) (o' := .cells #[.int .i64 0, .slice none 0 0] 26) hs
  have BW := hb2.trans (hs.mono hb2.size)
  have hl := blk_lt x2
  replace o1 := o1.weak (B' := w.heap.size + 2) (by simp)
  clear hs
  have f0 := cell_block x1 0
  have f1 := cell_block x1 1
  have f2 := frozen_block x1 1
  have g0 := cell_block x2 0
  have g1 := cell_block x2 1
  have g2 := frozen_block x2 0
  have g3 := frozen_block x2 1
  go_wp2_with fail
  have hne : w.heap.size ≠ w.heap.size + 1 := by omega
  have z1 : ((w1.setCell ⟨w.heap.size, 1, none⟩ (.slice a' n c')).heap[w.heap.size]?) = some (.cells #[.int .i64 step, .slice a' n c'] 26) := blk_setAt x1 1 _
  have z2 : ((w1.setCell ⟨w.heap.size, 1, none⟩ (.slice a' n c')).heap[w.heap.size + 1]?) = some (.cells #[.int .i64 0, .slice none 0 0] 26) := by
    rw [Below.heap_setCell _ _ _ _ (by show w.heap.size + 1 ≠ w.heap.size; omega)]
    exact x2
  replace o1 := o1.under (r := w.heap.size) (o := 1) (by omega) (.slice a' n c')
  replace BW := BW.setCell (p := ⟨w.heap.size, 1, none⟩) (Nat.le_refl _) (.slice a' n c')
  obtain ⟨s1, s2, s3, s4⟩ := set2 (x := .int .i64 step) (y := .slice a' n c') (cell_block z2 0) (cell_block z2 1)
  refine bodyPost_ret (v := .agg #[.int .i64 step, .slice a' n c']) (by simp [results, Tryz.results10, go_sem, s1, s2]) rfl ⟨a', c', rfl, ?_, ?_⟩
  · exact o1.under2 (by omega) _ _
  · exact (BW.setCell (by simp) _).setCell (by simp) _
end Go.Proofs.YtfjcfbmfpefabaaGreat
