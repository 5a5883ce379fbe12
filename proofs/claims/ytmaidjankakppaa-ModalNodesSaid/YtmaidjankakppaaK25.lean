/- The law ModalShapes, walked. -/
import Derived.Test.YtmaidjankakppaaK24
namespace Go.Proofs.Ytmaidjankakppaa
open Go.RowKit Go.Wides
open Calmly (Kept)

theorem OwI.off {w : World} {B : Nat} {a : Option Addr} {n c : Nat} {xs : List Int} {r : Nat} (h : OwI w B a n c xs) (hr : w.heap.size ≤ r) : ∀ b off, a = some ⟨b, off, none⟩ → b ≠ r := by
  rintro b off rfl
  have := (World.ownsRow.lt h b rfl).2
  omega
theorem OwI.offB {w : World} {B : Nat} {a : Option Addr} {n c : Nat} {xs : List Int} {r : Nat} (h : OwI w B a n c xs) (hr : r < B) : ∀ b off, a = some ⟨b, off, none⟩ → b ≠ r := by
  rintro b off rfl
  have := (World.ownsRow.lt h b rfl).1
  omega
theorem SI.setOff {w : World} {a : Option Addr} {n c : Nat} {xs : List Int} {r : Nat} (h : SI w a n c xs) (ho : ∀ b off, a = some ⟨b, off, none⟩ → b ≠ r) (o : Nat) (v : Value) : SI (w.setCell ⟨r, o, none⟩ v) a n c xs := by
  obtain ⟨h1, h2, h3, h4⟩ := h
  refine ⟨h1, h2, h3, ?_⟩
  rcases h4 with h4 | ⟨b, off, ha, hc⟩
  · exact .inl h4
  · refine .inr ⟨b, off, ha, fun i hi => ?_⟩
    rw [cell_set_ne (ho b off ha)]
    exact hc i hi
theorem kept_setS {W w : World} {b : Nat} {x y u0 u1 : Value} {t : TypeId} {a : Option Addr} {n c : Nat} {xs : List Int} {G : Prop} (h : Below W.heap.size W w) (hb : W.heap.size ≤ b) (p : w.heap[b]? = some (.cells #[u0, u1] t))
    (s : SI w a n c xs) (ho : ∀ b' off, a = some ⟨b', off, none⟩ → b' ≠ b)
    (k : Below W.heap.size W ((w.setCell ⟨b, 0, none⟩ x).setCell ⟨b, 1, none⟩ y) → ((w.setCell ⟨b, 0, none⟩ x).setCell ⟨b, 1, none⟩ y).heap[b]? = some (.cells #[x, y] t) → SI ((w.setCell ⟨b, 0, none⟩ x).setCell ⟨b, 1, none⟩ y) a n c xs → G) :
    Kept W ((w.setCell ⟨b, 0, none⟩ x).setCell ⟨b, 1, none⟩ y) ∧ G := by
  have h2 := (h.setCell (p := ⟨b, 0, none⟩) hb x).setCell (p := ⟨b, 1, none⟩) hb y
  exact ⟨kept_of h2, k h2 (blkSet (blkSet p 0 _) 1 _) ((s.setOff ho _ _).setOff ho _ _)⟩

set_option maxRecDepth 100000 in
set_option maxHeartbeats 8000000 in
theorem ModalShapes_walk (a b u z : Option Addr) (n c m d k e' l f' : Nat) (ms ks ls ns : List Int) (x y : Int) (w : World) (h1 : SI w a n c ms) (h2 : SI w b m d ks) (h3 : SI w u k e' ls) (h4 : SI w z l f' ns) (hx1 : -9223372036854775808 ≤ x) (hx2 : x ≤ 9223372036854775807) (hy2 : y ≤ 9223372036854775807) :
    Calls Try.prog 13 #[.agg #[.slice a n c, .slice b m d], .agg #[.int .i64 x, .int .i64 y], .agg #[.slice u k e', .slice z l f']] w fun e w' => e = .returned (.bool true) ∧ Below w.heap.size w w' := by
  have m1 := h1.max
  have c1 := h1.cap
  have m2 := h2.max
  have c2 := h2.cap
  have m3 := h3.max
  have c3 := h3.cap
  have m4 := h4.max
  have c4 := h4.cap
  have hA : ∀ (A : World) (o : Obj), Below A.heap.size A (A.alloc o) := fun A o => (Below.refl _ _).alloc (Nat.le_refl _) _
  have BW : Below w.heap.size w (((w.alloc (.cells #[.slice a n c, .slice b m d] 24)).alloc (.cells #[.int .i64 x, .int .i64 y] 34)).alloc (.cells #[.slice u k e', .slice z l f'] 115)) := (((Below.refl _ _).alloc (Nat.le_refl _) _).alloc (by simp) _).alloc (by simp; omega) _
  go_enter Try.func13, Try.ntmps13
  go_wp2_with fail
  refine (awake_any _).mono ?_
  rintro e w1 ⟨rfl, hs⟩
  obtain ⟨x1, x2, x3⟩ := box3r (w := w) (o := .cells #[.slice a n c, .slice b m d] 24) (o' := .cells #[.int .i64 x, .int .i64 y] 34) (o'' := .cells #[.slice u k e', .slice z l f'] 115) hs
  replace BW := BW.trans (hs.mono BW.size)
  clear hs
  have f0 := cell_block x1 0
  have f1 := cell_block x1 1
  go_wp2_with fail
  refine (few_any a b n c m d _ (by omega) (by omega)).mono ?_
  rintro e w2 ⟨rfl, hs⟩
  replace x1 := blk_keep x1 hs
  replace x2 := blk_keep x2 hs
  replace x3 := blk_keep x3 hs
  replace BW := BW.trans (hs.mono BW.size)
  clear hs f0 f1
  have g0 := cell_block x3 0
  have g1 := cell_block x3 1
  obtain ⟨FW, hFW⟩ : ∃ v, (decide (n ≤ 6) && decide (m ≤ 6)) = v := ⟨_, rfl⟩
  rw [hFW]
  cases FW
  · go_wp2_with fail
    go_ret
    exact ⟨rfl, BW⟩
  have hfew : n ≤ 6 ∧ m ≤ 6 := by
    rw [Bool.and_eq_true] at hFW
    exact ⟨of_decide_eq_true hFW.1, of_decide_eq_true hFW.2⟩
  clear hFW
  by_cases hk6 : k ≤ 6
  case neg =>
    have : (6 : Int) < (k : Int) := by omega
    go_wp2_with fail
    go_ret
    exact ⟨rfl, BW⟩
  have hk7 : (k : Int) ≤ 6 := by omega
  by_cases hl62 : l ≤ 62
  case neg =>
    have : (62 : Int) < (l : Int) := by omega
    go_wp2_with fail
    go_ret
    exact ⟨rfl, BW⟩
  have hl63 : (l : Int) ≤ 62 := by omega
  obtain ⟨hn6, hm6⟩ := hfew
  obtain ⟨C, hC⟩ : ∃ C, (checkF ms ks).2 = C := ⟨_, rfl⟩
  obtain ⟨E1, hE1⟩ : ∃ E, swayE ms ks ls = E := ⟨_, rfl⟩
  obtain ⟨E2, hE2⟩ : ∃ E, (if (checkF ms ks).2 = 0 then squareE x y else (checkF ms ks).2) = E := ⟨_, rfl⟩
  have hF1 : ∃ (R : Int) (xs : List Int), (E1 ≠ 0 → R = 0 ∧ xs = []) ∧ (E1 = 0 → (prodK ks n).tdiv (lowG (swPs ks ls n) (prodK ks n)) = R ∧ (swPs ks ls n).map (fun p => p.tdiv (lowG (swPs ks ls n) (prodK ks n))) = xs) ∧
      (E1 = 0 → xs.length = n ∧ (lcmQ (swQs ks ls n) : Int) = R ∧ comQ (swQs ks ls n) = xs ∧ R ≤ 100000000000000000 ∧ (∀ j : Nat, -100000000000000000 ≤ xs[j]?.getD 0 ∧ xs[j]?.getD 0 ≤ 100000000000000000)) := by
    by_cases h0 : E1 = 0
    · obtain ⟨R, xs, e1, e2, e3, e4, e5, e6, e7, e8⟩ := sway_facts (n := n) (by have := h1.len; omega) (hE1.trans h0)
      exact ⟨R, xs, fun h => absurd h0 h, fun _ => ⟨e1, e2⟩, fun _ => ⟨e3, e4, e5, by omega, fun j => by have := e8 j; omega⟩⟩
    · exact ⟨0, [], fun _ => ⟨rfl, rfl⟩, fun h => absurd h h0, fun h => absurd h h0⟩
  obtain ⟨R1, xs1, hno1, hok1, hft1⟩ := hF1
  have hF2 : ∃ (R S : Int) (xs : List Int), (E2 ≠ 0 → R = 0 ∧ S = 0 ∧ xs = []) ∧ (E2 = 0 → (shDen ks y (n - 1)).tdiv (lowG (shP ms ks x y (n - 1)) (shDen ks y (n - 1))) = R ∧ (shP ms ks x y (n - 1)).map (fun p => p.tdiv (lowG (shP ms ks x y (n - 1)) (shDen ks y (n - 1)))) = xs ∧ (pullI ms ks x y (shP ms ks x y (n - 1)) (n - 1)).sign = S) ∧
      (E2 = 0 → xs.length = n ∧ (lcmQ (shQs ms ks (Rat.divInt x y) n) : Int) = R ∧ comQ (shQs ms ks (Rat.divInt x y) n) = xs ∧ (pullQ ms ks (Rat.divInt x y) (n - 1)).num.sign = S ∧ R ≤ 100000000000000000 ∧ (∀ j : Nat, -100000000000000000 ≤ xs[j]?.getD 0 ∧ xs[j]?.getD 0 ≤ 100000000000000000)) := by
    by_cases h0 : E2 = 0
    · have hc : (checkF ms ks).2 = 0 := by
        by_cases h : (checkF ms ks).2 = 0
        · exact h
        · rw [if_neg h] at hE2
          omega
      rw [if_pos hc] at hE2
      obtain ⟨R, xs, S, e1, e2, e3, e4, e5, e6, e7, e8, e9, e10⟩ := shape_facts (n := n) (by have := h1.len; omega) hc (hE2.trans h0)
      exact ⟨R, S, xs, fun h => absurd h0 h, fun _ => ⟨e1, e2, e3⟩, fun _ => ⟨e4, e5, e6, e7, by omega, fun j => by have := e10 j; omega⟩⟩
    · exact ⟨0, 0, [], fun _ => ⟨rfl, rfl, rfl⟩, fun h => absurd h h0, fun h => absurd h h0⟩
  obtain ⟨R2, S2, xs2, hno2, hok2, hft2⟩ := hF2
  have HC := Lib.hid hC
  have HE1 := Lib.hid hE1
  have HE2 := Lib.hid hE2
  have HNO1 := Lib.hid hno1
  have HOK1 := Lib.hid hok1
  have HFT1 := Lib.hid hft1
  have HNO2 := Lib.hid hno2
  have HOK2 := Lib.hid hok2
  have HFT2 := Lib.hid hft2
  clear hC hE1 hE2 hno1 hok1 hft1 hno2 hok2 hft2
  go_wp2_with fail
  refine Calmly.wp_region_mix 11 (.fl 0 <| .fl 2 <| .fl 3 <| .alt 1 (.alt 4 (.alt 5 (.fl 6 <| .fl 7 <| .fl 8 <| .eff 9 <| .eff 10 <| .tail [11]) (.eff 9 (.eff 5 <| .fl 6 <| .fl 7 <| .fl 8 <| .eff 10 <| .tail [11]))) (.eff 9 (.eff 4 <| .eff 5 <| .fl 6 <| .fl 7 <| .fl 8 <| .eff 10 <| .tail [11]))) (.eff 9 (.eff 1 <| .eff 4 <| .eff 5 <| .fl 6 <| .fl 7 <| .fl 8 <| .eff 10 <| .tail [11]))) (by kernel_rfl) (by kernel_rfl) ?_
  rename_i K hK
  have hK' := fun a w (h : Stop _) => hK a w h.out
  clear hK
  replace x1 : w2.drew.heap[w.heap.size]? = some (.cells #[.slice a n c, .slice b m d] 24) := x1
  replace x2 : w2.drew.heap[w.heap.size + 1]? = some (.cells #[.int .i64 x, .int .i64 y] 34) := x2
  replace x3 : w2.drew.heap[w.heap.size + 1 + 1]? = some (.cells #[.slice u k e', .slice z l f'] 115) := x3
  replace BW := BW.drew
  clear g0 g1
  generalize w2.drew = U at x1 x2 x3 BW ⊢
  have HKK : ∀ (b7 : Nat) (a7 : Option Addr) (c7 : Nat) (y18 y19 y20 y21 y22 y23 y24 y25 y26 y27 y28 y29 y30 y31 y32 y33 y34 y35 y36 y37 y38 y39 y40 y41 y42 y43 : Value) (v : World), U.heap.size ≤ b7 → Below U.heap.size U v → v.heap[b7]? = some (.cells #[.int .i64 R1, .slice a7 xs1.length c7] 117) → SI v a7 xs1.length c7 xs1 → K { tmps := #[Value.agg #[Value.slice a n c, Value.slice b m d], Value.agg #[Value.int IntKind.i64 x, Value.int IntKind.i64 y], Value.agg #[Value.slice u k e', Value.slice z l f'], Value.pointer (some ⟨w.heap.size, 0, none⟩), Value.pointer (some ⟨w.heap.size + 1, 0, none⟩), Value.pointer (some ⟨w.heap.size + 1 + 1, 0, none⟩), Value.bool false, Value.pointer (some ⟨b7, 0, none⟩), Value.int IntKind.i64 E1, undef, undef, undef, undef, undef, undef, undef, undef, undef, y18, y19, y20, y21, y22, y23, y24, y25, y26, y27, y28, y29, y30, y31, y32, y33, y34, y35, y36, y37, y38, y39, y40, y41, y42, y43, undef, undef, undef, undef, undef, undef, undef, undef, undef, undef, undef, undef, undef, undef, undef, undef, undef, undef, undef, undef, undef, undef, undef, undef, undef, undef, undef, undef, undef, undef, undef, undef, undef, undef, undef, undef, undef, undef, undef, undef, undef, undef, undef, undef, undef, undef, undef, undef, undef, undef, undef, undef, undef, undef, undef, undef, undef, undef, undef, undef, undef, undef, undef, undef, undef, undef, undef, undef, undef, undef, undef, undef, undef, undef, undef, undef, undef, undef, undef, undef, undef, undef, undef, undef, undef, undef, undef, undef, undef, undef, undef, undef, undef, undef, undef, undef, undef, undef, undef, undef, undef, undef, undef, undef, undef, undef, undef, undef, undef, undef], defers := [] } v := by
    intro b7 a7 c7 y18 y19 y20 y21 y22 y23 y24 y25 y26 y27 y28 y29 y30 y31 y32 y33 y34 y35 y36 y37 y38 y39 y40 y41 y42 y43 v hb7 hv X7 s7
    refine hK' _ _ ⟨?_⟩
    clear hK' K
    replace x1 := blk_keep x1 hv
    replace x2 := blk_keep x2 hv
    replace x3 := blk_keep x3 hv
    replace BW := BW.trans (hv.mono BW.size)
    clear hv hb7
    go_wp2_with fail
    refine Calmly.wp_region_mix 11 (.fl 0 <| .fl 2 <| .alt 1 (.alt 3 (.fl 4 <| .fl 5 <| .fl 6 <| .fl 7 <| .eff 8 <| .eff 9 <| .fl 10 <| .tail [11]) (.eff 8 (.eff 3 <| .fl 4 <| .fl 5 <| .fl 6 <| .fl 7 <| .eff 9 <| .fl 10 <| .tail [11]))) (.eff 8 (.eff 1 <| .eff 3 <| .fl 4 <| .fl 5 <| .fl 6 <| .fl 7 <| .eff 9 <| .fl 10 <| .tail [11]))) (by kernel_rfl) (by kernel_rfl) ?_
    rename_i K hK
    have hK' := fun a w (h : Stop _) => hK a w h.out
    clear hK
    replace x1 : v.drew.heap[w.heap.size]? = some (.cells #[.slice a n c, .slice b m d] 24) := x1
    replace x2 : v.drew.heap[w.heap.size + 1]? = some (.cells #[.int .i64 x, .int .i64 y] 34) := x2
    replace x3 : v.drew.heap[w.heap.size + 1 + 1]? = some (.cells #[.slice u k e', .slice z l f'] 115) := x3
    replace X7 : v.drew.heap[b7]? = some (.cells #[.int .i64 R1, .slice a7 xs1.length c7] 117) := X7
    replace BW := BW.drew
    replace s7 := s7.keep (Below.refl _ _).drew
    generalize v.drew = V at x1 x2 x3 X7 s7 BW ⊢
    have HKK : ∀ (b9 : Nat) (a9 : Option Addr) (c9 : Nat) (y44 y45 y46 y47 y48 y49 y50 y51 : Value) (v : World), V.heap.size ≤ b9 → Below V.heap.size V v → v.heap[b9]? = some (.cells #[.int .i64 R2, .slice a9 xs2.length c9] 117) → SI v a9 xs2.length c9 xs2 → K { tmps := #[Value.agg #[Value.slice a n c, Value.slice b m d], Value.agg #[Value.int IntKind.i64 x, Value.int IntKind.i64 y], Value.agg #[Value.slice u k e', Value.slice z l f'], Value.pointer (some ⟨w.heap.size, 0, none⟩), Value.pointer (some ⟨w.heap.size + 1, 0, none⟩), Value.pointer (some ⟨w.heap.size + 1 + 1, 0, none⟩), Value.bool false, Value.pointer (some ⟨b7, 0, none⟩), Value.int IntKind.i64 E1, Value.pointer (some ⟨b9, 0, none⟩), Value.int IntKind.i64 S2, Value.int IntKind.i64 E2, undef, undef, undef, undef, undef, undef, y18, y19, y20, y21, y22, y23, y24, y25, y26, y27, y28, y29, y30, y31, y32, y33, y34, y35, y36, y37, y38, y39, y40, y41, y42, y43, y44, y45, y46, y47, y48, y49, y50, y51, undef, undef, undef, undef, undef, undef, undef, undef, undef, undef, undef, undef, undef, undef, undef, undef, undef, undef, undef, undef, undef, undef, undef, undef, undef, undef, undef, undef, undef, undef, undef, undef, undef, undef, undef, undef, undef, undef, undef, undef, undef, undef, undef, undef, undef, undef, undef, undef, undef, undef, undef, undef, undef, undef, undef, undef, undef, undef, undef, undef, undef, undef, undef, undef, undef, undef, undef, undef, undef, undef, undef, undef, undef, undef, undef, undef, undef, undef, undef, undef, undef, undef, undef, undef, undef, undef, undef, undef, undef, undef, undef, undef, undef, undef, undef, undef, undef, undef, undef, undef, undef, undef], defers := [] } v := by
      intro b9 a9 c9 y44 y45 y46 y47 y48 y49 y50 y51 v hb9 hv X9 s9
      refine hK' _ _ ⟨?_⟩
      clear hK' K
      replace x1 := blk_keep x1 hv
      replace x2 := blk_keep x2 hv
      replace x3 := blk_keep x3 hv
      replace X7 := blk_keep X7 hv
      replace s7 := s7.keep hv
      replace BW := BW.trans (hv.mono BW.size)
      clear hv hb9
      obtain ⟨EN, hEN⟩ : ∃ E, (if l ≤ 60 then (0 : Int) else 8) = E := ⟨_, rfl⟩
      obtain ⟨RN, hRN⟩ : ∃ R, (if l ≤ 60 then (ndTo ns l).1 else 0) = R := ⟨_, rfl⟩
      have HEN := Lib.hid hEN
      have HRN := Lib.hid hRN
      clear hEN hRN
      have f0 := cell_block x1 0; have f1 := cell_block x1 1; have f2 := cell_block x2 0; have f3 := cell_block x2 1; have f4 := cell_block x3 0; have f5 := cell_block x3 1; have f6 := cell_block X7 0; have f7 := cell_block X7 1; have f8 := cell_block X9 0; have f9 := cell_block X9 1
      go_wp2_with fail
      refine (copyInts_any z l f' ns _ (h4.keep BW) (by omega)).mono ?_
      rintro e w3 ⟨az, cz, rfl, oz, hs⟩
      replace BW := BW.trans (hs.mono BW.size); replace x1 := blk_keep x1 hs; replace x2 := blk_keep x2 hs; replace x3 := blk_keep x3 hs; replace X7 := blk_keep X7 hs; replace s7 := s7.keep hs; replace X9 := blk_keep X9 hs; replace s9 := s9.keep hs
      clear hs
      clear f0 f1 f2 f3 f4 f5 f6 f7 f8 f9
      have sz := oz.si
      clear oz
      go_wp2_with fail
      refine (NodesOf_any az l cz ns _ sz EN RN HEN.out HRN.out).mono ?_
      rintro e w4 ⟨rfl, hs⟩
      replace BW := BW.trans (hs.mono BW.size); replace x1 := blk_keep x1 hs; replace x2 := blk_keep x2 hs; replace x3 := blk_keep x3 hs; replace X7 := blk_keep X7 hs; replace s7 := s7.keep hs; replace X9 := blk_keep X9 hs; replace s9 := s9.keep hs
      clear hs sz
      have f0 := cell_block x1 0; have f1 := cell_block x1 1; have f2 := cell_block x2 0; have f3 := cell_block x2 1; have f4 := cell_block x3 0; have f5 := cell_block x3 1; have f6 := cell_block X7 0; have f7 := cell_block X7 1; have f8 := cell_block X9 0; have f9 := cell_block X9 1
      by_cases hl60 : l ≤ 60
      case' neg =>
        have hl61 : (60 : Int) < (l : Int) := by omega
        obtain rfl : EN = 8 := by rw [← HEN.out, if_neg hl60]
        obtain rfl : RN = 0 := by rw [← HRN.out, if_neg hl60]
        clear hl60
        go_wp2_with fail
      case' pos =>
        have hl61 : (l : Int) ≤ 60 := by omega
        obtain rfl : EN = 0 := by rw [← HEN.out, if_pos hl60]
        have hRN2 : (ndTo ns l).1 = RN := by rw [← HRN.out, if_pos hl60]
        have HRN2 := Lib.hid hRN2
        clear hRN2 hl60
        go_wp2_with fail
        refine (rNodes_any z l f' ns _ (h4.keep BW) RN HRN2.out).mono ?_
        rintro e w5 ⟨rfl, hs⟩
        replace BW := BW.trans (hs.mono BW.size); replace x1 := blk_keep x1 hs; replace x2 := blk_keep x2 hs; replace x3 := blk_keep x3 hs; replace X7 := blk_keep X7 hs; replace s7 := s7.keep hs; replace X9 := blk_keep X9 hs; replace s9 := s9.keep hs
        clear hs HRN2
        clear f0 f1 f2 f3 f4 f5 f6 f7 f8 f9
        have f0 := cell_block x1 0; have f1 := cell_block x1 1; have f2 := cell_block x2 0; have f3 := cell_block x2 1; have f4 := cell_block x3 0; have f5 := cell_block x3 1; have f6 := cell_block X7 0; have f7 := cell_block X7 1; have f8 := cell_block X9 0; have f9 := cell_block X9 1
        go_wp2_with fail
      all_goals
        refine (FrameErr_any a b n c m d ms ks _ (h1.keep BW) (h2.keep BW)).mono ?_
        rintro e v1 ⟨rfl, hs⟩
        rw [HC.out]
        replace BW := BW.trans (hs.mono BW.size); replace x1 := blk_keep x1 hs; replace x2 := blk_keep x2 hs; replace x3 := blk_keep x3 hs; replace X7 := blk_keep X7 hs; replace s7 := s7.keep hs; replace X9 := blk_keep X9 hs; replace s9 := s9.keep hs
        clear hs
        clear HRN HEN hl61
        clear f0 f1 f2 f3 f4 f5 f6 f7 f8 f9
        have f0 := cell_block x1 0; have f1 := cell_block x1 1; have f2 := cell_block x2 0; have f3 := cell_block x2 1; have f4 := cell_block x3 0; have f5 := cell_block x3 1; have f6 := cell_block X7 0; have f7 := cell_block X7 1; have f8 := cell_block X9 0; have f9 := cell_block X9 1
        by_cases hz : C = 0
        case neg =>
          have e1 := HE1.out
          unfold swayE at e1
          rw [HC.out, if_neg hz] at e1
          have e2 := HE2.out
          rw [HC.out, if_neg hz] at e2
          subst e1
          subst e2
          obtain ⟨r1, r2⟩ := HNO1.out hz
          obtain ⟨r3, r4, r5⟩ := HNO2.out hz
          have HS1 : Hid ((R1 == 0 && decide (xs1 = [])) = true) := Lib.hid (by rw [r1, r2]; rfl)
          have HS2 : Hid ((R2 == 0 && decide (xs2 = [])) = true) := Lib.hid (by rw [r3, r5]; rfl)
          have b4 : (S2 == 0) = true := by rw [r4]; rfl
          have b1 : (C != 0) = true := by simpa using hz
          have b2 : (C == 0) = false := by simpa using hz
          have HZ := Lib.hid hz
          clear hz r1 r2 r3 r4 r5
          go_wp2_with fail
          refine Calmly.wp_region_mix 29 (.fl 0 <| .fl 1 <| .fl 2 <| .gl 3 <| .gl 4 <| .gl 5 <| .gl 6 <| .gl 7 <| .gl 8 <| .gf 9 <| .gl 10 <| .gl 11 <| .fl 12 <| .fl 13 <| .gl 14 <| .gl 15 <| .gl 16 <| .gl 17 <| .gl 18 <| .gl 19 <| .gl 20 <| .gl 21 <| .gl 22 <| .gl 23 <| .gf 24 <| .gf 25 <| .gl 26 <| .gl 27 <| .gl 28 <| .tail [29]) (by kernel_rfl) (by kernel_rfl) ?_; replace x1 := blk_keep x1 (Below.refl _ _).drew; replace x2 := blk_keep x2 (Below.refl _ _).drew; replace x3 := blk_keep x3 (Below.refl _ _).drew; replace X7 := blk_keep X7 (Below.refl _ _).drew; replace X9 := blk_keep X9 (Below.refl _ _).drew; replace s7 := s7.keep (Below.refl _ _).drew; replace s9 := s9.keep (Below.refl _ _).drew; replace BW := BW.drew; clear f0 f1 f2 f3 f4 f5 f6 f7 f8 f9; generalize World.drew _ = V3 at x1 x2 x3 X7 X9 s7 s9 BW ⊢; have f0 := cell_block x1 0; have f1 := cell_block x1 1; have f2 := cell_block x2 0; have f3 := cell_block x2 1; have f4 := cell_block x3 0; have f5 := cell_block x3 1; have f6 := cell_block X7 0; have f7 := cell_block X7 1; have f8 := cell_block X9 0; have f9 := cell_block X9 1; have hk := Below.refl V3.heap.size V3
          go_wp2_with (first | ((with_reducible refine Calmly.is_fl ?_); refine Calmly.mix_fl rfl ?_ (fun _ _ => ?_); (first | exact .move _ | exact .load _ _ | exact .fieldAddr _ _ _ (by kernel_rfl) | exact .assign _ | exact .binOp _ _ _ _ _ rfl | exact .indexAddr _ _ _ | exact .len _ _ (by kernel_rfl) | exact .field _ _ _ | exact .extract _ _ | exact .pick _ _ _ | exact .build _ _ | exact .slice _ _ _ _ _ | exact .unOp _ _ _ rfl | exact .index _ _ _ | exact .max _ _ _ rfl rfl | exact .min _ _ _ rfl rfl)) | ((with_reducible refine Calmly.is_gl ?_); refine Calmly.mix_gl rfl rfl rfl ?_; first | ((first | with_reducible refine Calmly.gl_tt ?_ (fun _ _ => ?_) | with_reducible refine Calmly.gl_ff ?_ (fun _ _ => ?_)); (first | exact .move _ | exact .load _ _ | exact .fieldAddr _ _ _ (by kernel_rfl) | exact .assign _ | exact .binOp _ _ _ _ _ rfl | exact .indexAddr _ _ _ | exact .len _ _ (by kernel_rfl) | exact .field _ _ _ | exact .extract _ _ | exact .pick _ _ _ | exact .build _ _ | exact .slice _ _ _ _ _ | exact .unOp _ _ _ rfl | exact .index _ _ _ | exact .max _ _ _ rfl rfl | exact .min _ _ _ rfl rfl)) | with_reducible refine Calmly.gl_tf (fun _ _ => ?_) | with_reducible refine Calmly.gl_ft (fun _ _ => ?_)) | ((with_reducible refine Calmly.is_eff ?_); refine Calmly.mix_eff rfl (fun _ _ => ?_)) | ((with_reducible refine Calmly.is_gf ?_); refine Calmly.mix_gf rfl rfl rfl ?_; first | with_reducible refine Calmly.gf_tt (fun _ _ => ?_) | with_reducible refine Calmly.gf_ff (fun _ _ => ?_) | with_reducible refine Calmly.gf_tf (kept_of hk) (fun _ _ => ?_) | with_reducible refine Calmly.gf_ft (kept_of hk) (fun _ _ => ?_)) | ((with_reducible refine Calmly.is_tail ?_); first | refine Calmly.mix_tail_nil ?_ | refine Calmly.mix_tail rfl (fun _ _ => ?_)) | ((with_reducible refine Calmly.is_kept ?_); refine ⟨kept_of hk, ?_⟩) | (with_reducible refine Calmly.mix_alt ?_ ?_) | ((with_reducible refine Calmly.is_gl ?_); refine Calmly.mix_glu rfl rfl rfl (fun _ _ => ?_)) | ((with_reducible refine Calmly.is_gf ?_); refine Calmly.mix_gfu rfl rfl rfl (kept_of hk) (fun _ _ => ?_)) | (go_at_call 82; (refine (SameShape_any _ _ _ _ _ _ _ _ xs1 [] _ (s7.keep hk) (Sl.nil _ _)).mono ?_; rintro e v2 ⟨rfl, hs⟩; rw [HS1.out]; replace hk := step_of hk hs; clear hs; replace x1 := blk_keep x1 hk; replace x2 := blk_keep x2 hk; replace x3 := blk_keep x3 hk; replace X7 := blk_keep X7 hk; replace X9 := blk_keep X9 hk; replace s7 := s7.keep hk; replace s9 := s9.keep hk; replace BW := BW.trans (hk.mono BW.size); clear f0 f1 f2 f3 f4 f5 f6 f7 f8 f9; have f0 := cell_block x1 0; have f1 := cell_block x1 1; have f2 := cell_block x2 0; have f3 := cell_block x2 1; have f4 := cell_block x3 0; have f5 := cell_block x3 1; have f6 := cell_block X7 0; have f7 := cell_block X7 1; have f8 := cell_block X9 0; have f9 := cell_block X9 1)))
          clear hk
          refine (rSquareErr_any x y _ hx1 hx2 hy2).mono ?_
          rintro e v3 ⟨rfl, hs⟩
          replace BW := BW.trans (hs.mono BW.size); replace x1 := blk_keep x1 hs; replace x2 := blk_keep x2 hs; replace x3 := blk_keep x3 hs; replace X7 := blk_keep X7 hs; replace s7 := s7.keep hs; replace X9 := blk_keep X9 hs; replace s9 := s9.keep hs
          clear hs
          clear f0 f1 f2 f3 f4 f5 f6 f7 f8 f9
          have f0 := cell_block x1 0; have f1 := cell_block x1 1; have f2 := cell_block x2 0; have f3 := cell_block x2 1; have f4 := cell_block x3 0; have f5 := cell_block x3 1; have f6 := cell_block X7 0; have f7 := cell_block X7 1; have f8 := cell_block X9 0; have f9 := cell_block X9 1
          go_wp2_with fail
          refine (lawBoth_any _ _ _).mono ?_
          rintro e v4 ⟨rfl, rfl⟩
          rw [if_neg HZ.out]
          go_wp2_with fail
          refine (SameShape_any _ _ _ _ _ _ _ _ xs2 [] _ s9 (Sl.nil _ _)).mono ?_
          rintro e v5 ⟨rfl, hs⟩
          rw [HS2.out]
          replace BW := BW.trans (hs.mono BW.size)
          go_wp2_with fail
          go_ret
          exact ⟨rfl, BW⟩
        subst hz
        have hf := fr_of HC.out
        obtain ⟨l1, l2⟩ : n ≤ ms.length ∧ ms.length ≤ n := by have := h1.len; omega
        obtain ⟨g1, g2⟩ : k ≤ ls.length ∧ ls.length ≤ k := by have := h3.len; omega
        have hnm : m ≤ n ∧ n ≤ m := by have := h2.len; have := hf.len; omega
        obtain ⟨nm1, nm2⟩ := hnm
        obtain ⟨n0, n4⟩ : 0 < n ∧ n ≤ 4 := by have := hf.pos; have := hf.few; omega
        have e1 := HE1.out
        unfold swayE at e1
        rw [HC.out, if_pos rfl] at e1
        have hLE : loadsE n ls = E1 := by
          rw [show n = ms.length by omega]
          exact e1
        have e2 := HE2.out
        rw [HC.out, if_pos rfl] at e2
        have HLE := Lib.hid hLE
        have HE22 := Lib.hid e2
        clear hLE e1 e2
        go_wp2_with fail
        refine (LoadsErr_any a b u n c m d k e' ms ls _ (h1.keep BW) (h3.keep BW)).mono ?_
        rintro e v3 ⟨rfl, hs⟩
        rw [HLE.out]
        replace BW := BW.trans (hs.mono BW.size); replace x1 := blk_keep x1 hs; replace x2 := blk_keep x2 hs; replace x3 := blk_keep x3 hs; replace X7 := blk_keep X7 hs; replace s7 := s7.keep hs; replace X9 := blk_keep X9 hs; replace s9 := s9.keep hs
        clear hs
        clear f0 f1 f2 f3 f4 f5 f6 f7 f8 f9
        have f0 := cell_block x1 0; have f1 := cell_block x1 1; have f2 := cell_block x2 0; have f3 := cell_block x2 1; have f4 := cell_block x3 0; have f5 := cell_block x3 1; have f6 := cell_block X7 0; have f7 := cell_block X7 1; have f8 := cell_block X9 0; have f9 := cell_block X9 1
        by_cases hz : E1 = 0
        case' neg =>
          obtain ⟨r1, r2⟩ := HNO1.out hz
          have HS1 : Hid ((R1 == 0 && decide (xs1 = [])) = true) := Lib.hid (by rw [r1, r2]; rfl)
          have b1 : (E1 != 0) = true := by simpa using hz
          have b2 : (E1 == 0) = false := by simpa using hz
          clear hz r1 r2
          go_wp2_with fail
          refine Calmly.wp_region_mix 29 (.fl 0 <| .fl 1 <| .fl 2 <| .gl 3 <| .gl 4 <| .gl 5 <| .gl 6 <| .gl 7 <| .gl 8 <| .gf 9 <| .gl 10 <| .gl 11 <| .fl 12 <| .fl 13 <| .gl 14 <| .gl 15 <| .gl 16 <| .gl 17 <| .gl 18 <| .gl 19 <| .gl 20 <| .gl 21 <| .gl 22 <| .gl 23 <| .gf 24 <| .gf 25 <| .gl 26 <| .gl 27 <| .gl 28 <| .tail [29]) (by kernel_rfl) (by kernel_rfl) ?_; replace x1 := blk_keep x1 (Below.refl _ _).drew; replace x2 := blk_keep x2 (Below.refl _ _).drew; replace x3 := blk_keep x3 (Below.refl _ _).drew; replace X7 := blk_keep X7 (Below.refl _ _).drew; replace X9 := blk_keep X9 (Below.refl _ _).drew; replace s7 := s7.keep (Below.refl _ _).drew; replace s9 := s9.keep (Below.refl _ _).drew; replace BW := BW.drew; clear f0 f1 f2 f3 f4 f5 f6 f7 f8 f9; generalize World.drew _ = V3 at x1 x2 x3 X7 X9 s7 s9 BW ⊢; have f0 := cell_block x1 0; have f1 := cell_block x1 1; have f2 := cell_block x2 0; have f3 := cell_block x2 1; have f4 := cell_block x3 0; have f5 := cell_block x3 1; have f6 := cell_block X7 0; have f7 := cell_block X7 1; have f8 := cell_block X9 0; have f9 := cell_block X9 1; have hk := Below.refl V3.heap.size V3
          go_wp2_with (first | ((with_reducible refine Calmly.is_fl ?_); refine Calmly.mix_fl rfl ?_ (fun _ _ => ?_); (first | exact .move _ | exact .load _ _ | exact .fieldAddr _ _ _ (by kernel_rfl) | exact .assign _ | exact .binOp _ _ _ _ _ rfl | exact .indexAddr _ _ _ | exact .len _ _ (by kernel_rfl) | exact .field _ _ _ | exact .extract _ _ | exact .pick _ _ _ | exact .build _ _ | exact .slice _ _ _ _ _ | exact .unOp _ _ _ rfl | exact .index _ _ _ | exact .max _ _ _ rfl rfl | exact .min _ _ _ rfl rfl)) | ((with_reducible refine Calmly.is_gl ?_); refine Calmly.mix_gl rfl rfl rfl ?_; first | ((first | with_reducible refine Calmly.gl_tt ?_ (fun _ _ => ?_) | with_reducible refine Calmly.gl_ff ?_ (fun _ _ => ?_)); (first | exact .move _ | exact .load _ _ | exact .fieldAddr _ _ _ (by kernel_rfl) | exact .assign _ | exact .binOp _ _ _ _ _ rfl | exact .indexAddr _ _ _ | exact .len _ _ (by kernel_rfl) | exact .field _ _ _ | exact .extract _ _ | exact .pick _ _ _ | exact .build _ _ | exact .slice _ _ _ _ _ | exact .unOp _ _ _ rfl | exact .index _ _ _ | exact .max _ _ _ rfl rfl | exact .min _ _ _ rfl rfl)) | with_reducible refine Calmly.gl_tf (fun _ _ => ?_) | with_reducible refine Calmly.gl_ft (fun _ _ => ?_)) | ((with_reducible refine Calmly.is_eff ?_); refine Calmly.mix_eff rfl (fun _ _ => ?_)) | ((with_reducible refine Calmly.is_gf ?_); refine Calmly.mix_gf rfl rfl rfl ?_; first | with_reducible refine Calmly.gf_tt (fun _ _ => ?_) | with_reducible refine Calmly.gf_ff (fun _ _ => ?_) | with_reducible refine Calmly.gf_tf (kept_of hk) (fun _ _ => ?_) | with_reducible refine Calmly.gf_ft (kept_of hk) (fun _ _ => ?_)) | ((with_reducible refine Calmly.is_tail ?_); first | refine Calmly.mix_tail_nil ?_ | refine Calmly.mix_tail rfl (fun _ _ => ?_)) | ((with_reducible refine Calmly.is_kept ?_); refine ⟨kept_of hk, ?_⟩) | (with_reducible refine Calmly.mix_alt ?_ ?_) | ((with_reducible refine Calmly.is_gl ?_); refine Calmly.mix_glu rfl rfl rfl (fun _ _ => ?_)) | ((with_reducible refine Calmly.is_gf ?_); refine Calmly.mix_gfu rfl rfl rfl (kept_of hk) (fun _ _ => ?_)) | (go_at_call 82; (refine (SameShape_any _ _ _ _ _ _ _ _ xs1 [] _ (s7.keep hk) (Sl.nil _ _)).mono ?_; rintro e v2 ⟨rfl, hs⟩; rw [HS1.out]; replace hk := step_of hk hs; clear hs; replace x1 := blk_keep x1 hk; replace x2 := blk_keep x2 hk; replace x3 := blk_keep x3 hk; replace X7 := blk_keep X7 hk; replace X9 := blk_keep X9 hk; replace s7 := s7.keep hk; replace s9 := s9.keep hk; replace BW := BW.trans (hk.mono BW.size); clear f0 f1 f2 f3 f4 f5 f6 f7 f8 f9; have f0 := cell_block x1 0; have f1 := cell_block x1 1; have f2 := cell_block x2 0; have f3 := cell_block x2 1; have f4 := cell_block x3 0; have f5 := cell_block x3 1; have f6 := cell_block X7 0; have f7 := cell_block X7 1; have f8 := cell_block X9 0; have f9 := cell_block X9 1)))
          clear hk HS1 b1 b2
        case' pos =>
          subst hz
          obtain ⟨t1, t2, t3, t4, t5⟩ := HFT1.out rfl
          obtain ⟨u1, u2⟩ := loadsE_ok HLE.out
          have HT2 := Lib.hid t2
          have HT3 := Lib.hid t3
          have HT5 := Lib.hid t5
          have HU2 := Lib.hid u2
          have hkn : k ≤ n ∧ n ≤ k := by omega
          obtain ⟨kn1, kn2⟩ := hkn
          have HT1 : Hid (xs1.length = k) := Lib.hid (by omega)
          have HT22 : Hid ((lcmQ (swQs ks ls k) : Int) = R1) := Lib.hid (by rw [show k = n by omega]; exact HT2.out)
          have HT33 : Hid (comQ (swQs ks ls k) = xs1) := Lib.hid (by rw [show k = n by omega]; exact HT3.out)
          have HKS : Hid (∀ j, j < k → 1 ≤ ks[j]?.getD 0 ∧ ks[j]?.getD 0 ≤ 20) := Lib.hid (fun j hj => hf.k j (by omega))
          clear t1 t2 t3 t5 u1 u2 HT2 HT3
          have b1 : ((0 : Int) != 0) = false := rfl
          have b2 : ((0 : Int) == 0) = true := rfl
          go_wp2_with fail
          refine Calmly.wp_region_mix 29 (.fl 0 <| .fl 1 <| .fl 2 <| .gl 3 <| .gl 4 <| .gl 5 <| .gl 6 <| .gl 7 <| .gl 8 <| .gf 9 <| .gl 10 <| .gl 11 <| .fl 12 <| .fl 13 <| .gl 14 <| .gl 15 <| .gl 16 <| .gl 17 <| .gl 18 <| .gl 19 <| .gl 20 <| .gl 21 <| .gl 22 <| .gl 23 <| .gf 24 <| .gf 25 <| .gl 26 <| .gl 27 <| .gl 28 <| .tail [29]) (by kernel_rfl) (by kernel_rfl) ?_; replace x1 := blk_keep x1 (Below.refl _ _).drew; replace x2 := blk_keep x2 (Below.refl _ _).drew; replace x3 := blk_keep x3 (Below.refl _ _).drew; replace X7 := blk_keep X7 (Below.refl _ _).drew; replace X9 := blk_keep X9 (Below.refl _ _).drew; replace s7 := s7.keep (Below.refl _ _).drew; replace s9 := s9.keep (Below.refl _ _).drew; replace BW := BW.drew; clear f0 f1 f2 f3 f4 f5 f6 f7 f8 f9; generalize World.drew _ = V3 at x1 x2 x3 X7 X9 s7 s9 BW ⊢; have f0 := cell_block x1 0; have f1 := cell_block x1 1; have f2 := cell_block x2 0; have f3 := cell_block x2 1; have f4 := cell_block x3 0; have f5 := cell_block x3 1; have f6 := cell_block X7 0; have f7 := cell_block X7 1; have f8 := cell_block X9 0; have f9 := cell_block X9 1; have hk := Below.refl V3.heap.size V3
          go_wp2_with (first | ((with_reducible refine Calmly.is_fl ?_); refine Calmly.mix_fl rfl ?_ (fun _ _ => ?_); (first | exact .move _ | exact .load _ _ | exact .fieldAddr _ _ _ (by kernel_rfl) | exact .assign _ | exact .binOp _ _ _ _ _ rfl | exact .indexAddr _ _ _ | exact .len _ _ (by kernel_rfl) | exact .field _ _ _ | exact .extract _ _ | exact .pick _ _ _ | exact .build _ _ | exact .slice _ _ _ _ _ | exact .unOp _ _ _ rfl | exact .index _ _ _ | exact .max _ _ _ rfl rfl | exact .min _ _ _ rfl rfl)) | ((with_reducible refine Calmly.is_gl ?_); refine Calmly.mix_gl rfl rfl rfl ?_; first | ((first | with_reducible refine Calmly.gl_tt ?_ (fun _ _ => ?_) | with_reducible refine Calmly.gl_ff ?_ (fun _ _ => ?_)); (first | exact .move _ | exact .load _ _ | exact .fieldAddr _ _ _ (by kernel_rfl) | exact .assign _ | exact .binOp _ _ _ _ _ rfl | exact .indexAddr _ _ _ | exact .len _ _ (by kernel_rfl) | exact .field _ _ _ | exact .extract _ _ | exact .pick _ _ _ | exact .build _ _ | exact .slice _ _ _ _ _ | exact .unOp _ _ _ rfl | exact .index _ _ _ | exact .max _ _ _ rfl rfl | exact .min _ _ _ rfl rfl)) | with_reducible refine Calmly.gl_tf (fun _ _ => ?_) | with_reducible refine Calmly.gl_ft (fun _ _ => ?_)) | ((with_reducible refine Calmly.is_eff ?_); refine Calmly.mix_eff rfl (fun _ _ => ?_)) | ((with_reducible refine Calmly.is_gf ?_); refine Calmly.mix_gf rfl rfl rfl ?_; first | with_reducible refine Calmly.gf_tt (fun _ _ => ?_) | with_reducible refine Calmly.gf_ff (fun _ _ => ?_) | with_reducible refine Calmly.gf_tf (kept_of hk) (fun _ _ => ?_) | with_reducible refine Calmly.gf_ft (kept_of hk) (fun _ _ => ?_)) | ((with_reducible refine Calmly.is_tail ?_); first | refine Calmly.mix_tail_nil ?_ | refine Calmly.mix_tail rfl (fun _ _ => ?_)) | ((with_reducible refine Calmly.is_kept ?_); refine ⟨kept_of hk, ?_⟩) | (with_reducible refine Calmly.mix_alt ?_ ?_) | ((with_reducible refine Calmly.is_gl ?_); refine Calmly.mix_glu rfl rfl rfl (fun _ _ => ?_)) | ((with_reducible refine Calmly.is_gf ?_); refine Calmly.mix_gfu rfl rfl rfl (kept_of hk) (fun _ _ => ?_)) | (go_at_call 83; (refine (rSway_any a b u n c m d k e' ks ls _ ((h2.keep BW).keep hk) ((h3.keep BW).keep hk) (by omega) (by omega) HKS.out HU2.out R1 xs1 HT22.out t4 HT33.out HT5.out).mono ?_; rintro e v4 ⟨a4, c4', rfl, s4, hs⟩; replace hk := step_of hk hs; clear hs)) | (go_at_call 82; (refine (SameShape_any _ _ _ _ _ _ _ _ xs1 xs1 _ (s7.keep hk) s4).mono ?_; rintro e v2 ⟨rfl, hs⟩; rw [show (R1 == R1 && decide (xs1 = xs1)) = true by simp]; replace hk := step_of hk hs; clear hs; replace x1 := blk_keep x1 hk; replace x2 := blk_keep x2 hk; replace x3 := blk_keep x3 hk; replace X7 := blk_keep X7 hk; replace X9 := blk_keep X9 hk; replace s7 := s7.keep hk; replace s9 := s9.keep hk; replace BW := BW.trans (hk.mono BW.size); clear f0 f1 f2 f3 f4 f5 f6 f7 f8 f9; have f0 := cell_block x1 0; have f1 := cell_block x1 1; have f2 := cell_block x2 0; have f3 := cell_block x2 1; have f4 := cell_block x3 0; have f5 := cell_block x3 1; have f6 := cell_block X7 0; have f7 := cell_block X7 1; have f8 := cell_block X9 0; have f9 := cell_block X9 1)))
          clear hk b1 b2
        all_goals
          refine (rSquareErr_any x y _ hx1 hx2 hy2).mono ?_
          rintro e v5 ⟨rfl, hs⟩
          rw [HE22.out]
          replace BW := BW.trans (hs.mono BW.size); replace x1 := blk_keep x1 hs; replace x2 := blk_keep x2 hs; replace x3 := blk_keep x3 hs; replace X7 := blk_keep X7 hs; replace s7 := s7.keep hs; replace X9 := blk_keep X9 hs; replace s9 := s9.keep hs
          clear hs
          clear f0 f1 f2 f3 f4 f5 f6 f7 f8 f9
          have f0 := cell_block x1 0; have f1 := cell_block x1 1; have f2 := cell_block x2 0; have f3 := cell_block x2 1; have f4 := cell_block x3 0; have f5 := cell_block x3 1; have f6 := cell_block X7 0; have f7 := cell_block X7 1; have f8 := cell_block X9 0; have f9 := cell_block X9 1
          go_wp2_with fail
          refine (lawBoth_any _ _ _).mono ?_
          rintro e v6 ⟨rfl, rfl⟩
          rw [if_pos rfl]
          by_cases hz : E2 = 0
          case neg =>
            obtain ⟨r3, r4, r5⟩ := HNO2.out hz
            have HS2 : Hid ((R2 == 0 && decide (xs2 = [])) = true) := Lib.hid (by rw [r3, r5]; rfl)
            have b4 : (S2 == 0) = true := by rw [r4]; rfl
            have b1 : (E2 != 0) = true := by simpa using hz
            clear hz r3 r4 r5
            go_wp2_with fail
            refine (SameShape_any _ _ _ _ _ _ _ _ xs2 [] _ s9 (Sl.nil _ _)).mono ?_
            rintro e v5 ⟨rfl, hs⟩
            rw [HS2.out]
            replace BW := BW.trans (hs.mono BW.size)
            go_wp2_with fail
            go_ret
            exact ⟨rfl, BW⟩
          subst hz
          obtain ⟨_, y0, y100, x0, x100⟩ := squareE_ok HE22.out
          obtain ⟨t1, t2, t3, t4, t5, t6⟩ := HFT2.out rfl
          have HT1 := Lib.hid t1
          have HT2 := Lib.hid t2
          have HT3 := Lib.hid t3
          have HT4 := Lib.hid t4
          have HT6 := Lib.hid t6
          have HF := Lib.hid hf
          have y00 : y ≠ 0 := by omega
          clear t1 t2 t3 t4 t6 hf HE22 HE1 HE2 HFT1 HFT2 HOK1 HOK2 HNO1 HNO2 X7 s7
          clear f6 f7
          have b1 : ((0 : Int) != 0) = false := rfl
          go_wp2_with fail
          refine Calmly.wp_region_mix 9 (.fl 0 <| .fl 1 <| .alt 2 (.alt 3 (.fl 4 <| .fl 5 <| .fl 6 <| .eff 7 <| .eff 8 <| .tail [9]) (.eff 7 (.eff 3 <| .fl 4 <| .fl 5 <| .fl 6 <| .eff 8 <| .tail [9]))) (.eff 7 (.eff 2 <| .eff 3 <| .fl 4 <| .fl 5 <| .fl 6 <| .eff 8 <| .tail [9]))) (by kernel_rfl) (by kernel_rfl) ?_
          rename_i K hK
          have hK' := fun a w (h : Stop _) => hK a w h.out
          clear hK
          have HK2 := Lib.hid hK'
          clear hK'
          replace x1 := blk_keep x1 (Below.refl _ _).drew
          replace x2 := blk_keep x2 (Below.refl _ _).drew
          replace x3 := blk_keep x3 (Below.refl _ _).drew
          replace X9 := blk_keep X9 (Below.refl _ _).drew
          replace s9 := s9.keep (Below.refl _ _).drew
          replace BW := BW.drew
          clear f0 f1 f2 f3 f4 f5 f8 f9
          generalize World.drew _ = V4 at x1 x2 x3 X9 s9 BW ⊢
          have f0 := cell_block x1 0
          have f1 := cell_block x1 1
          have f2 := cell_block x2 0
          have f3 := cell_block x2 1
          have hlt := blk_lt x3
          have hk := Below.refl V4.heap.size V4
          go_wp2_with (first | ((with_reducible refine Calmly.is_fl ?_); refine Calmly.mix_fl rfl ?_ (fun _ _ => ?_); (first | exact .move _ | exact .load _ _ | exact .fieldAddr _ _ _ (by kernel_rfl) | exact .assign _ | exact .binOp _ _ _ _ _ rfl | exact .indexAddr _ _ _ | exact .len _ _ (by kernel_rfl) | exact .field _ _ _ | exact .extract _ _ | exact .pick _ _ _ | exact .build _ _ | exact .slice _ _ _ _ _ | exact .unOp _ _ _ rfl | exact .index _ _ _ | exact .max _ _ _ rfl rfl | exact .min _ _ _ rfl rfl)) | ((with_reducible refine Calmly.is_gl ?_); refine Calmly.mix_gl rfl rfl rfl ?_; first | ((first | with_reducible refine Calmly.gl_tt ?_ (fun _ _ => ?_) | with_reducible refine Calmly.gl_ff ?_ (fun _ _ => ?_)); (first | exact .move _ | exact .load _ _ | exact .fieldAddr _ _ _ (by kernel_rfl) | exact .assign _ | exact .binOp _ _ _ _ _ rfl | exact .indexAddr _ _ _ | exact .len _ _ (by kernel_rfl) | exact .field _ _ _ | exact .extract _ _ | exact .pick _ _ _ | exact .build _ _ | exact .slice _ _ _ _ _ | exact .unOp _ _ _ rfl | exact .index _ _ _ | exact .max _ _ _ rfl rfl | exact .min _ _ _ rfl rfl)) | with_reducible refine Calmly.gl_tf (fun _ _ => ?_) | with_reducible refine Calmly.gl_ft (fun _ _ => ?_)) | ((with_reducible refine Calmly.is_eff ?_); refine Calmly.mix_eff rfl (fun _ _ => ?_)) | ((with_reducible refine Calmly.is_gf ?_); refine Calmly.mix_gf rfl rfl rfl ?_; first | with_reducible refine Calmly.gf_tt (fun _ _ => ?_) | with_reducible refine Calmly.gf_ff (fun _ _ => ?_) | with_reducible refine Calmly.gf_tf (kept_of hk) (fun _ _ => ?_) | with_reducible refine Calmly.gf_ft (kept_of hk) (fun _ _ => ?_)) | ((with_reducible refine Calmly.is_kept ?_); refine ⟨kept_of hk, ?_⟩) | (with_reducible refine Calmly.mix_alt ?_ ?_) | (go_at_call 40; (refine (RatioFrom_any x y _ (by omega) (by omega) (by omega) (by omega) y00).mono ?_; rintro e w' ⟨⟨is, ib, iN, ic, is', ib', iN', ic', rfl, ih, ih', rI⟩, hs⟩; replace hk := step_of hk hs; (try replace pA := blk_keep pA hs); clear hs)) | (go_at_call 84; (refine (rShape_any a b n c m d ms ks _ _ _ _ _ _ _ _ (Rat.divInt x y) _ ((h1.keep BW).keep hk) ((h2.keep BW).keep hk) HF.out rI ih ih' R2 S2 xs2 HT2.out t5 HT3.out HT6.out HT4.out).mono ?_; rintro e w9 ⟨a8, c8, B7, rfl, s7, hB7, hs⟩; replace hk := step_of hk hs; (try (have hne := s7.offB (Nat.lt_of_lt_of_le (blk_lt pA) hB7); replace s7 := s7.si)); (try replace pA := blk_keep pA hs); clear hs rI hB7; (try have zA0 := cell_block pA 0); (try have zA1 := cell_block pA 1); (try have zA2 := frozen_block pA 0); (try have zA3 := frozen_block pA 1))) | (refine kept_setS hk hAge pA s7 hne (fun hk' h1' h2' => ?_); replace hk := hk'; replace pA := h1'; replace s7 := h2'; clear hk' h1' h2' hne zA0 zA1 zA2 zA3; generalize World.setCell (World.setCell _ _ _) _ _ = W' at hk pA s7 ⊢) | (have hAge := hk.size; refine kept_allocB hk (fun hs hk' hblk => ?_); (try replace rI := rI.keep hs); (try (have hne := s7.off (Nat.le_refl _); replace s7 := s7.si.keep hs)); (first | generalize World.alloc _ _ = W' at hs hk' hblk s7 ⊢ | generalize World.alloc _ _ = W' at hs hk' hblk rI ⊢ | generalize World.alloc _ _ = W' at hs hk' hblk ⊢); replace hk := hk'; clear hk'; have pA := hblk; clear hs hblk; have zA0 := cell_block pA 0; have zA1 := cell_block pA 1; have zA2 := frozen_block pA 0; have zA3 := frozen_block pA 1))
          go_wp2_with (first | ((with_reducible refine Calmly.is_fl ?_); refine Calmly.mix_fl rfl ?_ (fun _ _ => ?_); (first | exact .move _ | exact .load _ _ | exact .fieldAddr _ _ _ (by kernel_rfl) | exact .assign _ | exact .binOp _ _ _ _ _ rfl | exact .indexAddr _ _ _ | exact .len _ _ (by kernel_rfl) | exact .field _ _ _ | exact .extract _ _ | exact .pick _ _ _ | exact .build _ _ | exact .slice _ _ _ _ _ | exact .unOp _ _ _ rfl | exact .index _ _ _ | exact .max _ _ _ rfl rfl | exact .min _ _ _ rfl rfl)) | ((with_reducible refine Calmly.is_gl ?_); refine Calmly.mix_gl rfl rfl rfl ?_; first | ((first | with_reducible refine Calmly.gl_tt ?_ (fun _ _ => ?_) | with_reducible refine Calmly.gl_ff ?_ (fun _ _ => ?_)); (first | exact .move _ | exact .load _ _ | exact .fieldAddr _ _ _ (by kernel_rfl) | exact .assign _ | exact .binOp _ _ _ _ _ rfl | exact .indexAddr _ _ _ | exact .len _ _ (by kernel_rfl) | exact .field _ _ _ | exact .extract _ _ | exact .pick _ _ _ | exact .build _ _ | exact .slice _ _ _ _ _ | exact .unOp _ _ _ rfl | exact .index _ _ _ | exact .max _ _ _ rfl rfl | exact .min _ _ _ rfl rfl)) | with_reducible refine Calmly.gl_tf (fun _ _ => ?_) | with_reducible refine Calmly.gl_ft (fun _ _ => ?_)) | ((with_reducible refine Calmly.is_eff ?_); refine Calmly.mix_eff rfl (fun _ _ => ?_)) | ((with_reducible refine Calmly.is_gf ?_); refine Calmly.mix_gf rfl rfl rfl ?_; first | with_reducible refine Calmly.gf_tt (fun _ _ => ?_) | with_reducible refine Calmly.gf_ff (fun _ _ => ?_) | with_reducible refine Calmly.gf_tf (kept_of hk) (fun _ _ => ?_) | with_reducible refine Calmly.gf_ft (kept_of hk) (fun _ _ => ?_)) | ((with_reducible refine Calmly.is_tail ?_); first | refine Calmly.mix_tail_nil ?_ | refine Calmly.mix_tail rfl (fun _ _ => ?_)) | ((with_reducible refine Calmly.is_kept ?_); refine ⟨kept_of hk, ?_⟩) | (with_reducible refine Calmly.mix_alt ?_ ?_))
          all_goals
            refine HK2.out _ _ ⟨?_⟩
            clear HK2 K
            replace X9 := blk_keep X9 hk
            replace s9 := s9.keep hk
            replace BW := BW.trans (hk.mono BW.size)
            clear hk f0 f1 f2 f3 hAge x1 x2 x3 hlt
            have f8 := cell_block X9 0
            have f9 := cell_block X9 1
            have zA0 := cell_block pA 0
            have zA1 := cell_block pA 1
            rw [HT1.out] at *
            go_wp2_with fail
            refine (SameShape_any _ _ _ _ _ _ _ _ xs2 xs2 _ s9 s7).mono ?_
            rintro e v8 ⟨rfl, hs⟩
            rw [show (R2 == R2 && decide (xs2 = xs2)) = true by simp]
            replace BW := BW.trans (hs.mono BW.size)
            go_wp2_with fail
            go_ret
            exact ⟨rfl, BW⟩
    have HK2 := Lib.hid HKK
    clear HKK hK'
    have f0 := cell_block x1 0
    have f1 := cell_block x1 1
    have f2 := cell_block x2 0
    have f3 := cell_block x2 1
    have hlt := blk_lt x3
    have hk := Below.refl V.heap.size V
    rename SI V a7 _ _ _ => S7
    go_wp2_with (first | ((with_reducible refine Calmly.is_fl ?_); refine Calmly.mix_fl rfl ?_ (fun _ _ => ?_); (first | exact .move _ | exact .load _ _ | exact .fieldAddr _ _ _ (by kernel_rfl) | exact .assign _ | exact .binOp _ _ _ _ _ rfl | exact .indexAddr _ _ _ | exact .len _ _ (by kernel_rfl) | exact .field _ _ _ | exact .extract _ _ | exact .pick _ _ _ | exact .build _ _ | exact .slice _ _ _ _ _ | exact .unOp _ _ _ rfl | exact .index _ _ _ | exact .max _ _ _ rfl rfl | exact .min _ _ _ rfl rfl)) | ((with_reducible refine Calmly.is_gl ?_); refine Calmly.mix_gl rfl rfl rfl ?_; first | ((first | with_reducible refine Calmly.gl_tt ?_ (fun _ _ => ?_) | with_reducible refine Calmly.gl_ff ?_ (fun _ _ => ?_)); (first | exact .move _ | exact .load _ _ | exact .fieldAddr _ _ _ (by kernel_rfl) | exact .assign _ | exact .binOp _ _ _ _ _ rfl | exact .indexAddr _ _ _ | exact .len _ _ (by kernel_rfl) | exact .field _ _ _ | exact .extract _ _ | exact .pick _ _ _ | exact .build _ _ | exact .slice _ _ _ _ _ | exact .unOp _ _ _ rfl | exact .index _ _ _ | exact .max _ _ _ rfl rfl | exact .min _ _ _ rfl rfl)) | with_reducible refine Calmly.gl_tf (fun _ _ => ?_) | with_reducible refine Calmly.gl_ft (fun _ _ => ?_)) | ((with_reducible refine Calmly.is_eff ?_); refine Calmly.mix_eff rfl (fun _ _ => ?_)) | ((with_reducible refine Calmly.is_gf ?_); refine Calmly.mix_gf rfl rfl rfl ?_; first | with_reducible refine Calmly.gf_tt (fun _ _ => ?_) | with_reducible refine Calmly.gf_ff (fun _ _ => ?_) | with_reducible refine Calmly.gf_tf (kept_of hk) (fun _ _ => ?_) | with_reducible refine Calmly.gf_ft (kept_of hk) (fun _ _ => ?_)) | ((with_reducible refine Calmly.is_kept ?_); refine ⟨kept_of hk, ?_⟩) | (with_reducible refine Calmly.mix_alt ?_ ?_) | (go_at_call 18; (refine (Copy_any a b n c m d ms ks _ ((h1.keep BW).keep hk) ((h2.keep BW).keep hk) (by omega) (by omega)).mono ?_; rintro e w7 ⟨a1, c1', b1, d1', BB, rfl, oA1, oB1, hB, hgB, hs⟩; replace hk := step_of hk hs; (try replace pA := blk_keep pA hs); replace oA1 := oA1.si; replace oB1 := oB1.si; clear hgB hs hB)) | (go_at_call 78; (refine (ShapeAt_any _ _ _ _ _ _ ms ks x y _ oA1 oB1 hx1 hx2 hy2 E2 R2 S2 xs2 HE2.out HNO2.out HOK2.out).mono ?_; rintro e w9 ⟨a9, c9, B7, rfl, s7, hB7, hs⟩; replace hk := step_of hk hs; (try (have hne := s7.offB (Nat.lt_of_lt_of_le (blk_lt pA) hB7); replace s7 := s7.si)); (try replace pA := blk_keep pA hs); clear hs oA1 oB1 hB7; (try have zA0 := cell_block pA 0); (try have zA1 := cell_block pA 1); (try have zA2 := frozen_block pA 0); (try have zA3 := frozen_block pA 1))) | (refine kept_setS hk hAge pA s7 hne (fun hk' h1' h2' => ?_); replace hk := hk'; replace pA := h1'; replace s7 := h2'; clear hk' h1' h2' hne zA0 zA1 zA2 zA3; generalize World.setCell (World.setCell _ _ _) _ _ = W' at hk pA s7 ⊢) | (have hAge := hk.size; refine kept_allocB hk (fun hs hk' hblk => ?_); (try replace oA1 := oA1.keep hs); (try replace oB1 := oB1.keep hs); (try replace oC1 := oC1.keep hs); (try (have hne := s7.off (Nat.le_refl _); replace s7 := s7.si.keep hs)); (first | generalize World.alloc _ _ = W' at hs hk' hblk s7 ⊢ | generalize World.alloc _ _ = W' at hs hk' hblk oA1 oB1 oC1 ⊢ | generalize World.alloc _ _ = W' at hs hk' hblk oA1 oB1 ⊢ | generalize World.alloc _ _ = W' at hs hk' hblk ⊢); replace hk := hk'; clear hk'; have pA := hblk; clear hs hblk; have zA0 := cell_block pA 0; have zA1 := cell_block pA 1; have zA2 := frozen_block pA 0; have zA3 := frozen_block pA 1))
    go_wp2_with (first | ((with_reducible refine Calmly.is_fl ?_); refine Calmly.mix_fl rfl ?_ (fun _ _ => ?_); (first | exact .move _ | exact .load _ _ | exact .fieldAddr _ _ _ (by kernel_rfl) | exact .assign _ | exact .binOp _ _ _ _ _ rfl | exact .indexAddr _ _ _ | exact .len _ _ (by kernel_rfl) | exact .field _ _ _ | exact .extract _ _ | exact .pick _ _ _ | exact .build _ _ | exact .slice _ _ _ _ _ | exact .unOp _ _ _ rfl | exact .index _ _ _ | exact .max _ _ _ rfl rfl | exact .min _ _ _ rfl rfl)) | ((with_reducible refine Calmly.is_gl ?_); refine Calmly.mix_gl rfl rfl rfl ?_; first | ((first | with_reducible refine Calmly.gl_tt ?_ (fun _ _ => ?_) | with_reducible refine Calmly.gl_ff ?_ (fun _ _ => ?_)); (first | exact .move _ | exact .load _ _ | exact .fieldAddr _ _ _ (by kernel_rfl) | exact .assign _ | exact .binOp _ _ _ _ _ rfl | exact .indexAddr _ _ _ | exact .len _ _ (by kernel_rfl) | exact .field _ _ _ | exact .extract _ _ | exact .pick _ _ _ | exact .build _ _ | exact .slice _ _ _ _ _ | exact .unOp _ _ _ rfl | exact .index _ _ _ | exact .max _ _ _ rfl rfl | exact .min _ _ _ rfl rfl)) | with_reducible refine Calmly.gl_tf (fun _ _ => ?_) | with_reducible refine Calmly.gl_ft (fun _ _ => ?_)) | ((with_reducible refine Calmly.is_eff ?_); refine Calmly.mix_eff rfl (fun _ _ => ?_)) | ((with_reducible refine Calmly.is_gf ?_); refine Calmly.mix_gf rfl rfl rfl ?_; first | with_reducible refine Calmly.gf_tt (fun _ _ => ?_) | with_reducible refine Calmly.gf_ff (fun _ _ => ?_) | with_reducible refine Calmly.gf_tf (kept_of hk) (fun _ _ => ?_) | with_reducible refine Calmly.gf_ft (kept_of hk) (fun _ _ => ?_)) | ((with_reducible refine Calmly.is_tail ?_); first | refine Calmly.mix_tail_nil ?_ | refine Calmly.mix_tail rfl (fun _ _ => ?_)) | ((with_reducible refine Calmly.is_kept ?_); refine ⟨kept_of hk, ?_⟩) | (with_reducible refine Calmly.mix_alt ?_ ?_))
    all_goals exact HK2.out _ _ _ _ _ _ _ _ _ _ _ _ hAge hk pA s7
  have HK2 := Lib.hid HKK
  clear HKK hK'
  have f0 := cell_block x1 0
  have f1 := cell_block x1 1
  have f4 := cell_block x3 0
  have f5 := cell_block x3 1
  have hlt := blk_lt x3
  have hk := Below.refl U.heap.size U
  go_wp2_with (first | ((with_reducible refine Calmly.is_fl ?_); refine Calmly.mix_fl rfl ?_ (fun _ _ => ?_); (first | exact .move _ | exact .load _ _ | exact .fieldAddr _ _ _ (by kernel_rfl) | exact .assign _ | exact .binOp _ _ _ _ _ rfl | exact .indexAddr _ _ _ | exact .len _ _ (by kernel_rfl) | exact .field _ _ _ | exact .extract _ _ | exact .pick _ _ _ | exact .build _ _ | exact .slice _ _ _ _ _ | exact .unOp _ _ _ rfl | exact .index _ _ _ | exact .max _ _ _ rfl rfl | exact .min _ _ _ rfl rfl)) | ((with_reducible refine Calmly.is_gl ?_); refine Calmly.mix_gl rfl rfl rfl ?_; first | ((first | with_reducible refine Calmly.gl_tt ?_ (fun _ _ => ?_) | with_reducible refine Calmly.gl_ff ?_ (fun _ _ => ?_)); (first | exact .move _ | exact .load _ _ | exact .fieldAddr _ _ _ (by kernel_rfl) | exact .assign _ | exact .binOp _ _ _ _ _ rfl | exact .indexAddr _ _ _ | exact .len _ _ (by kernel_rfl) | exact .field _ _ _ | exact .extract _ _ | exact .pick _ _ _ | exact .build _ _ | exact .slice _ _ _ _ _ | exact .unOp _ _ _ rfl | exact .index _ _ _ | exact .max _ _ _ rfl rfl | exact .min _ _ _ rfl rfl)) | with_reducible refine Calmly.gl_tf (fun _ _ => ?_) | with_reducible refine Calmly.gl_ft (fun _ _ => ?_)) | ((with_reducible refine Calmly.is_eff ?_); refine Calmly.mix_eff rfl (fun _ _ => ?_)) | ((with_reducible refine Calmly.is_gf ?_); refine Calmly.mix_gf rfl rfl rfl ?_; first | with_reducible refine Calmly.gf_tt (fun _ _ => ?_) | with_reducible refine Calmly.gf_ff (fun _ _ => ?_) | with_reducible refine Calmly.gf_tf (kept_of hk) (fun _ _ => ?_) | with_reducible refine Calmly.gf_ft (kept_of hk) (fun _ _ => ?_)) | ((with_reducible refine Calmly.is_kept ?_); refine ⟨kept_of hk, ?_⟩) | (with_reducible refine Calmly.mix_alt ?_ ?_) | (go_at_call 18; (refine (Copy_any a b n c m d ms ks _ ((h1.keep BW).keep hk) ((h2.keep BW).keep hk) (by omega) (by omega)).mono ?_; rintro e w7 ⟨a1, c1', b1, d1', BB, rfl, oA1, oB1, hB, hgB, hs⟩; replace hk := step_of hk hs; (try replace pA := blk_keep pA hs); replace oA1 := oA1.si; replace oB1 := oB1.si; clear hgB hs hB)) | (go_at_call 77; (refine (copyInts_any u k e' ls _ ((h3.keep BW).keep hk) (by omega)).mono ?_; rintro e w8 ⟨a2, c2', rfl, oC, hs⟩; replace hk := step_of hk hs; (try replace pA := blk_keep pA hs); replace oA1 := oA1.keep hs; replace oB1 := oB1.keep hs; have oC1 := oC.si; clear hs oC)) | (go_at_call 76; (refine (SwayOf_any _ _ _ _ _ _ _ _ _ ms ks ls _ oA1 oB1 oC1 E1 R1 xs1 HE1.out HNO1.out HOK1.out).mono ?_; rintro e w9 ⟨a7, c7, B7, rfl, s7, hB7, hs⟩; replace hk := step_of hk hs; (try (have hne := s7.offB (Nat.lt_of_lt_of_le (blk_lt pA) hB7); replace s7 := s7.si)); (try replace pA := blk_keep pA hs); clear hs oA1 oB1 hB7; (try have zA0 := cell_block pA 0); (try have zA1 := cell_block pA 1); (try have zA2 := frozen_block pA 0); (try have zA3 := frozen_block pA 1); clear oC1)) | (refine kept_setS hk hAge pA s7 hne (fun hk' h1' h2' => ?_); replace hk := hk'; replace pA := h1'; replace s7 := h2'; clear hk' h1' h2' hne zA0 zA1 zA2 zA3; generalize World.setCell (World.setCell _ _ _) _ _ = W' at hk pA s7 ⊢) | (have hAge := hk.size; refine kept_allocB hk (fun hs hk' hblk => ?_); (try replace oA1 := oA1.keep hs); (try replace oB1 := oB1.keep hs); (try replace oC1 := oC1.keep hs); (try (have hne := s7.off (Nat.le_refl _); replace s7 := s7.si.keep hs)); (first | generalize World.alloc _ _ = W' at hs hk' hblk s7 ⊢ | generalize World.alloc _ _ = W' at hs hk' hblk oA1 oB1 oC1 ⊢ | generalize World.alloc _ _ = W' at hs hk' hblk oA1 oB1 ⊢ | generalize World.alloc _ _ = W' at hs hk' hblk ⊢); replace hk := hk'; clear hk'; have pA := hblk; clear hs hblk; have zA0 := cell_block pA 0; have zA1 := cell_block pA 1; have zA2 := frozen_block pA 0; have zA3 := frozen_block pA 1))
  go_wp2_with (first | ((with_reducible refine Calmly.is_fl ?_); refine Calmly.mix_fl rfl ?_ (fun _ _ => ?_); (first | exact .move _ | exact .load _ _ | exact .fieldAddr _ _ _ (by kernel_rfl) | exact .assign _ | exact .binOp _ _ _ _ _ rfl | exact .indexAddr _ _ _ | exact .len _ _ (by kernel_rfl) | exact .field _ _ _ | exact .extract _ _ | exact .pick _ _ _ | exact .build _ _ | exact .slice _ _ _ _ _ | exact .unOp _ _ _ rfl | exact .index _ _ _ | exact .max _ _ _ rfl rfl | exact .min _ _ _ rfl rfl)) | ((with_reducible refine Calmly.is_gl ?_); refine Calmly.mix_gl rfl rfl rfl ?_; first | ((first | with_reducible refine Calmly.gl_tt ?_ (fun _ _ => ?_) | with_reducible refine Calmly.gl_ff ?_ (fun _ _ => ?_)); (first | exact .move _ | exact .load _ _ | exact .fieldAddr _ _ _ (by kernel_rfl) | exact .assign _ | exact .binOp _ _ _ _ _ rfl | exact .indexAddr _ _ _ | exact .len _ _ (by kernel_rfl) | exact .field _ _ _ | exact .extract _ _ | exact .pick _ _ _ | exact .build _ _ | exact .slice _ _ _ _ _ | exact .unOp _ _ _ rfl | exact .index _ _ _ | exact .max _ _ _ rfl rfl | exact .min _ _ _ rfl rfl)) | with_reducible refine Calmly.gl_tf (fun _ _ => ?_) | with_reducible refine Calmly.gl_ft (fun _ _ => ?_)) | ((with_reducible refine Calmly.is_eff ?_); refine Calmly.mix_eff rfl (fun _ _ => ?_)) | ((with_reducible refine Calmly.is_gf ?_); refine Calmly.mix_gf rfl rfl rfl ?_; first | with_reducible refine Calmly.gf_tt (fun _ _ => ?_) | with_reducible refine Calmly.gf_ff (fun _ _ => ?_) | with_reducible refine Calmly.gf_tf (kept_of hk) (fun _ _ => ?_) | with_reducible refine Calmly.gf_ft (kept_of hk) (fun _ _ => ?_)) | ((with_reducible refine Calmly.is_tail ?_); first | refine Calmly.mix_tail_nil ?_ | refine Calmly.mix_tail rfl (fun _ _ => ?_)) | ((with_reducible refine Calmly.is_kept ?_); refine ⟨kept_of hk, ?_⟩) | (with_reducible refine Calmly.mix_alt ?_ ?_))
  all_goals exact HK2.out _ _ _ _ _ _ _ _ _ _ _ _ _ _ _ _ _ _ _ _ _ _ _ _ _ _ _ _ _ _ hAge hk pA s7
end Go.Proofs.Ytmaidjankakppaa
