/- The law ModalAgreed, walked. -/
import Derived.Test.YtmaidjankakppaaHa
import Derived.Test.YtmaidjankakppaaAw
import Derived.Test.YtmaidjankakppaaGe
namespace Go.Proofs.Ytmaidjankakppaa
open Go.RowKit
open Calmly (Kept)

theorem AgreedIn_all (sa : Option Addr) (sn sc : Nat) (sq : List (Int × Int)) (w : World) (h3 : SR w sa sn sc sq) (x y E : Int)
    (h1 : rgE sq ≠ 0 → x = 0 ∧ y = 0 ∧ E = rgE sq) (h2 : rgE sq = 0 → (agrF sq).1 ≤ (agrF sq).2 → agrF sq = (x, y) ∧ E = 0) (h4 : rgE sq = 0 → (agrF sq).2 < (agrF sq).1 → x = 0 ∧ y = 0 ∧ E = 13) :
    Calls Try.prog 70 #[.slice sa sn sc] w fun e w' => e = .returned (.tuple #[.agg #[.int .i64 x, .int .i64 y], .int .i64 E]) ∧ Below w.heap.size w w' := by
  by_cases h : rgE sq = 0
  · exact AgreedIn_ok sa sn sc sq w h3 h x y E (h2 h) (h4 h)
  · obtain ⟨rfl, rfl, rfl⟩ := h1 h
    exact AgreedIn_err sa sn sc sq w h3 _ rfl h
theorem ContradictionOf_all (sa : Option Addr) (sn sc : Nat) (sq : List (Int × Int)) (w : World) (h3 : SR w sa sn sc sq) (X : List Int) (E : Int)
    (h1 : rgE sq ≠ 0 → X = [] ∧ E = rgE sq) (h2 : rgE sq = 0 → X = ctL (ctF 0 sq) ∧ E = if (ctF 0 sq).isSome then 0 else 12) :
    Calls Try.prog 71 #[.slice sa sn sc] w fun e w' => ∃ a' n' c', e = .returned (.tuple #[.slice a' n' c', .int .i64 E]) ∧ SI w' a' n' c' X ∧ Below w.heap.size w w' := by
  by_cases h : rgE sq = 0
  · obtain ⟨rfl, rfl⟩ := h2 h
    refine (ContradictionOf_ok sa sn sc sq w h3 h _ rfl).mono ?_
    rintro e w' ⟨⟨a', n', c', rfl, hs⟩, hb⟩
    exact ⟨a', n', c', rfl, hs, hb⟩
  · obtain ⟨rfl, rfl⟩ := h1 h
    refine (ContradictionOf_err sa sn sc sq w h3 _ rfl h).mono ?_
    rintro e w' ⟨rfl, hb⟩
    exact ⟨none, 0, 0, rfl, Sl.nil _ 1, hb⟩
theorem dmE_ok {l m : List (Int × Int)} (h : dmE l m = 0) : rgE l = 0 ∧ rgE m = 0 ∧ l.length = m.length := by
  unfold dmE at h
  rw [firstE_three] at h
  split at h
  · split at h
    · refine ⟨by assumption, by assumption, ?_⟩
      by_cases he : l.length = m.length
      · exact he
      · have : ((l.length : Int) == (m.length : Int)) = false := by simp; omega
        rw [this] at h
        cases h
    · exact absurd h (by assumption)
  · exact absurd h (by assumption)
theorem DamagedIn_all (sa ta : Option Addr) (sn sc tn tc : Nat) (sq tq : List (Int × Int)) (w : World) (h3 : SR w sa sn sc sq) (h4 : SR w ta tn tc tq) (X : List Int) (E : Int) (hE : dmE sq tq = E)
    (h1 : E ≠ 0 → X = []) (h2 : E = 0 → X = dmTo sq tq sn) :
    Calls Try.prog 60 #[.slice sa sn sc, .slice ta tn tc] w fun e w' => ∃ a' n' c', e = .returned (.tuple #[.slice a' n' c', .int .i64 E]) ∧ SI w' a' n' c' X ∧ Below w.heap.size w w' := by
  by_cases h : E = 0
  · subst h
    obtain ⟨e1, e2, e3⟩ := dmE_ok hE
    obtain rfl : sn = tn := by have := h3.len; have := h4.len; omega
    rw [h2 rfl]
    refine (DamagedIn_ok sa ta sn sc tc sq tq w h3 h4 e1 e2).mono ?_
    rintro e w' ⟨⟨a', n', c', rfl, ho⟩, hb⟩
    exact ⟨a', n', c', rfl, ho.si, hb⟩
  · rw [h1 h]
    refine (DamagedIn_err sa ta sn sc tn tc sq tq w h3 h4 E hE h).mono ?_
    rintro e w' ⟨rfl, hb⟩
    exact ⟨none, 0, 0, rfl, Sl.nil _ 1, hb⟩

set_option maxRecDepth 100000 in
set_option maxHeartbeats 4000000 in
theorem ModalAgreed_walk (sa ta : Option Addr) (sn sc tn tc : Nat) (sq tq : List (Int × Int)) (w : World) (h3 : SR w sa sn sc sq) (h4 : SR w ta tn tc tq) :
    Calls Try.prog 12 #[.slice sa sn sc, .slice ta tn tc] w fun e w' => e = .returned (.bool true) ∧ Below w.heap.size w w' := by
  have m1 := h3.max
  have c1 := h3.cap
  have m2 := h4.max
  have c2 := h4.cap
  by_cases hl : 14 < sn
  · have hl2 : (14 : Int) < (sn : Int) := by omega
    go_enter Try.func12, Try.ntmps12
    go_wp2_with fail
    refine (awake_any _).mono ?_
    rintro e w1 ⟨rfl, hb1⟩
    go_wp2_with fail
    go_ret
    exact ⟨rfl, hb1⟩
  have hl2 : (sn : Int) ≤ 14 := by omega
  by_cases hr : 14 < tn
  · have hr2 : (14 : Int) < (tn : Int) := by omega
    go_enter Try.func12, Try.ntmps12
    go_wp2_with fail
    refine (awake_any _).mono ?_
    rintro e w1 ⟨rfl, hb1⟩
    go_wp2_with fail
    go_ret
    exact ⟨rfl, hb1⟩
  have hr2 : (tn : Int) ≤ 14 := by omega
  obtain ⟨x, y, E1, p1, p2, p3⟩ : ∃ x y E1 : Int, (rgE sq ≠ 0 → x = 0 ∧ y = 0 ∧ E1 = rgE sq) ∧ (rgE sq = 0 → (agrF sq).1 ≤ (agrF sq).2 → agrF sq = (x, y) ∧ E1 = 0) ∧ (rgE sq = 0 → (agrF sq).2 < (agrF sq).1 → x = 0 ∧ y = 0 ∧ E1 = 13) := by
    by_cases h : rgE sq = 0
    · by_cases h' : (agrF sq).1 ≤ (agrF sq).2
      · exact ⟨_, _, 0, fun hh => absurd h hh, fun _ _ => ⟨rfl, rfl⟩, fun _ hh => by omega⟩
      · exact ⟨0, 0, 13, fun hh => absurd h hh, fun _ hh => absurd hh h', fun _ _ => ⟨rfl, rfl, rfl⟩⟩
    · exact ⟨0, 0, _, fun _ => ⟨rfl, rfl, rfl⟩, fun hh => absurd hh h, fun hh => absurd hh h⟩
  obtain ⟨X, E2, q1, q2⟩ : ∃ (X : List Int) (E2 : Int), (rgE sq ≠ 0 → X = [] ∧ E2 = rgE sq) ∧ (rgE sq = 0 → X = ctL (ctF 0 sq) ∧ E2 = if (ctF 0 sq).isSome then 0 else 12) := by
    by_cases h : rgE sq = 0
    · exact ⟨_, _, fun hh => absurd h hh, fun _ => ⟨rfl, rfl⟩⟩
    · exact ⟨_, _, fun _ => ⟨rfl, rfl⟩, fun hh => absurd hh h⟩
  obtain ⟨Y, E3, r0, r1, r2⟩ : ∃ (Y : List Int) (E3 : Int), dmE sq tq = E3 ∧ (E3 ≠ 0 → Y = []) ∧ (E3 = 0 → Y = dmTo sq tq sn) := by
    by_cases h : dmE sq tq = 0
    · exact ⟨_, _, rfl, fun hh => absurd h hh, fun _ => rfl⟩
    · exact ⟨[], _, rfl, fun _ => rfl, fun hh => absurd hh h⟩
  have P1 := Lib.hid p1
  have P2 := Lib.hid p2
  have P3 := Lib.hid p3
  have Q1 := Lib.hid q1
  have Q2 := Lib.hid q2
  have R0 := Lib.hid r0
  have R1 := Lib.hid r1
  have R2 := Lib.hid r2
  clear p1 p2 p3 q1 q2 r0 r1 r2 hl hr
  have hA : ∀ (A : World) (o : Obj), Below A.heap.size A (A.alloc o) := fun A o => (Below.refl _ _).alloc (Nat.le_refl _) _
  go_enter Try.func12, Try.ntmps12
  go_wp2_with fail
  refine (awake_any _).mono ?_
  rintro e w1 ⟨rfl, B1⟩
  go_wp2_with fail
  refine (copyRanges_any sa sn sc sq _ (h3.keep B1) (by omega)).mono ?_
  rintro e w2 ⟨a2, c2', rfl, o2, hb2⟩
  have B2 := B1.trans (hb2.mono B1.size)
  go_wp2_with fail
  refine (AgreedIn_all a2 sn c2' sq _ o2.sr x y E1 P1.out P2.out P3.out).mono ?_
  rintro e w3 ⟨rfl, hb3⟩
  have B3 := B2.trans (hb3.mono B2.size)
  have B3' := B3.trans ((hA w3 (.cells #[.int .i64 x, .int .i64 y] 63)).mono B3.size)
  go_wp2_with fail
  refine (copyRanges_any sa sn sc sq _ (h3.keep B3') (by omega)).mono ?_
  rintro e w4 ⟨a4, c4', rfl, o4, hb4⟩
  have x4 := blk_keep (alloc_new w3 (.cells #[.int .i64 x, .int .i64 y] 63)) hb4
  have B4 := B3'.trans (hb4.mono B3'.size)
  go_wp2_with fail
  refine (ContradictionOf_all a4 sn c4' sq _ o4.sr X E2 Q1.out Q2.out).mono ?_
  rintro e w5 ⟨a5, n5, c5, rfl, s5, hb5⟩
  have x5 := blk_keep x4 hb5
  have B5 := B4.trans (hb5.mono B4.size)
  go_wp2_with fail
  refine (copyRanges_any sa sn sc sq _ (h3.keep B5) (by omega)).mono ?_
  rintro e w6 ⟨a6, c6', rfl, o6, hb6⟩
  have x6 := blk_keep x5 hb6
  have s6 := s5.keep hb6
  have B6 := B5.trans (hb6.mono B5.size)
  go_wp2_with fail
  refine (copyRanges_any ta tn tc tq _ (h4.keep B6) (by omega)).mono ?_
  rintro e w7 ⟨a7, c7', rfl, o7, hb7⟩
  have x7 := blk_keep x6 hb7
  have s7 := s6.keep hb7
  have B7 := B6.trans (hb7.mono B6.size)
  go_wp2_with fail
  refine (DamagedIn_all a6 a7 sn c6' tn c7' sq tq _ (o6.sr.keep hb7) o7.sr Y E3 R0.out R1.out R2.out).mono ?_
  rintro e w8 ⟨a8, n8, c8, rfl, d8, hb8⟩
  have x8 := blk_keep x7 hb8
  have s8 := s7.keep hb8
  have B8 := B7.trans (hb8.mono B7.size)
  have hlt8 := blk_lt x8
  clear hb2 hb3 hb4 hb5 hb6 hb7 hb8 o2 o4 o6 o7 x4 x5 x6 x7 s5 s6 s7 B1 B2 B3 B3' B4 B5 B6 B7
  go_wp2_with fail
  refine (rRangesErr_any sa sn sc sq _ (h3.keep B8)).mono ?_
  rintro e w9 ⟨rfl, nd, rfl⟩
  have s9 := s8.keep (below_drewN (Below.refl _ _) nd)
  have d9 := d8.keep (below_drewN (Below.refl _ _) nd)
  have B9 := below_drewN B8 nd
  have x9 : (w8.drewN nd).heap[w3.heap.size]? = some (.cells #[.int .i64 x, .int .i64 y] 63) := x8
  obtain ⟨v, hv⟩ : ∃ v, w8.drewN nd = v := ⟨_, rfl⟩
  rw [hv] at s9 d9 B9 x9 ⊢
  clear hv s8 d8 x8 B8 hlt8
  have SV := s9
  have DV := d9
  have BV := B9
  have xv := x9
  clear s9 d9 B9 x9
  have hltv := blk_lt xv
  have g0 : v.cell? ⟨w3.heap.size, 0, none⟩ = some (.int .i64 x) := cell_block xv 0
  have g1 : v.cell? ⟨w3.heap.size, 1, none⟩ = some (.int .i64 y) := cell_block xv 1
  by_cases hc : rgE sq = 0
  case neg =>
    obtain ⟨rfl, rfl, he1⟩ := P1.out hc
    obtain ⟨rfl, he2⟩ := Q1.out hc
    have he3 : E3 = rgE sq := by
      rw [← R0.out]
      unfold dmE
      rw [firstE_three, if_neg hc]
    obtain ⟨c, hcc⟩ : ∃ c, rgE sq = c := ⟨_, rfl⟩
    rw [hcc] at hc he1 he2 he3 ⊢
    subst he1
    subst he2
    subst he3
    have hY := R1.out hc
    subst hY
    obtain rfl : n5 = 0 := SV.len
    obtain rfl : n8 = 0 := DV.len
    have hc3 : (E3 != 0) = true := by simpa using hc
    clear hc hcc
    go_wp2_with fail
    go_ret
    exact ⟨rfl, BV⟩
  obtain ⟨hX, he2⟩ := Q2.out hc
  have HC := Lib.hid hc
  have hcl : 0 < sn := by have := (rgE_ok hc).1; have := h3.len; omega
  obtain ⟨ls1, ls2⟩ : sn ≤ sq.length ∧ sq.length ≤ sn := by have := h3.len; omega
  obtain ⟨lt1, lt2⟩ : tn ≤ tq.length ∧ tq.length ≤ tn := by have := h4.len; omega
  by_cases hag : (agrF sq).1 ≤ (agrF sq).2
  · obtain ⟨hxy, he1⟩ := P2.out hc hag
    have hct := (agr_iff hc).1 hag
    rw [hct] at hX he2
    have hX2 : X = [] := hX
    have he22 : E2 = 12 := he2
    subst hX2
    subst he22
    subst he1
    obtain rfl : n5 = 0 := SV.len
    rw [hc]
    clear hX he2 hct hc
    have HXY := Lib.hid hxy
    have HAG := Lib.hid hag
    clear hxy hag
    go_wp2_with fail
    refine (rAgreed_any sa sn sc sq _ (h3.keep BV) HC.out x y true (fun _ => ⟨HXY.out, rfl⟩) (fun h => absurd HAG.out (by omega))).mono ?_
    rintro e w9 ⟨rfl, hb9⟩
    have BV9 := BV.trans (hb9.mono BV.size)
    have DV9 := DV.keep hb9
    have xv9 := blk_keep xv hb9
    have hltv9 := blk_lt xv9
    have g09 : w9.cell? ⟨w3.heap.size, 0, none⟩ = some (.int .i64 x) := cell_block xv9 0
    have g19 : w9.cell? ⟨w3.heap.size, 1, none⟩ = some (.int .i64 y) := cell_block xv9 1
    have hnew := hA w9 (.cells #[.int .i64 x, .int .i64 y] 63)
    clear BV DV g0 g1 xv hltv hb9
    have BV := BV9.trans (hnew.mono BV9.size)
    have DV := DV9.keep hnew
    clear BV9 DV9 hnew
    go_wp2_with fail
    refine (rRangesErr_any ta tn tc tq _ (h4.keep BV)).mono ?_
    rintro e w10 ⟨rfl, nd2, rfl⟩
    by_cases hc2 : rgE tq = 0
    · by_cases hst : sn = tn
      · have he3 : E3 = 0 := by
          rw [← R0.out]
          unfold dmE
          rw [HC.out, hc2, firstE_three]
          have : ((sq.length : Int) == (tq.length : Int)) = true := by simp; omega
          rw [this]
          rfl
        have hst2 : ((sn : Int) != (tn : Int)) = false := by simp [hst]
        subst he3
        have hY := R2.out rfl
        rw [hc2]
        have HC2 := Lib.hid hc2
        clear hc2
        subst hst
        subst hY
        go_wp2_with fail
        refine (rDamaged_any sa ta sn sc tc sq tq _ (h3.keep (below_drewN BV nd2)) (h4.keep (below_drewN BV nd2)) HC.out HC2.out).mono ?_
        rintro e w11 ⟨⟨a11, n11, c11, rfl, o11⟩, hb11⟩
        have BW := (below_drewN BV nd2).trans (hb11.mono (below_drewN BV nd2).size)
        go_wp2_with fail
        refine (ints_any a8 a11 n8 n11 c8 c11 _ _ _ ((DV.keep (below_drewN (Below.refl _ _) nd2)).keep hb11) o11.si).mono ?_
        rintro e w12 ⟨rfl, nd3, rfl⟩
        rw [show decide (dmTo sq tq sn = dmTo sq tq sn) = true from decide_eq_true rfl]
        go_wp2_with fail
        go_ret
        exact ⟨rfl, below_drewN BW nd3⟩
      · have he3 : E3 = 13 := by
          rw [← R0.out]
          unfold dmE
          rw [HC.out, hc2, firstE_three]
          have : ((sq.length : Int) == (tq.length : Int)) = false := by simp; omega
          rw [this]
          rfl
        have hst2 : ((sn : Int) != (tn : Int)) = true := by simp; omega
        subst he3
        have hY := R1.out (by decide)
        subst hY
        obtain rfl : n8 = 0 := DV.len
        rw [hc2]
        clear hc2 hst
        go_wp2_with fail
        go_ret
        exact ⟨rfl, below_drewN BV nd2⟩
    · have he3 : E3 = rgE tq := by
        rw [← R0.out]
        unfold dmE
        rw [HC.out, firstE_three, if_pos rfl, if_neg hc2]
      obtain ⟨c2', hcc⟩ : ∃ c2', rgE tq = c2' := ⟨_, rfl⟩
      rw [hcc] at hc2 he3 ⊢
      subst he3
      have hY := R1.out hc2
      subst hY
      obtain rfl : n8 = 0 := DV.len
      have hc3 : (E3 != 0) = true := by simpa using hc2
      have hc4 : (E3 == 0) = false := by simpa using hc2
      clear hc2 hcc
      go_wp2_with fail
      go_ret
      exact ⟨rfl, below_drewN BV nd2⟩
  · obtain ⟨rfl, rfl, he1⟩ := P3.out hc (by omega)
    have hct : ctF 0 sq ≠ none := fun h => hag ((agr_iff hc).2 h)
    obtain ⟨⟨pi, pk⟩, hpp⟩ := Option.ne_none_iff_exists'.1 hct
    have he22 : E2 = 0 := by rw [he2, hpp]; rfl
    subst he22
    subst he1
    rw [hc]
    have HX := Lib.hid hX
    clear hX he2 hct hc hpp
    have hag' : (agrF sq).2 < (agrF sq).1 := by omega
    have HAG := Lib.hid hag'
    clear hag' hag
    go_wp2_with fail
    refine (rAgreed_any sa sn sc sq _ (h3.keep BV) HC.out 0 0 false (fun h => absurd HAG.out (by omega)) (fun _ => ⟨rfl, rfl, rfl⟩)).mono ?_
    rintro e w9 ⟨rfl, hb9⟩
    have BV9 := BV.trans (hb9.mono BV.size)
    have DV9 := DV.keep hb9
    have SV9 := SV.keep hb9
    have xv9 := blk_keep xv hb9
    have hltv9 := blk_lt xv9
    have g09 : w9.cell? ⟨w3.heap.size, 0, none⟩ = some (.int .i64 0) := cell_block xv9 0
    have g19 : w9.cell? ⟨w3.heap.size, 1, none⟩ = some (.int .i64 0) := cell_block xv9 1
    have hnew := hA w9 (.cells #[.int .i64 0, .int .i64 0] 63)
    clear BV DV g0 g1 xv hltv hb9
    have BV0 := BV9.trans (hnew.mono BV9.size)
    have DV0 := DV9.keep hnew
    have SV0 := SV9.keep hnew
    go_wp2_with fail
    refine (rContradiction_any sa sn sc sq _ (h3.keep BV0) HC.out).mono ?_
    rintro e wA ⟨⟨aA, nA, cA, rfl, sA⟩, hbA⟩
    have SVA := SV0.keep hbA
    have DVA := DV0.keep hbA
    have BVA := BV0.trans (hbA.mono BV0.size)
    rw [← HX.out] at sA
    go_wp2_with fail
    refine (ints_any a5 aA n5 nA c5 cA X X _ SVA sA).mono ?_
    rintro e wB ⟨rfl, ndB, rfl⟩
    rw [show decide (X = X) = true from decide_eq_true rfl]
    have BV := below_drewN BVA ndB
    have DV := DVA.keep (below_drewN (Below.refl _ _) ndB)
    clear BVA DVA BV0 DV0 SV0 SV9 DV9 BV9 hnew g09 g19 xv9 hltv9 hbA sA SVA
    obtain ⟨u, hu⟩ : ∃ u, wA.drewN ndB = u := ⟨_, rfl⟩
    rw [hu] at BV DV ⊢
    clear hu
    go_wp2_with fail
    refine (rRangesErr_any ta tn tc tq _ (h4.keep BV)).mono ?_
    rintro e w10 ⟨rfl, nd2, rfl⟩
    by_cases hc2 : rgE tq = 0
    · by_cases hst : sn = tn
      · have he3 : E3 = 0 := by
          rw [← R0.out]
          unfold dmE
          rw [HC.out, hc2, firstE_three]
          have : ((sq.length : Int) == (tq.length : Int)) = true := by simp; omega
          rw [this]
          rfl
        have hst2 : ((sn : Int) != (tn : Int)) = false := by simp [hst]
        subst he3
        have hY := R2.out rfl
        rw [hc2]
        have HC2 := Lib.hid hc2
        clear hc2
        subst hst
        subst hY
        go_wp2_with fail
        refine (rDamaged_any sa ta sn sc tc sq tq _ (h3.keep (below_drewN BV nd2)) (h4.keep (below_drewN BV nd2)) HC.out HC2.out).mono ?_
        rintro e w11 ⟨⟨a11, n11, c11, rfl, o11⟩, hb11⟩
        have BW := (below_drewN BV nd2).trans (hb11.mono (below_drewN BV nd2).size)
        go_wp2_with fail
        refine (ints_any a8 a11 n8 n11 c8 c11 _ _ _ ((DV.keep (below_drewN (Below.refl _ _) nd2)).keep hb11) o11.si).mono ?_
        rintro e w12 ⟨rfl, nd3, rfl⟩
        rw [show decide (dmTo sq tq sn = dmTo sq tq sn) = true from decide_eq_true rfl]
        go_wp2_with fail
        go_ret
        exact ⟨rfl, below_drewN BW nd3⟩
      · have he3 : E3 = 13 := by
          rw [← R0.out]
          unfold dmE
          rw [HC.out, hc2, firstE_three]
          have : ((sq.length : Int) == (tq.length : Int)) = false := by simp; omega
          rw [this]
          rfl
        have hst2 : ((sn : Int) != (tn : Int)) = true := by simp; omega
        subst he3
        have hY := R1.out (by decide)
        subst hY
        obtain rfl : n8 = 0 := DV.len
        rw [hc2]
        clear hc2 hst
        go_wp2_with fail
        go_ret
        exact ⟨rfl, below_drewN BV nd2⟩
    · have he3 : E3 = rgE tq := by
        rw [← R0.out]
        unfold dmE
        rw [HC.out, firstE_three, if_pos rfl, if_neg hc2]
      obtain ⟨c2', hcc⟩ : ∃ c2', rgE tq = c2' := ⟨_, rfl⟩
      rw [hcc] at hc2 he3 ⊢
      subst he3
      have hY := R1.out hc2
      subst hY
      obtain rfl : n8 = 0 := DV.len
      have hc3 : (E3 != 0) = true := by simpa using hc2
      have hc4 : (E3 == 0) = false := by simpa using hc2
      clear hc2 hcc
      go_wp2_with fail
      go_ret
      exact ⟨rfl, below_drewN BV nd2⟩
end Go.Proofs.Ytmaidjankakppaa
