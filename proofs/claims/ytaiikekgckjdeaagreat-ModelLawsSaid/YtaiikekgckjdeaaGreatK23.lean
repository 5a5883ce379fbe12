/- The rank of quantities: RankOf. Printed by gen_y8.py. -/
import Derived.Test.YtaiikekgckjdeaaGreatK22
namespace Go.Proofs.YtaiikekgckjdeaaGreat
open Go.RowKit
attribute [local go_sem] Oper.semAt_some eq3
open Calmly (Kept)
theorem ne_zero3 {x y z : Int} (h : (x, y, z) ≠ qur0) : (x == 0 && y == 0 && z == 0) = false := by
  cases h5 : (x == 0 && y == 0 && z == 0)
  · rfl
  · simp at h5
    exact absurd (by rw [h5.1.1, h5.1.2, h5.2]; rfl) h
theorem rk_start (l : List QuR) : RkI l (∃ a, a < 0 ∧ qAt l a ≠ qur0) (∃ a, a < 0 ∧ ∃ b, b < l.length ∧ crs (qAt l a) (qAt l b) ≠ qur0) 0 := by
  refine ⟨by omega, ⟨fun h => by omega, ?_⟩, ⟨fun h => by omega, ?_⟩⟩
  · rintro ⟨a, h, _⟩; omega
  · rintro (⟨a, h, _⟩ | ⟨a, h, _⟩) <;> omega
theorem lt_succ_ex {k : Nat} {Q : Nat → Prop} : (∃ a, a < k + 1 ∧ Q a) ↔ ((∃ a, a < k ∧ Q a) ∨ Q k) := by
  constructor
  · rintro ⟨a, h1, h2⟩
    rcases Nat.lt_or_ge a k with h | h
    · exact .inl ⟨a, h, h2⟩
    · obtain rfl : a = k := by omega
      exact .inr h2
  · rintro (⟨a, h1, h2⟩ | h)
    · exact ⟨a, by omega, h2⟩
    · exact ⟨k, by omega, h⟩
theorem all_succ {k : Nat} {Q : Nat → Prop} (h : ∀ a, a < k → Q a) (hk : Q k) : ∀ a, a < k + 1 → Q a := fun a ha => by
  rcases Nat.lt_or_ge a k with h1 | h1
  · exact h a h1
  · obtain rfl : a = k := by omega
    exact hk
set_option maxRecDepth 100000 in
set_option maxHeartbeats 8000000 in
theorem RankOf_any (a : Option Addr) (n c : Nat) (l : List QuR) (w : World) (h1 : SQuR w a n c l) :
    Calls Tryz.prog 8 #[.slice a n c] w fun e w' => e = .returned (.tuple #[.int .i64 (if quE l = 0 then rkF l else 0), .int .i64 (quE l)]) ∧ Below w.heap.size w w' := by
  have hln := h1.len
  have m1 := h1.max
  have c1 := h1.cap
  have HLN := Lib.hid hln
  obtain ⟨R0, hR0⟩ : ∃ x, (if quE l = 0 then rkF l else 0) = x := ⟨_, rfl⟩
  obtain ⟨E0, hE0⟩ : ∃ x, quE l = x := ⟨_, rfl⟩
  rw [hR0, hE0]
  have HR0 := Lib.hid (fun (e : Int) (h : quE l = e) (h2 : e ≠ 0) => (show R0 = 0 ∧ E0 = e from ⟨by rw [← hR0, h, if_neg h2], by rw [← hE0, h]⟩))
  have HR1 := Lib.hid (fun (h : quE l = 0) => (show R0 = rkF l ∧ E0 = 0 from ⟨by rw [← hR0, if_pos h], by rw [← hE0, h]⟩))
  clear hR0 hE0
  by_cases h8 : 8 < n
  · have b1 : (8 : Int) < (n : Int) := by omega
    have hR : quE l = 8 := by rw [quE, if_pos (by omega)]
    have HR := Lib.hid hR
    clear hR hln h8
    go_enter Tryz.func8, Tryz.ntmps8
    go_wp2_with fail
    refine bodyPost_ret (v := .tuple #[.int .i64 0, .int .i64 8]) (by simp [results, Tryz.results8]) rfl ⟨by rw [(HR0.out 8 HR.out (by decide)).1, (HR0.out 8 HR.out (by decide)).2], Below.refl _ _⟩
  have b1 : ¬ (8 : Int) < (n : Int) := by omega
  obtain ⟨QI, QE, hQ⟩ : ∃ x y, qsE l = (x, y) := ⟨_, _, rfl⟩
  have hR : quE l = QE := by rw [quE, if_neg (by omega), hQ]
  have HR := Lib.hid hR
  have HQ := Lib.hid hQ
  clear hR hQ h8 hln
  go_enter Tryz.func8, Tryz.ntmps8
  go_wp2_with fail
  refine (eachRankQ_any a n c l w w (fun i => qt3 (l[i]?.getD qur0)) (fun _ _ => True) h1 (Below.refl _ _) trivial (fun _ _ _ _ _ => trivial) (fun i V _ _ hb => (rankQ_any (i : Int) _ _ _ V).mono (fun e w' h => ⟨h.1, trivial, h.2.mono hb.size⟩))).mono ?_
  rintro e w1 ⟨rfl, hb⟩
  rw [show eaF (fun i => qt3 (l[i]?.getD qur0)) 0 n = qsE l by rw [qsE, HLN.out], HQ.out]
  dsimp only
  by_cases hz : QE = 0
  case neg =>
    have b2 : (QE != 0) = true := by simpa using hz
    have HZ := Lib.hid hz
    clear hz
    go_wp2_with fail
    refine bodyPost_ret (v := .tuple #[.int .i64 0, .int .i64 QE]) (by simp [results, Tryz.results8]) rfl ⟨by rw [(HR0.out QE HR.out HZ.out).1, (HR0.out QE HR.out HZ.out).2], hb⟩
  subst hz
  have hsm := qAt_sm (l := l) (by rw [HQ.out])
  have HSM := Lib.hid hsm
  clear hsm
  go_wp2_with fail
  go_loopw [28, 7] (fun ii rr wr => ∃ (i : Nat) (r : Int), i ≤ n ∧ ii = .int .i64 i ∧ rr = .int .i64 r ∧ Hid (RkI l (∃ a, a < i ∧ qAt l a ≠ qur0) (∃ a, a < i ∧ ∃ b, b < l.length ∧ crs (qAt l a) (qAt l b) ≠ qur0) r ∧ ∀ a, a < i → ∀ b, b < n → ∀ c, c < n → dot (crs (qAt l a) (qAt l b)) (qAt l c) = 0) ∧ Below w.heap.size w wr) (fun ii _ _ => n - (intOf ii).toNat)
  case atStart => exact ⟨0, 0, by omega, rfl, rfl, ⟨rk_start l, fun a ha => by omega⟩, hb⟩
  case round =>
    clear hb
    obtain ⟨i, r, hi, rfl, rfl, hRK, hb⟩ := hrel
    by_cases hlt : i < n
    case pos =>
      obtain ⟨b1', o1, rfl, hc1⟩ := (h1.keep hb).at_ (by omega)
      obtain ⟨p0, p1, p2⟩ := hc1 i hlt
      have hsmi := HSM.out i
      have hq : l[i]?.getD qur0 = qAt l i := rfl
      rw [hq] at p0 p1 p2
      obtain ⟨⟨x0, x1, x2⟩, hv⟩ : ∃ v, qAt l i = v := ⟨_, rfl⟩
      have HXI := Lib.hid hv
      rw [hv] at p0 p1 p2 hsmi
      dsimp only at p0 p1 p2
      have HSMI := Lib.hid hsmi
      have hi1 : (i : Int) < (n : Int) := by omega
      have hi0 : (0 : Int) ≤ (i : Int) := by omega
      clear hv hq hc1 hsmi
      have z9 : B3 (wr.alloc (.cells #[.int .i64 x0, .int .i64 x1, .int .i64 x2] 53)) wr.heap.size x0 x1 x2 := ⟨alloc_new wr _⟩
      have B9 : Below wr.heap.size wr (wr.alloc (.cells #[.int .i64 x0, .int .i64 x1, .int .i64 x2] 53)) := (Below.refl _ _).alloc (Nat.le_refl _) _
      have f0 := cell_block z9.blk 0
      have f1 := cell_block z9.blk 1
      have f2 := cell_block z9.blk 2
      have hb2 := hb.trans (B9.mono hb.size)
      obtain ⟨hRI, hNI⟩ := hRK.out
      have HNI := Lib.hid hNI
      by_cases hx0 : (x0, x1, x2) = qur0
      case pos =>
        have RK1 := Lib.hid (hRI.congr (P1' := ∃ a, a < i + 1 ∧ qAt l a ≠ qur0) (by rw [lt_succ_ex (Q := fun a => qAt l a ≠ qur0)]; exact ⟨.inl, fun h => h.elim id (fun h => absurd (HXI.out.trans hx0) h)⟩) Iff.rfl)
        injection hx0 with e0 e12
        injection e12 with e1 e2
        have b6 : (x0 == 0 && x1 == 0 && x2 == 0) = true := by rw [e0, e1, e2]; rfl
        clear e0 e1 e2 hRI hNI
        go_wp2_with fail
        obtain ⟨bA, hbA⟩ : ∃ b, wr.heap.size = b := ⟨_, rfl⟩
        rw [hbA] at z9 ⊢
        generalize wr.alloc (.cells #[.int .i64 x0, .int .i64 x1, .int .i64 x2] 53) = X at *
        have yA := z9
        clear z9 f0 f1 f2 hbA B9 b6
        go_wp2_with fail
        go_loopw [39, 7] (fun jj rr wr => ∃ (j : Nat) (r : Int), j ≤ n ∧ jj = .int .i64 j ∧ rr = .int .i64 r ∧ Hid (RkI l (∃ a, a < i + 1 ∧ qAt l a ≠ qur0) ((∃ a, a < i ∧ ∃ b, b < l.length ∧ crs (qAt l a) (qAt l b) ≠ qur0) ∨ ∃ b, b < j ∧ crs (qAt l i) (qAt l b) ≠ qur0) r ∧ ∀ b, b < j → ∀ c, c < n → dot (crs (qAt l i) (qAt l b)) (qAt l c) = 0) ∧ B3 wr bA x0 x1 x2 ∧ Below w.heap.size w wr) (fun jj _ _ => n - (intOf jj).toNat)
        case atStart => exact ⟨0, _, by omega, rfl, rfl, ⟨RK1.out.congr Iff.rfl ⟨fun h => .inl h, fun h => h.elim id (fun ⟨b, hb, _⟩ => absurd hb (by omega))⟩, fun b hb => by omega⟩, yA, hb2⟩
        case round =>
          clear yA hb2
          obtain ⟨j, r2, hj, rfl, rfl, hRJ, yA, hb2⟩ := hrel
          by_cases hlt2 : j < n
          case pos =>
            obtain ⟨b2', o2, hbe, hc2⟩ := (h1.keep hb2).at_ (by omega)
            injection hbe with hbe
            injection hbe with e1 e2
            subst e1 e2
            obtain ⟨s0, s1, s2⟩ := hc2 j hlt2
            have hsmj := HSM.out j
            have hq : l[j]?.getD qur0 = qAt l j := rfl
            rw [hq] at s0 s1 s2
            obtain ⟨⟨y0, y1, y2⟩, hv⟩ : ∃ v, qAt l j = v := ⟨_, rfl⟩
            have HYJ := Lib.hid hv
            rw [hv] at s0 s1 s2 hsmj
            dsimp only at s0 s1 s2
            have HSMJ := Lib.hid hsmj
            have hj1 : (j : Int) < (n : Int) := by omega
            have hj0 : (0 : Int) ≤ (j : Int) := by omega
            clear hv hq hc2 hsmj
            have z11 : B3 (wr.alloc (.cells #[.int .i64 y0, .int .i64 y1, .int .i64 y2] 53)) wr.heap.size y0 y1 y2 := ⟨alloc_new wr _⟩
            have B11 : Below wr.heap.size wr (wr.alloc (.cells #[.int .i64 y0, .int .i64 y1, .int .i64 y2] 53)) := (Below.refl _ _).alloc (Nat.le_refl _) _
            have yA' := yA.keep B11
            have f0 := cell_block z11.blk 0
            have f1 := cell_block z11.blk 1
            have f2 := cell_block z11.blk 2
            have g0 := cell_block yA'.blk 0
            have g1 := cell_block yA'.blk 1
            have g2 := cell_block yA'.blk 2
            have hb4 := hb2.trans (B11.mono hb2.size)
            go_wp2_with fail
            refine (crossM_any (x0, x1, x2) (y0, y1, y2) _ HSMI.out HSMJ.out).mono ?_
            rintro e w3 ⟨rfl, hs⟩
            dsimp only
            have hbN := crs_bd HSMI.out HSMJ.out
            obtain ⟨⟨N0, N1, N2⟩, hN⟩ : ∃ v, crs (x0, x1, x2) (y0, y1, y2) = v := ⟨_, rfl⟩
            rw [hN] at hbN ⊢
            dsimp only at hbN ⊢
            obtain ⟨bN0, bN1, bN2⟩ := hbN
            have hNN : crs (qAt l i) (qAt l j) = (N0, N1, N2) := by rw [HXI.out, HYJ.out, hN]
            have HN := Lib.hid hNN
            replace yA' := yA'.keep hs
            have hb5 := hb4.trans (hs.mono hb4.size)
            clear hN hNN f0 f1 f2 g0 g1 g2 z11 B11 hs s0 s1 s2
            have z12 : B3 (w3.alloc (.cells #[.int .i64 N0, .int .i64 N1, .int .i64 N2] 53)) w3.heap.size N0 N1 N2 := ⟨alloc_new w3 _⟩
            have B12 : Below w3.heap.size w3 (w3.alloc (.cells #[.int .i64 N0, .int .i64 N1, .int .i64 N2] 53)) := (Below.refl _ _).alloc (Nat.le_refl _) _
            have f0 := cell_block z12.blk 0
            have f1 := cell_block z12.blk 1
            have f2 := cell_block z12.blk 2
            replace yA' := yA'.keep B12
            have hb3 := hb5.trans (B12.mono hb5.size)
            obtain ⟨hR2, hNJ⟩ := hRJ.out
            have HNJ := Lib.hid hNJ
            by_cases hc0 : (N0, N1, N2) = qur0
            case pos =>
              have RK2 := Lib.hid (hR2.congr (P2' := (∃ a, a < i ∧ ∃ b, b < l.length ∧ crs (qAt l a) (qAt l b) ≠ qur0) ∨ ∃ b, b < j + 1 ∧ crs (qAt l i) (qAt l b) ≠ qur0) Iff.rfl (by rw [lt_succ_ex (Q := fun b => crs (qAt l i) (qAt l b) ≠ qur0)]; exact ⟨fun h => h.elim .inl (fun h => .inr (.inl h)), fun h => h.elim .inl (fun h => h.elim .inr (fun h => absurd (HN.out.trans hc0) h))⟩))
              injection hc0 with e0 e12
              injection e12 with e1 e2
              have b6 : (N0 == 0 && N1 == 0 && N2 == 0) = true := by rw [e0, e1, e2]; rfl
              clear e0 e1 e2 hR2 hNJ
              go_wp2_with fail
              obtain ⟨bC, hbC⟩ : ∃ b, w3.heap.size = b := ⟨_, rfl⟩
              rw [hbC] at z12 ⊢
              generalize w3.alloc (.cells #[.int .i64 N0, .int .i64 N1, .int .i64 N2] 53) = X3 at *
              have yC := z12
              have yA := yA'
              clear z12 yA' f0 f1 f2 hbC B12 b6
              go_wp2_with fail
              go_loopw [54] (fun kk wr => ∃ k : Nat, k ≤ n ∧ kk = .int .i64 k ∧ Hid (∀ c, c < k → dot (crs (qAt l i) (qAt l j)) (qAt l c) = 0) ∧ B3 wr bC N0 N1 N2 ∧ B3 wr bA x0 x1 x2 ∧ Below w.heap.size w wr) (fun kk _ => n - (intOf kk).toNat)
              case atStart => exact ⟨0, by omega, rfl, Lib.hid (fun c hc => absurd hc (by omega)), yC, yA, hb3⟩
              case round =>
                clear yC yA hb3
                obtain ⟨k, hk, rfl, hNO, yC, yA, hb3⟩ := hrel
                by_cases hlt3 : k < n
                case pos =>
                  obtain ⟨b3', o3, hbe, hc3⟩ := (h1.keep hb3).at_ (by omega)
                  injection hbe with hbe
                  injection hbe with e1 e2
                  subst e1 e2
                  obtain ⟨s0, s1, s2⟩ := hc3 k hlt3
                  have hsm := HSM.out k
                  have hq : l[k]?.getD qur0 = qAt l k := rfl
                  rw [hq] at s0 s1 s2
                  obtain ⟨⟨v0, v1, v2⟩, hv⟩ : ∃ v, qAt l k = v := ⟨_, rfl⟩
                  rw [hv] at s0 s1 s2 hsm
                  dsimp only [sm] at s0 s1 s2 hsm
                  obtain ⟨t0, t1, t2⟩ := hsm
                  have d1 := mul128 bN0 t0
                  have d2 := mul128 bN1 t1
                  have d3 := mul128 bN2 t2
                  have hdot : dot (crs (qAt l i) (qAt l j)) (qAt l k) = N0 * v0 + N1 * v1 + N2 * v2 := by rw [HN.out, hv]; rfl
                  obtain ⟨P0, e0⟩ : ∃ p, N0 * v0 = p := ⟨_, rfl⟩
                  obtain ⟨P1, e1⟩ : ∃ p, N1 * v1 = p := ⟨_, rfl⟩
                  obtain ⟨P2, e2⟩ : ∃ p, N2 * v2 = p := ⟨_, rfl⟩
                  rw [e0, e1, e2] at hdot
                  rw [e0] at d1
                  rw [e1] at d2
                  rw [e2] at d3
                  have HDOT := Lib.hid hdot
                  have hk1 : (k : Int) < (n : Int) := by omega
                  have hk0 : (0 : Int) ≤ (k : Int) := by omega
                  clear hdot hv hq hc3
                  have z14 : B3 (wr.alloc (.cells #[.int .i64 v0, .int .i64 v1, .int .i64 v2] 53)) wr.heap.size v0 v1 v2 := ⟨alloc_new wr _⟩
                  have B14 : Below wr.heap.size wr (wr.alloc (.cells #[.int .i64 v0, .int .i64 v1, .int .i64 v2] 53)) := (Below.refl _ _).alloc (Nat.le_refl _) _
                  have yC' := yC.keep B14
                  have f0 := cell_block z14.blk 0
                  have f1 := cell_block z14.blk 1
                  have f2 := cell_block z14.blk 2
                  have g0 := cell_block yC'.blk 0
                  have g1 := cell_block yC'.blk 1
                  have g2 := cell_block yC'.blk 2
                  have yA' := yA.keep B14
                  have hb4 := hb3.trans (B14.mono hb3.size)
                  by_cases hd : P0 + P1 + P2 = 0
                  case neg =>
                    have b5 : (P0 + P1 + P2 != 0) = true := by simpa using hd
                    have h3 : Z3 l := ⟨i, j, k, by rw [← HLN.out]; omega, by rw [← HLN.out]; omega, by rw [← HLN.out]; omega, by rw [HDOT.out]; exact hd⟩
                    have H3 := Lib.hid h3
                    clear hd h3
                    go_wp2_with fail
                    refine bodyPost_ret (v := .tuple #[.int .i64 3, .int .i64 0]) (by simp [results, Tryz.results8]) rfl ⟨by rw [(HR1.out HR.out).1, (HR1.out HR.out).2, rkF_three H3.out], hb4⟩
                  case pos =>
                    have b5 : (P0 + P1 + P2 != 0) = false := by simpa using hd
                    have HN2 := Lib.hid (all_succ (Q := fun c => dot (crs (qAt l i) (qAt l j)) (qAt l c) = 0) hNO.out (by show dot _ _ = 0; rw [HDOT.out]; exact hd))
                    clear hd
                    go_wp2_with fail
                    go_roundw
                    case rel => exact ⟨k + 1, by omega, by go_num, HN2, yC', yA', hb4⟩
                    case measure => simp [intOf]; omega
                case neg =>
                  obtain rfl : n = k := by omega
                  have hle : ¬ (n : Int) < (n : Int) := by omega
                  clear hlt3 hk
                  go_wp2_with fail
                  go_roundw
                  case rel => exact ⟨j + 1, _, by omega, by go_num, rfl, ⟨RK2.out, all_succ HNJ.out hNO.out⟩, yA, hb3⟩
                  case measure => simp [intOf]; omega
            case neg =>
              have RK2 := Lib.hid (hR2.max2 (P2' := (∃ a, a < i ∧ ∃ b, b < l.length ∧ crs (qAt l a) (qAt l b) ≠ qur0) ∨ ∃ b, b < j + 1 ∧ crs (qAt l i) (qAt l b) ≠ qur0) (.inr ⟨j, by omega, by rw [HN.out]; exact hc0⟩))
              have b6 := ne_zero3 hc0
              obtain ⟨r3, hr3⟩ : ∃ r3, (if r2 < 2 then 2 else r2) = r3 := ⟨_, rfl⟩
              rw [hr3] at RK2
              clear hc0 hR2 hNJ
              go_wp2_with fail
              obtain ⟨bC, hbC⟩ : ∃ b, w3.heap.size = b := ⟨_, rfl⟩
              rw [hbC] at z12 ⊢
              generalize w3.alloc (.cells #[.int .i64 N0, .int .i64 N1, .int .i64 N2] 53) = X3 at *
              have yC := z12
              have yA := yA'
              clear z12 yA' f0 f1 f2 hbC B12 b6
              go_wp2_with fail
              go_loopw [54] (fun kk wr => ∃ k : Nat, k ≤ n ∧ kk = .int .i64 k ∧ Hid (∀ c, c < k → dot (crs (qAt l i) (qAt l j)) (qAt l c) = 0) ∧ B3 wr bC N0 N1 N2 ∧ B3 wr bA x0 x1 x2 ∧ Below w.heap.size w wr) (fun kk _ => n - (intOf kk).toNat)
              case atStart => exact ⟨0, by omega, rfl, Lib.hid (fun c hc => absurd hc (by omega)), yC, yA, hb3⟩
              case round =>
                clear yC yA hb3
                obtain ⟨k, hk, rfl, hNO, yC, yA, hb3⟩ := hrel
                by_cases hlt3 : k < n
                case pos =>
                  obtain ⟨b3', o3, hbe, hc3⟩ := (h1.keep hb3).at_ (by omega)
                  injection hbe with hbe
                  injection hbe with e1 e2
                  subst e1 e2
                  obtain ⟨s0, s1, s2⟩ := hc3 k hlt3
                  have hsm := HSM.out k
                  have hq : l[k]?.getD qur0 = qAt l k := rfl
                  rw [hq] at s0 s1 s2
                  obtain ⟨⟨v0, v1, v2⟩, hv⟩ : ∃ v, qAt l k = v := ⟨_, rfl⟩
                  rw [hv] at s0 s1 s2 hsm
                  dsimp only [sm] at s0 s1 s2 hsm
                  obtain ⟨t0, t1, t2⟩ := hsm
                  have d1 := mul128 bN0 t0
                  have d2 := mul128 bN1 t1
                  have d3 := mul128 bN2 t2
                  have hdot : dot (crs (qAt l i) (qAt l j)) (qAt l k) = N0 * v0 + N1 * v1 + N2 * v2 := by rw [HN.out, hv]; rfl
                  obtain ⟨P0, e0⟩ : ∃ p, N0 * v0 = p := ⟨_, rfl⟩
                  obtain ⟨P1, e1⟩ : ∃ p, N1 * v1 = p := ⟨_, rfl⟩
                  obtain ⟨P2, e2⟩ : ∃ p, N2 * v2 = p := ⟨_, rfl⟩
                  rw [e0, e1, e2] at hdot
                  rw [e0] at d1
                  rw [e1] at d2
                  rw [e2] at d3
                  have HDOT := Lib.hid hdot
                  have hk1 : (k : Int) < (n : Int) := by omega
                  have hk0 : (0 : Int) ≤ (k : Int) := by omega
                  clear hdot hv hq hc3
                  have z14 : B3 (wr.alloc (.cells #[.int .i64 v0, .int .i64 v1, .int .i64 v2] 53)) wr.heap.size v0 v1 v2 := ⟨alloc_new wr _⟩
                  have B14 : Below wr.heap.size wr (wr.alloc (.cells #[.int .i64 v0, .int .i64 v1, .int .i64 v2] 53)) := (Below.refl _ _).alloc (Nat.le_refl _) _
                  have yC' := yC.keep B14
                  have f0 := cell_block z14.blk 0
                  have f1 := cell_block z14.blk 1
                  have f2 := cell_block z14.blk 2
                  have g0 := cell_block yC'.blk 0
                  have g1 := cell_block yC'.blk 1
                  have g2 := cell_block yC'.blk 2
                  have yA' := yA.keep B14
                  have hb4 := hb3.trans (B14.mono hb3.size)
                  by_cases hd : P0 + P1 + P2 = 0
                  case neg =>
                    have b5 : (P0 + P1 + P2 != 0) = true := by simpa using hd
                    have h3 : Z3 l := ⟨i, j, k, by rw [← HLN.out]; omega, by rw [← HLN.out]; omega, by rw [← HLN.out]; omega, by rw [HDOT.out]; exact hd⟩
                    have H3 := Lib.hid h3
                    clear hd h3
                    go_wp2_with fail
                    refine bodyPost_ret (v := .tuple #[.int .i64 3, .int .i64 0]) (by simp [results, Tryz.results8]) rfl ⟨by rw [(HR1.out HR.out).1, (HR1.out HR.out).2, rkF_three H3.out], hb4⟩
                  case pos =>
                    have b5 : (P0 + P1 + P2 != 0) = false := by simpa using hd
                    have HN2 := Lib.hid (all_succ (Q := fun c => dot (crs (qAt l i) (qAt l j)) (qAt l c) = 0) hNO.out (by show dot _ _ = 0; rw [HDOT.out]; exact hd))
                    clear hd
                    go_wp2_with fail
                    go_roundw
                    case rel => exact ⟨k + 1, by omega, by go_num, HN2, yC', yA', hb4⟩
                    case measure => simp [intOf]; omega
                case neg =>
                  obtain rfl : n = k := by omega
                  have hle : ¬ (n : Int) < (n : Int) := by omega
                  clear hlt3 hk
                  go_wp2_with fail
                  go_roundw
                  case rel => exact ⟨j + 1, _, by omega, by go_num, rfl, ⟨RK2.out, all_succ HNJ.out hNO.out⟩, yA, hb3⟩
                  case measure => simp [intOf]; omega
          case neg =>
            obtain rfl : n = j := by omega
            have hle : ¬ (n : Int) < (n : Int) := by omega
            clear hlt2 hj
            go_wp2_with fail
            go_roundw
            case rel => exact ⟨i + 1, _, by omega, by go_num, rfl, ⟨hRJ.out.1.congr Iff.rfl (by rw [lt_succ_ex (Q := fun a => ∃ b, b < l.length ∧ crs (qAt l a) (qAt l b) ≠ qur0), HLN.out]), all_succ HNI.out hRJ.out.2⟩, hb2⟩
            case measure => simp [intOf]; omega
      case neg =>
        have RK1 := Lib.hid (hRI.max1 (P1' := ∃ a, a < i + 1 ∧ qAt l a ≠ qur0) ⟨i, by omega, by rw [HXI.out]; exact hx0⟩)
        have b6 := ne_zero3 hx0
        obtain ⟨r3, hr3⟩ : ∃ r3, (if r < 1 then 1 else r) = r3 := ⟨_, rfl⟩
        rw [hr3] at RK1
        clear hx0 hRI hNI
        go_wp2_with fail
        obtain ⟨bA, hbA⟩ : ∃ b, wr.heap.size = b := ⟨_, rfl⟩
        rw [hbA] at z9 ⊢
        generalize wr.alloc (.cells #[.int .i64 x0, .int .i64 x1, .int .i64 x2] 53) = X at *
        have yA := z9
        clear z9 f0 f1 f2 hbA B9 b6
        go_wp2_with fail
        go_loopw [39, 7] (fun jj rr wr => ∃ (j : Nat) (r : Int), j ≤ n ∧ jj = .int .i64 j ∧ rr = .int .i64 r ∧ Hid (RkI l (∃ a, a < i + 1 ∧ qAt l a ≠ qur0) ((∃ a, a < i ∧ ∃ b, b < l.length ∧ crs (qAt l a) (qAt l b) ≠ qur0) ∨ ∃ b, b < j ∧ crs (qAt l i) (qAt l b) ≠ qur0) r ∧ ∀ b, b < j → ∀ c, c < n → dot (crs (qAt l i) (qAt l b)) (qAt l c) = 0) ∧ B3 wr bA x0 x1 x2 ∧ Below w.heap.size w wr) (fun jj _ _ => n - (intOf jj).toNat)
        case atStart => exact ⟨0, _, by omega, rfl, rfl, ⟨RK1.out.congr Iff.rfl ⟨fun h => .inl h, fun h => h.elim id (fun ⟨b, hb, _⟩ => absurd hb (by omega))⟩, fun b hb => by omega⟩, yA, hb2⟩
        case round =>
          clear yA hb2
          obtain ⟨j, r2, hj, rfl, rfl, hRJ, yA, hb2⟩ := hrel
          by_cases hlt2 : j < n
          case pos =>
            obtain ⟨b2', o2, hbe, hc2⟩ := (h1.keep hb2).at_ (by omega)
            injection hbe with hbe
            injection hbe with e1 e2
            subst e1 e2
            obtain ⟨s0, s1, s2⟩ := hc2 j hlt2
            have hsmj := HSM.out j
            have hq : l[j]?.getD qur0 = qAt l j := rfl
            rw [hq] at s0 s1 s2
            obtain ⟨⟨y0, y1, y2⟩, hv⟩ : ∃ v, qAt l j = v := ⟨_, rfl⟩
            have HYJ := Lib.hid hv
            rw [hv] at s0 s1 s2 hsmj
            dsimp only at s0 s1 s2
            have HSMJ := Lib.hid hsmj
            have hj1 : (j : Int) < (n : Int) := by omega
            have hj0 : (0 : Int) ≤ (j : Int) := by omega
            clear hv hq hc2 hsmj
            have z11 : B3 (wr.alloc (.cells #[.int .i64 y0, .int .i64 y1, .int .i64 y2] 53)) wr.heap.size y0 y1 y2 := ⟨alloc_new wr _⟩
            have B11 : Below wr.heap.size wr (wr.alloc (.cells #[.int .i64 y0, .int .i64 y1, .int .i64 y2] 53)) := (Below.refl _ _).alloc (Nat.le_refl _) _
            have yA' := yA.keep B11
            have f0 := cell_block z11.blk 0
            have f1 := cell_block z11.blk 1
            have f2 := cell_block z11.blk 2
            have g0 := cell_block yA'.blk 0
            have g1 := cell_block yA'.blk 1
            have g2 := cell_block yA'.blk 2
            have hb4 := hb2.trans (B11.mono hb2.size)
            go_wp2_with fail
            refine (crossM_any (x0, x1, x2) (y0, y1, y2) _ HSMI.out HSMJ.out).mono ?_
            rintro e w3 ⟨rfl, hs⟩
            dsimp only
            have hbN := crs_bd HSMI.out HSMJ.out
            obtain ⟨⟨N0, N1, N2⟩, hN⟩ : ∃ v, crs (x0, x1, x2) (y0, y1, y2) = v := ⟨_, rfl⟩
            rw [hN] at hbN ⊢
            dsimp only at hbN ⊢
            obtain ⟨bN0, bN1, bN2⟩ := hbN
            have hNN : crs (qAt l i) (qAt l j) = (N0, N1, N2) := by rw [HXI.out, HYJ.out, hN]
            have HN := Lib.hid hNN
            replace yA' := yA'.keep hs
            have hb5 := hb4.trans (hs.mono hb4.size)
            clear hN hNN f0 f1 f2 g0 g1 g2 z11 B11 hs s0 s1 s2
            have z12 : B3 (w3.alloc (.cells #[.int .i64 N0, .int .i64 N1, .int .i64 N2] 53)) w3.heap.size N0 N1 N2 := ⟨alloc_new w3 _⟩
            have B12 : Below w3.heap.size w3 (w3.alloc (.cells #[.int .i64 N0, .int .i64 N1, .int .i64 N2] 53)) := (Below.refl _ _).alloc (Nat.le_refl _) _
            have f0 := cell_block z12.blk 0
            have f1 := cell_block z12.blk 1
            have f2 := cell_block z12.blk 2
            replace yA' := yA'.keep B12
            have hb3 := hb5.trans (B12.mono hb5.size)
            obtain ⟨hR2, hNJ⟩ := hRJ.out
            have HNJ := Lib.hid hNJ
            by_cases hc0 : (N0, N1, N2) = qur0
            case pos =>
              have RK2 := Lib.hid (hR2.congr (P2' := (∃ a, a < i ∧ ∃ b, b < l.length ∧ crs (qAt l a) (qAt l b) ≠ qur0) ∨ ∃ b, b < j + 1 ∧ crs (qAt l i) (qAt l b) ≠ qur0) Iff.rfl (by rw [lt_succ_ex (Q := fun b => crs (qAt l i) (qAt l b) ≠ qur0)]; exact ⟨fun h => h.elim .inl (fun h => .inr (.inl h)), fun h => h.elim .inl (fun h => h.elim .inr (fun h => absurd (HN.out.trans hc0) h))⟩))
              injection hc0 with e0 e12
              injection e12 with e1 e2
              have b6 : (N0 == 0 && N1 == 0 && N2 == 0) = true := by rw [e0, e1, e2]; rfl
              clear e0 e1 e2 hR2 hNJ
              go_wp2_with fail
              obtain ⟨bC, hbC⟩ : ∃ b, w3.heap.size = b := ⟨_, rfl⟩
              rw [hbC] at z12 ⊢
              generalize w3.alloc (.cells #[.int .i64 N0, .int .i64 N1, .int .i64 N2] 53) = X3 at *
              have yC := z12
              have yA := yA'
              clear z12 yA' f0 f1 f2 hbC B12 b6
              go_wp2_with fail
              go_loopw [54] (fun kk wr => ∃ k : Nat, k ≤ n ∧ kk = .int .i64 k ∧ Hid (∀ c, c < k → dot (crs (qAt l i) (qAt l j)) (qAt l c) = 0) ∧ B3 wr bC N0 N1 N2 ∧ B3 wr bA x0 x1 x2 ∧ Below w.heap.size w wr) (fun kk _ => n - (intOf kk).toNat)
              case atStart => exact ⟨0, by omega, rfl, Lib.hid (fun c hc => absurd hc (by omega)), yC, yA, hb3⟩
              case round =>
                clear yC yA hb3
                obtain ⟨k, hk, rfl, hNO, yC, yA, hb3⟩ := hrel
                by_cases hlt3 : k < n
                case pos =>
                  obtain ⟨b3', o3, hbe, hc3⟩ := (h1.keep hb3).at_ (by omega)
                  injection hbe with hbe
                  injection hbe with e1 e2
                  subst e1 e2
                  obtain ⟨s0, s1, s2⟩ := hc3 k hlt3
                  have hsm := HSM.out k
                  have hq : l[k]?.getD qur0 = qAt l k := rfl
                  rw [hq] at s0 s1 s2
                  obtain ⟨⟨v0, v1, v2⟩, hv⟩ : ∃ v, qAt l k = v := ⟨_, rfl⟩
                  rw [hv] at s0 s1 s2 hsm
                  dsimp only [sm] at s0 s1 s2 hsm
                  obtain ⟨t0, t1, t2⟩ := hsm
                  have d1 := mul128 bN0 t0
                  have d2 := mul128 bN1 t1
                  have d3 := mul128 bN2 t2
                  have hdot : dot (crs (qAt l i) (qAt l j)) (qAt l k) = N0 * v0 + N1 * v1 + N2 * v2 := by rw [HN.out, hv]; rfl
                  obtain ⟨P0, e0⟩ : ∃ p, N0 * v0 = p := ⟨_, rfl⟩
                  obtain ⟨P1, e1⟩ : ∃ p, N1 * v1 = p := ⟨_, rfl⟩
                  obtain ⟨P2, e2⟩ : ∃ p, N2 * v2 = p := ⟨_, rfl⟩
                  rw [e0, e1, e2] at hdot
                  rw [e0] at d1
                  rw [e1] at d2
                  rw [e2] at d3
                  have HDOT := Lib.hid hdot
                  have hk1 : (k : Int) < (n : Int) := by omega
                  have hk0 : (0 : Int) ≤ (k : Int) := by omega
                  clear hdot hv hq hc3
                  have z14 : B3 (wr.alloc (.cells #[.int .i64 v0, .int .i64 v1, .int .i64 v2] 53)) wr.heap.size v0 v1 v2 := ⟨alloc_new wr _⟩
                  have B14 : Below wr.heap.size wr (wr.alloc (.cells #[.int .i64 v0, .int .i64 v1, .int .i64 v2] 53)) := (Below.refl _ _).alloc (Nat.le_refl _) _
                  have yC' := yC.keep B14
                  have f0 := cell_block z14.blk 0
                  have f1 := cell_block z14.blk 1
                  have f2 := cell_block z14.blk 2
                  have g0 := cell_block yC'.blk 0
                  have g1 := cell_block yC'.blk 1
                  have g2 := cell_block yC'.blk 2
                  have yA' := yA.keep B14
                  have hb4 := hb3.trans (B14.mono hb3.size)
                  by_cases hd : P0 + P1 + P2 = 0
                  case neg =>
                    have b5 : (P0 + P1 + P2 != 0) = true := by simpa using hd
                    have h3 : Z3 l := ⟨i, j, k, by rw [← HLN.out]; omega, by rw [← HLN.out]; omega, by rw [← HLN.out]; omega, by rw [HDOT.out]; exact hd⟩
                    have H3 := Lib.hid h3
                    clear hd h3
                    go_wp2_with fail
                    refine bodyPost_ret (v := .tuple #[.int .i64 3, .int .i64 0]) (by simp [results, Tryz.results8]) rfl ⟨by rw [(HR1.out HR.out).1, (HR1.out HR.out).2, rkF_three H3.out], hb4⟩
                  case pos =>
                    have b5 : (P0 + P1 + P2 != 0) = false := by simpa using hd
                    have HN2 := Lib.hid (all_succ (Q := fun c => dot (crs (qAt l i) (qAt l j)) (qAt l c) = 0) hNO.out (by show dot _ _ = 0; rw [HDOT.out]; exact hd))
                    clear hd
                    go_wp2_with fail
                    go_roundw
                    case rel => exact ⟨k + 1, by omega, by go_num, HN2, yC', yA', hb4⟩
                    case measure => simp [intOf]; omega
                case neg =>
                  obtain rfl : n = k := by omega
                  have hle : ¬ (n : Int) < (n : Int) := by omega
                  clear hlt3 hk
                  go_wp2_with fail
                  go_roundw
                  case rel => exact ⟨j + 1, _, by omega, by go_num, rfl, ⟨RK2.out, all_succ HNJ.out hNO.out⟩, yA, hb3⟩
                  case measure => simp [intOf]; omega
            case neg =>
              have RK2 := Lib.hid (hR2.max2 (P2' := (∃ a, a < i ∧ ∃ b, b < l.length ∧ crs (qAt l a) (qAt l b) ≠ qur0) ∨ ∃ b, b < j + 1 ∧ crs (qAt l i) (qAt l b) ≠ qur0) (.inr ⟨j, by omega, by rw [HN.out]; exact hc0⟩))
              have b6 := ne_zero3 hc0
              obtain ⟨r3, hr3⟩ : ∃ r3, (if r2 < 2 then 2 else r2) = r3 := ⟨_, rfl⟩
              rw [hr3] at RK2
              clear hc0 hR2 hNJ
              go_wp2_with fail
              obtain ⟨bC, hbC⟩ : ∃ b, w3.heap.size = b := ⟨_, rfl⟩
              rw [hbC] at z12 ⊢
              generalize w3.alloc (.cells #[.int .i64 N0, .int .i64 N1, .int .i64 N2] 53) = X3 at *
              have yC := z12
              have yA := yA'
              clear z12 yA' f0 f1 f2 hbC B12 b6
              go_wp2_with fail
              go_loopw [54] (fun kk wr => ∃ k : Nat, k ≤ n ∧ kk = .int .i64 k ∧ Hid (∀ c, c < k → dot (crs (qAt l i) (qAt l j)) (qAt l c) = 0) ∧ B3 wr bC N0 N1 N2 ∧ B3 wr bA x0 x1 x2 ∧ Below w.heap.size w wr) (fun kk _ => n - (intOf kk).toNat)
              case atStart => exact ⟨0, by omega, rfl, Lib.hid (fun c hc => absurd hc (by omega)), yC, yA, hb3⟩
              case round =>
                clear yC yA hb3
                obtain ⟨k, hk, rfl, hNO, yC, yA, hb3⟩ := hrel
                by_cases hlt3 : k < n
                case pos =>
                  obtain ⟨b3', o3, hbe, hc3⟩ := (h1.keep hb3).at_ (by omega)
                  injection hbe with hbe
                  injection hbe with e1 e2
                  subst e1 e2
                  obtain ⟨s0, s1, s2⟩ := hc3 k hlt3
                  have hsm := HSM.out k
                  have hq : l[k]?.getD qur0 = qAt l k := rfl
                  rw [hq] at s0 s1 s2
                  obtain ⟨⟨v0, v1, v2⟩, hv⟩ : ∃ v, qAt l k = v := ⟨_, rfl⟩
                  rw [hv] at s0 s1 s2 hsm
                  dsimp only [sm] at s0 s1 s2 hsm
                  obtain ⟨t0, t1, t2⟩ := hsm
                  have d1 := mul128 bN0 t0
                  have d2 := mul128 bN1 t1
                  have d3 := mul128 bN2 t2
                  have hdot : dot (crs (qAt l i) (qAt l j)) (qAt l k) = N0 * v0 + N1 * v1 + N2 * v2 := by rw [HN.out, hv]; rfl
                  obtain ⟨P0, e0⟩ : ∃ p, N0 * v0 = p := ⟨_, rfl⟩
                  obtain ⟨P1, e1⟩ : ∃ p, N1 * v1 = p := ⟨_, rfl⟩
                  obtain ⟨P2, e2⟩ : ∃ p, N2 * v2 = p := ⟨_, rfl⟩
                  rw [e0, e1, e2] at hdot
                  rw [e0] at d1
                  rw [e1] at d2
                  rw [e2] at d3
                  have HDOT := Lib.hid hdot
                  have hk1 : (k : Int) < (n : Int) := by omega
                  have hk0 : (0 : Int) ≤ (k : Int) := by omega
                  clear hdot hv hq hc3
                  have z14 : B3 (wr.alloc (.cells #[.int .i64 v0, .int .i64 v1, .int .i64 v2] 53)) wr.heap.size v0 v1 v2 := ⟨alloc_new wr _⟩
                  have B14 : Below wr.heap.size wr (wr.alloc (.cells #[.int .i64 v0, .int .i64 v1, .int .i64 v2] 53)) := (Below.refl _ _).alloc (Nat.le_refl _) _
                  have yC' := yC.keep B14
                  have f0 := cell_block z14.blk 0
                  have f1 := cell_block z14.blk 1
                  have f2 := cell_block z14.blk 2
                  have g0 := cell_block yC'.blk 0
                  have g1 := cell_block yC'.blk 1
                  have g2 := cell_block yC'.blk 2
                  have yA' := yA.keep B14
                  have hb4 := hb3.trans (B14.mono hb3.size)
                  by_cases hd : P0 + P1 + P2 = 0
                  case neg =>
                    have b5 : (P0 + P1 + P2 != 0) = true := by simpa using hd
                    have h3 : Z3 l := ⟨i, j, k, by rw [← HLN.out]; omega, by rw [← HLN.out]; omega, by rw [← HLN.out]; omega, by rw [HDOT.out]; exact hd⟩
                    have H3 := Lib.hid h3
                    clear hd h3
                    go_wp2_with fail
                    refine bodyPost_ret (v := .tuple #[.int .i64 3, .int .i64 0]) (by simp [results, Tryz.results8]) rfl ⟨by rw [(HR1.out HR.out).1, (HR1.out HR.out).2, rkF_three H3.out], hb4⟩
                  case pos =>
                    have b5 : (P0 + P1 + P2 != 0) = false := by simpa using hd
                    have HN2 := Lib.hid (all_succ (Q := fun c => dot (crs (qAt l i) (qAt l j)) (qAt l c) = 0) hNO.out (by show dot _ _ = 0; rw [HDOT.out]; exact hd))
                    clear hd
                    go_wp2_with fail
                    go_roundw
                    case rel => exact ⟨k + 1, by omega, by go_num, HN2, yC', yA', hb4⟩
                    case measure => simp [intOf]; omega
                case neg =>
                  obtain rfl : n = k := by omega
                  have hle : ¬ (n : Int) < (n : Int) := by omega
                  clear hlt3 hk
                  go_wp2_with fail
                  go_roundw
                  case rel => exact ⟨j + 1, _, by omega, by go_num, rfl, ⟨RK2.out, all_succ HNJ.out hNO.out⟩, yA, hb3⟩
                  case measure => simp [intOf]; omega
          case neg =>
            obtain rfl : n = j := by omega
            have hle : ¬ (n : Int) < (n : Int) := by omega
            clear hlt2 hj
            go_wp2_with fail
            go_roundw
            case rel => exact ⟨i + 1, _, by omega, by go_num, rfl, ⟨hRJ.out.1.congr Iff.rfl (by rw [lt_succ_ex (Q := fun a => ∃ b, b < l.length ∧ crs (qAt l a) (qAt l b) ≠ qur0), HLN.out]), all_succ HNI.out hRJ.out.2⟩, hb2⟩
            case measure => simp [intOf]; omega
    case neg =>
      obtain rfl : n = i := by omega
      have hle : ¬ (n : Int) < (n : Int) := by omega
      have hno : ¬ Z3 l := by
        rintro ⟨a1, b1, c1, h1, h2, h3, h⟩
        exact h (hRK.out.2 a1 (by have := HLN.out; omega) b1 (by have := HLN.out; omega) c1 (by have := HLN.out; omega))
      have hF : rkF l = r := rkF_of hno (hRK.out.1.congr ⟨fun ⟨a, h1, h2⟩ => ⟨a, by have := HLN.out; omega, h2⟩, fun ⟨a, h1, h2⟩ => ⟨a, by have := HLN.out; omega, h2⟩⟩ ⟨fun ⟨a, h1, b, h2, h3⟩ => ⟨a, b, by have := HLN.out; omega, h2, h3⟩, fun ⟨a, b, h1, h2, h3⟩ => ⟨a, by have := HLN.out; omega, b, h2, h3⟩⟩)
      have HF := Lib.hid hF
      clear hno hF hlt hi
      go_wp2_with fail
      refine bodyPost_ret (v := .tuple #[.int .i64 r, .int .i64 0]) (by simp [results, Tryz.results8]) rfl ⟨by rw [(HR1.out HR.out).1, (HR1.out HR.out).2, HF.out], hb⟩
end Go.Proofs.YtaiikekgckjdeaaGreat
