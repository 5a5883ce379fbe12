/- The rank of quantities: the reference's. Printed by gen_y9.py. -/
import Derived.Test.YtaiikekgckjdeaaGreatK23
namespace Go.Proofs.YtaiikekgckjdeaaGreat
open Go.RowKit
attribute [local go_sem] Oper.semAt_some eq3
open Calmly (Kept)
/-- A rank that may be three already. -/
structure RrI (l : List QuR) (P1 P2 P3 : Prop) (r : Int) : Prop where
  yes : P3 → r = 3
  no : ¬ P3 → RkI l P1 P2 r
  bd : 0 ≤ r ∧ r ≤ 3
theorem RrI.max1 {l : List QuR} {P1 P2 P3 P1' : Prop} {r : Int} (h : RrI l P1 P2 P3 r) (h1 : P1') : RrI l P1' P2 P3 (if r < 1 then 1 else r) :=
  ⟨fun e => by have := h.yes e; split <;> omega, fun e => (h.no e).max1 h1, by have := h.bd; split <;> omega⟩
theorem RrI.max2 {l : List QuR} {P1 P2 P3 P2' : Prop} {r : Int} (h : RrI l P1 P2 P3 r) (h2 : P2') : RrI l P1 P2' P3 (if r < 2 then 2 else r) :=
  ⟨fun e => by have := h.yes e; split <;> omega, fun e => (h.no e).max2 h2, by have := h.bd; split <;> omega⟩
theorem RrI.three {l : List QuR} {P1 P2 P3 : Prop} (h : P3) : RrI l P1 P2 P3 3 := ⟨fun _ => rfl, fun e => absurd h e, by omega⟩
theorem RrI.congr {l : List QuR} {P1 P2 P3 P1' P2' P3' : Prop} {r : Int} (h : RrI l P1 P2 P3 r) (h1 : P1 ↔ P1') (h2 : P2 ↔ P2') (h3 : P3 ↔ P3') : RrI l P1' P2' P3' r := by
  rw [propext h1, propext h2, propext h3] at h
  exact h
theorem rr_start (l : List QuR) : RrI l (∃ a, a < 0 ∧ qAt l a ≠ qur0) (∃ a, a < 0 ∧ ∃ b, b < a ∧ crs (qAt l a) (qAt l b) ≠ qur0) (∃ a, a < 0 ∧ ∃ b, b < a ∧ ∃ c, c < b ∧ dot (crs (qAt l a) (qAt l b)) (qAt l c) ≠ 0) 0 := by
  refine ⟨?_, fun _ => ⟨by omega, ⟨fun h => by omega, ?_⟩, ⟨fun h => by omega, ?_⟩⟩, by omega⟩
  · rintro ⟨a, h, _⟩; omega
  · rintro ⟨a, h, _⟩; omega
  · rintro (⟨a, h, _⟩ | ⟨a, h, _⟩) <;> omega
theorem rr_end {l : List QuR} {r : Int} (h : RrI l (∃ a, a < l.length ∧ qAt l a ≠ qur0) (∃ a, a < l.length ∧ ∃ b, b < a ∧ crs (qAt l a) (qAt l b) ≠ qur0) (∃ a, a < l.length ∧ ∃ b, b < a ∧ ∃ c, c < b ∧ dot (crs (qAt l a) (qAt l b)) (qAt l c) ≠ 0) r) : rkF l = r := by
  by_cases h3 : Z3 l
  · rw [rkF_three h3]
    obtain ⟨i, j, k, a, b, c, d⟩ := Z3_order h3
    exact (h.yes ⟨i, c, j, b, k, a, d⟩).symm
  · refine rkF_of h3 ((h.no ?_).congr Iff.rfl ⟨?_, ?_⟩)
    · rintro ⟨a, h1, b, h2, c, h4, h5⟩
      exact h3 ⟨a, b, c, h1, by omega, by omega, h5⟩
    · rintro ⟨a, h1, b, h2, h4⟩
      exact ⟨a, b, h1, by omega, h4⟩
    · intro h2
      obtain ⟨i, j, a, b, c⟩ := Z2_order h2
      exact ⟨i, b, j, a, c⟩
theorem kept_alloc3 {W w : World} {o : Obj} {G : Prop} (h : Below W.heap.size W w) (k : Below W.heap.size W (w.alloc o) → Below w.heap.size w (w.alloc o) → (w.alloc o).heap[w.heap.size]? = some o → G) : Kept W (w.alloc o) ∧ G :=
  ⟨kept_of (h.alloc h.size o), k (h.alloc h.size o) ((Below.refl _ _).alloc (Nat.le_refl _) _) (alloc_new w o)⟩
set_option maxRecDepth 100000 in
set_option maxHeartbeats 16000000 in
theorem rRank_any (a : Option Addr) (n c : Nat) (l : List QuR) (w : World) (h1 : SQuR w a n c l) (hqs : (qsE l).2 = 0) :
    Calls Tryz.prog 14 #[.slice a n c] w fun e w' => e = .returned (.int .i64 (rkF l)) ∧ Below w.heap.size w w' := by
  have hln := h1.len
  have m1 := h1.max
  have c1 := h1.cap
  have HLN := Lib.hid hln
  have hsm := qAt_sm hqs
  have HSM := Lib.hid hsm
  obtain ⟨R0, hR0⟩ : ∃ x, rkF l = x := ⟨_, rfl⟩
  rw [hR0]
  have HR0 := Lib.hid hR0
  clear hR0 hsm hqs hln
  go_enter Tryz.func14, Tryz.ntmps14
  go_wp2_with fail
  go_loopw [4, 3] (fun ii rr wr => ∃ (i : Nat) (r : Int), i ≤ n ∧ ii = .int .i64 i ∧ rr = .int .i64 r ∧ Hid (RrI l (∃ a, a < i ∧ qAt l a ≠ qur0) (∃ a, a < i ∧ ∃ b, b < a ∧ crs (qAt l a) (qAt l b) ≠ qur0) (∃ a, a < i ∧ ∃ b, b < a ∧ ∃ c, c < b ∧ dot (crs (qAt l a) (qAt l b)) (qAt l c) ≠ 0) r) ∧ Below w.heap.size w wr) (fun ii _ _ => n - (intOf ii).toNat)
  case atStart => exact ⟨0, 0, by omega, rfl, rfl, Lib.hid (rr_start l), Below.refl _ _⟩
  case round =>
    obtain ⟨i, r, hi, rfl, rfl, hRK, hb⟩ := hrel
    by_cases hlt : i < n
    case pos =>
      obtain ⟨b1', o1, rfl, hc1⟩ := (h1.keep hb).at_ (by omega)
      obtain ⟨p0, p1, p2⟩ := hc1 i hlt
      have hsmi := HSM.out i
      have hq : l[i]?.getD qur0 = qAt l i := rfl
      rw [hq] at p0 p1 p2
      obtain ⟨⟨x0, x1, x2⟩, hv⟩ : ∃ v, qAt l i = v := ⟨_, rfl⟩
      have HXI := Lib.hid hv
      rw [hv] at p0 p1 p2 hsmi
      dsimp only at p0 p1 p2
      have HSMI := Lib.hid hsmi
      have hi1 : (i : Int) < (n : Int) := by omega
      have hi0 : (0 : Int) ≤ (i : Int) := by omega
      have hRI := hRK.out
      clear hv hq hc1 hsmi
      by_cases hx0 : (x0, x1, x2) = qur0
      case pos =>
        have RK1 := Lib.hid (hRI.congr (P1' := (∃ a, a < i + 1 ∧ qAt l a ≠ qur0)) (by rw [lt_succ_ex (Q := fun a => qAt l a ≠ qur0)]; exact ⟨.inl, fun h => h.elim id (fun h => absurd (HXI.out.trans hx0) h)⟩) Iff.rfl Iff.rfl)
        injection hx0 with e0 e12
        injection e12 with e1 e2
        have b6 : (x0 == 0 && x1 == 0 && x2 == 0) = true := by rw [e0, e1, e2]; rfl
        clear e0 e1 e2 hRI
        go_wp2_with fail
        go_loopw [5, 3] (fun jj rr wr => ∃ (j : Nat) (r : Int), j ≤ i ∧ jj = .int .i64 j ∧ rr = .int .i64 r ∧ Hid (RrI l (∃ a, a < i + 1 ∧ qAt l a ≠ qur0) ((∃ a, a < i ∧ ∃ b, b < a ∧ crs (qAt l a) (qAt l b) ≠ qur0) ∨ ∃ b, b < j ∧ crs (qAt l i) (qAt l b) ≠ qur0) ((∃ a, a < i ∧ ∃ b, b < a ∧ ∃ c, c < b ∧ dot (crs (qAt l a) (qAt l b)) (qAt l c) ≠ 0) ∨ ∃ b, b < j ∧ ∃ c, c < b ∧ dot (crs (qAt l i) (qAt l b)) (qAt l c) ≠ 0) r) ∧ Below w.heap.size w wr) (fun jj _ _ => i - (intOf jj).toNat)
        case atStart => exact ⟨0, _, by omega, rfl, rfl, Lib.hid (RK1.out.congr Iff.rfl ⟨.inl, fun h => h.elim id (fun ⟨b, hb, _⟩ => absurd hb (by omega))⟩ ⟨.inl, fun h => h.elim id (fun ⟨b, hb, _⟩ => absurd hb (by omega))⟩), hb⟩
        case round =>
          clear hb RK1
          obtain ⟨j, r2, hj, rfl, rfl, hRJ, hb2⟩ := hrel
          by_cases hlt2 : j < i
          case pos =>
            have hj1 : (j : Int) < (i : Int) := by omega
            have hj2 : (j : Int) < (n : Int) := by omega
            have hj0 : (0 : Int) ≤ (j : Int) := by omega
            go_wp2_with fail
            refine Calmly.wp_region_mix 10 (.fl 0 <| .fl 1 <| .fl 2 <| .fl 3 <| .fl 4 <| .fl 5 <| .fl 6 <| .fl 7 <| .alt 8 (.eff 9 <| .tail [10]) (.eff 9 (.eff 8 <| .tail [10]))) (by kernel_rfl) (by kernel_rfl) ?_
            have BD : Below wr.heap.size wr wr.drew := (Below.refl _ _).drew
            replace hb2 := hb2.trans (BD.mono hb2.size)
            clear BD
            generalize wr.drew = V2 at *
            rename_i K10 hK10
            have hK10' := fun a w (h : Stop _) => hK10 a w h.out
            have HK10 := Lib.hid hK10'
            clear hK10 hK10'
            obtain ⟨b2', o2, hbe, hc2⟩ := (h1.keep hb2).at_ (by omega)
            injection hbe with hbe
            injection hbe with e1 e2
            subst e1 e2
            obtain ⟨s0, s1, s2⟩ := hc2 j (by omega)
            obtain ⟨p0, p1, p2⟩ := hc2 i hlt
            have hsmj := HSM.out j
            have hq : l[j]?.getD qur0 = qAt l j := rfl
            have hq2 : l[i]?.getD qur0 = qAt l i := rfl
            rw [hq] at s0 s1 s2
            rw [hq2, HXI.out] at p0 p1 p2
            obtain ⟨⟨y0, y1, y2⟩, hv⟩ : ∃ v, qAt l j = v := ⟨_, rfl⟩
            have HYJ := Lib.hid hv
            rw [hv] at s0 s1 s2 hsmj
            dsimp only at s0 s1 s2 p0 p1 p2
            have HSMJ := Lib.hid hsmj
            clear hv hq hq2 hc2 hsmj
            have hbN := crs_bd HSMI.out HSMJ.out
            obtain ⟨⟨N0, N1, N2⟩, hN⟩ : ∃ v, crs (x0, x1, x2) (y0, y1, y2) = v := ⟨_, rfl⟩
            rw [hN] at hbN
            dsimp only at hbN
            obtain ⟨bN0, bN1, bN2⟩ := hbN
            have hNN : crs (qAt l i) (qAt l j) = (N0, N1, N2) := by rw [HXI.out, HYJ.out, hN]
            have HN := Lib.hid hNN
            clear hNN
            have hk := Below.refl V2.heap.size V2
            go_wp2_with (first | ((with_reducible refine Calmly.is_fl ?_); refine Calmly.mix_fl rfl ?_ (fun _ _ => ?_); (first | exact .move _ | exact .load _ _ | exact .fieldAddr _ _ _ (by kernel_rfl) | exact .assign _ | exact .binOp _ _ _ _ _ rfl | exact .indexAddr _ _ _ | exact .len _ _ (by kernel_rfl) | exact .field _ _ _ | exact .extract _ _ | exact .pick _ _ _ | exact .build _ _ | exact .slice _ _ _ _ _ | exact .unOp _ _ _ rfl | exact .index _ _ _ | exact .max _ _ _ rfl rfl | exact .min _ _ _ rfl rfl | exact .nilCheck _ _ rfl)) | ((with_reducible refine Calmly.is_gl ?_); refine Calmly.mix_gl rfl rfl rfl ?_; first | ((first | with_reducible refine Calmly.gl_tt ?_ (fun _ _ => ?_) | with_reducible refine Calmly.gl_ff ?_ (fun _ _ => ?_)); (first | exact .move _ | exact .load _ _ | exact .fieldAddr _ _ _ (by kernel_rfl) | exact .assign _ | exact .binOp _ _ _ _ _ rfl | exact .indexAddr _ _ _ | exact .len _ _ (by kernel_rfl) | exact .field _ _ _ | exact .extract _ _ | exact .pick _ _ _ | exact .build _ _ | exact .slice _ _ _ _ _ | exact .unOp _ _ _ rfl | exact .index _ _ _ | exact .max _ _ _ rfl rfl | exact .min _ _ _ rfl rfl | exact .nilCheck _ _ rfl)) | with_reducible refine Calmly.gl_tf (fun _ _ => ?_) | with_reducible refine Calmly.gl_ft (fun _ _ => ?_)) | ((with_reducible refine Calmly.is_eff ?_); refine Calmly.mix_eff rfl (fun _ _ => ?_)) | ((with_reducible refine Calmly.is_gf ?_); refine Calmly.mix_gf rfl rfl rfl ?_; first | with_reducible refine Calmly.gf_tt (fun _ _ => ?_) | with_reducible refine Calmly.gf_ff (fun _ _ => ?_) | with_reducible refine Calmly.gf_tf (kept_of hk) (fun _ _ => ?_) | with_reducible refine Calmly.gf_ft (kept_of hk) (fun _ _ => ?_)) | ((with_reducible refine Calmly.is_tail ?_); first | refine Calmly.mix_tail_nil ?_ | refine Calmly.mix_tail rfl (fun _ _ => ?_)) | ((with_reducible refine Calmly.is_kept ?_); refine ⟨kept_of hk, ?_⟩) | (with_reducible refine Calmly.mix_alt ?_ ?_) | (go_at_call 52; refine (rCross_any (x0, x1, x2) (y0, y1, y2) _ HSMI.out HSMJ.out).mono ?_; rintro e w3 ⟨rfl, hs⟩; (try dsimp only); rw [hN]; (try dsimp only); replace hk := step_of hk hs; (try (replace z15 := blk_keep z15 hs)); (try have z0 := cell_block z15 0); (try have x0' := frozen_block z15 0); (try have z1 := cell_block z15 1); (try have x1' := frozen_block z15 1); (try have z2 := cell_block z15 2); (try have x2' := frozen_block z15 2); clear hs) | (refine kept_alloc3 hk (fun hk' hA hblk => ?_); have hqz := hk.size; replace hk := hk'; clear hk'; have z15 := hblk; clear hblk hA; (try have z0 := cell_block z15 0); (try have x0' := frozen_block z15 0); (try have z1 := cell_block z15 1); (try have x1' := frozen_block z15 1); (try have z2 := cell_block z15 2); (try have x2' := frozen_block z15 2); generalize World.alloc _ (.cells #[.int .i64 0, .int .i64 0, .int .i64 0] 53) = X15 at *))
            · have yC := (((B3.mk z15).set0 N0).set1 N1).set2 N2
              have hb3 := hb2.trans (((((hk.setCell (p := ⟨w3.heap.size, 0, none⟩) hqz (.int .i64 N0)).setCell (p := ⟨w3.heap.size, 1, none⟩) hqz (.int .i64 N1)).setCell (p := ⟨w3.heap.size, 2, none⟩) hqz (.int .i64 N2))).mono hb2.size)
              refine HK10.out _ _ ⟨?_⟩
              clear HK10 hk z15 z0 z1 z2 x0' x1' x2' s0 s1 s2 p0 p1 p2 hqz
              obtain ⟨bC, hbC⟩ : ∃ b, w3.heap.size = b := ⟨_, rfl⟩
              rw [hbC] at yC hb3 ⊢
              generalize ((X15.setCell ⟨bC, 0, none⟩ (.int .i64 N0)).setCell ⟨bC, 1, none⟩ (.int .i64 N1)).setCell ⟨bC, 2, none⟩ (.int .i64 N2) = W3 at *
              have f0 := cell_block yC.blk 0
              have f1 := cell_block yC.blk 1
              have f2 := cell_block yC.blk 2
              have hRJo := hRJ.out
              by_cases hc0 : (N0, N1, N2) = qur0
              case pos =>
                have RK2 := Lib.hid (hRJo.congr (P2' := ((∃ a, a < i ∧ ∃ b, b < a ∧ crs (qAt l a) (qAt l b) ≠ qur0) ∨ ∃ b, b < j + 1 ∧ crs (qAt l i) (qAt l b) ≠ qur0)) Iff.rfl (by rw [lt_succ_ex (Q := fun b => crs (qAt l i) (qAt l b) ≠ qur0)]; exact ⟨fun h => h.elim .inl (fun h => .inr (.inl h)), fun h => h.elim .inl (fun h => h.elim .inr (fun h => absurd (HN.out.trans hc0) h))⟩) Iff.rfl)
                injection hc0 with e0 e12
                injection e12 with e1 e2
                have b6 : (N0 == 0 && N1 == 0 && N2 == 0) = true := by rw [e0, e1, e2]; rfl
                clear e0 e1 e2 hRJo hN
                go_wp2_with fail
                go_loopw [7, 3] (fun kk rr wr => ∃ (k : Nat) (r : Int), k ≤ j ∧ kk = .int .i64 k ∧ rr = .int .i64 r ∧ Hid (RrI l (∃ a, a < i + 1 ∧ qAt l a ≠ qur0) ((∃ a, a < i ∧ ∃ b, b < a ∧ crs (qAt l a) (qAt l b) ≠ qur0) ∨ ∃ b, b < j + 1 ∧ crs (qAt l i) (qAt l b) ≠ qur0) (((∃ a, a < i ∧ ∃ b, b < a ∧ ∃ c, c < b ∧ dot (crs (qAt l a) (qAt l b)) (qAt l c) ≠ 0) ∨ ∃ b, b < j ∧ ∃ c, c < b ∧ dot (crs (qAt l i) (qAt l b)) (qAt l c) ≠ 0) ∨ ∃ c, c < k ∧ dot (crs (qAt l i) (qAt l j)) (qAt l c) ≠ 0) r) ∧ B3 wr bC N0 N1 N2 ∧ Below w.heap.size w wr) (fun kk _ _ => j - (intOf kk).toNat)
                case atStart => exact ⟨0, _, by omega, rfl, rfl, Lib.hid (RK2.out.congr Iff.rfl Iff.rfl ⟨.inl, fun h => h.elim id (fun ⟨c, hc, _⟩ => absurd hc (by omega))⟩), yC, hb3⟩
                case round =>
                  clear yC hb3 RK2
                  obtain ⟨k, r5, hkj, rfl, rfl, hRC, yC, hb3⟩ := hrel
                  by_cases hlt3 : k < j
                  case pos =>
                    have hk1 : (k : Int) < (j : Int) := by omega
                    have hk2 : (k : Int) < (n : Int) := by omega
                    have hk0 : (0 : Int) ≤ (k : Int) := by omega
                    go_wp2_with fail
                    refine Calmly.wp_region_mix 25 (.fl 0 <| .fl 1 <| .fl 2 <| .fl 3 <| .fl 4 <| .fl 5 <| .fl 6 <| .fl 7 <| .fl 8 <| .fl 9 <| .fl 10 <| .fl 11 <| .fl 12 <| .fl 13 <| .fl 14 <| .fl 15 <| .fl 16 <| .fl 17 <| .fl 18 <| .fl 19 <| .fl 20 <| .fl 21 <| .fl 22 <| .fl 23 <| .fl 24 <| .tail [25, 26]) (by kernel_rfl) (by kernel_rfl) ?_
                    have BD : Below wr.heap.size wr wr.drew := (Below.refl _ _).drew
                    replace yC := yC.keep BD
                    replace hb3 := hb3.trans (BD.mono hb3.size)
                    clear BD
                    generalize wr.drew = V3 at *
                    obtain ⟨b3', o3, hbe, hc3⟩ := (h1.keep hb3).at_ (by omega)
                    injection hbe with hbe
                    injection hbe with e1 e2
                    subst e1 e2
                    obtain ⟨s0, s1, s2⟩ := hc3 k (by omega)
                    have hsm := HSM.out k
                    have hq : l[k]?.getD qur0 = qAt l k := rfl
                    rw [hq] at s0 s1 s2
                    obtain ⟨⟨v0, v1, v2⟩, hv⟩ : ∃ v, qAt l k = v := ⟨_, rfl⟩
                    rw [hv] at s0 s1 s2 hsm
                    dsimp only [sm] at s0 s1 s2 hsm
                    obtain ⟨t0, t1, t2⟩ := hsm
                    have d1 := mul128 bN0 t0
                    have d2 := mul128 bN1 t1
                    have d3 := mul128 bN2 t2
                    have hdot : dot (crs (qAt l i) (qAt l j)) (qAt l k) = N0 * v0 + N1 * v1 + N2 * v2 := by rw [HN.out, hv]; rfl
                    obtain ⟨Q0, e0⟩ : ∃ p, N0 * v0 = p := ⟨_, rfl⟩
                    obtain ⟨Q1, e1⟩ : ∃ p, N1 * v1 = p := ⟨_, rfl⟩
                    obtain ⟨Q2, e2⟩ : ∃ p, N2 * v2 = p := ⟨_, rfl⟩
                    rw [e0, e1, e2] at hdot
                    rw [e0] at d1
                    rw [e1] at d2
                    rw [e2] at d3
                    have HDOT := Lib.hid hdot
                    clear hdot hv hq hc3
                    have g0 := cell_block yC.blk 0
                    have g1 := cell_block yC.blk 1
                    have g2 := cell_block yC.blk 2
                    have hk := Below.refl V3.heap.size V3
                    by_cases hd : Q0 + Q1 + Q2 = 0
                    case neg =>
                      have b5 : (Q0 + Q1 + Q2 != 0) = true := by simpa using hd
                      have RK3 := Lib.hid (RrI.three (l := l) (P1 := (∃ a, a < i + 1 ∧ qAt l a ≠ qur0)) (P2 := ((∃ a, a < i ∧ ∃ b, b < a ∧ crs (qAt l a) (qAt l b) ≠ qur0) ∨ ∃ b, b < j + 1 ∧ crs (qAt l i) (qAt l b) ≠ qur0)) (P3 := ((∃ a, a < i ∧ ∃ b, b < a ∧ ∃ c, c < b ∧ dot (crs (qAt l a) (qAt l b)) (qAt l c) ≠ 0) ∨ ∃ b, b < j ∧ ∃ c, c < b ∧ dot (crs (qAt l i) (qAt l b)) (qAt l c) ≠ 0) ∨ ∃ c, c < k + 1 ∧ dot (crs (qAt l i) (qAt l j)) (qAt l c) ≠ 0) (.inr ⟨k, by omega, by rw [HDOT.out]; exact hd⟩))
                      clear hd
                      go_wp2_with (first | ((with_reducible refine Calmly.is_fl ?_); refine Calmly.mix_fl rfl ?_ (fun _ _ => ?_); (first | exact .move _ | exact .load _ _ | exact .fieldAddr _ _ _ (by kernel_rfl) | exact .assign _ | exact .binOp _ _ _ _ _ rfl | exact .indexAddr _ _ _ | exact .len _ _ (by kernel_rfl) | exact .field _ _ _ | exact .extract _ _ | exact .pick _ _ _ | exact .build _ _ | exact .slice _ _ _ _ _ | exact .unOp _ _ _ rfl | exact .index _ _ _ | exact .max _ _ _ rfl rfl | exact .min _ _ _ rfl rfl | exact .nilCheck _ _ rfl)) | ((with_reducible refine Calmly.is_gl ?_); refine Calmly.mix_gl rfl rfl rfl ?_; first | ((first | with_reducible refine Calmly.gl_tt ?_ (fun _ _ => ?_) | with_reducible refine Calmly.gl_ff ?_ (fun _ _ => ?_)); (first | exact .move _ | exact .load _ _ | exact .fieldAddr _ _ _ (by kernel_rfl) | exact .assign _ | exact .binOp _ _ _ _ _ rfl | exact .indexAddr _ _ _ | exact .len _ _ (by kernel_rfl) | exact .field _ _ _ | exact .extract _ _ | exact .pick _ _ _ | exact .build _ _ | exact .slice _ _ _ _ _ | exact .unOp _ _ _ rfl | exact .index _ _ _ | exact .max _ _ _ rfl rfl | exact .min _ _ _ rfl rfl | exact .nilCheck _ _ rfl)) | with_reducible refine Calmly.gl_tf (fun _ _ => ?_) | with_reducible refine Calmly.gl_ft (fun _ _ => ?_)) | ((with_reducible refine Calmly.is_eff ?_); refine Calmly.mix_eff rfl (fun _ _ => ?_)) | ((with_reducible refine Calmly.is_gf ?_); refine Calmly.mix_gf rfl rfl rfl ?_; first | with_reducible refine Calmly.gf_tt (fun _ _ => ?_) | with_reducible refine Calmly.gf_ff (fun _ _ => ?_) | with_reducible refine Calmly.gf_tf (kept_of hk) (fun _ _ => ?_) | with_reducible refine Calmly.gf_ft (kept_of hk) (fun _ _ => ?_)) | ((with_reducible refine Calmly.is_tail ?_); first | refine Calmly.mix_tail_nil ?_ | refine Calmly.mix_tail rfl (fun _ _ => ?_)) | ((with_reducible refine Calmly.is_kept ?_); refine ⟨kept_of hk, ?_⟩) | (with_reducible refine Calmly.mix_alt ?_ ?_))
                      go_roundw
                      case rel => exact ⟨k + 1, _, by omega, by go_num, rfl, RK3, yC, hb3⟩
                      case measure => simp [intOf]; omega
                    case pos =>
                      have b5 : (Q0 + Q1 + Q2 != 0) = false := by simpa using hd
                      have RK3 := Lib.hid (hRC.out.congr (P3' := ((∃ a, a < i ∧ ∃ b, b < a ∧ ∃ c, c < b ∧ dot (crs (qAt l a) (qAt l b)) (qAt l c) ≠ 0) ∨ ∃ b, b < j ∧ ∃ c, c < b ∧ dot (crs (qAt l i) (qAt l b)) (qAt l c) ≠ 0) ∨ ∃ c, c < k + 1 ∧ dot (crs (qAt l i) (qAt l j)) (qAt l c) ≠ 0) Iff.rfl Iff.rfl (by rw [lt_succ_ex (Q := fun c => dot (crs (qAt l i) (qAt l j)) (qAt l c) ≠ 0)]; exact ⟨fun h => h.elim .inl (fun h => .inr (.inl h)), fun h => h.elim .inl (fun h => h.elim .inr (fun h => absurd (HDOT.out.trans hd) h))⟩))
                      clear hd
                      go_wp2_with (first | ((with_reducible refine Calmly.is_fl ?_); refine Calmly.mix_fl rfl ?_ (fun _ _ => ?_); (first | exact .move _ | exact .load _ _ | exact .fieldAddr _ _ _ (by kernel_rfl) | exact .assign _ | exact .binOp _ _ _ _ _ rfl | exact .indexAddr _ _ _ | exact .len _ _ (by kernel_rfl) | exact .field _ _ _ | exact .extract _ _ | exact .pick _ _ _ | exact .build _ _ | exact .slice _ _ _ _ _ | exact .unOp _ _ _ rfl | exact .index _ _ _ | exact .max _ _ _ rfl rfl | exact .min _ _ _ rfl rfl | exact .nilCheck _ _ rfl)) | ((with_reducible refine Calmly.is_gl ?_); refine Calmly.mix_gl rfl rfl rfl ?_; first | ((first | with_reducible refine Calmly.gl_tt ?_ (fun _ _ => ?_) | with_reducible refine Calmly.gl_ff ?_ (fun _ _ => ?_)); (first | exact .move _ | exact .load _ _ | exact .fieldAddr _ _ _ (by kernel_rfl) | exact .assign _ | exact .binOp _ _ _ _ _ rfl | exact .indexAddr _ _ _ | exact .len _ _ (by kernel_rfl) | exact .field _ _ _ | exact .extract _ _ | exact .pick _ _ _ | exact .build _ _ | exact .slice _ _ _ _ _ | exact .unOp _ _ _ rfl | exact .index _ _ _ | exact .max _ _ _ rfl rfl | exact .min _ _ _ rfl rfl | exact .nilCheck _ _ rfl)) | with_reducible refine Calmly.gl_tf (fun _ _ => ?_) | with_reducible refine Calmly.gl_ft (fun _ _ => ?_)) | ((with_reducible refine Calmly.is_eff ?_); refine Calmly.mix_eff rfl (fun _ _ => ?_)) | ((with_reducible refine Calmly.is_gf ?_); refine Calmly.mix_gf rfl rfl rfl ?_; first | with_reducible refine Calmly.gf_tt (fun _ _ => ?_) | with_reducible refine Calmly.gf_ff (fun _ _ => ?_) | with_reducible refine Calmly.gf_tf (kept_of hk) (fun _ _ => ?_) | with_reducible refine Calmly.gf_ft (kept_of hk) (fun _ _ => ?_)) | ((with_reducible refine Calmly.is_tail ?_); first | refine Calmly.mix_tail_nil ?_ | refine Calmly.mix_tail rfl (fun _ _ => ?_)) | ((with_reducible refine Calmly.is_kept ?_); refine ⟨kept_of hk, ?_⟩) | (with_reducible refine Calmly.mix_alt ?_ ?_))
                      go_roundw
                      case rel => exact ⟨k + 1, _, by omega, by go_num, rfl, RK3, yC, hb3⟩
                      case measure => simp [intOf]; omega
                  case neg =>
                    obtain rfl : j = k := by omega
                    have hle : ¬ (j : Int) < (j : Int) := by omega
                    clear hlt3 hkj
                    go_wp2_with fail
                    go_roundw
                    case rel => exact ⟨j + 1, _, by omega, by go_num, rfl, Lib.hid (hRC.out.congr Iff.rfl Iff.rfl (by rw [lt_succ_ex (Q := fun b => ∃ c, c < b ∧ dot (crs (qAt l i) (qAt l b)) (qAt l c) ≠ 0), or_assoc])), hb3⟩
                    case measure => simp [intOf]; omega
              case neg =>
                have RK2 := Lib.hid (hRJo.max2 (P2' := ((∃ a, a < i ∧ ∃ b, b < a ∧ crs (qAt l a) (qAt l b) ≠ qur0) ∨ ∃ b, b < j + 1 ∧ crs (qAt l i) (qAt l b) ≠ qur0)) (.inr ⟨j, by omega, by rw [HN.out]; exact hc0⟩))
                have b6 := ne_zero3 hc0
                obtain ⟨r3, hr3⟩ : ∃ r3, (if r2 < 2 then 2 else r2) = r3 := ⟨_, rfl⟩
                rw [hr3] at RK2
                clear hc0 hRJo hN
                go_wp2_with fail
                go_loopw [7, 3] (fun kk rr wr => ∃ (k : Nat) (r : Int), k ≤ j ∧ kk = .int .i64 k ∧ rr = .int .i64 r ∧ Hid (RrI l (∃ a, a < i + 1 ∧ qAt l a ≠ qur0) ((∃ a, a < i ∧ ∃ b, b < a ∧ crs (qAt l a) (qAt l b) ≠ qur0) ∨ ∃ b, b < j + 1 ∧ crs (qAt l i) (qAt l b) ≠ qur0) (((∃ a, a < i ∧ ∃ b, b < a ∧ ∃ c, c < b ∧ dot (crs (qAt l a) (qAt l b)) (qAt l c) ≠ 0) ∨ ∃ b, b < j ∧ ∃ c, c < b ∧ dot (crs (qAt l i) (qAt l b)) (qAt l c) ≠ 0) ∨ ∃ c, c < k ∧ dot (crs (qAt l i) (qAt l j)) (qAt l c) ≠ 0) r) ∧ B3 wr bC N0 N1 N2 ∧ Below w.heap.size w wr) (fun kk _ _ => j - (intOf kk).toNat)
                case atStart => exact ⟨0, _, by omega, rfl, rfl, Lib.hid (RK2.out.congr Iff.rfl Iff.rfl ⟨.inl, fun h => h.elim id (fun ⟨c, hc, _⟩ => absurd hc (by omega))⟩), yC, hb3⟩
                case round =>
                  clear yC hb3 RK2
                  obtain ⟨k, r5, hkj, rfl, rfl, hRC, yC, hb3⟩ := hrel
                  by_cases hlt3 : k < j
                  case pos =>
                    have hk1 : (k : Int) < (j : Int) := by omega
                    have hk2 : (k : Int) < (n : Int) := by omega
                    have hk0 : (0 : Int) ≤ (k : Int) := by omega
                    go_wp2_with fail
                    refine Calmly.wp_region_mix 25 (.fl 0 <| .fl 1 <| .fl 2 <| .fl 3 <| .fl 4 <| .fl 5 <| .fl 6 <| .fl 7 <| .fl 8 <| .fl 9 <| .fl 10 <| .fl 11 <| .fl 12 <| .fl 13 <| .fl 14 <| .fl 15 <| .fl 16 <| .fl 17 <| .fl 18 <| .fl 19 <| .fl 20 <| .fl 21 <| .fl 22 <| .fl 23 <| .fl 24 <| .tail [25, 26]) (by kernel_rfl) (by kernel_rfl) ?_
                    have BD : Below wr.heap.size wr wr.drew := (Below.refl _ _).drew
                    replace yC := yC.keep BD
                    replace hb3 := hb3.trans (BD.mono hb3.size)
                    clear BD
                    generalize wr.drew = V3 at *
                    obtain ⟨b3', o3, hbe, hc3⟩ := (h1.keep hb3).at_ (by omega)
                    injection hbe with hbe
                    injection hbe with e1 e2
                    subst e1 e2
                    obtain ⟨s0, s1, s2⟩ := hc3 k (by omega)
                    have hsm := HSM.out k
                    have hq : l[k]?.getD qur0 = qAt l k := rfl
                    rw [hq] at s0 s1 s2
                    obtain ⟨⟨v0, v1, v2⟩, hv⟩ : ∃ v, qAt l k = v := ⟨_, rfl⟩
                    rw [hv] at s0 s1 s2 hsm
                    dsimp only [sm] at s0 s1 s2 hsm
                    obtain ⟨t0, t1, t2⟩ := hsm
                    have d1 := mul128 bN0 t0
                    have d2 := mul128 bN1 t1
                    have d3 := mul128 bN2 t2
                    have hdot : dot (crs (qAt l i) (qAt l j)) (qAt l k) = N0 * v0 + N1 * v1 + N2 * v2 := by rw [HN.out, hv]; rfl
                    obtain ⟨Q0, e0⟩ : ∃ p, N0 * v0 = p := ⟨_, rfl⟩
                    obtain ⟨Q1, e1⟩ : ∃ p, N1 * v1 = p := ⟨_, rfl⟩
                    obtain ⟨Q2, e2⟩ : ∃ p, N2 * v2 = p := ⟨_, rfl⟩
                    rw [e0, e1, e2] at hdot
                    rw [e0] at d1
                    rw [e1] at d2
                    rw [e2] at d3
                    have HDOT := Lib.hid hdot
                    clear hdot hv hq hc3
                    have g0 := cell_block yC.blk 0
                    have g1 := cell_block yC.blk 1
                    have g2 := cell_block yC.blk 2
                    have hk := Below.refl V3.heap.size V3
                    by_cases hd : Q0 + Q1 + Q2 = 0
                    case neg =>
                      have b5 : (Q0 + Q1 + Q2 != 0) = true := by simpa using hd
                      have RK3 := Lib.hid (RrI.three (l := l) (P1 := (∃ a, a < i + 1 ∧ qAt l a ≠ qur0)) (P2 := ((∃ a, a < i ∧ ∃ b, b < a ∧ crs (qAt l a) (qAt l b) ≠ qur0) ∨ ∃ b, b < j + 1 ∧ crs (qAt l i) (qAt l b) ≠ qur0)) (P3 := ((∃ a, a < i ∧ ∃ b, b < a ∧ ∃ c, c < b ∧ dot (crs (qAt l a) (qAt l b)) (qAt l c) ≠ 0) ∨ ∃ b, b < j ∧ ∃ c, c < b ∧ dot (crs (qAt l i) (qAt l b)) (qAt l c) ≠ 0) ∨ ∃ c, c < k + 1 ∧ dot (crs (qAt l i) (qAt l j)) (qAt l c) ≠ 0) (.inr ⟨k, by omega, by rw [HDOT.out]; exact hd⟩))
                      clear hd
                      go_wp2_with (first | ((with_reducible refine Calmly.is_fl ?_); refine Calmly.mix_fl rfl ?_ (fun _ _ => ?_); (first | exact .move _ | exact .load _ _ | exact .fieldAddr _ _ _ (by kernel_rfl) | exact .assign _ | exact .binOp _ _ _ _ _ rfl | exact .indexAddr _ _ _ | exact .len _ _ (by kernel_rfl) | exact .field _ _ _ | exact .extract _ _ | exact .pick _ _ _ | exact .build _ _ | exact .slice _ _ _ _ _ | exact .unOp _ _ _ rfl | exact .index _ _ _ | exact .max _ _ _ rfl rfl | exact .min _ _ _ rfl rfl | exact .nilCheck _ _ rfl)) | ((with_reducible refine Calmly.is_gl ?_); refine Calmly.mix_gl rfl rfl rfl ?_; first | ((first | with_reducible refine Calmly.gl_tt ?_ (fun _ _ => ?_) | with_reducible refine Calmly.gl_ff ?_ (fun _ _ => ?_)); (first | exact .move _ | exact .load _ _ | exact .fieldAddr _ _ _ (by kernel_rfl) | exact .assign _ | exact .binOp _ _ _ _ _ rfl | exact .indexAddr _ _ _ | exact .len _ _ (by kernel_rfl) | exact .field _ _ _ | exact .extract _ _ | exact .pick _ _ _ | exact .build _ _ | exact .slice _ _ _ _ _ | exact .unOp _ _ _ rfl | exact .index _ _ _ | exact .max _ _ _ rfl rfl | exact .min _ _ _ rfl rfl | exact .nilCheck _ _ rfl)) | with_reducible refine Calmly.gl_tf (fun _ _ => ?_) | with_reducible refine Calmly.gl_ft (fun _ _ => ?_)) | ((with_reducible refine Calmly.is_eff ?_); refine Calmly.mix_eff rfl (fun _ _ => ?_)) | ((with_reducible refine Calmly.is_gf ?_); refine Calmly.mix_gf rfl rfl rfl ?_; first | with_reducible refine Calmly.gf_tt (fun _ _ => ?_) | with_reducible refine Calmly.gf_ff (fun _ _ => ?_) | with_reducible refine Calmly.gf_tf (kept_of hk) (fun _ _ => ?_) | with_reducible refine Calmly.gf_ft (kept_of hk) (fun _ _ => ?_)) | ((with_reducible refine Calmly.is_tail ?_); first | refine Calmly.mix_tail_nil ?_ | refine Calmly.mix_tail rfl (fun _ _ => ?_)) | ((with_reducible refine Calmly.is_kept ?_); refine ⟨kept_of hk, ?_⟩) | (with_reducible refine Calmly.mix_alt ?_ ?_))
                      go_roundw
                      case rel => exact ⟨k + 1, _, by omega, by go_num, rfl, RK3, yC, hb3⟩
                      case measure => simp [intOf]; omega
                    case pos =>
                      have b5 : (Q0 + Q1 + Q2 != 0) = false := by simpa using hd
                      have RK3 := Lib.hid (hRC.out.congr (P3' := ((∃ a, a < i ∧ ∃ b, b < a ∧ ∃ c, c < b ∧ dot (crs (qAt l a) (qAt l b)) (qAt l c) ≠ 0) ∨ ∃ b, b < j ∧ ∃ c, c < b ∧ dot (crs (qAt l i) (qAt l b)) (qAt l c) ≠ 0) ∨ ∃ c, c < k + 1 ∧ dot (crs (qAt l i) (qAt l j)) (qAt l c) ≠ 0) Iff.rfl Iff.rfl (by rw [lt_succ_ex (Q := fun c => dot (crs (qAt l i) (qAt l j)) (qAt l c) ≠ 0)]; exact ⟨fun h => h.elim .inl (fun h => .inr (.inl h)), fun h => h.elim .inl (fun h => h.elim .inr (fun h => absurd (HDOT.out.trans hd) h))⟩))
                      clear hd
                      go_wp2_with (first | ((with_reducible refine Calmly.is_fl ?_); refine Calmly.mix_fl rfl ?_ (fun _ _ => ?_); (first | exact .move _ | exact .load _ _ | exact .fieldAddr _ _ _ (by kernel_rfl) | exact .assign _ | exact .binOp _ _ _ _ _ rfl | exact .indexAddr _ _ _ | exact .len _ _ (by kernel_rfl) | exact .field _ _ _ | exact .extract _ _ | exact .pick _ _ _ | exact .build _ _ | exact .slice _ _ _ _ _ | exact .unOp _ _ _ rfl | exact .index _ _ _ | exact .max _ _ _ rfl rfl | exact .min _ _ _ rfl rfl | exact .nilCheck _ _ rfl)) | ((with_reducible refine Calmly.is_gl ?_); refine Calmly.mix_gl rfl rfl rfl ?_; first | ((first | with_reducible refine Calmly.gl_tt ?_ (fun _ _ => ?_) | with_reducible refine Calmly.gl_ff ?_ (fun _ _ => ?_)); (first | exact .move _ | exact .load _ _ | exact .fieldAddr _ _ _ (by kernel_rfl) | exact .assign _ | exact .binOp _ _ _ _ _ rfl | exact .indexAddr _ _ _ | exact .len _ _ (by kernel_rfl) | exact .field _ _ _ | exact .extract _ _ | exact .pick _ _ _ | exact .build _ _ | exact .slice _ _ _ _ _ | exact .unOp _ _ _ rfl | exact .index _ _ _ | exact .max _ _ _ rfl rfl | exact .min _ _ _ rfl rfl | exact .nilCheck _ _ rfl)) | with_reducible refine Calmly.gl_tf (fun _ _ => ?_) | with_reducible refine Calmly.gl_ft (fun _ _ => ?_)) | ((with_reducible refine Calmly.is_eff ?_); refine Calmly.mix_eff rfl (fun _ _ => ?_)) | ((with_reducible refine Calmly.is_gf ?_); refine Calmly.mix_gf rfl rfl rfl ?_; first | with_reducible refine Calmly.gf_tt (fun _ _ => ?_) | with_reducible refine Calmly.gf_ff (fun _ _ => ?_) | with_reducible refine Calmly.gf_tf (kept_of hk) (fun _ _ => ?_) | with_reducible refine Calmly.gf_ft (kept_of hk) (fun _ _ => ?_)) | ((with_reducible refine Calmly.is_tail ?_); first | refine Calmly.mix_tail_nil ?_ | refine Calmly.mix_tail rfl (fun _ _ => ?_)) | ((with_reducible refine Calmly.is_kept ?_); refine ⟨kept_of hk, ?_⟩) | (with_reducible refine Calmly.mix_alt ?_ ?_))
                      go_roundw
                      case rel => exact ⟨k + 1, _, by omega, by go_num, rfl, RK3, yC, hb3⟩
                      case measure => simp [intOf]; omega
                  case neg =>
                    obtain rfl : j = k := by omega
                    have hle : ¬ (j : Int) < (j : Int) := by omega
                    clear hlt3 hkj
                    go_wp2_with fail
                    go_roundw
                    case rel => exact ⟨j + 1, _, by omega, by go_num, rfl, Lib.hid (hRC.out.congr Iff.rfl Iff.rfl (by rw [lt_succ_ex (Q := fun b => ∃ c, c < b ∧ dot (crs (qAt l i) (qAt l b)) (qAt l c) ≠ 0), or_assoc])), hb3⟩
                    case measure => simp [intOf]; omega
            · have yC := (((B3.mk z15).set0 N0).set1 N1).set2 N2
              have hb3 := hb2.trans (((((hk.setCell (p := ⟨V2.heap.size, 0, none⟩) hqz (.int .i64 N0)).setCell (p := ⟨V2.heap.size, 1, none⟩) hqz (.int .i64 N1)).setCell (p := ⟨V2.heap.size, 2, none⟩) hqz (.int .i64 N2))).mono hb2.size)
              refine HK10.out _ _ ⟨?_⟩
              clear HK10 hk z15 z0 z1 z2 x0' x1' x2' s0 s1 s2 p0 p1 p2 hqz
              obtain ⟨bC, hbC⟩ : ∃ b, V2.heap.size = b := ⟨_, rfl⟩
              rw [hbC] at yC hb3 ⊢
              generalize ((w3.setCell ⟨bC, 0, none⟩ (.int .i64 N0)).setCell ⟨bC, 1, none⟩ (.int .i64 N1)).setCell ⟨bC, 2, none⟩ (.int .i64 N2) = W3 at *
              have f0 := cell_block yC.blk 0
              have f1 := cell_block yC.blk 1
              have f2 := cell_block yC.blk 2
              have hRJo := hRJ.out
              by_cases hc0 : (N0, N1, N2) = qur0
              case pos =>
                have RK2 := Lib.hid (hRJo.congr (P2' := ((∃ a, a < i ∧ ∃ b, b < a ∧ crs (qAt l a) (qAt l b) ≠ qur0) ∨ ∃ b, b < j + 1 ∧ crs (qAt l i) (qAt l b) ≠ qur0)) Iff.rfl (by rw [lt_succ_ex (Q := fun b => crs (qAt l i) (qAt l b) ≠ qur0)]; exact ⟨fun h => h.elim .inl (fun h => .inr (.inl h)), fun h => h.elim .inl (fun h => h.elim .inr (fun h => absurd (HN.out.trans hc0) h))⟩) Iff.rfl)
                injection hc0 with e0 e12
                injection e12 with e1 e2
                have b6 : (N0 == 0 && N1 == 0 && N2 == 0) = true := by rw [e0, e1, e2]; rfl
                clear e0 e1 e2 hRJo hN
                go_wp2_with fail
                go_loopw [7, 3] (fun kk rr wr => ∃ (k : Nat) (r : Int), k ≤ j ∧ kk = .int .i64 k ∧ rr = .int .i64 r ∧ Hid (RrI l (∃ a, a < i + 1 ∧ qAt l a ≠ qur0) ((∃ a, a < i ∧ ∃ b, b < a ∧ crs (qAt l a) (qAt l b) ≠ qur0) ∨ ∃ b, b < j + 1 ∧ crs (qAt l i) (qAt l b) ≠ qur0) (((∃ a, a < i ∧ ∃ b, b < a ∧ ∃ c, c < b ∧ dot (crs (qAt l a) (qAt l b)) (qAt l c) ≠ 0) ∨ ∃ b, b < j ∧ ∃ c, c < b ∧ dot (crs (qAt l i) (qAt l b)) (qAt l c) ≠ 0) ∨ ∃ c, c < k ∧ dot (crs (qAt l i) (qAt l j)) (qAt l c) ≠ 0) r) ∧ B3 wr bC N0 N1 N2 ∧ Below w.heap.size w wr) (fun kk _ _ => j - (intOf kk).toNat)
                case atStart => exact ⟨0, _, by omega, rfl, rfl, Lib.hid (RK2.out.congr Iff.rfl Iff.rfl ⟨.inl, fun h => h.elim id (fun ⟨c, hc, _⟩ => absurd hc (by omega))⟩), yC, hb3⟩
                case round =>
                  clear yC hb3 RK2
                  obtain ⟨k, r5, hkj, rfl, rfl, hRC, yC, hb3⟩ := hrel
                  by_cases hlt3 : k < j
                  case pos =>
                    have hk1 : (k : Int) < (j : Int) := by omega
                    have hk2 : (k : Int) < (n : Int) := by omega
                    have hk0 : (0 : Int) ≤ (k : Int) := by omega
                    go_wp2_with fail
                    refine Calmly.wp_region_mix 25 (.fl 0 <| .fl 1 <| .fl 2 <| .fl 3 <| .fl 4 <| .fl 5 <| .fl 6 <| .fl 7 <| .fl 8 <| .fl 9 <| .fl 10 <| .fl 11 <| .fl 12 <| .fl 13 <| .fl 14 <| .fl 15 <| .fl 16 <| .fl 17 <| .fl 18 <| .fl 19 <| .fl 20 <| .fl 21 <| .fl 22 <| .fl 23 <| .fl 24 <| .tail [25, 26]) (by kernel_rfl) (by kernel_rfl) ?_
                    have BD : Below wr.heap.size wr wr.drew := (Below.refl _ _).drew
                    replace yC := yC.keep BD
                    replace hb3 := hb3.trans (BD.mono hb3.size)
                    clear BD
                    generalize wr.drew = V3 at *
                    obtain ⟨b3', o3, hbe, hc3⟩ := (h1.keep hb3).at_ (by omega)
                    injection hbe with hbe
                    injection hbe with e1 e2
                    subst e1 e2
                    obtain ⟨s0, s1, s2⟩ := hc3 k (by omega)
                    have hsm := HSM.out k
                    have hq : l[k]?.getD qur0 = qAt l k := rfl
                    rw [hq] at s0 s1 s2
                    obtain ⟨⟨v0, v1, v2⟩, hv⟩ : ∃ v, qAt l k = v := ⟨_, rfl⟩
                    rw [hv] at s0 s1 s2 hsm
                    dsimp only [sm] at s0 s1 s2 hsm
                    obtain ⟨t0, t1, t2⟩ := hsm
                    have d1 := mul128 bN0 t0
                    have d2 := mul128 bN1 t1
                    have d3 := mul128 bN2 t2
                    have hdot : dot (crs (qAt l i) (qAt l j)) (qAt l k) = N0 * v0 + N1 * v1 + N2 * v2 := by rw [HN.out, hv]; rfl
                    obtain ⟨Q0, e0⟩ : ∃ p, N0 * v0 = p := ⟨_, rfl⟩
                    obtain ⟨Q1, e1⟩ : ∃ p, N1 * v1 = p := ⟨_, rfl⟩
                    obtain ⟨Q2, e2⟩ : ∃ p, N2 * v2 = p := ⟨_, rfl⟩
                    rw [e0, e1, e2] at hdot
                    rw [e0] at d1
                    rw [e1] at d2
                    rw [e2] at d3
                    have HDOT := Lib.hid hdot
                    clear hdot hv hq hc3
                    have g0 := cell_block yC.blk 0
                    have g1 := cell_block yC.blk 1
                    have g2 := cell_block yC.blk 2
                    have hk := Below.refl V3.heap.size V3
                    by_cases hd : Q0 + Q1 + Q2 = 0
                    case neg =>
                      have b5 : (Q0 + Q1 + Q2 != 0) = true := by simpa using hd
                      have RK3 := Lib.hid (RrI.three (l := l) (P1 := (∃ a, a < i + 1 ∧ qAt l a ≠ qur0)) (P2 := ((∃ a, a < i ∧ ∃ b, b < a ∧ crs (qAt l a) (qAt l b) ≠ qur0) ∨ ∃ b, b < j + 1 ∧ crs (qAt l i) (qAt l b) ≠ qur0)) (P3 := ((∃ a, a < i ∧ ∃ b, b < a ∧ ∃ c, c < b ∧ dot (crs (qAt l a) (qAt l b)) (qAt l c) ≠ 0) ∨ ∃ b, b < j ∧ ∃ c, c < b ∧ dot (crs (qAt l i) (qAt l b)) (qAt l c) ≠ 0) ∨ ∃ c, c < k + 1 ∧ dot (crs (qAt l i) (qAt l j)) (qAt l c) ≠ 0) (.inr ⟨k, by omega, by rw [HDOT.out]; exact hd⟩))
                      clear hd
                      go_wp2_with (first | ((with_reducible refine Calmly.is_fl ?_); refine Calmly.mix_fl rfl ?_ (fun _ _ => ?_); (first | exact .move _ | exact .load _ _ | exact .fieldAddr _ _ _ (by kernel_rfl) | exact .assign _ | exact .binOp _ _ _ _ _ rfl | exact .indexAddr _ _ _ | exact .len _ _ (by kernel_rfl) | exact .field _ _ _ | exact .extract _ _ | exact .pick _ _ _ | exact .build _ _ | exact .slice _ _ _ _ _ | exact .unOp _ _ _ rfl | exact .index _ _ _ | exact .max _ _ _ rfl rfl | exact .min _ _ _ rfl rfl | exact .nilCheck _ _ rfl)) | ((with_reducible refine Calmly.is_gl ?_); refine Calmly.mix_gl rfl rfl rfl ?_; first | ((first | with_reducible refine Calmly.gl_tt ?_ (fun _ _ => ?_) | with_reducible refine Calmly.gl_ff ?_ (fun _ _ => ?_)); (first | exact .move _ | exact .load _ _ | exact .fieldAddr _ _ _ (by kernel_rfl) | exact .assign _ | exact .binOp _ _ _ _ _ rfl | exact .indexAddr _ _ _ | exact .len _ _ (by kernel_rfl) | exact .field _ _ _ | exact .extract _ _ | exact .pick _ _ _ | exact .build _ _ | exact .slice _ _ _ _ _ | exact .unOp _ _ _ rfl | exact .index _ _ _ | exact .max _ _ _ rfl rfl | exact .min _ _ _ rfl rfl | exact .nilCheck _ _ rfl)) | with_reducible refine Calmly.gl_tf (fun _ _ => ?_) | with_reducible refine Calmly.gl_ft (fun _ _ => ?_)) | ((with_reducible refine Calmly.is_eff ?_); refine Calmly.mix_eff rfl (fun _ _ => ?_)) | ((with_reducible refine Calmly.is_gf ?_); refine Calmly.mix_gf rfl rfl rfl ?_; first | with_reducible refine Calmly.gf_tt (fun _ _ => ?_) | with_reducible refine Calmly.gf_ff (fun _ _ => ?_) | with_reducible refine Calmly.gf_tf (kept_of hk) (fun _ _ => ?_) | with_reducible refine Calmly.gf_ft (kept_of hk) (fun _ _ => ?_)) | ((with_reducible refine Calmly.is_tail ?_); first | refine Calmly.mix_tail_nil ?_ | refine Calmly.mix_tail rfl (fun _ _ => ?_)) | ((with_reducible refine Calmly.is_kept ?_); refine ⟨kept_of hk, ?_⟩) | (with_reducible refine Calmly.mix_alt ?_ ?_))
                      go_roundw
                      case rel => exact ⟨k + 1, _, by omega, by go_num, rfl, RK3, yC, hb3⟩
                      case measure => simp [intOf]; omega
                    case pos =>
                      have b5 : (Q0 + Q1 + Q2 != 0) = false := by simpa using hd
                      have RK3 := Lib.hid (hRC.out.congr (P3' := ((∃ a, a < i ∧ ∃ b, b < a ∧ ∃ c, c < b ∧ dot (crs (qAt l a) (qAt l b)) (qAt l c) ≠ 0) ∨ ∃ b, b < j ∧ ∃ c, c < b ∧ dot (crs (qAt l i) (qAt l b)) (qAt l c) ≠ 0) ∨ ∃ c, c < k + 1 ∧ dot (crs (qAt l i) (qAt l j)) (qAt l c) ≠ 0) Iff.rfl Iff.rfl (by rw [lt_succ_ex (Q := fun c => dot (crs (qAt l i) (qAt l j)) (qAt l c) ≠ 0)]; exact ⟨fun h => h.elim .inl (fun h => .inr (.inl h)), fun h => h.elim .inl (fun h => h.elim .inr (fun h => absurd (HDOT.out.trans hd) h))⟩))
                      clear hd
                      go_wp2_with (first | ((with_reducible refine Calmly.is_fl ?_); refine Calmly.mix_fl rfl ?_ (fun _ _ => ?_); (first | exact .move _ | exact .load _ _ | exact .fieldAddr _ _ _ (by kernel_rfl) | exact .assign _ | exact .binOp _ _ _ _ _ rfl | exact .indexAddr _ _ _ | exact .len _ _ (by kernel_rfl) | exact .field _ _ _ | exact .extract _ _ | exact .pick _ _ _ | exact .build _ _ | exact .slice _ _ _ _ _ | exact .unOp _ _ _ rfl | exact .index _ _ _ | exact .max _ _ _ rfl rfl | exact .min _ _ _ rfl rfl | exact .nilCheck _ _ rfl)) | ((with_reducible refine Calmly.is_gl ?_); refine Calmly.mix_gl rfl rfl rfl ?_; first | ((first | with_reducible refine Calmly.gl_tt ?_ (fun _ _ => ?_) | with_reducible refine Calmly.gl_ff ?_ (fun _ _ => ?_)); (first | exact .move _ | exact .load _ _ | exact .fieldAddr _ _ _ (by kernel_rfl) | exact .assign _ | exact .binOp _ _ _ _ _ rfl | exact .indexAddr _ _ _ | exact .len _ _ (by kernel_rfl) | exact .field _ _ _ | exact .extract _ _ | exact .pick _ _ _ | exact .build _ _ | exact .slice _ _ _ _ _ | exact .unOp _ _ _ rfl | exact .index _ _ _ | exact .max _ _ _ rfl rfl | exact .min _ _ _ rfl rfl | exact .nilCheck _ _ rfl)) | with_reducible refine Calmly.gl_tf (fun _ _ => ?_) | with_reducible refine Calmly.gl_ft (fun _ _ => ?_)) | ((with_reducible refine Calmly.is_eff ?_); refine Calmly.mix_eff rfl (fun _ _ => ?_)) | ((with_reducible refine Calmly.is_gf ?_); refine Calmly.mix_gf rfl rfl rfl ?_; first | with_reducible refine Calmly.gf_tt (fun _ _ => ?_) | with_reducible refine Calmly.gf_ff (fun _ _ => ?_) | with_reducible refine Calmly.gf_tf (kept_of hk) (fun _ _ => ?_) | with_reducible refine Calmly.gf_ft (kept_of hk) (fun _ _ => ?_)) | ((with_reducible refine Calmly.is_tail ?_); first | refine Calmly.mix_tail_nil ?_ | refine Calmly.mix_tail rfl (fun _ _ => ?_)) | ((with_reducible refine Calmly.is_kept ?_); refine ⟨kept_of hk, ?_⟩) | (with_reducible refine Calmly.mix_alt ?_ ?_))
                      go_roundw
                      case rel => exact ⟨k + 1, _, by omega, by go_num, rfl, RK3, yC, hb3⟩
                      case measure => simp [intOf]; omega
                  case neg =>
                    obtain rfl : j = k := by omega
                    have hle : ¬ (j : Int) < (j : Int) := by omega
                    clear hlt3 hkj
                    go_wp2_with fail
                    go_roundw
                    case rel => exact ⟨j + 1, _, by omega, by go_num, rfl, Lib.hid (hRC.out.congr Iff.rfl Iff.rfl (by rw [lt_succ_ex (Q := fun b => ∃ c, c < b ∧ dot (crs (qAt l i) (qAt l b)) (qAt l c) ≠ 0), or_assoc])), hb3⟩
                    case measure => simp [intOf]; omega
              case neg =>
                have RK2 := Lib.hid (hRJo.max2 (P2' := ((∃ a, a < i ∧ ∃ b, b < a ∧ crs (qAt l a) (qAt l b) ≠ qur0) ∨ ∃ b, b < j + 1 ∧ crs (qAt l i) (qAt l b) ≠ qur0)) (.inr ⟨j, by omega, by rw [HN.out]; exact hc0⟩))
                have b6 := ne_zero3 hc0
                obtain ⟨r3, hr3⟩ : ∃ r3, (if r2 < 2 then 2 else r2) = r3 := ⟨_, rfl⟩
                rw [hr3] at RK2
                clear hc0 hRJo hN
                go_wp2_with fail
                go_loopw [7, 3] (fun kk rr wr => ∃ (k : Nat) (r : Int), k ≤ j ∧ kk = .int .i64 k ∧ rr = .int .i64 r ∧ Hid (RrI l (∃ a, a < i + 1 ∧ qAt l a ≠ qur0) ((∃ a, a < i ∧ ∃ b, b < a ∧ crs (qAt l a) (qAt l b) ≠ qur0) ∨ ∃ b, b < j + 1 ∧ crs (qAt l i) (qAt l b) ≠ qur0) (((∃ a, a < i ∧ ∃ b, b < a ∧ ∃ c, c < b ∧ dot (crs (qAt l a) (qAt l b)) (qAt l c) ≠ 0) ∨ ∃ b, b < j ∧ ∃ c, c < b ∧ dot (crs (qAt l i) (qAt l b)) (qAt l c) ≠ 0) ∨ ∃ c, c < k ∧ dot (crs (qAt l i) (qAt l j)) (qAt l c) ≠ 0) r) ∧ B3 wr bC N0 N1 N2 ∧ Below w.heap.size w wr) (fun kk _ _ => j - (intOf kk).toNat)
                case atStart => exact ⟨0, _, by omega, rfl, rfl, Lib.hid (RK2.out.congr Iff.rfl Iff.rfl ⟨.inl, fun h => h.elim id (fun ⟨c, hc, _⟩ => absurd hc (by omega))⟩), yC, hb3⟩
                case round =>
                  clear yC hb3 RK2
                  obtain ⟨k, r5, hkj, rfl, rfl, hRC, yC, hb3⟩ := hrel
                  by_cases hlt3 : k < j
                  case pos =>
                    have hk1 : (k : Int) < (j : Int) := by omega
                    have hk2 : (k : Int) < (n : Int) := by omega
                    have hk0 : (0 : Int) ≤ (k : Int) := by omega
                    go_wp2_with fail
                    refine Calmly.wp_region_mix 25 (.fl 0 <| .fl 1 <| .fl 2 <| .fl 3 <| .fl 4 <| .fl 5 <| .fl 6 <| .fl 7 <| .fl 8 <| .fl 9 <| .fl 10 <| .fl 11 <| .fl 12 <| .fl 13 <| .fl 14 <| .fl 15 <| .fl 16 <| .fl 17 <| .fl 18 <| .fl 19 <| .fl 20 <| .fl 21 <| .fl 22 <| .fl 23 <| .fl 24 <| .tail [25, 26]) (by kernel_rfl) (by kernel_rfl) ?_
                    have BD : Below wr.heap.size wr wr.drew := (Below.refl _ _).drew
                    replace yC := yC.keep BD
                    replace hb3 := hb3.trans (BD.mono hb3.size)
                    clear BD
                    generalize wr.drew = V3 at *
                    obtain ⟨b3', o3, hbe, hc3⟩ := (h1.keep hb3).at_ (by omega)
                    injection hbe with hbe
                    injection hbe with e1 e2
                    subst e1 e2
                    obtain ⟨s0, s1, s2⟩ := hc3 k (by omega)
                    have hsm := HSM.out k
                    have hq : l[k]?.getD qur0 = qAt l k := rfl
                    rw [hq] at s0 s1 s2
                    obtain ⟨⟨v0, v1, v2⟩, hv⟩ : ∃ v, qAt l k = v := ⟨_, rfl⟩
                    rw [hv] at s0 s1 s2 hsm
                    dsimp only [sm] at s0 s1 s2 hsm
                    obtain ⟨t0, t1, t2⟩ := hsm
                    have d1 := mul128 bN0 t0
                    have d2 := mul128 bN1 t1
                    have d3 := mul128 bN2 t2
                    have hdot : dot (crs (qAt l i) (qAt l j)) (qAt l k) = N0 * v0 + N1 * v1 + N2 * v2 := by rw [HN.out, hv]; rfl
                    obtain ⟨Q0, e0⟩ : ∃ p, N0 * v0 = p := ⟨_, rfl⟩
                    obtain ⟨Q1, e1⟩ : ∃ p, N1 * v1 = p := ⟨_, rfl⟩
                    obtain ⟨Q2, e2⟩ : ∃ p, N2 * v2 = p := ⟨_, rfl⟩
                    rw [e0, e1, e2] at hdot
                    rw [e0] at d1
                    rw [e1] at d2
                    rw [e2] at d3
                    have HDOT := Lib.hid hdot
                    clear hdot hv hq hc3
                    have g0 := cell_block yC.blk 0
                    have g1 := cell_block yC.blk 1
                    have g2 := cell_block yC.blk 2
                    have hk := Below.refl V3.heap.size V3
                    by_cases hd : Q0 + Q1 + Q2 = 0
                    case neg =>
                      have b5 : (Q0 + Q1 + Q2 != 0) = true := by simpa using hd
                      have RK3 := Lib.hid (RrI.three (l := l) (P1 := (∃ a, a < i + 1 ∧ qAt l a ≠ qur0)) (P2 := ((∃ a, a < i ∧ ∃ b, b < a ∧ crs (qAt l a) (qAt l b) ≠ qur0) ∨ ∃ b, b < j + 1 ∧ crs (qAt l i) (qAt l b) ≠ qur0)) (P3 := ((∃ a, a < i ∧ ∃ b, b < a ∧ ∃ c, c < b ∧ dot (crs (qAt l a) (qAt l b)) (qAt l c) ≠ 0) ∨ ∃ b, b < j ∧ ∃ c, c < b ∧ dot (crs (qAt l i) (qAt l b)) (qAt l c) ≠ 0) ∨ ∃ c, c < k + 1 ∧ dot (crs (qAt l i) (qAt l j)) (qAt l c) ≠ 0) (.inr ⟨k, by omega, by rw [HDOT.out]; exact hd⟩))
                      clear hd
                      go_wp2_with (first | ((with_reducible refine Calmly.is_fl ?_); refine Calmly.mix_fl rfl ?_ (fun _ _ => ?_); (first | exact .move _ | exact .load _ _ | exact .fieldAddr _ _ _ (by kernel_rfl) | exact .assign _ | exact .binOp _ _ _ _ _ rfl | exact .indexAddr _ _ _ | exact .len _ _ (by kernel_rfl) | exact .field _ _ _ | exact .extract _ _ | exact .pick _ _ _ | exact .build _ _ | exact .slice _ _ _ _ _ | exact .unOp _ _ _ rfl | exact .index _ _ _ | exact .max _ _ _ rfl rfl | exact .min _ _ _ rfl rfl | exact .nilCheck _ _ rfl)) | ((with_reducible refine Calmly.is_gl ?_); refine Calmly.mix_gl rfl rfl rfl ?_; first | ((first | with_reducible refine Calmly.gl_tt ?_ (fun _ _ => ?_) | with_reducible refine Calmly.gl_ff ?_ (fun _ _ => ?_)); (first | exact .move _ | exact .load _ _ | exact .fieldAddr _ _ _ (by kernel_rfl) | exact .assign _ | exact .binOp _ _ _ _ _ rfl | exact .indexAddr _ _ _ | exact .len _ _ (by kernel_rfl) | exact .field _ _ _ | exact .extract _ _ | exact .pick _ _ _ | exact .build _ _ | exact .slice _ _ _ _ _ | exact .unOp _ _ _ rfl | exact .index _ _ _ | exact .max _ _ _ rfl rfl | exact .min _ _ _ rfl rfl | exact .nilCheck _ _ rfl)) | with_reducible refine Calmly.gl_tf (fun _ _ => ?_) | with_reducible refine Calmly.gl_ft (fun _ _ => ?_)) | ((with_reducible refine Calmly.is_eff ?_); refine Calmly.mix_eff rfl (fun _ _ => ?_)) | ((with_reducible refine Calmly.is_gf ?_); refine Calmly.mix_gf rfl rfl rfl ?_; first | with_reducible refine Calmly.gf_tt (fun _ _ => ?_) | with_reducible refine Calmly.gf_ff (fun _ _ => ?_) | with_reducible refine Calmly.gf_tf (kept_of hk) (fun _ _ => ?_) | with_reducible refine Calmly.gf_ft (kept_of hk) (fun _ _ => ?_)) | ((with_reducible refine Calmly.is_tail ?_); first | refine Calmly.mix_tail_nil ?_ | refine Calmly.mix_tail rfl (fun _ _ => ?_)) | ((with_reducible refine Calmly.is_kept ?_); refine ⟨kept_of hk, ?_⟩) | (with_reducible refine Calmly.mix_alt ?_ ?_))
                      go_roundw
                      case rel => exact ⟨k + 1, _, by omega, by go_num, rfl, RK3, yC, hb3⟩
                      case measure => simp [intOf]; omega
                    case pos =>
                      have b5 : (Q0 + Q1 + Q2 != 0) = false := by simpa using hd
                      have RK3 := Lib.hid (hRC.out.congr (P3' := ((∃ a, a < i ∧ ∃ b, b < a ∧ ∃ c, c < b ∧ dot (crs (qAt l a) (qAt l b)) (qAt l c) ≠ 0) ∨ ∃ b, b < j ∧ ∃ c, c < b ∧ dot (crs (qAt l i) (qAt l b)) (qAt l c) ≠ 0) ∨ ∃ c, c < k + 1 ∧ dot (crs (qAt l i) (qAt l j)) (qAt l c) ≠ 0) Iff.rfl Iff.rfl (by rw [lt_succ_ex (Q := fun c => dot (crs (qAt l i) (qAt l j)) (qAt l c) ≠ 0)]; exact ⟨fun h => h.elim .inl (fun h => .inr (.inl h)), fun h => h.elim .inl (fun h => h.elim .inr (fun h => absurd (HDOT.out.trans hd) h))⟩))
                      clear hd
                      go_wp2_with (first | ((with_reducible refine Calmly.is_fl ?_); refine Calmly.mix_fl rfl ?_ (fun _ _ => ?_); (first | exact .move _ | exact .load _ _ | exact .fieldAddr _ _ _ (by kernel_rfl) | exact .assign _ | exact .binOp _ _ _ _ _ rfl | exact .indexAddr _ _ _ | exact .len _ _ (by kernel_rfl) | exact .field _ _ _ | exact .extract _ _ | exact .pick _ _ _ | exact .build _ _ | exact .slice _ _ _ _ _ | exact .unOp _ _ _ rfl | exact .index _ _ _ | exact .max _ _ _ rfl rfl | exact .min _ _ _ rfl rfl | exact .nilCheck _ _ rfl)) | ((with_reducible refine Calmly.is_gl ?_); refine Calmly.mix_gl rfl rfl rfl ?_; first | ((first | with_reducible refine Calmly.gl_tt ?_ (fun _ _ => ?_) | with_reducible refine Calmly.gl_ff ?_ (fun _ _ => ?_)); (first | exact .move _ | exact .load _ _ | exact .fieldAddr _ _ _ (by kernel_rfl) | exact .assign _ | exact .binOp _ _ _ _ _ rfl | exact .indexAddr _ _ _ | exact .len _ _ (by kernel_rfl) | exact .field _ _ _ | exact .extract _ _ | exact .pick _ _ _ | exact .build _ _ | exact .slice _ _ _ _ _ | exact .unOp _ _ _ rfl | exact .index _ _ _ | exact .max _ _ _ rfl rfl | exact .min _ _ _ rfl rfl | exact .nilCheck _ _ rfl)) | with_reducible refine Calmly.gl_tf (fun _ _ => ?_) | with_reducible refine Calmly.gl_ft (fun _ _ => ?_)) | ((with_reducible refine Calmly.is_eff ?_); refine Calmly.mix_eff rfl (fun _ _ => ?_)) | ((with_reducible refine Calmly.is_gf ?_); refine Calmly.mix_gf rfl rfl rfl ?_; first | with_reducible refine Calmly.gf_tt (fun _ _ => ?_) | with_reducible refine Calmly.gf_ff (fun _ _ => ?_) | with_reducible refine Calmly.gf_tf (kept_of hk) (fun _ _ => ?_) | with_reducible refine Calmly.gf_ft (kept_of hk) (fun _ _ => ?_)) | ((with_reducible refine Calmly.is_tail ?_); first | refine Calmly.mix_tail_nil ?_ | refine Calmly.mix_tail rfl (fun _ _ => ?_)) | ((with_reducible refine Calmly.is_kept ?_); refine ⟨kept_of hk, ?_⟩) | (with_reducible refine Calmly.mix_alt ?_ ?_))
                      go_roundw
                      case rel => exact ⟨k + 1, _, by omega, by go_num, rfl, RK3, yC, hb3⟩
                      case measure => simp [intOf]; omega
                  case neg =>
                    obtain rfl : j = k := by omega
                    have hle : ¬ (j : Int) < (j : Int) := by omega
                    clear hlt3 hkj
                    go_wp2_with fail
                    go_roundw
                    case rel => exact ⟨j + 1, _, by omega, by go_num, rfl, Lib.hid (hRC.out.congr Iff.rfl Iff.rfl (by rw [lt_succ_ex (Q := fun b => ∃ c, c < b ∧ dot (crs (qAt l i) (qAt l b)) (qAt l c) ≠ 0), or_assoc])), hb3⟩
                    case measure => simp [intOf]; omega
          case neg =>
            obtain rfl : i = j := by omega
            have hle : ¬ (i : Int) < (i : Int) := by omega
            clear hlt2 hj
            go_wp2_with fail
            go_roundw
            case rel => exact ⟨i + 1, _, by omega, by go_num, rfl, Lib.hid (hRJ.out.congr Iff.rfl (by rw [lt_succ_ex (Q := fun a => ∃ b, b < a ∧ crs (qAt l a) (qAt l b) ≠ qur0)]) (by rw [lt_succ_ex (Q := fun a => ∃ b, b < a ∧ ∃ c, c < b ∧ dot (crs (qAt l a) (qAt l b)) (qAt l c) ≠ 0)])), hb2⟩
            case measure => simp [intOf]; omega
      case neg =>
        have RK1 := Lib.hid (hRI.max1 (P1' := (∃ a, a < i + 1 ∧ qAt l a ≠ qur0)) ⟨i, by omega, by rw [HXI.out]; exact hx0⟩)
        have b6 := ne_zero3 hx0
        obtain ⟨r3, hr3⟩ : ∃ r3, (if r < 1 then 1 else r) = r3 := ⟨_, rfl⟩
        rw [hr3] at RK1
        clear hx0 hRI
        go_wp2_with fail
        go_loopw [5, 3] (fun jj rr wr => ∃ (j : Nat) (r : Int), j ≤ i ∧ jj = .int .i64 j ∧ rr = .int .i64 r ∧ Hid (RrI l (∃ a, a < i + 1 ∧ qAt l a ≠ qur0) ((∃ a, a < i ∧ ∃ b, b < a ∧ crs (qAt l a) (qAt l b) ≠ qur0) ∨ ∃ b, b < j ∧ crs (qAt l i) (qAt l b) ≠ qur0) ((∃ a, a < i ∧ ∃ b, b < a ∧ ∃ c, c < b ∧ dot (crs (qAt l a) (qAt l b)) (qAt l c) ≠ 0) ∨ ∃ b, b < j ∧ ∃ c, c < b ∧ dot (crs (qAt l i) (qAt l b)) (qAt l c) ≠ 0) r) ∧ Below w.heap.size w wr) (fun jj _ _ => i - (intOf jj).toNat)
        case atStart => exact ⟨0, _, by omega, rfl, rfl, Lib.hid (RK1.out.congr Iff.rfl ⟨.inl, fun h => h.elim id (fun ⟨b, hb, _⟩ => absurd hb (by omega))⟩ ⟨.inl, fun h => h.elim id (fun ⟨b, hb, _⟩ => absurd hb (by omega))⟩), hb⟩
        case round =>
          clear hb RK1
          obtain ⟨j, r2, hj, rfl, rfl, hRJ, hb2⟩ := hrel
          by_cases hlt2 : j < i
          case pos =>
            have hj1 : (j : Int) < (i : Int) := by omega
            have hj2 : (j : Int) < (n : Int) := by omega
            have hj0 : (0 : Int) ≤ (j : Int) := by omega
            go_wp2_with fail
            refine Calmly.wp_region_mix 10 (.fl 0 <| .fl 1 <| .fl 2 <| .fl 3 <| .fl 4 <| .fl 5 <| .fl 6 <| .fl 7 <| .alt 8 (.eff 9 <| .tail [10]) (.eff 9 (.eff 8 <| .tail [10]))) (by kernel_rfl) (by kernel_rfl) ?_
            have BD : Below wr.heap.size wr wr.drew := (Below.refl _ _).drew
            replace hb2 := hb2.trans (BD.mono hb2.size)
            clear BD
            generalize wr.drew = V2 at *
            rename_i K10 hK10
            have hK10' := fun a w (h : Stop _) => hK10 a w h.out
            have HK10 := Lib.hid hK10'
            clear hK10 hK10'
            obtain ⟨b2', o2, hbe, hc2⟩ := (h1.keep hb2).at_ (by omega)
            injection hbe with hbe
            injection hbe with e1 e2
            subst e1 e2
            obtain ⟨s0, s1, s2⟩ := hc2 j (by omega)
            obtain ⟨p0, p1, p2⟩ := hc2 i hlt
            have hsmj := HSM.out j
            have hq : l[j]?.getD qur0 = qAt l j := rfl
            have hq2 : l[i]?.getD qur0 = qAt l i := rfl
            rw [hq] at s0 s1 s2
            rw [hq2, HXI.out] at p0 p1 p2
            obtain ⟨⟨y0, y1, y2⟩, hv⟩ : ∃ v, qAt l j = v := ⟨_, rfl⟩
            have HYJ := Lib.hid hv
            rw [hv] at s0 s1 s2 hsmj
            dsimp only at s0 s1 s2 p0 p1 p2
            have HSMJ := Lib.hid hsmj
            clear hv hq hq2 hc2 hsmj
            have hbN := crs_bd HSMI.out HSMJ.out
            obtain ⟨⟨N0, N1, N2⟩, hN⟩ : ∃ v, crs (x0, x1, x2) (y0, y1, y2) = v := ⟨_, rfl⟩
            rw [hN] at hbN
            dsimp only at hbN
            obtain ⟨bN0, bN1, bN2⟩ := hbN
            have hNN : crs (qAt l i) (qAt l j) = (N0, N1, N2) := by rw [HXI.out, HYJ.out, hN]
            have HN := Lib.hid hNN
            clear hNN
            have hk := Below.refl V2.heap.size V2
            go_wp2_with (first | ((with_reducible refine Calmly.is_fl ?_); refine Calmly.mix_fl rfl ?_ (fun _ _ => ?_); (first | exact .move _ | exact .load _ _ | exact .fieldAddr _ _ _ (by kernel_rfl) | exact .assign _ | exact .binOp _ _ _ _ _ rfl | exact .indexAddr _ _ _ | exact .len _ _ (by kernel_rfl) | exact .field _ _ _ | exact .extract _ _ | exact .pick _ _ _ | exact .build _ _ | exact .slice _ _ _ _ _ | exact .unOp _ _ _ rfl | exact .index _ _ _ | exact .max _ _ _ rfl rfl | exact .min _ _ _ rfl rfl | exact .nilCheck _ _ rfl)) | ((with_reducible refine Calmly.is_gl ?_); refine Calmly.mix_gl rfl rfl rfl ?_; first | ((first | with_reducible refine Calmly.gl_tt ?_ (fun _ _ => ?_) | with_reducible refine Calmly.gl_ff ?_ (fun _ _ => ?_)); (first | exact .move _ | exact .load _ _ | exact .fieldAddr _ _ _ (by kernel_rfl) | exact .assign _ | exact .binOp _ _ _ _ _ rfl | exact .indexAddr _ _ _ | exact .len _ _ (by kernel_rfl) | exact .field _ _ _ | exact .extract _ _ | exact .pick _ _ _ | exact .build _ _ | exact .slice _ _ _ _ _ | exact .unOp _ _ _ rfl | exact .index _ _ _ | exact .max _ _ _ rfl rfl | exact .min _ _ _ rfl rfl | exact .nilCheck _ _ rfl)) | with_reducible refine Calmly.gl_tf (fun _ _ => ?_) | with_reducible refine Calmly.gl_ft (fun _ _ => ?_)) | ((with_reducible refine Calmly.is_eff ?_); refine Calmly.mix_eff rfl (fun _ _ => ?_)) | ((with_reducible refine Calmly.is_gf ?_); refine Calmly.mix_gf rfl rfl rfl ?_; first | with_reducible refine Calmly.gf_tt (fun _ _ => ?_) | with_reducible refine Calmly.gf_ff (fun _ _ => ?_) | with_reducible refine Calmly.gf_tf (kept_of hk) (fun _ _ => ?_) | with_reducible refine Calmly.gf_ft (kept_of hk) (fun _ _ => ?_)) | ((with_reducible refine Calmly.is_tail ?_); first | refine Calmly.mix_tail_nil ?_ | refine Calmly.mix_tail rfl (fun _ _ => ?_)) | ((with_reducible refine Calmly.is_kept ?_); refine ⟨kept_of hk, ?_⟩) | (with_reducible refine Calmly.mix_alt ?_ ?_) | (go_at_call 52; refine (rCross_any (x0, x1, x2) (y0, y1, y2) _ HSMI.out HSMJ.out).mono ?_; rintro e w3 ⟨rfl, hs⟩; (try dsimp only); rw [hN]; (try dsimp only); replace hk := step_of hk hs; (try (replace z15 := blk_keep z15 hs)); (try have z0 := cell_block z15 0); (try have x0' := frozen_block z15 0); (try have z1 := cell_block z15 1); (try have x1' := frozen_block z15 1); (try have z2 := cell_block z15 2); (try have x2' := frozen_block z15 2); clear hs) | (refine kept_alloc3 hk (fun hk' hA hblk => ?_); have hqz := hk.size; replace hk := hk'; clear hk'; have z15 := hblk; clear hblk hA; (try have z0 := cell_block z15 0); (try have x0' := frozen_block z15 0); (try have z1 := cell_block z15 1); (try have x1' := frozen_block z15 1); (try have z2 := cell_block z15 2); (try have x2' := frozen_block z15 2); generalize World.alloc _ (.cells #[.int .i64 0, .int .i64 0, .int .i64 0] 53) = X15 at *))
            · have yC := (((B3.mk z15).set0 N0).set1 N1).set2 N2
              have hb3 := hb2.trans (((((hk.setCell (p := ⟨w3.heap.size, 0, none⟩) hqz (.int .i64 N0)).setCell (p := ⟨w3.heap.size, 1, none⟩) hqz (.int .i64 N1)).setCell (p := ⟨w3.heap.size, 2, none⟩) hqz (.int .i64 N2))).mono hb2.size)
              refine HK10.out _ _ ⟨?_⟩
              clear HK10 hk z15 z0 z1 z2 x0' x1' x2' s0 s1 s2 p0 p1 p2 hqz
              obtain ⟨bC, hbC⟩ : ∃ b, w3.heap.size = b := ⟨_, rfl⟩
              rw [hbC] at yC hb3 ⊢
              generalize ((X15.setCell ⟨bC, 0, none⟩ (.int .i64 N0)).setCell ⟨bC, 1, none⟩ (.int .i64 N1)).setCell ⟨bC, 2, none⟩ (.int .i64 N2) = W3 at *
              have f0 := cell_block yC.blk 0
              have f1 := cell_block yC.blk 1
              have f2 := cell_block yC.blk 2
              have hRJo := hRJ.out
              by_cases hc0 : (N0, N1, N2) = qur0
              case pos =>
                have RK2 := Lib.hid (hRJo.congr (P2' := ((∃ a, a < i ∧ ∃ b, b < a ∧ crs (qAt l a) (qAt l b) ≠ qur0) ∨ ∃ b, b < j + 1 ∧ crs (qAt l i) (qAt l b) ≠ qur0)) Iff.rfl (by rw [lt_succ_ex (Q := fun b => crs (qAt l i) (qAt l b) ≠ qur0)]; exact ⟨fun h => h.elim .inl (fun h => .inr (.inl h)), fun h => h.elim .inl (fun h => h.elim .inr (fun h => absurd (HN.out.trans hc0) h))⟩) Iff.rfl)
                injection hc0 with e0 e12
                injection e12 with e1 e2
                have b6 : (N0 == 0 && N1 == 0 && N2 == 0) = true := by rw [e0, e1, e2]; rfl
                clear e0 e1 e2 hRJo hN
                go_wp2_with fail
                go_loopw [7, 3] (fun kk rr wr => ∃ (k : Nat) (r : Int), k ≤ j ∧ kk = .int .i64 k ∧ rr = .int .i64 r ∧ Hid (RrI l (∃ a, a < i + 1 ∧ qAt l a ≠ qur0) ((∃ a, a < i ∧ ∃ b, b < a ∧ crs (qAt l a) (qAt l b) ≠ qur0) ∨ ∃ b, b < j + 1 ∧ crs (qAt l i) (qAt l b) ≠ qur0) (((∃ a, a < i ∧ ∃ b, b < a ∧ ∃ c, c < b ∧ dot (crs (qAt l a) (qAt l b)) (qAt l c) ≠ 0) ∨ ∃ b, b < j ∧ ∃ c, c < b ∧ dot (crs (qAt l i) (qAt l b)) (qAt l c) ≠ 0) ∨ ∃ c, c < k ∧ dot (crs (qAt l i) (qAt l j)) (qAt l c) ≠ 0) r) ∧ B3 wr bC N0 N1 N2 ∧ Below w.heap.size w wr) (fun kk _ _ => j - (intOf kk).toNat)
                case atStart => exact ⟨0, _, by omega, rfl, rfl, Lib.hid (RK2.out.congr Iff.rfl Iff.rfl ⟨.inl, fun h => h.elim id (fun ⟨c, hc, _⟩ => absurd hc (by omega))⟩), yC, hb3⟩
                case round =>
                  clear yC hb3 RK2
                  obtain ⟨k, r5, hkj, rfl, rfl, hRC, yC, hb3⟩ := hrel
                  by_cases hlt3 : k < j
                  case pos =>
                    have hk1 : (k : Int) < (j : Int) := by omega
                    have hk2 : (k : Int) < (n : Int) := by omega
                    have hk0 : (0 : Int) ≤ (k : Int) := by omega
                    go_wp2_with fail
                    refine Calmly.wp_region_mix 25 (.fl 0 <| .fl 1 <| .fl 2 <| .fl 3 <| .fl 4 <| .fl 5 <| .fl 6 <| .fl 7 <| .fl 8 <| .fl 9 <| .fl 10 <| .fl 11 <| .fl 12 <| .fl 13 <| .fl 14 <| .fl 15 <| .fl 16 <| .fl 17 <| .fl 18 <| .fl 19 <| .fl 20 <| .fl 21 <| .fl 22 <| .fl 23 <| .fl 24 <| .tail [25, 26]) (by kernel_rfl) (by kernel_rfl) ?_
                    have BD : Below wr.heap.size wr wr.drew := (Below.refl _ _).drew
                    replace yC := yC.keep BD
                    replace hb3 := hb3.trans (BD.mono hb3.size)
                    clear BD
                    generalize wr.drew = V3 at *
                    obtain ⟨b3', o3, hbe, hc3⟩ := (h1.keep hb3).at_ (by omega)
                    injection hbe with hbe
                    injection hbe with e1 e2
                    subst e1 e2
                    obtain ⟨s0, s1, s2⟩ := hc3 k (by omega)
                    have hsm := HSM.out k
                    have hq : l[k]?.getD qur0 = qAt l k := rfl
                    rw [hq] at s0 s1 s2
                    obtain ⟨⟨v0, v1, v2⟩, hv⟩ : ∃ v, qAt l k = v := ⟨_, rfl⟩
                    rw [hv] at s0 s1 s2 hsm
                    dsimp only [sm] at s0 s1 s2 hsm
                    obtain ⟨t0, t1, t2⟩ := hsm
                    have d1 := mul128 bN0 t0
                    have d2 := mul128 bN1 t1
                    have d3 := mul128 bN2 t2
                    have hdot : dot (crs (qAt l i) (qAt l j)) (qAt l k) = N0 * v0 + N1 * v1 + N2 * v2 := by rw [HN.out, hv]; rfl
                    obtain ⟨Q0, e0⟩ : ∃ p, N0 * v0 = p := ⟨_, rfl⟩
                    obtain ⟨Q1, e1⟩ : ∃ p, N1 * v1 = p := ⟨_, rfl⟩
                    obtain ⟨Q2, e2⟩ : ∃ p, N2 * v2 = p := ⟨_, rfl⟩
                    rw [e0, e1, e2] at hdot
                    rw [e0] at d1
                    rw [e1] at d2
                    rw [e2] at d3
                    have HDOT := Lib.hid hdot
                    clear hdot hv hq hc3
                    have g0 := cell_block yC.blk 0
                    have g1 := cell_block yC.blk 1
                    have g2 := cell_block yC.blk 2
                    have hk := Below.refl V3.heap.size V3
                    by_cases hd : Q0 + Q1 + Q2 = 0
                    case neg =>
                      have b5 : (Q0 + Q1 + Q2 != 0) = true := by simpa using hd
                      have RK3 := Lib.hid (RrI.three (l := l) (P1 := (∃ a, a < i + 1 ∧ qAt l a ≠ qur0)) (P2 := ((∃ a, a < i ∧ ∃ b, b < a ∧ crs (qAt l a) (qAt l b) ≠ qur0) ∨ ∃ b, b < j + 1 ∧ crs (qAt l i) (qAt l b) ≠ qur0)) (P3 := ((∃ a, a < i ∧ ∃ b, b < a ∧ ∃ c, c < b ∧ dot (crs (qAt l a) (qAt l b)) (qAt l c) ≠ 0) ∨ ∃ b, b < j ∧ ∃ c, c < b ∧ dot (crs (qAt l i) (qAt l b)) (qAt l c) ≠ 0) ∨ ∃ c, c < k + 1 ∧ dot (crs (qAt l i) (qAt l j)) (qAt l c) ≠ 0) (.inr ⟨k, by omega, by rw [HDOT.out]; exact hd⟩))
                      clear hd
                      go_wp2_with (first | ((with_reducible refine Calmly.is_fl ?_); refine Calmly.mix_fl rfl ?_ (fun _ _ => ?_); (first | exact .move _ | exact .load _ _ | exact .fieldAddr _ _ _ (by kernel_rfl) | exact .assign _ | exact .binOp _ _ _ _ _ rfl | exact .indexAddr _ _ _ | exact .len _ _ (by kernel_rfl) | exact .field _ _ _ | exact .extract _ _ | exact .pick _ _ _ | exact .build _ _ | exact .slice _ _ _ _ _ | exact .unOp _ _ _ rfl | exact .index _ _ _ | exact .max _ _ _ rfl rfl | exact .min _ _ _ rfl rfl | exact .nilCheck _ _ rfl)) | ((with_reducible refine Calmly.is_gl ?_); refine Calmly.mix_gl rfl rfl rfl ?_; first | ((first | with_reducible refine Calmly.gl_tt ?_ (fun _ _ => ?_) | with_reducible refine Calmly.gl_ff ?_ (fun _ _ => ?_)); (first | exact .move _ | exact .load _ _ | exact .fieldAddr _ _ _ (by kernel_rfl) | exact .assign _ | exact .binOp _ _ _ _ _ rfl | exact .indexAddr _ _ _ | exact .len _ _ (by kernel_rfl) | exact .field _ _ _ | exact .extract _ _ | exact .pick _ _ _ | exact .build _ _ | exact .slice _ _ _ _ _ | exact .unOp _ _ _ rfl | exact .index _ _ _ | exact .max _ _ _ rfl rfl | exact .min _ _ _ rfl rfl | exact .nilCheck _ _ rfl)) | with_reducible refine Calmly.gl_tf (fun _ _ => ?_) | with_reducible refine Calmly.gl_ft (fun _ _ => ?_)) | ((with_reducible refine Calmly.is_eff ?_); refine Calmly.mix_eff rfl (fun _ _ => ?_)) | ((with_reducible refine Calmly.is_gf ?_); refine Calmly.mix_gf rfl rfl rfl ?_; first | with_reducible refine Calmly.gf_tt (fun _ _ => ?_) | with_reducible refine Calmly.gf_ff (fun _ _ => ?_) | with_reducible refine Calmly.gf_tf (kept_of hk) (fun _ _ => ?_) | with_reducible refine Calmly.gf_ft (kept_of hk) (fun _ _ => ?_)) | ((with_reducible refine Calmly.is_tail ?_); first | refine Calmly.mix_tail_nil ?_ | refine Calmly.mix_tail rfl (fun _ _ => ?_)) | ((with_reducible refine Calmly.is_kept ?_); refine ⟨kept_of hk, ?_⟩) | (with_reducible refine Calmly.mix_alt ?_ ?_))
                      go_roundw
                      case rel => exact ⟨k + 1, _, by omega, by go_num, rfl, RK3, yC, hb3⟩
                      case measure => simp [intOf]; omega
                    case pos =>
                      have b5 : (Q0 + Q1 + Q2 != 0) = false := by simpa using hd
                      have RK3 := Lib.hid (hRC.out.congr (P3' := ((∃ a, a < i ∧ ∃ b, b < a ∧ ∃ c, c < b ∧ dot (crs (qAt l a) (qAt l b)) (qAt l c) ≠ 0) ∨ ∃ b, b < j ∧ ∃ c, c < b ∧ dot (crs (qAt l i) (qAt l b)) (qAt l c) ≠ 0) ∨ ∃ c, c < k + 1 ∧ dot (crs (qAt l i) (qAt l j)) (qAt l c) ≠ 0) Iff.rfl Iff.rfl (by rw [lt_succ_ex (Q := fun c => dot (crs (qAt l i) (qAt l j)) (qAt l c) ≠ 0)]; exact ⟨fun h => h.elim .inl (fun h => .inr (.inl h)), fun h => h.elim .inl (fun h => h.elim .inr (fun h => absurd (HDOT.out.trans hd) h))⟩))
                      clear hd
                      go_wp2_with (first | ((with_reducible refine Calmly.is_fl ?_); refine Calmly.mix_fl rfl ?_ (fun _ _ => ?_); (first | exact .move _ | exact .load _ _ | exact .fieldAddr _ _ _ (by kernel_rfl) | exact .assign _ | exact .binOp _ _ _ _ _ rfl | exact .indexAddr _ _ _ | exact .len _ _ (by kernel_rfl) | exact .field _ _ _ | exact .extract _ _ | exact .pick _ _ _ | exact .build _ _ | exact .slice _ _ _ _ _ | exact .unOp _ _ _ rfl | exact .index _ _ _ | exact .max _ _ _ rfl rfl | exact .min _ _ _ rfl rfl | exact .nilCheck _ _ rfl)) | ((with_reducible refine Calmly.is_gl ?_); refine Calmly.mix_gl rfl rfl rfl ?_; first | ((first | with_reducible refine Calmly.gl_tt ?_ (fun _ _ => ?_) | with_reducible refine Calmly.gl_ff ?_ (fun _ _ => ?_)); (first | exact .move _ | exact .load _ _ | exact .fieldAddr _ _ _ (by kernel_rfl) | exact .assign _ | exact .binOp _ _ _ _ _ rfl | exact .indexAddr _ _ _ | exact .len _ _ (by kernel_rfl) | exact .field _ _ _ | exact .extract _ _ | exact .pick _ _ _ | exact .build _ _ | exact .slice _ _ _ _ _ | exact .unOp _ _ _ rfl | exact .index _ _ _ | exact .max _ _ _ rfl rfl | exact .min _ _ _ rfl rfl | exact .nilCheck _ _ rfl)) | with_reducible refine Calmly.gl_tf (fun _ _ => ?_) | with_reducible refine Calmly.gl_ft (fun _ _ => ?_)) | ((with_reducible refine Calmly.is_eff ?_); refine Calmly.mix_eff rfl (fun _ _ => ?_)) | ((with_reducible refine Calmly.is_gf ?_); refine Calmly.mix_gf rfl rfl rfl ?_; first | with_reducible refine Calmly.gf_tt (fun _ _ => ?_) | with_reducible refine Calmly.gf_ff (fun _ _ => ?_) | with_reducible refine Calmly.gf_tf (kept_of hk) (fun _ _ => ?_) | with_reducible refine Calmly.gf_ft (kept_of hk) (fun _ _ => ?_)) | ((with_reducible refine Calmly.is_tail ?_); first | refine Calmly.mix_tail_nil ?_ | refine Calmly.mix_tail rfl (fun _ _ => ?_)) | ((with_reducible refine Calmly.is_kept ?_); refine ⟨kept_of hk, ?_⟩) | (with_reducible refine Calmly.mix_alt ?_ ?_))
                      go_roundw
                      case rel => exact ⟨k + 1, _, by omega, by go_num, rfl, RK3, yC, hb3⟩
                      case measure => simp [intOf]; omega
                  case neg =>
                    obtain rfl : j = k := by omega
                    have hle : ¬ (j : Int) < (j : Int) := by omega
                    clear hlt3 hkj
                    go_wp2_with fail
                    go_roundw
                    case rel => exact ⟨j + 1, _, by omega, by go_num, rfl, Lib.hid (hRC.out.congr Iff.rfl Iff.rfl (by rw [lt_succ_ex (Q := fun b => ∃ c, c < b ∧ dot (crs (qAt l i) (qAt l b)) (qAt l c) ≠ 0), or_assoc])), hb3⟩
                    case measure => simp [intOf]; omega
              case neg =>
                have RK2 := Lib.hid (hRJo.max2 (P2' := ((∃ a, a < i ∧ ∃ b, b < a ∧ crs (qAt l a) (qAt l b) ≠ qur0) ∨ ∃ b, b < j + 1 ∧ crs (qAt l i) (qAt l b) ≠ qur0)) (.inr ⟨j, by omega, by rw [HN.out]; exact hc0⟩))
                have b6 := ne_zero3 hc0
                obtain ⟨r3, hr3⟩ : ∃ r3, (if r2 < 2 then 2 else r2) = r3 := ⟨_, rfl⟩
                rw [hr3] at RK2
                clear hc0 hRJo hN
                go_wp2_with fail
                go_loopw [7, 3] (fun kk rr wr => ∃ (k : Nat) (r : Int), k ≤ j ∧ kk = .int .i64 k ∧ rr = .int .i64 r ∧ Hid (RrI l (∃ a, a < i + 1 ∧ qAt l a ≠ qur0) ((∃ a, a < i ∧ ∃ b, b < a ∧ crs (qAt l a) (qAt l b) ≠ qur0) ∨ ∃ b, b < j + 1 ∧ crs (qAt l i) (qAt l b) ≠ qur0) (((∃ a, a < i ∧ ∃ b, b < a ∧ ∃ c, c < b ∧ dot (crs (qAt l a) (qAt l b)) (qAt l c) ≠ 0) ∨ ∃ b, b < j ∧ ∃ c, c < b ∧ dot (crs (qAt l i) (qAt l b)) (qAt l c) ≠ 0) ∨ ∃ c, c < k ∧ dot (crs (qAt l i) (qAt l j)) (qAt l c) ≠ 0) r) ∧ B3 wr bC N0 N1 N2 ∧ Below w.heap.size w wr) (fun kk _ _ => j - (intOf kk).toNat)
                case atStart => exact ⟨0, _, by omega, rfl, rfl, Lib.hid (RK2.out.congr Iff.rfl Iff.rfl ⟨.inl, fun h => h.elim id (fun ⟨c, hc, _⟩ => absurd hc (by omega))⟩), yC, hb3⟩
                case round =>
                  clear yC hb3 RK2
                  obtain ⟨k, r5, hkj, rfl, rfl, hRC, yC, hb3⟩ := hrel
                  by_cases hlt3 : k < j
                  case pos =>
                    have hk1 : (k : Int) < (j : Int) := by omega
                    have hk2 : (k : Int) < (n : Int) := by omega
                    have hk0 : (0 : Int) ≤ (k : Int) := by omega
                    go_wp2_with fail
                    refine Calmly.wp_region_mix 25 (.fl 0 <| .fl 1 <| .fl 2 <| .fl 3 <| .fl 4 <| .fl 5 <| .fl 6 <| .fl 7 <| .fl 8 <| .fl 9 <| .fl 10 <| .fl 11 <| .fl 12 <| .fl 13 <| .fl 14 <| .fl 15 <| .fl 16 <| .fl 17 <| .fl 18 <| .fl 19 <| .fl 20 <| .fl 21 <| .fl 22 <| .fl 23 <| .fl 24 <| .tail [25, 26]) (by kernel_rfl) (by kernel_rfl) ?_
                    have BD : Below wr.heap.size wr wr.drew := (Below.refl _ _).drew
                    replace yC := yC.keep BD
                    replace hb3 := hb3.trans (BD.mono hb3.size)
                    clear BD
                    generalize wr.drew = V3 at *
                    obtain ⟨b3', o3, hbe, hc3⟩ := (h1.keep hb3).at_ (by omega)
                    injection hbe with hbe
                    injection hbe with e1 e2
                    subst e1 e2
                    obtain ⟨s0, s1, s2⟩ := hc3 k (by omega)
                    have hsm := HSM.out k
                    have hq : l[k]?.getD qur0 = qAt l k := rfl
                    rw [hq] at s0 s1 s2
                    obtain ⟨⟨v0, v1, v2⟩, hv⟩ : ∃ v, qAt l k = v := ⟨_, rfl⟩
                    rw [hv] at s0 s1 s2 hsm
                    dsimp only [sm] at s0 s1 s2 hsm
                    obtain ⟨t0, t1, t2⟩ := hsm
                    have d1 := mul128 bN0 t0
                    have d2 := mul128 bN1 t1
                    have d3 := mul128 bN2 t2
                    have hdot : dot (crs (qAt l i) (qAt l j)) (qAt l k) = N0 * v0 + N1 * v1 + N2 * v2 := by rw [HN.out, hv]; rfl
                    obtain ⟨Q0, e0⟩ : ∃ p, N0 * v0 = p := ⟨_, rfl⟩
                    obtain ⟨Q1, e1⟩ : ∃ p, N1 * v1 = p := ⟨_, rfl⟩
                    obtain ⟨Q2, e2⟩ : ∃ p, N2 * v2 = p := ⟨_, rfl⟩
                    rw [e0, e1, e2] at hdot
                    rw [e0] at d1
                    rw [e1] at d2
                    rw [e2] at d3
                    have HDOT := Lib.hid hdot
                    clear hdot hv hq hc3
                    have g0 := cell_block yC.blk 0
                    have g1 := cell_block yC.blk 1
                    have g2 := cell_block yC.blk 2
                    have hk := Below.refl V3.heap.size V3
                    by_cases hd : Q0 + Q1 + Q2 = 0
                    case neg =>
                      have b5 : (Q0 + Q1 + Q2 != 0) = true := by simpa using hd
                      have RK3 := Lib.hid (RrI.three (l := l) (P1 := (∃ a, a < i + 1 ∧ qAt l a ≠ qur0)) (P2 := ((∃ a, a < i ∧ ∃ b, b < a ∧ crs (qAt l a) (qAt l b) ≠ qur0) ∨ ∃ b, b < j + 1 ∧ crs (qAt l i) (qAt l b) ≠ qur0)) (P3 := ((∃ a, a < i ∧ ∃ b, b < a ∧ ∃ c, c < b ∧ dot (crs (qAt l a) (qAt l b)) (qAt l c) ≠ 0) ∨ ∃ b, b < j ∧ ∃ c, c < b ∧ dot (crs (qAt l i) (qAt l b)) (qAt l c) ≠ 0) ∨ ∃ c, c < k + 1 ∧ dot (crs (qAt l i) (qAt l j)) (qAt l c) ≠ 0) (.inr ⟨k, by omega, by rw [HDOT.out]; exact hd⟩))
                      clear hd
                      go_wp2_with (first | ((with_reducible refine Calmly.is_fl ?_); refine Calmly.mix_fl rfl ?_ (fun _ _ => ?_); (first | exact .move _ | exact .load _ _ | exact .fieldAddr _ _ _ (by kernel_rfl) | exact .assign _ | exact .binOp _ _ _ _ _ rfl | exact .indexAddr _ _ _ | exact .len _ _ (by kernel_rfl) | exact .field _ _ _ | exact .extract _ _ | exact .pick _ _ _ | exact .build _ _ | exact .slice _ _ _ _ _ | exact .unOp _ _ _ rfl | exact .index _ _ _ | exact .max _ _ _ rfl rfl | exact .min _ _ _ rfl rfl | exact .nilCheck _ _ rfl)) | ((with_reducible refine Calmly.is_gl ?_); refine Calmly.mix_gl rfl rfl rfl ?_; first | ((first | with_reducible refine Calmly.gl_tt ?_ (fun _ _ => ?_) | with_reducible refine Calmly.gl_ff ?_ (fun _ _ => ?_)); (first | exact .move _ | exact .load _ _ | exact .fieldAddr _ _ _ (by kernel_rfl) | exact .assign _ | exact .binOp _ _ _ _ _ rfl | exact .indexAddr _ _ _ | exact .len _ _ (by kernel_rfl) | exact .field _ _ _ | exact .extract _ _ | exact .pick _ _ _ | exact .build _ _ | exact .slice _ _ _ _ _ | exact .unOp _ _ _ rfl | exact .index _ _ _ | exact .max _ _ _ rfl rfl | exact .min _ _ _ rfl rfl | exact .nilCheck _ _ rfl)) | with_reducible refine Calmly.gl_tf (fun _ _ => ?_) | with_reducible refine Calmly.gl_ft (fun _ _ => ?_)) | ((with_reducible refine Calmly.is_eff ?_); refine Calmly.mix_eff rfl (fun _ _ => ?_)) | ((with_reducible refine Calmly.is_gf ?_); refine Calmly.mix_gf rfl rfl rfl ?_; first | with_reducible refine Calmly.gf_tt (fun _ _ => ?_) | with_reducible refine Calmly.gf_ff (fun _ _ => ?_) | with_reducible refine Calmly.gf_tf (kept_of hk) (fun _ _ => ?_) | with_reducible refine Calmly.gf_ft (kept_of hk) (fun _ _ => ?_)) | ((with_reducible refine Calmly.is_tail ?_); first | refine Calmly.mix_tail_nil ?_ | refine Calmly.mix_tail rfl (fun _ _ => ?_)) | ((with_reducible refine Calmly.is_kept ?_); refine ⟨kept_of hk, ?_⟩) | (with_reducible refine Calmly.mix_alt ?_ ?_))
                      go_roundw
                      case rel => exact ⟨k + 1, _, by omega, by go_num, rfl, RK3, yC, hb3⟩
                      case measure => simp [intOf]; omega
                    case pos =>
                      have b5 : (Q0 + Q1 + Q2 != 0) = false := by simpa using hd
                      have RK3 := Lib.hid (hRC.out.congr (P3' := ((∃ a, a < i ∧ ∃ b, b < a ∧ ∃ c, c < b ∧ dot (crs (qAt l a) (qAt l b)) (qAt l c) ≠ 0) ∨ ∃ b, b < j ∧ ∃ c, c < b ∧ dot (crs (qAt l i) (qAt l b)) (qAt l c) ≠ 0) ∨ ∃ c, c < k + 1 ∧ dot (crs (qAt l i) (qAt l j)) (qAt l c) ≠ 0) Iff.rfl Iff.rfl (by rw [lt_succ_ex (Q := fun c => dot (crs (qAt l i) (qAt l j)) (qAt l c) ≠ 0)]; exact ⟨fun h => h.elim .inl (fun h => .inr (.inl h)), fun h => h.elim .inl (fun h => h.elim .inr (fun h => absurd (HDOT.out.trans hd) h))⟩))
                      clear hd
                      go_wp2_with (first | ((with_reducible refine Calmly.is_fl ?_); refine Calmly.mix_fl rfl ?_ (fun _ _ => ?_); (first | exact .move _ | exact .load _ _ | exact .fieldAddr _ _ _ (by kernel_rfl) | exact .assign _ | exact .binOp _ _ _ _ _ rfl | exact .indexAddr _ _ _ | exact .len _ _ (by kernel_rfl) | exact .field _ _ _ | exact .extract _ _ | exact .pick _ _ _ | exact .build _ _ | exact .slice _ _ _ _ _ | exact .unOp _ _ _ rfl | exact .index _ _ _ | exact .max _ _ _ rfl rfl | exact .min _ _ _ rfl rfl | exact .nilCheck _ _ rfl)) | ((with_reducible refine Calmly.is_gl ?_); refine Calmly.mix_gl rfl rfl rfl ?_; first | ((first | with_reducible refine Calmly.gl_tt ?_ (fun _ _ => ?_) | with_reducible refine Calmly.gl_ff ?_ (fun _ _ => ?_)); (first | exact .move _ | exact .load _ _ | exact .fieldAddr _ _ _ (by kernel_rfl) | exact .assign _ | exact .binOp _ _ _ _ _ rfl | exact .indexAddr _ _ _ | exact .len _ _ (by kernel_rfl) | exact .field _ _ _ | exact .extract _ _ | exact .pick _ _ _ | exact .build _ _ | exact .slice _ _ _ _ _ | exact .unOp _ _ _ rfl | exact .index _ _ _ | exact .max _ _ _ rfl rfl | exact .min _ _ _ rfl rfl | exact .nilCheck _ _ rfl)) | with_reducible refine Calmly.gl_tf (fun _ _ => ?_) | with_reducible refine Calmly.gl_ft (fun _ _ => ?_)) | ((with_reducible refine Calmly.is_eff ?_); refine Calmly.mix_eff rfl (fun _ _ => ?_)) | ((with_reducible refine Calmly.is_gf ?_); refine Calmly.mix_gf rfl rfl rfl ?_; first | with_reducible refine Calmly.gf_tt (fun _ _ => ?_) | with_reducible refine Calmly.gf_ff (fun _ _ => ?_) | with_reducible refine Calmly.gf_tf (kept_of hk) (fun _ _ => ?_) | with_reducible refine Calmly.gf_ft (kept_of hk) (fun _ _ => ?_)) | ((with_reducible refine Calmly.is_tail ?_); first | refine Calmly.mix_tail_nil ?_ | refine Calmly.mix_tail rfl (fun _ _ => ?_)) | ((with_reducible refine Calmly.is_kept ?_); refine ⟨kept_of hk, ?_⟩) | (with_reducible refine Calmly.mix_alt ?_ ?_))
                      go_roundw
                      case rel => exact ⟨k + 1, _, by omega, by go_num, rfl, RK3, yC, hb3⟩
                      case measure => simp [intOf]; omega
                  case neg =>
                    obtain rfl : j = k := by omega
                    have hle : ¬ (j : Int) < (j : Int) := by omega
                    clear hlt3 hkj
                    go_wp2_with fail
                    go_roundw
                    case rel => exact ⟨j + 1, _, by omega, by go_num, rfl, Lib.hid (hRC.out.congr Iff.rfl Iff.rfl (by rw [lt_succ_ex (Q := fun b => ∃ c, c < b ∧ dot (crs (qAt l i) (qAt l b)) (qAt l c) ≠ 0), or_assoc])), hb3⟩
                    case measure => simp [intOf]; omega
            · have yC := (((B3.mk z15).set0 N0).set1 N1).set2 N2
              have hb3 := hb2.trans (((((hk.setCell (p := ⟨V2.heap.size, 0, none⟩) hqz (.int .i64 N0)).setCell (p := ⟨V2.heap.size, 1, none⟩) hqz (.int .i64 N1)).setCell (p := ⟨V2.heap.size, 2, none⟩) hqz (.int .i64 N2))).mono hb2.size)
              refine HK10.out _ _ ⟨?_⟩
              clear HK10 hk z15 z0 z1 z2 x0' x1' x2' s0 s1 s2 p0 p1 p2 hqz
              obtain ⟨bC, hbC⟩ : ∃ b, V2.heap.size = b := ⟨_, rfl⟩
              rw [hbC] at yC hb3 ⊢
              generalize ((w3.setCell ⟨bC, 0, none⟩ (.int .i64 N0)).setCell ⟨bC, 1, none⟩ (.int .i64 N1)).setCell ⟨bC, 2, none⟩ (.int .i64 N2) = W3 at *
              have f0 := cell_block yC.blk 0
              have f1 := cell_block yC.blk 1
              have f2 := cell_block yC.blk 2
              have hRJo := hRJ.out
              by_cases hc0 : (N0, N1, N2) = qur0
              case pos =>
                have RK2 := Lib.hid (hRJo.congr (P2' := ((∃ a, a < i ∧ ∃ b, b < a ∧ crs (qAt l a) (qAt l b) ≠ qur0) ∨ ∃ b, b < j + 1 ∧ crs (qAt l i) (qAt l b) ≠ qur0)) Iff.rfl (by rw [lt_succ_ex (Q := fun b => crs (qAt l i) (qAt l b) ≠ qur0)]; exact ⟨fun h => h.elim .inl (fun h => .inr (.inl h)), fun h => h.elim .inl (fun h => h.elim .inr (fun h => absurd (HN.out.trans hc0) h))⟩) Iff.rfl)
                injection hc0 with e0 e12
                injection e12 with e1 e2
                have b6 : (N0 == 0 && N1 == 0 && N2 == 0) = true := by rw [e0, e1, e2]; rfl
                clear e0 e1 e2 hRJo hN
                go_wp2_with fail
                go_loopw [7, 3] (fun kk rr wr => ∃ (k : Nat) (r : Int), k ≤ j ∧ kk = .int .i64 k ∧ rr = .int .i64 r ∧ Hid (RrI l (∃ a, a < i + 1 ∧ qAt l a ≠ qur0) ((∃ a, a < i ∧ ∃ b, b < a ∧ crs (qAt l a) (qAt l b) ≠ qur0) ∨ ∃ b, b < j + 1 ∧ crs (qAt l i) (qAt l b) ≠ qur0) (((∃ a, a < i ∧ ∃ b, b < a ∧ ∃ c, c < b ∧ dot (crs (qAt l a) (qAt l b)) (qAt l c) ≠ 0) ∨ ∃ b, b < j ∧ ∃ c, c < b ∧ dot (crs (qAt l i) (qAt l b)) (qAt l c) ≠ 0) ∨ ∃ c, c < k ∧ dot (crs (qAt l i) (qAt l j)) (qAt l c) ≠ 0) r) ∧ B3 wr bC N0 N1 N2 ∧ Below w.heap.size w wr) (fun kk _ _ => j - (intOf kk).toNat)
                case atStart => exact ⟨0, _, by omega, rfl, rfl, Lib.hid (RK2.out.congr Iff.rfl Iff.rfl ⟨.inl, fun h => h.elim id (fun ⟨c, hc, _⟩ => absurd hc (by omega))⟩), yC, hb3⟩
                case round =>
                  clear yC hb3 RK2
                  obtain ⟨k, r5, hkj, rfl, rfl, hRC, yC, hb3⟩ := hrel
                  by_cases hlt3 : k < j
                  case pos =>
                    have hk1 : (k : Int) < (j : Int) := by omega
                    have hk2 : (k : Int) < (n : Int) := by omega
                    have hk0 : (0 : Int) ≤ (k : Int) := by omega
                    go_wp2_with fail
                    refine Calmly.wp_region_mix 25 (.fl 0 <| .fl 1 <| .fl 2 <| .fl 3 <| .fl 4 <| .fl 5 <| .fl 6 <| .fl 7 <| .fl 8 <| .fl 9 <| .fl 10 <| .fl 11 <| .fl 12 <| .fl 13 <| .fl 14 <| .fl 15 <| .fl 16 <| .fl 17 <| .fl 18 <| .fl 19 <| .fl 20 <| .fl 21 <| .fl 22 <| .fl 23 <| .fl 24 <| .tail [25, 26]) (by kernel_rfl) (by kernel_rfl) ?_
                    have BD : Below wr.heap.size wr wr.drew := (Below.refl _ _).drew
                    replace yC := yC.keep BD
                    replace hb3 := hb3.trans (BD.mono hb3.size)
                    clear BD
                    generalize wr.drew = V3 at *
                    obtain ⟨b3', o3, hbe, hc3⟩ := (h1.keep hb3).at_ (by omega)
                    injection hbe with hbe
                    injection hbe with e1 e2
                    subst e1 e2
                    obtain ⟨s0, s1, s2⟩ := hc3 k (by omega)
                    have hsm := HSM.out k
                    have hq : l[k]?.getD qur0 = qAt l k := rfl
                    rw [hq] at s0 s1 s2
                    obtain ⟨⟨v0, v1, v2⟩, hv⟩ : ∃ v, qAt l k = v := ⟨_, rfl⟩
                    rw [hv] at s0 s1 s2 hsm
                    dsimp only [sm] at s0 s1 s2 hsm
                    obtain ⟨t0, t1, t2⟩ := hsm
                    have d1 := mul128 bN0 t0
                    have d2 := mul128 bN1 t1
                    have d3 := mul128 bN2 t2
                    have hdot : dot (crs (qAt l i) (qAt l j)) (qAt l k) = N0 * v0 + N1 * v1 + N2 * v2 := by rw [HN.out, hv]; rfl
                    obtain ⟨Q0, e0⟩ : ∃ p, N0 * v0 = p := ⟨_, rfl⟩
                    obtain ⟨Q1, e1⟩ : ∃ p, N1 * v1 = p := ⟨_, rfl⟩
                    obtain ⟨Q2, e2⟩ : ∃ p, N2 * v2 = p := ⟨_, rfl⟩
                    rw [e0, e1, e2] at hdot
                    rw [e0] at d1
                    rw [e1] at d2
                    rw [e2] at d3
                    have HDOT := Lib.hid hdot
                    clear hdot hv hq hc3
                    have g0 := cell_block yC.blk 0
                    have g1 := cell_block yC.blk 1
                    have g2 := cell_block yC.blk 2
                    have hk := Below.refl V3.heap.size V3
                    by_cases hd : Q0 + Q1 + Q2 = 0
                    case neg =>
                      have b5 : (Q0 + Q1 + Q2 != 0) = true := by simpa using hd
                      have RK3 := Lib.hid (RrI.three (l := l) (P1 := (∃ a, a < i + 1 ∧ qAt l a ≠ qur0)) (P2 := ((∃ a, a < i ∧ ∃ b, b < a ∧ crs (qAt l a) (qAt l b) ≠ qur0) ∨ ∃ b, b < j + 1 ∧ crs (qAt l i) (qAt l b) ≠ qur0)) (P3 := ((∃ a, a < i ∧ ∃ b, b < a ∧ ∃ c, c < b ∧ dot (crs (qAt l a) (qAt l b)) (qAt l c) ≠ 0) ∨ ∃ b, b < j ∧ ∃ c, c < b ∧ dot (crs (qAt l i) (qAt l b)) (qAt l c) ≠ 0) ∨ ∃ c, c < k + 1 ∧ dot (crs (qAt l i) (qAt l j)) (qAt l c) ≠ 0) (.inr ⟨k, by omega, by rw [HDOT.out]; exact hd⟩))
                      clear hd
                      go_wp2_with (first | ((with_reducible refine Calmly.is_fl ?_); refine Calmly.mix_fl rfl ?_ (fun _ _ => ?_); (first | exact .move _ | exact .load _ _ | exact .fieldAddr _ _ _ (by kernel_rfl) | exact .assign _ | exact .binOp _ _ _ _ _ rfl | exact .indexAddr _ _ _ | exact .len _ _ (by kernel_rfl) | exact .field _ _ _ | exact .extract _ _ | exact .pick _ _ _ | exact .build _ _ | exact .slice _ _ _ _ _ | exact .unOp _ _ _ rfl | exact .index _ _ _ | exact .max _ _ _ rfl rfl | exact .min _ _ _ rfl rfl | exact .nilCheck _ _ rfl)) | ((with_reducible refine Calmly.is_gl ?_); refine Calmly.mix_gl rfl rfl rfl ?_; first | ((first | with_reducible refine Calmly.gl_tt ?_ (fun _ _ => ?_) | with_reducible refine Calmly.gl_ff ?_ (fun _ _ => ?_)); (first | exact .move _ | exact .load _ _ | exact .fieldAddr _ _ _ (by kernel_rfl) | exact .assign _ | exact .binOp _ _ _ _ _ rfl | exact .indexAddr _ _ _ | exact .len _ _ (by kernel_rfl) | exact .field _ _ _ | exact .extract _ _ | exact .pick _ _ _ | exact .build _ _ | exact .slice _ _ _ _ _ | exact .unOp _ _ _ rfl | exact .index _ _ _ | exact .max _ _ _ rfl rfl | exact .min _ _ _ rfl rfl | exact .nilCheck _ _ rfl)) | with_reducible refine Calmly.gl_tf (fun _ _ => ?_) | with_reducible refine Calmly.gl_ft (fun _ _ => ?_)) | ((with_reducible refine Calmly.is_eff ?_); refine Calmly.mix_eff rfl (fun _ _ => ?_)) | ((with_reducible refine Calmly.is_gf ?_); refine Calmly.mix_gf rfl rfl rfl ?_; first | with_reducible refine Calmly.gf_tt (fun _ _ => ?_) | with_reducible refine Calmly.gf_ff (fun _ _ => ?_) | with_reducible refine Calmly.gf_tf (kept_of hk) (fun _ _ => ?_) | with_reducible refine Calmly.gf_ft (kept_of hk) (fun _ _ => ?_)) | ((with_reducible refine Calmly.is_tail ?_); first | refine Calmly.mix_tail_nil ?_ | refine Calmly.mix_tail rfl (fun _ _ => ?_)) | ((with_reducible refine Calmly.is_kept ?_); refine ⟨kept_of hk, ?_⟩) | (with_reducible refine Calmly.mix_alt ?_ ?_))
                      go_roundw
                      case rel => exact ⟨k + 1, _, by omega, by go_num, rfl, RK3, yC, hb3⟩
                      case measure => simp [intOf]; omega
                    case pos =>
                      have b5 : (Q0 + Q1 + Q2 != 0) = false := by simpa using hd
                      have RK3 := Lib.hid (hRC.out.congr (P3' := ((∃ a, a < i ∧ ∃ b, b < a ∧ ∃ c, c < b ∧ dot (crs (qAt l a) (qAt l b)) (qAt l c) ≠ 0) ∨ ∃ b, b < j ∧ ∃ c, c < b ∧ dot (crs (qAt l i) (qAt l b)) (qAt l c) ≠ 0) ∨ ∃ c, c < k + 1 ∧ dot (crs (qAt l i) (qAt l j)) (qAt l c) ≠ 0) Iff.rfl Iff.rfl (by rw [lt_succ_ex (Q := fun c => dot (crs (qAt l i) (qAt l j)) (qAt l c) ≠ 0)]; exact ⟨fun h => h.elim .inl (fun h => .inr (.inl h)), fun h => h.elim .inl (fun h => h.elim .inr (fun h => absurd (HDOT.out.trans hd) h))⟩))
                      clear hd
                      go_wp2_with (first | ((with_reducible refine Calmly.is_fl ?_); refine Calmly.mix_fl rfl ?_ (fun _ _ => ?_); (first | exact .move _ | exact .load _ _ | exact .fieldAddr _ _ _ (by kernel_rfl) | exact .assign _ | exact .binOp _ _ _ _ _ rfl | exact .indexAddr _ _ _ | exact .len _ _ (by kernel_rfl) | exact .field _ _ _ | exact .extract _ _ | exact .pick _ _ _ | exact .build _ _ | exact .slice _ _ _ _ _ | exact .unOp _ _ _ rfl | exact .index _ _ _ | exact .max _ _ _ rfl rfl | exact .min _ _ _ rfl rfl | exact .nilCheck _ _ rfl)) | ((with_reducible refine Calmly.is_gl ?_); refine Calmly.mix_gl rfl rfl rfl ?_; first | ((first | with_reducible refine Calmly.gl_tt ?_ (fun _ _ => ?_) | with_reducible refine Calmly.gl_ff ?_ (fun _ _ => ?_)); (first | exact .move _ | exact .load _ _ | exact .fieldAddr _ _ _ (by kernel_rfl) | exact .assign _ | exact .binOp _ _ _ _ _ rfl | exact .indexAddr _ _ _ | exact .len _ _ (by kernel_rfl) | exact .field _ _ _ | exact .extract _ _ | exact .pick _ _ _ | exact .build _ _ | exact .slice _ _ _ _ _ | exact .unOp _ _ _ rfl | exact .index _ _ _ | exact .max _ _ _ rfl rfl | exact .min _ _ _ rfl rfl | exact .nilCheck _ _ rfl)) | with_reducible refine Calmly.gl_tf (fun _ _ => ?_) | with_reducible refine Calmly.gl_ft (fun _ _ => ?_)) | ((with_reducible refine Calmly.is_eff ?_); refine Calmly.mix_eff rfl (fun _ _ => ?_)) | ((with_reducible refine Calmly.is_gf ?_); refine Calmly.mix_gf rfl rfl rfl ?_; first | with_reducible refine Calmly.gf_tt (fun _ _ => ?_) | with_reducible refine Calmly.gf_ff (fun _ _ => ?_) | with_reducible refine Calmly.gf_tf (kept_of hk) (fun _ _ => ?_) | with_reducible refine Calmly.gf_ft (kept_of hk) (fun _ _ => ?_)) | ((with_reducible refine Calmly.is_tail ?_); first | refine Calmly.mix_tail_nil ?_ | refine Calmly.mix_tail rfl (fun _ _ => ?_)) | ((with_reducible refine Calmly.is_kept ?_); refine ⟨kept_of hk, ?_⟩) | (with_reducible refine Calmly.mix_alt ?_ ?_))
                      go_roundw
                      case rel => exact ⟨k + 1, _, by omega, by go_num, rfl, RK3, yC, hb3⟩
                      case measure => simp [intOf]; omega
                  case neg =>
                    obtain rfl : j = k := by omega
                    have hle : ¬ (j : Int) < (j : Int) := by omega
                    clear hlt3 hkj
                    go_wp2_with fail
                    go_roundw
                    case rel => exact ⟨j + 1, _, by omega, by go_num, rfl, Lib.hid (hRC.out.congr Iff.rfl Iff.rfl (by rw [lt_succ_ex (Q := fun b => ∃ c, c < b ∧ dot (crs (qAt l i) (qAt l b)) (qAt l c) ≠ 0), or_assoc])), hb3⟩
                    case measure => simp [intOf]; omega
              case neg =>
                have RK2 := Lib.hid (hRJo.max2 (P2' := ((∃ a, a < i ∧ ∃ b, b < a ∧ crs (qAt l a) (qAt l b) ≠ qur0) ∨ ∃ b, b < j + 1 ∧ crs (qAt l i) (qAt l b) ≠ qur0)) (.inr ⟨j, by omega, by rw [HN.out]; exact hc0⟩))
                have b6 := ne_zero3 hc0
                obtain ⟨r3, hr3⟩ : ∃ r3, (if r2 < 2 then 2 else r2) = r3 := ⟨_, rfl⟩
                rw [hr3] at RK2
                clear hc0 hRJo hN
                go_wp2_with fail
                go_loopw [7, 3] (fun kk rr wr => ∃ (k : Nat) (r : Int), k ≤ j ∧ kk = .int .i64 k ∧ rr = .int .i64 r ∧ Hid (RrI l (∃ a, a < i + 1 ∧ qAt l a ≠ qur0) ((∃ a, a < i ∧ ∃ b, b < a ∧ crs (qAt l a) (qAt l b) ≠ qur0) ∨ ∃ b, b < j + 1 ∧ crs (qAt l i) (qAt l b) ≠ qur0) (((∃ a, a < i ∧ ∃ b, b < a ∧ ∃ c, c < b ∧ dot (crs (qAt l a) (qAt l b)) (qAt l c) ≠ 0) ∨ ∃ b, b < j ∧ ∃ c, c < b ∧ dot (crs (qAt l i) (qAt l b)) (qAt l c) ≠ 0) ∨ ∃ c, c < k ∧ dot (crs (qAt l i) (qAt l j)) (qAt l c) ≠ 0) r) ∧ B3 wr bC N0 N1 N2 ∧ Below w.heap.size w wr) (fun kk _ _ => j - (intOf kk).toNat)
                case atStart => exact ⟨0, _, by omega, rfl, rfl, Lib.hid (RK2.out.congr Iff.rfl Iff.rfl ⟨.inl, fun h => h.elim id (fun ⟨c, hc, _⟩ => absurd hc (by omega))⟩), yC, hb3⟩
                case round =>
                  clear yC hb3 RK2
                  obtain ⟨k, r5, hkj, rfl, rfl, hRC, yC, hb3⟩ := hrel
                  by_cases hlt3 : k < j
                  case pos =>
                    have hk1 : (k : Int) < (j : Int) := by omega
                    have hk2 : (k : Int) < (n : Int) := by omega
                    have hk0 : (0 : Int) ≤ (k : Int) := by omega
                    go_wp2_with fail
                    refine Calmly.wp_region_mix 25 (.fl 0 <| .fl 1 <| .fl 2 <| .fl 3 <| .fl 4 <| .fl 5 <| .fl 6 <| .fl 7 <| .fl 8 <| .fl 9 <| .fl 10 <| .fl 11 <| .fl 12 <| .fl 13 <| .fl 14 <| .fl 15 <| .fl 16 <| .fl 17 <| .fl 18 <| .fl 19 <| .fl 20 <| .fl 21 <| .fl 22 <| .fl 23 <| .fl 24 <| .tail [25, 26]) (by kernel_rfl) (by kernel_rfl) ?_
                    have BD : Below wr.heap.size wr wr.drew := (Below.refl _ _).drew
                    replace yC := yC.keep BD
                    replace hb3 := hb3.trans (BD.mono hb3.size)
                    clear BD
                    generalize wr.drew = V3 at *
                    obtain ⟨b3', o3, hbe, hc3⟩ := (h1.keep hb3).at_ (by omega)
                    injection hbe with hbe
                    injection hbe with e1 e2
                    subst e1 e2
                    obtain ⟨s0, s1, s2⟩ := hc3 k (by omega)
                    have hsm := HSM.out k
                    have hq : l[k]?.getD qur0 = qAt l k := rfl
                    rw [hq] at s0 s1 s2
                    obtain ⟨⟨v0, v1, v2⟩, hv⟩ : ∃ v, qAt l k = v := ⟨_, rfl⟩
                    rw [hv] at s0 s1 s2 hsm
                    dsimp only [sm] at s0 s1 s2 hsm
                    obtain ⟨t0, t1, t2⟩ := hsm
                    have d1 := mul128 bN0 t0
                    have d2 := mul128 bN1 t1
                    have d3 := mul128 bN2 t2
                    have hdot : dot (crs (qAt l i) (qAt l j)) (qAt l k) = N0 * v0 + N1 * v1 + N2 * v2 := by rw [HN.out, hv]; rfl
                    obtain ⟨Q0, e0⟩ : ∃ p, N0 * v0 = p := ⟨_, rfl⟩
                    obtain ⟨Q1, e1⟩ : ∃ p, N1 * v1 = p := ⟨_, rfl⟩
                    obtain ⟨Q2, e2⟩ : ∃ p, N2 * v2 = p := ⟨_, rfl⟩
                    rw [e0, e1, e2] at hdot
                    rw [e0] at d1
                    rw [e1] at d2
                    rw [e2] at d3
                    have HDOT := Lib.hid hdot
                    clear hdot hv hq hc3
                    have g0 := cell_block yC.blk 0
                    have g1 := cell_block yC.blk 1
                    have g2 := cell_block yC.blk 2
                    have hk := Below.refl V3.heap.size V3
                    by_cases hd : Q0 + Q1 + Q2 = 0
                    case neg =>
                      have b5 : (Q0 + Q1 + Q2 != 0) = true := by simpa using hd
                      have RK3 := Lib.hid (RrI.three (l := l) (P1 := (∃ a, a < i + 1 ∧ qAt l a ≠ qur0)) (P2 := ((∃ a, a < i ∧ ∃ b, b < a ∧ crs (qAt l a) (qAt l b) ≠ qur0) ∨ ∃ b, b < j + 1 ∧ crs (qAt l i) (qAt l b) ≠ qur0)) (P3 := ((∃ a, a < i ∧ ∃ b, b < a ∧ ∃ c, c < b ∧ dot (crs (qAt l a) (qAt l b)) (qAt l c) ≠ 0) ∨ ∃ b, b < j ∧ ∃ c, c < b ∧ dot (crs (qAt l i) (qAt l b)) (qAt l c) ≠ 0) ∨ ∃ c, c < k + 1 ∧ dot (crs (qAt l i) (qAt l j)) (qAt l c) ≠ 0) (.inr ⟨k, by omega, by rw [HDOT.out]; exact hd⟩))
                      clear hd
                      go_wp2_with (first | ((with_reducible refine Calmly.is_fl ?_); refine Calmly.mix_fl rfl ?_ (fun _ _ => ?_); (first | exact .move _ | exact .load _ _ | exact .fieldAddr _ _ _ (by kernel_rfl) | exact .assign _ | exact .binOp _ _ _ _ _ rfl | exact .indexAddr _ _ _ | exact .len _ _ (by kernel_rfl) | exact .field _ _ _ | exact .extract _ _ | exact .pick _ _ _ | exact .build _ _ | exact .slice _ _ _ _ _ | exact .unOp _ _ _ rfl | exact .index _ _ _ | exact .max _ _ _ rfl rfl | exact .min _ _ _ rfl rfl | exact .nilCheck _ _ rfl)) | ((with_reducible refine Calmly.is_gl ?_); refine Calmly.mix_gl rfl rfl rfl ?_; first | ((first | with_reducible refine Calmly.gl_tt ?_ (fun _ _ => ?_) | with_reducible refine Calmly.gl_ff ?_ (fun _ _ => ?_)); (first | exact .move _ | exact .load _ _ | exact .fieldAddr _ _ _ (by kernel_rfl) | exact .assign _ | exact .binOp _ _ _ _ _ rfl | exact .indexAddr _ _ _ | exact .len _ _ (by kernel_rfl) | exact .field _ _ _ | exact .extract _ _ | exact .pick _ _ _ | exact .build _ _ | exact .slice _ _ _ _ _ | exact .unOp _ _ _ rfl | exact .index _ _ _ | exact .max _ _ _ rfl rfl | exact .min _ _ _ rfl rfl | exact .nilCheck _ _ rfl)) | with_reducible refine Calmly.gl_tf (fun _ _ => ?_) | with_reducible refine Calmly.gl_ft (fun _ _ => ?_)) | ((with_reducible refine Calmly.is_eff ?_); refine Calmly.mix_eff rfl (fun _ _ => ?_)) | ((with_reducible refine Calmly.is_gf ?_); refine Calmly.mix_gf rfl rfl rfl ?_; first | with_reducible refine Calmly.gf_tt (fun _ _ => ?_) | with_reducible refine Calmly.gf_ff (fun _ _ => ?_) | with_reducible refine Calmly.gf_tf (kept_of hk) (fun _ _ => ?_) | with_reducible refine Calmly.gf_ft (kept_of hk) (fun _ _ => ?_)) | ((with_reducible refine Calmly.is_tail ?_); first | refine Calmly.mix_tail_nil ?_ | refine Calmly.mix_tail rfl (fun _ _ => ?_)) | ((with_reducible refine Calmly.is_kept ?_); refine ⟨kept_of hk, ?_⟩) | (with_reducible refine Calmly.mix_alt ?_ ?_))
                      go_roundw
                      case rel => exact ⟨k + 1, _, by omega, by go_num, rfl, RK3, yC, hb3⟩
                      case measure => simp [intOf]; omega
                    case pos =>
                      have b5 : (Q0 + Q1 + Q2 != 0) = false := by simpa using hd
                      have RK3 := Lib.hid (hRC.out.congr (P3' := ((∃ a, a < i ∧ ∃ b, b < a ∧ ∃ c, c < b ∧ dot (crs (qAt l a) (qAt l b)) (qAt l c) ≠ 0) ∨ ∃ b, b < j ∧ ∃ c, c < b ∧ dot (crs (qAt l i) (qAt l b)) (qAt l c) ≠ 0) ∨ ∃ c, c < k + 1 ∧ dot (crs (qAt l i) (qAt l j)) (qAt l c) ≠ 0) Iff.rfl Iff.rfl (by rw [lt_succ_ex (Q := fun c => dot (crs (qAt l i) (qAt l j)) (qAt l c) ≠ 0)]; exact ⟨fun h => h.elim .inl (fun h => .inr (.inl h)), fun h => h.elim .inl (fun h => h.elim .inr (fun h => absurd (HDOT.out.trans hd) h))⟩))
                      clear hd
                      go_wp2_with (first | ((with_reducible refine Calmly.is_fl ?_); refine Calmly.mix_fl rfl ?_ (fun _ _ => ?_); (first | exact .move _ | exact .load _ _ | exact .fieldAddr _ _ _ (by kernel_rfl) | exact .assign _ | exact .binOp _ _ _ _ _ rfl | exact .indexAddr _ _ _ | exact .len _ _ (by kernel_rfl) | exact .field _ _ _ | exact .extract _ _ | exact .pick _ _ _ | exact .build _ _ | exact .slice _ _ _ _ _ | exact .unOp _ _ _ rfl | exact .index _ _ _ | exact .max _ _ _ rfl rfl | exact .min _ _ _ rfl rfl | exact .nilCheck _ _ rfl)) | ((with_reducible refine Calmly.is_gl ?_); refine Calmly.mix_gl rfl rfl rfl ?_; first | ((first | with_reducible refine Calmly.gl_tt ?_ (fun _ _ => ?_) | with_reducible refine Calmly.gl_ff ?_ (fun _ _ => ?_)); (first | exact .move _ | exact .load _ _ | exact .fieldAddr _ _ _ (by kernel_rfl) | exact .assign _ | exact .binOp _ _ _ _ _ rfl | exact .indexAddr _ _ _ | exact .len _ _ (by kernel_rfl) | exact .field _ _ _ | exact .extract _ _ | exact .pick _ _ _ | exact .build _ _ | exact .slice _ _ _ _ _ | exact .unOp _ _ _ rfl | exact .index _ _ _ | exact .max _ _ _ rfl rfl | exact .min _ _ _ rfl rfl | exact .nilCheck _ _ rfl)) | with_reducible refine Calmly.gl_tf (fun _ _ => ?_) | with_reducible refine Calmly.gl_ft (fun _ _ => ?_)) | ((with_reducible refine Calmly.is_eff ?_); refine Calmly.mix_eff rfl (fun _ _ => ?_)) | ((with_reducible refine Calmly.is_gf ?_); refine Calmly.mix_gf rfl rfl rfl ?_; first | with_reducible refine Calmly.gf_tt (fun _ _ => ?_) | with_reducible refine Calmly.gf_ff (fun _ _ => ?_) | with_reducible refine Calmly.gf_tf (kept_of hk) (fun _ _ => ?_) | with_reducible refine Calmly.gf_ft (kept_of hk) (fun _ _ => ?_)) | ((with_reducible refine Calmly.is_tail ?_); first | refine Calmly.mix_tail_nil ?_ | refine Calmly.mix_tail rfl (fun _ _ => ?_)) | ((with_reducible refine Calmly.is_kept ?_); refine ⟨kept_of hk, ?_⟩) | (with_reducible refine Calmly.mix_alt ?_ ?_))
                      go_roundw
                      case rel => exact ⟨k + 1, _, by omega, by go_num, rfl, RK3, yC, hb3⟩
                      case measure => simp [intOf]; omega
                  case neg =>
                    obtain rfl : j = k := by omega
                    have hle : ¬ (j : Int) < (j : Int) := by omega
                    clear hlt3 hkj
                    go_wp2_with fail
                    go_roundw
                    case rel => exact ⟨j + 1, _, by omega, by go_num, rfl, Lib.hid (hRC.out.congr Iff.rfl Iff.rfl (by rw [lt_succ_ex (Q := fun b => ∃ c, c < b ∧ dot (crs (qAt l i) (qAt l b)) (qAt l c) ≠ 0), or_assoc])), hb3⟩
                    case measure => simp [intOf]; omega
          case neg =>
            obtain rfl : i = j := by omega
            have hle : ¬ (i : Int) < (i : Int) := by omega
            clear hlt2 hj
            go_wp2_with fail
            go_roundw
            case rel => exact ⟨i + 1, _, by omega, by go_num, rfl, Lib.hid (hRJ.out.congr Iff.rfl (by rw [lt_succ_ex (Q := fun a => ∃ b, b < a ∧ crs (qAt l a) (qAt l b) ≠ qur0)]) (by rw [lt_succ_ex (Q := fun a => ∃ b, b < a ∧ ∃ c, c < b ∧ dot (crs (qAt l a) (qAt l b)) (qAt l c) ≠ 0)])), hb2⟩
            case measure => simp [intOf]; omega
    case neg =>
      obtain rfl : n = i := by omega
      have hle : ¬ (n : Int) < (n : Int) := by omega
      have hF : rkF l = r := rr_end (by rw [← HLN.out]; exact hRK.out)
      have HF := Lib.hid hF
      clear hF hlt hi
      go_wp2_with fail
      go_ret
      exact ⟨ret_int (by rw [← HR0.out, HF.out]), hb⟩
end Go.Proofs.YtaiikekgckjdeaaGreat
