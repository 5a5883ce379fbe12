/- The law MotionRests holds for every input: the rest of a record, its prices and which rests are accepted are as specified, or the errors (records and parts of at most 26 numbers). -/
import Derived.Test.YtfjcfbmfpefabaaGreatK25
import Derived.Test.YtfjcfbmfpefabaaGreatRows
namespace Go.Proofs.YtfjcfbmfpefabaaGreat
open Go.RowKit Go.Wides
open Calmly (Kept)

/-- What the program's check of a rest returns. -/
def ckP (step : Int) (xs ps : List Int) (D d v u : Int) (n m : Nat) : Int × Int := if (recF step xs).2 = 0 then ckAll xs ps D d v u n m else (0, (recF step xs).2)
theorem gcds3 (D : Int) (ps : List Int) : unlessE (((gcds ([D] ++ ps) : Nat) : Int) == 1) 3 = if gcds ([D] ++ ps) = 1 then 0 else 3 := by
  unfold unlessE
  by_cases h : gcds ([D] ++ ps) = 1
  · rw [if_pos h, if_pos (by rw [h]; rfl)]
  · rw [if_neg h, if_neg (by simpa using (show ((gcds ([D] ++ ps) : Nat) : Int) ≠ 1 by omega))]
theorem CheckRest_all (step : Int) (a : Option Addr) (n c : Nat) (xs : List Int) (D : Int) (b : Option Addr) (m e : Nat) (ps : List Int) (d v u : Int) (w : World) (h1 : SI w a n c xs) (h2 : SI w b m e ps) (hd1 : -9223372036854775808 ≤ d) (hd2 : d ≤ 9223372036854775807) (hv1 : -9223372036854775808 ≤ v) (hv2 : v ≤ 9223372036854775807) (hu1 : -9223372036854775808 ≤ u) (hu2 : u ≤ 9223372036854775807)
    (I E : Int) (hI : ckP step xs ps D d v u n m = (I, E)) :
    Calls Tryz.prog 9 #[.agg #[.int .i64 step, .slice a n c], .agg #[.int .i64 D, .slice b m e], .agg #[.int .i64 d, .int .i64 v, .int .i64 u]] w fun r w' => r = .returned (.tuple #[.int .i64 I, .int .i64 E]) ∧ Below w.heap.size w w' := by
  have hmn : ((m : Int) == (n : Int)) = decide (m = n) := by
    by_cases h : m = n
    · simp [h]
    · rw [decide_eq_false h]
      simp
      omega
  have key : ∀ F1, firstE [(recF step xs).2, unlessE (dnm D) 2, unlessE ((m : Int) == (n : Int)) 10, unlessE (prtB ps m) 2] = F1 → (F1 ≠ 0 → I = 0 ∧ E = F1) ∧ (F1 = 0 → ckC xs ps D d v u n = (I, E)) := by
    intro F1 hF1
    rw [hmn] at hF1
    unfold ckP at hI
    by_cases hz : (recF step xs).2 = 0
    · rw [if_pos hz] at hI
      rw [hz] at hF1
      unfold ckAll ckA ckB at hI
      by_cases k1 : dnm D = true
      · by_cases k2 : m = n
        · by_cases k3 : prtB ps m = true
          · simp only [k1, k2, if_true] at hI
            simp only [k2] at k3
            simp only [k3, if_true] at hI
            simp [firstE, unlessE, k1, k2, k3] at hF1
            exact ⟨fun h => absurd hF1.symm h, fun _ => hI⟩
          · simp only [k1, k2, if_true] at hI
            simp only [k2] at k3
            simp only [k3] at hI
            simp [firstE, unlessE, k1, k2, k3] at hF1
            cases hI
            exact ⟨fun _ => ⟨rfl, hF1⟩, fun h => by omega⟩
        · simp only [k1, k2, if_true, if_false] at hI
          simp [firstE, unlessE, k1, k2] at hF1
          cases hI
          exact ⟨fun _ => ⟨rfl, hF1⟩, fun h => by omega⟩
      · simp only [k1] at hI
        simp [firstE, unlessE, k1] at hF1
        cases hI
        exact ⟨fun _ => ⟨rfl, hF1⟩, fun h => by omega⟩
    · rw [if_neg hz] at hI
      cases hI
      have : F1 = (recF step xs).2 := by
        rw [← hF1, firstE, if_neg hz]
      exact ⟨fun _ => ⟨rfl, this.symm⟩, fun h => by omega⟩
  by_cases hg : (dnm d && (prt v && prt u)) = true
  · simp only [Bool.and_eq_true] at hg
    obtain ⟨k1, k2, k3⟩ := hg
    have k1' := wIn_iff.1 k1
    have k2' := wIn_iff.1 k2
    have k3' := wIn_iff.1 k3
    refine CheckRest_any step a n c xs D b m e ps d v u w h1 h2 k1'.1 k1'.2 k2'.1 k2'.2 k3'.1 k3'.2 I E _ _ rfl rfl (key _ rfl).1 ?_ ?_ ?_ ?_
    all_goals
      intro hF1
      have hC := (key _ rfl).2 hF1
      rw [gcds3]
      unfold ckC ckD at hC
      rw [k1, k2, k3] at hC
      simp only [Bool.and_self, if_true] at hC
      intro hF2
    · by_cases g1 : gcds ([D] ++ ps) = 1
      · rw [if_pos g1] at hC hF2 ⊢
        unfold ckE at hC
        by_cases g2 : gcds [d, v, u] = 1
        · exact absurd (by simp [firstE, unlessE, g2]) hF2
        · rw [if_neg g2] at hC
          cases hC
          exact ⟨rfl, by simp [firstE, unlessE, g2]⟩
      · rw [if_neg g1] at hC ⊢
        cases hC
        exact ⟨rfl, rfl⟩
    all_goals
      have g1 : gcds ([D] ++ ps) = 1 := by
        refine Decidable.byContradiction fun h => ?_
        rw [if_neg h] at hF2
        cases hF2
      have g2 : gcds [d, v, u] = 1 := by
        refine Decidable.byContradiction fun h => ?_
        rw [if_pos g1] at hF2
        simp [firstE, unlessE, h] at hF2
      rw [if_pos g1] at hC
      unfold ckE at hC
      rw [if_pos g2] at hC
      unfold ckF at hC
    · intro hs
      rw [if_neg hs] at hC
      cases hC
      exact ⟨rfl, rfl⟩
    · intro hs hs2
      rw [if_pos hs] at hC
      unfold ckG at hC
      rw [if_neg hs2] at hC
      cases hC
      exact ⟨rfl, rfl⟩
    · intro hs hs2
      rw [if_pos hs] at hC
      unfold ckG at hC
      rw [if_pos hs2] at hC
      exact hC.symm
  · have hg' : (dnm d && (prt v && prt u)) = false := by simpa using hg
    refine CheckRest_bad step a n c xs D b m e ps d v u w h1 h2 hd1 hd2 hv1 hv2 hu1 hu2 hg' I E _ _ rfl rfl (key _ rfl).1 ?_
    intro hF1
    have hC := (key _ rfl).2 hF1
    rw [gcds3]
    unfold ckC ckD at hC
    rw [hg'] at hC
    by_cases g1 : gcds ([D] ++ ps) = 1
    · rw [if_pos g1] at hC ⊢
      cases hC
      exact ⟨rfl, rfl⟩
    · rw [if_neg g1] at hC ⊢
      cases hC
      exact ⟨rfl, rfl⟩

set_option maxRecDepth 100000 in
set_option maxHeartbeats 8000000 in
theorem MotionRests_walk (step : Int) (a : Option Addr) (n c : Nat) (xs : List Int) (D : Int) (b : Option Addr) (m e : Nat) (ps : List Int) (d v u : Int) (w : World) (h1 : SI w a n c xs) (h2 : SI w b m e ps) (hd1 : -9223372036854775808 ≤ d) (hd2 : d ≤ 9223372036854775807) (hv1 : -9223372036854775808 ≤ v) (hv2 : v ≤ 9223372036854775807) (hu1 : -9223372036854775808 ≤ u) (hu2 : u ≤ 9223372036854775807) :
    Calls Tryz.prog 3 #[.agg #[.int .i64 step, .slice a n c], .agg #[.int .i64 D, .slice b m e], .agg #[.int .i64 d, .int .i64 v, .int .i64 u]] w fun r w' => r = .returned (.bool true) ∧ Below w.heap.size w w' := by
  have hA : ∀ (A : World) (o : Obj), Below A.heap.size A (A.alloc o) := fun A o => (Below.refl _ _).alloc (Nat.le_refl _) _
  obtain ⟨l1, l2⟩ : n ≤ xs.length ∧ xs.length ≤ n := by have := h1.len; omega
  obtain ⟨i1, i2⟩ : m ≤ ps.length ∧ ps.length ≤ m := by have := h2.len; omega
  have m1 := h1.max
  have c1 := h1.cap
  have m2 := h2.max
  have c2 := h2.cap
  obtain ⟨W, hW⟩ : ∃ W, ((w.alloc (.cells #[.int .i64 step, .slice a n c] 24)).alloc (.cells #[.int .i64 D, .slice b m e] 26)).alloc (.cells #[.int .i64 d, .int .i64 v, .int .i64 u] 28) = W := ⟨_, rfl⟩
  have BW : Below w.heap.size w W := by rw [← hW]; exact (((Below.refl _ _).alloc (Nat.le_refl _) _).alloc (by simp) _).alloc (by simp; omega) _
  have x1 : W.heap[w.heap.size]? = some (.cells #[.int .i64 step, .slice a n c] 24) := by
    rw [← hW]
    exact blk_keep (blk_keep (alloc_new w _) (hA _ _)) (hA _ _)
  have x2 : W.heap[w.heap.size + 1]? = some (.cells #[.int .i64 D, .slice b m e] 26) := by
    rw [← hW]
    have := alloc_new (w.alloc (.cells #[.int .i64 step, .slice a n c] 24)) (.cells #[.int .i64 D, .slice b m e] 26)
    simp only [World.size_alloc] at this
    exact blk_keep this (hA _ _)
  have x3 : W.heap[w.heap.size + 1 + 1]? = some (.cells #[.int .i64 d, .int .i64 v, .int .i64 u] 28) := by
    rw [← hW]
    have := alloc_new ((w.alloc (.cells #[.int .i64 step, .slice a n c] 24)).alloc (.cells #[.int .i64 D, .slice b m e] 26)) (.cells #[.int .i64 d, .int .i64 v, .int .i64 u] 28)
    simpa only [World.size_alloc] using this
  have HW := Lib.hid hW
  clear hW
  go_enter Tryz.func3, Tryz.ntmps3
  go_wp2_with fail
  rw [HW.out]
  clear HW
  refine (awake_any _).mono ?_
  rintro r w1 ⟨rfl, hs⟩
  replace x1 := blk_keep x1 hs; replace x2 := blk_keep x2 hs; replace x3 := blk_keep x3 hs; (try replace x7 := blk_keep x7 hs); (try replace x9 := blk_keep x9 hs); (try replace sP := sP.keep hs); replace BW := BW.trans (hs.mono BW.size); clear hs; (try clear f0 f1 g0 g1 k0 k1 k2 p0 p1 q0 q1 q2); have f0 := cell_block x1 0; have f1 := cell_block x1 1; have g0 := cell_block x2 0; have g1 := cell_block x2 1; have k0 := cell_block x3 0; have k1 := cell_block x3 1; have k2 := cell_block x3 2; (try have p0 := cell_block x7 0); (try have p1 := cell_block x7 1); (try have q0 := cell_block x9 0); (try have q1 := cell_block x9 1); (try have q2 := cell_block x9 2)
  go_wp2_with fail
  refine (few_any step a n c _ c1 m1).mono ?_
  rintro r w2 ⟨rfl, hs⟩
  replace x1 := blk_keep x1 hs; replace x2 := blk_keep x2 hs; replace x3 := blk_keep x3 hs; (try replace x7 := blk_keep x7 hs); (try replace x9 := blk_keep x9 hs); (try replace sP := sP.keep hs); replace BW := BW.trans (hs.mono BW.size); clear hs; (try clear f0 f1 g0 g1 k0 k1 k2 p0 p1 q0 q1 q2); have f0 := cell_block x1 0; have f1 := cell_block x1 1; have g0 := cell_block x2 0; have g1 := cell_block x2 1; have k0 := cell_block x3 0; have k1 := cell_block x3 1; have k2 := cell_block x3 2; (try have p0 := cell_block x7 0); (try have p1 := cell_block x7 1); (try have q0 := cell_block x9 0); (try have q1 := cell_block x9 1); (try have q2 := cell_block x9 2)
  by_cases hn : n ≤ 26
  case neg =>
    rw [show decide (n ≤ 26) = false from by simpa using hn]
    go_wp2_with fail
    go_ret
    exact ⟨rfl, BW⟩
  rw [show decide (n ≤ 26) = true from by simpa using hn]
  by_cases hm : m ≤ 26
  case neg =>
    have hm1 : (26 : Int) < (m : Int) := by omega
    go_wp2_with fail
    go_ret
    exact ⟨rfl, BW⟩
  have hm1 : (m : Int) ≤ (26 : Int) := by omega
  obtain ⟨E, hE⟩ : ∃ E, (recF step xs).2 = E := ⟨_, rfl⟩
  obtain ⟨RD, RP, hR, hR'⟩ : ∃ (RD : Int) (RP : List Int), (E ≠ 0 → RD = 0 ∧ RP = []) ∧ (E = 0 → restD xs = RD ∧ restP xs = RP) := by
    by_cases h : E = 0
    · exact ⟨_, _, fun hh => absurd h hh, fun _ => ⟨rfl, rfl⟩⟩
    · exact ⟨_, _, fun _ => ⟨rfl, rfl⟩, fun hh => absurd hh h⟩
  obtain ⟨PD, PV, PU, hP, hP'⟩ : ∃ (PD PV PU : Int), (E ≠ 0 → PD = 0 ∧ PV = 0 ∧ PU = 0) ∧ (E = 0 → prDen xs = PD ∧ prVel xs = PV ∧ prDis xs = PU) := by
    by_cases h : E = 0
    · exact ⟨_, _, _, fun hh => absurd h hh, fun _ => ⟨rfl, rfl, rfl⟩⟩
    · exact ⟨_, _, _, fun _ => ⟨rfl, rfl, rfl⟩, fun hh => absurd hh h⟩
  obtain ⟨I, G, hI⟩ : ∃ I G, ckP step xs ps D d v u n m = (I, G) := ⟨_, _, rfl⟩
  have HE := Lib.hid hE
  have HR := Lib.hid hR
  have HR' := Lib.hid hR'
  have HP := Lib.hid hP
  have HP' := Lib.hid hP'
  have HI := Lib.hid hI
  clear hE hR hR' hP hP' hI
  go_wp2_with fail
  refine (copy_any step a n c xs _ (h1.keep BW) (by omega)).mono ?_
  rintro r w3 ⟨a3, c3, rfl, s3, hs⟩
  replace x1 := blk_keep x1 hs; replace x2 := blk_keep x2 hs; replace x3 := blk_keep x3 hs; (try replace x7 := blk_keep x7 hs); (try replace x9 := blk_keep x9 hs); (try replace sP := sP.keep hs); replace BW := BW.trans (hs.mono BW.size); clear hs; (try clear f0 f1 g0 g1 k0 k1 k2 p0 p1 q0 q1 q2); have f0 := cell_block x1 0; have f1 := cell_block x1 1; have g0 := cell_block x2 0; have g1 := cell_block x2 1; have k0 := cell_block x3 0; have k1 := cell_block x3 1; have k2 := cell_block x3 2; (try have p0 := cell_block x7 0); (try have p1 := cell_block x7 1); (try have q0 := cell_block x9 0); (try have q1 := cell_block x9 1); (try have q2 := cell_block x9 2)
  go_wp2_with fail
  refine (RestOf_any step a3 n c3 xs _ s3 E RD RP HE.out HR.out HR'.out).mono ?_
  rintro r w4 ⟨aP, nP, cP, rfl, sP, hs⟩
  replace x1 := blk_keep x1 hs; replace x2 := blk_keep x2 hs; replace x3 := blk_keep x3 hs; (try replace x7 := blk_keep x7 hs); (try replace x9 := blk_keep x9 hs); (try replace sP := sP.keep hs); replace BW := BW.trans (hs.mono BW.size)
  clear hs
  have hs := hA w4 (.cells #[.int .i64 RD, .slice aP nP cP] 26)
  have x7 := alloc_new w4 (.cells #[.int .i64 RD, .slice aP nP cP] 26)
  replace x1 := blk_keep x1 hs
  replace x2 := blk_keep x2 hs
  replace x3 := blk_keep x3 hs
  replace sP := sP.keep hs
  replace BW := BW.trans (hs.mono BW.size)
  clear hs s3
  (try clear f0 f1 g0 g1 k0 k1 k2 p0 p1 q0 q1 q2); have f0 := cell_block x1 0; have f1 := cell_block x1 1; have g0 := cell_block x2 0; have g1 := cell_block x2 1; have k0 := cell_block x3 0; have k1 := cell_block x3 1; have k2 := cell_block x3 2; (try have p0 := cell_block x7 0); (try have p1 := cell_block x7 1); (try have q0 := cell_block x9 0); (try have q1 := cell_block x9 1); (try have q2 := cell_block x9 2)
  go_wp2_with fail
  obtain ⟨b7, hb7⟩ : ∃ v, w4.heap.size = v := ⟨_, rfl⟩
  rw [hb7] at x7 ⊢
  clear f0 f1 g0 g1 k0 k1 k2 p0 p1
  generalize w4.alloc (.cells #[.int .i64 RD, .slice aP nP cP] 26) = W4 at x1 x2 x3 x7 sP BW ⊢
  clear hb7
  refine (copy_any step a n c xs _ (h1.keep BW) (by omega)).mono ?_
  rintro r w5 ⟨a5, c5, rfl, s5, hs⟩
  replace x1 := blk_keep x1 hs; replace x2 := blk_keep x2 hs; replace x3 := blk_keep x3 hs; (try replace x7 := blk_keep x7 hs); (try replace x9 := blk_keep x9 hs); (try replace sP := sP.keep hs); replace BW := BW.trans (hs.mono BW.size); clear hs; (try clear f0 f1 g0 g1 k0 k1 k2 p0 p1 q0 q1 q2); have f0 := cell_block x1 0; have f1 := cell_block x1 1; have g0 := cell_block x2 0; have g1 := cell_block x2 1; have k0 := cell_block x3 0; have k1 := cell_block x3 1; have k2 := cell_block x3 2; (try have p0 := cell_block x7 0); (try have p1 := cell_block x7 1); (try have q0 := cell_block x9 0); (try have q1 := cell_block x9 1); (try have q2 := cell_block x9 2)
  go_wp2_with fail
  refine (PricesOf_any step a5 n c5 xs _ s5 E PD PV PU HE.out HP.out HP'.out).mono ?_
  rintro r w6 ⟨rfl, hs⟩
  replace x1 := blk_keep x1 hs; replace x2 := blk_keep x2 hs; replace x3 := blk_keep x3 hs; (try replace x7 := blk_keep x7 hs); (try replace x9 := blk_keep x9 hs); (try replace sP := sP.keep hs); replace BW := BW.trans (hs.mono BW.size)
  clear hs
  have hs := hA w6 (.cells #[.int .i64 PD, .int .i64 PV, .int .i64 PU] 28)
  have x9 := alloc_new w6 (.cells #[.int .i64 PD, .int .i64 PV, .int .i64 PU] 28)
  replace x1 := blk_keep x1 hs
  replace x2 := blk_keep x2 hs
  replace x3 := blk_keep x3 hs
  replace x7 := blk_keep x7 hs
  replace sP := sP.keep hs
  replace BW := BW.trans (hs.mono BW.size)
  clear hs s5
  (try clear f0 f1 g0 g1 k0 k1 k2 p0 p1 q0 q1 q2); have f0 := cell_block x1 0; have f1 := cell_block x1 1; have g0 := cell_block x2 0; have g1 := cell_block x2 1; have k0 := cell_block x3 0; have k1 := cell_block x3 1; have k2 := cell_block x3 2; (try have p0 := cell_block x7 0); (try have p1 := cell_block x7 1); (try have q0 := cell_block x9 0); (try have q1 := cell_block x9 1); (try have q2 := cell_block x9 2)
  go_wp2_with fail
  obtain ⟨b9, hb9⟩ : ∃ v, w6.heap.size = v := ⟨_, rfl⟩
  rw [hb9] at x9 ⊢
  clear f0 f1 g0 g1 k0 k1 k2 p0 p1 q0 q1 q2
  generalize w6.alloc (.cells #[.int .i64 PD, .int .i64 PV, .int .i64 PU] 28) = W6 at x1 x2 x3 x7 x9 sP BW ⊢
  clear hb9
  refine Calmly.wp_region_mix 10 (.fl 0 <| .fl 2 <| .fl 4 <| .eff 1 <| .eff 3 <| .eff 5 <| .fl 6 <| .fl 7 <| .fl 8 <| .fl 9 <| .tail [10]) (by kernel_rfl) (by kernel_rfl) ?_
  have hs := (Below.refl W6.heap.size W6).drew
  replace x1 := blk_keep x1 hs; replace x2 := blk_keep x2 hs; replace x3 := blk_keep x3 hs; (try replace x7 := blk_keep x7 hs); (try replace x9 := blk_keep x9 hs); (try replace sP := sP.keep hs); replace BW := BW.trans (hs.mono BW.size)
  clear hs
  generalize W6.drew = V at x1 x2 x3 x7 x9 sP BW ⊢
  have hk := Below.refl V.heap.size V
  (try clear f0 f1 g0 g1 k0 k1 k2 p0 p1 q0 q1 q2); have f0 := cell_block x1 0; have f1 := cell_block x1 1; have g0 := cell_block x2 0; have g1 := cell_block x2 1; have k0 := cell_block x3 0; have k1 := cell_block x3 1; have k2 := cell_block x3 2; (try have p0 := cell_block x7 0); (try have p1 := cell_block x7 1); (try have q0 := cell_block x9 0); (try have q1 := cell_block x9 1); (try have q2 := cell_block x9 2)
  go_wp2_with (first | ((with_reducible refine Calmly.is_fl ?_); refine Calmly.mix_fl rfl ?_ (fun _ _ => ?_); (first | exact .move _ | exact .load _ _ | exact .fieldAddr _ _ _ (by kernel_rfl) | exact .assign _ | exact .binOp _ _ _ _ _ rfl | exact .indexAddr _ _ _ | exact .len _ _ (by kernel_rfl) | exact .field _ _ _ | exact .extract _ _ | exact .pick _ _ _ | exact .build _ _ | exact .slice _ _ _ _ _ | exact .unOp _ _ _ rfl | exact .index _ _ _ | exact .max _ _ _ rfl rfl | exact .min _ _ _ rfl rfl)) | ((with_reducible refine Calmly.is_gl ?_); refine Calmly.mix_gl rfl rfl rfl ?_; first | ((first | with_reducible refine Calmly.gl_tt ?_ (fun _ _ => ?_) | with_reducible refine Calmly.gl_ff ?_ (fun _ _ => ?_)); (first | exact .move _ | exact .load _ _ | exact .fieldAddr _ _ _ (by kernel_rfl) | exact .assign _ | exact .binOp _ _ _ _ _ rfl | exact .indexAddr _ _ _ | exact .len _ _ (by kernel_rfl) | exact .field _ _ _ | exact .extract _ _ | exact .pick _ _ _ | exact .build _ _ | exact .slice _ _ _ _ _ | exact .unOp _ _ _ rfl | exact .index _ _ _ | exact .max _ _ _ rfl rfl | exact .min _ _ _ rfl rfl)) | with_reducible refine Calmly.gl_tf (fun _ _ => ?_) | with_reducible refine Calmly.gl_ft (fun _ _ => ?_)) | ((with_reducible refine Calmly.is_eff ?_); refine Calmly.mix_eff rfl (fun _ _ => ?_)) | ((with_reducible refine Calmly.is_gf ?_); refine Calmly.mix_gf rfl rfl rfl ?_; first | with_reducible refine Calmly.gf_tt (fun _ _ => ?_) | with_reducible refine Calmly.gf_ff (fun _ _ => ?_) | with_reducible refine Calmly.gf_tf (kept_of hk) (fun _ _ => ?_) | with_reducible refine Calmly.gf_ft (kept_of hk) (fun _ _ => ?_)) | ((with_reducible refine Calmly.is_tail ?_); first | refine Calmly.mix_tail_nil ?_ | refine Calmly.mix_tail rfl (fun _ _ => ?_)) | ((with_reducible refine Calmly.is_kept ?_); refine ⟨kept_of hk, ?_⟩) | (with_reducible refine Calmly.mix_alt ?_ ?_) | (go_at_call 7; refine (copy_any step a n c xs _ (h1.keep BW) (by omega)).mono ?_; rintro r w7 ⟨a7, c7, rfl, s7, hs⟩; replace hk := step_of hk hs; clear hs) | (go_at_call 10; refine (copyParts_any D b m e ps _ ((h2.keep BW).keep hk) (by omega)).mono ?_; rintro r w8 ⟨a8, c8, rfl, o8, hs⟩; replace hk := step_of hk hs; replace s7 := s7.keep hs; clear hs) | (go_at_call 9; refine (CheckRest_all step a7 n c7 xs D a8 m c8 ps d v u _ s7 o8.si hd1 hd2 hv1 hv2 hu1 hu2 I G HI.out).mono ?_; rintro r w9 ⟨rfl, hs⟩; replace hk := step_of hk hs; clear hs s7 o8; have hs := hk; replace x1 := blk_keep x1 hs; replace x2 := blk_keep x2 hs; replace x3 := blk_keep x3 hs; (try replace x7 := blk_keep x7 hs); (try replace x9 := blk_keep x9 hs); (try replace sP := sP.keep hs); replace BW := BW.trans (hs.mono BW.size); clear hs; (try clear f0 f1 g0 g1 k0 k1 k2 p0 p1 q0 q1 q2); have f0 := cell_block x1 0; have f1 := cell_block x1 1; have g0 := cell_block x2 0; have g1 := cell_block x2 1; have k0 := cell_block x3 0; have k1 := cell_block x3 1; have k2 := cell_block x3 2; (try have p0 := cell_block x7 0); (try have p1 := cell_block x7 1); (try have q0 := cell_block x9 0); (try have q1 := cell_block x9 1); (try have q2 := cell_block x9 2)))
  clear hk
  refine (rRecordErr_any step a n c xs _ (h1.keep BW) E HE.out).mono ?_
  rintro r w10 ⟨rfl, hs⟩
  replace x1 := blk_keep x1 hs; replace x2 := blk_keep x2 hs; replace x3 := blk_keep x3 hs; (try replace x7 := blk_keep x7 hs); (try replace x9 := blk_keep x9 hs); (try replace sP := sP.keep hs); replace BW := BW.trans (hs.mono BW.size); clear hs; (try clear f0 f1 g0 g1 k0 k1 k2 p0 p1 q0 q1 q2); have f0 := cell_block x1 0; have f1 := cell_block x1 1; have g0 := cell_block x2 0; have g1 := cell_block x2 1; have k0 := cell_block x3 0; have k1 := cell_block x3 1; have k2 := cell_block x3 2; (try have p0 := cell_block x7 0); (try have p1 := cell_block x7 1); (try have q0 := cell_block x9 0); (try have q1 := cell_block x9 1); (try have q2 := cell_block x9 2)
  by_cases hz : E = 0
  case neg =>
    obtain ⟨rfl, rfl⟩ := HR.out hz
    obtain ⟨rfl, rfl, rfl⟩ := HP.out hz
    have hI2 := HI.out
    unfold ckP at hI2
    rw [HE.out, if_neg hz] at hI2
    cases hI2
    have b1 : (E != 0) = true := by simpa using hz
    clear hz
    go_wp2_with fail
    refine (sameParts_any 0 0 aP none nP 0 cP 0 [] [] _ sP (OwI.nil _ 0).si true (by decide)).mono ?_
    rintro r w11 ⟨rfl, hs⟩
    replace x1 := blk_keep x1 hs; replace x2 := blk_keep x2 hs; replace x3 := blk_keep x3 hs; (try replace x7 := blk_keep x7 hs); (try replace x9 := blk_keep x9 hs); (try replace sP := sP.keep hs); replace BW := BW.trans (hs.mono BW.size); clear hs; (try clear f0 f1 g0 g1 k0 k1 k2 p0 p1 q0 q1 q2); have f0 := cell_block x1 0; have f1 := cell_block x1 1; have g0 := cell_block x2 0; have g1 := cell_block x2 1; have k0 := cell_block x3 0; have k1 := cell_block x3 1; have k2 := cell_block x3 2; (try have p0 := cell_block x7 0); (try have p1 := cell_block x7 1); (try have q0 := cell_block x9 0); (try have q1 := cell_block x9 1); (try have q2 := cell_block x9 2)
    go_wp2_with fail
    go_ret
    exact ⟨rfl, BW⟩
  subst hz
  obtain ⟨rfl, rfl⟩ := HR'.out rfl
  obtain ⟨rfl, rfl, rfl⟩ := HP'.out rfl
  have hI2 := HI.out
  unfold ckP at hI2
  rw [if_pos HE.out] at hI2
  have HI2 := Lib.hid hI2
  obtain ⟨r1, r2, r3, r4, r5⟩ := recF_ok HE.out
  have H5 := Lib.hid r5
  have hn2 : 2 ≤ n := by omega
  have hn24 : n ≤ 24 := by omega
  obtain ⟨RD, hRD⟩ : ∃ z, restD xs = z := ⟨_, rfl⟩
  obtain ⟨RP, hRP⟩ : ∃ z, restP xs = z := ⟨_, rfl⟩
  obtain ⟨PD, hPD⟩ : ∃ z, prDen xs = z := ⟨_, rfl⟩
  obtain ⟨PV, hPV⟩ : ∃ z, prVel xs = z := ⟨_, rfl⟩
  obtain ⟨PU, hPU⟩ : ∃ z, prDis xs = z := ⟨_, rfl⟩
  rw [hRD] at x7 p0 p1 ⊢
  rw [hRP] at sP
  rw [hPD, hPV, hPU] at x9 q0 q1 q2 ⊢
  have H1 := Lib.hid hRD
  have H2 := Lib.hid hRP
  have H3 := Lib.hid hPD
  have H4 := Lib.hid hPV
  have H6 := Lib.hid hPU
  clear hRD hRP hPD hPV hPU hI2 r1 r2 r3 r4 r5 HR HR' HP HP' HI
  go_wp2_with fail
  refine (rRest_any a n c xs _ (h1.keep BW) hn2 hn24 H5.out RD PD PV PU RP H1.out H2.out H3.out H4.out H6.out).mono ?_
  rintro r w11 ⟨aR, cR, rfl, sR, hs⟩
  replace x1 := blk_keep x1 hs; replace x2 := blk_keep x2 hs; replace x3 := blk_keep x3 hs; (try replace x7 := blk_keep x7 hs); (try replace x9 := blk_keep x9 hs); (try replace sP := sP.keep hs); replace BW := BW.trans (hs.mono BW.size)
  clear hs
  have y15 := alloc_new (w11.alloc (.cells #[.int .i64 RD, .slice aR n cR] 26)) (.cells #[.int .i64 PD, .int .i64 PV, .int .i64 PU] 28)
  have y14 := blk_keep (alloc_new w11 (.cells #[.int .i64 RD, .slice aR n cR] 26)) (hA _ (.cells #[.int .i64 PD, .int .i64 PV, .int .i64 PU] 28))
  have hs := (hA w11 (.cells #[.int .i64 RD, .slice aR n cR] 26)).trans ((hA (w11.alloc (.cells #[.int .i64 RD, .slice aR n cR] 26)) (.cells #[.int .i64 PD, .int .i64 PV, .int .i64 PU] 28)).mono (by simp))
  simp only [World.size_alloc] at y15
  replace sR := sR.keep hs
  replace x1 := blk_keep x1 hs; replace x2 := blk_keep x2 hs; replace x3 := blk_keep x3 hs; (try replace x7 := blk_keep x7 hs); (try replace x9 := blk_keep x9 hs); (try replace sP := sP.keep hs); replace BW := BW.trans (hs.mono BW.size)
  clear hs
  (try clear f0 f1 g0 g1 k0 k1 k2 p0 p1 q0 q1 q2); have f0 := cell_block x1 0; have f1 := cell_block x1 1; have g0 := cell_block x2 0; have g1 := cell_block x2 1; have k0 := cell_block x3 0; have k1 := cell_block x3 1; have k2 := cell_block x3 2; (try have p0 := cell_block x7 0); (try have p1 := cell_block x7 1); (try have q0 := cell_block x9 0); (try have q1 := cell_block x9 1); (try have q2 := cell_block x9 2)
  have z0 := cell_block y14 0
  have z1 := cell_block y14 1
  have z2 := cell_block y15 0
  have z3 := cell_block y15 1
  have z4 := cell_block y15 2
  go_wp2_with fail
  refine (sameParts_any RD RD aP aR nP n cP cR RP RP _ sP sR true (by simp)).mono ?_
  rintro r w12 ⟨rfl, hs⟩
  replace y14 := blk_keep y14 hs
  replace y15 := blk_keep y15 hs
  replace x1 := blk_keep x1 hs; replace x2 := blk_keep x2 hs; replace x3 := blk_keep x3 hs; (try replace x7 := blk_keep x7 hs); (try replace x9 := blk_keep x9 hs); (try replace sP := sP.keep hs); replace BW := BW.trans (hs.mono BW.size)
  clear hs z0 z1 z2 z3 z4
  (try clear f0 f1 g0 g1 k0 k1 k2 p0 p1 q0 q1 q2); have f0 := cell_block x1 0; have f1 := cell_block x1 1; have g0 := cell_block x2 0; have g1 := cell_block x2 1; have k0 := cell_block x3 0; have k1 := cell_block x3 1; have k2 := cell_block x3 2; (try have p0 := cell_block x7 0); (try have p1 := cell_block x7 1); (try have q0 := cell_block x9 0); (try have q1 := cell_block x9 1); (try have q2 := cell_block x9 2)
  have z0 := cell_block y14 0
  have z1 := cell_block y14 1
  have z2 := cell_block y15 0
  have z3 := cell_block y15 1
  have z4 := cell_block y15 2
  go_wp2_with fail
  refine (rCheckRest_any a n c xs D b m e ps d v u _ (h1.keep BW) (h2.keep BW) hn2 hn24 H5.out I G HI2.out).mono ?_
  rintro r w13 ⟨rfl, hs⟩
  replace BW := BW.trans (hs.mono BW.size)
  go_wp2_with fail
  go_ret
  exact ⟨rfl, BW⟩
end Go.Proofs.YtfjcfbmfpefabaaGreat

namespace Go.Proofs.YtfjcfbmfpefabaaGreat
open Go.ChangeShapes Go.WideShapes Go.ChangeAt Go.RowKit

theorem wf_i64 {x : Int} (h : (Lit.int .i64 x).wf = true) : -9223372036854775808 ≤ x ∧ x ≤ 9223372036854775807 := by
  unfold Lit.wf at h
  rw [Bool.and_eq_true] at h
  exact ⟨of_decide_eq_true h.1, of_decide_eq_true h.2⟩
set_option maxRecDepth 100000 in
set_option maxHeartbeats 1000000 in
theorem MotionRests_lifted (os : Os) (started : os.Started) (H : Type) (enc : TypeId × Value → H) :
    ReturnsInHanded {} Tryz.checked os 3 .any (Rows.motionRestsSpec.pre6 enc Tryz.prog Tryz.f3 Rows.motionRestsRow.domain false) (Rows.motionRestsSpec.post enc Tryz.prog Tryz.f3 false true false false) := by
  refine returnsInHanded_of_change (C := Tryz.checked) Tryz.own' started (by kernel_rfl) Tryz.func3
    (ChangeSpec.witness6 (enc := enc) (C := Tryz.checked) false ⟨#[], #[.agg #[.int .i64 0, .slice none 0 0], .agg #[.int .i64 0, .slice none 0 0], .agg #[.int .i64 0, .int .i64 0, .int .i64 0]], []⟩ 8 (by kernel_rfl) (by kernel_rfl) (by kernel_rfl) (by kernel_rfl)) ?_
  intro W base args ds gs before hval0 hW _ _
  have hval : ∀ (j : Nat) t v, Tryz.f3.params[j]? = some t → args[j]? = some v → Value.okWide Tryz.prog W .any base t v := hval0
  have hW' := hW
  obtain ⟨p, q, hA0, hV, rfl, _, _⟩ := hW
  have hA : DataW.TrodAll enc Tryz.prog W 0 (fun _ => true) true Tryz.f3.params.toList args.toList ds p := hA0
  rw [Tryz.params3] at hA hval
  obtain ⟨v0, v1, v2, d0, d1, d2, p0, p1, p2, rfl, rfl, rfl, h0, h1, h2⟩ := trodAll_three hA
  obtain ⟨rfl, rfl⟩ := trodVars_none hV
  clear hA0 hA hval0
  have hlt : ∀ x ∈ p0 ++ p1 ++ p2, x.block < W.heap.size := fun x hx => by simpa using hW'.lt x (by simpa using hx)
  obtain ⟨s0, a0, n0, c0, l0, rfl, hw0, hs0, hw0'⟩ := open_record (hval 0 24 v0 rfl rfl) h0
  obtain ⟨s1, a1, n1, c1, l1, rfl, hw1, hs1, hw1'⟩ := open_parts (hval 1 26 v1 rfl rfl) h1
  obtain ⟨x2, y2, z2, rfl, hx2, hy2, hz2⟩ := open_prices (hval 2 28 v2 rfl rfl) h2
  refine (MotionRests_walk s0 a0 n0 c0 l0 s1 a1 n1 c1 l1 x2 y2 z2 _ hs0 hs1 (wf_i64 hx2).1 (wf_i64 hx2).2 (wf_i64 hy2).1 (wf_i64 hy2).2 (wf_i64 hz2).1 (wf_i64 hz2).2).mono fun e W' ⟨he, hb⟩ => ?_
  subst he
  exact ⟨_, rfl, _, _, _, [], _, [], hW', trodAll_mk1 (shut_bool Tryz.underlying4 _),
    trodAll_mk3 (Below.trod Tryz.laidOut' (by kernel_rfl) (of_decide_eq_true (by kernel_rfl)) h0 hb (fun x hx => hlt x (List.mem_append_left _ (List.mem_append_left _ hx)))) (Below.trod Tryz.laidOut' (by kernel_rfl) (of_decide_eq_true (by kernel_rfl)) h1 hb (fun x hx => hlt x (List.mem_append_left _ (List.mem_append_right _ hx)))) (Below.trod Tryz.laidOut' (by kernel_rfl) (of_decide_eq_true (by kernel_rfl)) h2 hb (fun x hx => hlt x (List.mem_append_right _ hx))),
    rfl, hb.frame _, fun h => by cases h⟩

theorem MotionRests_holds : Rows.MotionRestsSaid :=
  OpenClaim.holds_of_wide 3 Tryz.f3 rfl rfl rfl rfl rfl rfl rfl ⟨rfl, rfl, rfl, rfl, rfl⟩ rfl rfl rfl rfl rfl (by kernel_rfl) Tryz.func3 (by kernel_rfl)
    (of_decide_eq_true (by kernel_rfl)) (by unfold Func.isWrapper; first | (rw [if_pos (by decide +kernel)]; kernel_rfl) | (rw [if_neg (by decide +kernel)]; exact ⟨rfl, rfl⟩))
    (fun os started H enc _ => MotionRests_lifted os started H enc)
#print axioms MotionRests_holds
end Go.Proofs.YtfjcfbmfpefabaaGreat
