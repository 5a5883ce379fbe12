/- Contract of chapter 2: CheckRest, for prices that are not valid. The reference's check of a rest with its prices. -/
import Derived.Test.YtfjcfbmfpefabaaGreatK23
namespace Go.Proofs.YtfjcfbmfpefabaaGreat
open Go.RowKit
open Calmly (Kept)


set_option maxRecDepth 100000 in
set_option maxHeartbeats 8000000 in
theorem CheckRest_bad (step : Int) (a : Option Addr) (n c : Nat) (xs : List Int) (D : Int) (b : Option Addr) (m e : Nat) (ps : List Int) (d v u : Int) (w : World) (h1 : SI w a n c xs) (h2 : SI w b m e ps) (hd1 : -9223372036854775808 ≤ d) (hd2 : d ≤ 9223372036854775807) (hv1 : -9223372036854775808 ≤ v) (hv2 : v ≤ 9223372036854775807) (hu1 : -9223372036854775808 ≤ u) (hu2 : u ≤ 9223372036854775807) (hbad : (dnm d && (prt v && prt u)) = false)
    (I E F1 F2 : Int) (hF1 : firstE [(recF step xs).2, unlessE (dnm D) 2, unlessE ((m : Int) == (n : Int)) 10, unlessE (prtB ps m) 2] = F1) (hF2 : firstE [unlessE (((gcds ([D] ++ ps) : Nat) : Int) == 1) 3, 2] = F2)
    (hc1 : F1 ≠ 0 → I = 0 ∧ E = F1) (hc2 : F1 = 0 → I = 0 ∧ E = F2) :
    Calls Tryz.prog 9 #[.agg #[.int .i64 step, .slice a n c], .agg #[.int .i64 D, .slice b m e], .agg #[.int .i64 d, .int .i64 v, .int .i64 u]] w fun r w' => r = .returned (.tuple #[.int .i64 I, .int .i64 E]) ∧ Below w.heap.size w w' := by
  have hA : ∀ (A : World) (o : Obj), Below A.heap.size A (A.alloc o) := fun A o => (Below.refl _ _).alloc (Nat.le_refl _) _
  obtain ⟨l1, l2⟩ : n ≤ xs.length ∧ xs.length ≤ n := by have := h1.len; omega
  obtain ⟨i1, i2⟩ : m ≤ ps.length ∧ ps.length ≤ m := by have := h2.len; omega
  have m1 := h1.max
  have c1 := h1.cap
  have m2 := h2.max
  have c2 := h2.cap
  obtain ⟨rE, hrE⟩ : ∃ x, (recF step xs).2 = x := ⟨_, rfl⟩
  obtain ⟨bD, hbD⟩ : ∃ x, dnm D = x := ⟨_, rfl⟩
  obtain ⟨bN, hbN⟩ : ∃ x, ((m : Int) == (n : Int)) = x := ⟨_, rfl⟩
  obtain ⟨bP, hbP⟩ : ∃ x, prtB ps m = x := ⟨_, rfl⟩
  rw [hrE, hbD, hbN, hbP] at hF1
  have HRE := Lib.hid hrE
  have HBD := Lib.hid hbD
  have HBN := Lib.hid hbN
  have HBP := Lib.hid hbP
  have HF1 := Lib.hid hF1
  have HF2 := Lib.hid hF2
  have HC1 := Lib.hid hc1
  have HC2 := Lib.hid hc2
  clear hrE hbD hbP hF1 hF2 hc1 hc2
  obtain ⟨W, hW⟩ : ∃ W, ((w.alloc (.cells #[.int .i64 step, .slice a n c] 24)).alloc (.cells #[.int .i64 D, .slice b m e] 26)).alloc (.cells #[.int .i64 d, .int .i64 v, .int .i64 u] 28) = W := ⟨_, rfl⟩
  have BW : Below w.heap.size w W := by rw [← hW]; exact (((Below.refl _ _).alloc (Nat.le_refl _) _).alloc (by simp) _).alloc (by simp; omega) _
  have x1 : W.heap[w.heap.size]? = some (.cells #[.int .i64 step, .slice a n c] 24) := by
    rw [← hW]
    exact blk_keep (blk_keep (alloc_new w _) (hA _ _)) (hA _ _)
  have x2 : W.heap[w.heap.size + 1]? = some (.cells #[.int .i64 D, .slice b m e] 26) := by
    rw [← hW]
    have := alloc_new (w.alloc (.cells #[.int .i64 step, .slice a n c] 24)) (.cells #[.int .i64 D, .slice b m e] 26)
    simp only [World.size_alloc] at this
    exact blk_keep this (hA _ _)
  have x3 : W.heap[w.heap.size + 1 + 1]? = some (.cells #[.int .i64 d, .int .i64 v, .int .i64 u] 28) := by
    rw [← hW]
    have := alloc_new ((w.alloc (.cells #[.int .i64 step, .slice a n c] 24)).alloc (.cells #[.int .i64 D, .slice b m e] 26)) (.cells #[.int .i64 d, .int .i64 v, .int .i64 u] 28)
    simpa only [World.size_alloc] using this
  have HW := Lib.hid hW
  clear hW
  go_enter Tryz.func9, Tryz.ntmps9
  go_wp2_with fail
  rw [HW.out]
  refine Calmly.wp_region_mix 21 (.fl 0 <| .fl 2 <| .fl 3 <| .fl 6 <| .fl 7 <| .fl 8 <| .fl 9 <| .fl 10 <| .fl 11 <| .fl 12 <| .fl 14 <| .fl 15 <| .eff 1 <| .eff 4 <| .eff 5 <| .eff 13 <| .eff 16 <| .fl 17 <| .eff 18 <| .eff 19 <| .eff 20 <| .tail [21]) (by kernel_rfl) (by kernel_rfl) ?_
  have hs := (Below.refl W.heap.size W).drew
  replace x1 := blk_keep x1 hs; replace x2 := blk_keep x2 hs; replace x3 := blk_keep x3 hs; replace BW := BW.trans (hs.mono BW.size); clear hs; (try clear f0 f1 g0 g1 k0 k1 k2); have f0 := cell_block x1 0; have f1 := cell_block x1 1; have g0 := cell_block x2 0; have g1 := cell_block x2 1; have k0 := cell_block x3 0; have k1 := cell_block x3 1; have k2 := cell_block x3 2
  generalize W.drew = V at x1 x2 x3 BW f0 f1 g0 g1 k0 k1 k2 ⊢
  have hk := Below.refl V.heap.size V
  go_wp2_with (first | ((with_reducible refine Calmly.is_fl ?_); refine Calmly.mix_fl rfl ?_ (fun _ _ => ?_); (first | exact .move _ | exact .load _ _ | exact .fieldAddr _ _ _ (by kernel_rfl) | exact .assign _ | exact .binOp _ _ _ _ _ rfl | exact .indexAddr _ _ _ | exact .len _ _ (by kernel_rfl) | exact .field _ _ _ | exact .extract _ _ | exact .pick _ _ _ | exact .build _ _ | exact .slice _ _ _ _ _ | exact .unOp _ _ _ rfl | exact .index _ _ _ | exact .max _ _ _ rfl rfl | exact .min _ _ _ rfl rfl)) | ((with_reducible refine Calmly.is_gl ?_); refine Calmly.mix_gl rfl rfl rfl ?_; first | ((first | with_reducible refine Calmly.gl_tt ?_ (fun _ _ => ?_) | with_reducible refine Calmly.gl_ff ?_ (fun _ _ => ?_)); (first | exact .move _ | exact .load _ _ | exact .fieldAddr _ _ _ (by kernel_rfl) | exact .assign _ | exact .binOp _ _ _ _ _ rfl | exact .indexAddr _ _ _ | exact .len _ _ (by kernel_rfl) | exact .field _ _ _ | exact .extract _ _ | exact .pick _ _ _ | exact .build _ _ | exact .slice _ _ _ _ _ | exact .unOp _ _ _ rfl | exact .index _ _ _ | exact .max _ _ _ rfl rfl | exact .min _ _ _ rfl rfl)) | with_reducible refine Calmly.gl_tf (fun _ _ => ?_) | with_reducible refine Calmly.gl_ft (fun _ _ => ?_)) | ((with_reducible refine Calmly.is_eff ?_); refine Calmly.mix_eff rfl (fun _ _ => ?_)) | ((with_reducible refine Calmly.is_gf ?_); refine Calmly.mix_gf rfl rfl rfl ?_; first | with_reducible refine Calmly.gf_tt (fun _ _ => ?_) | with_reducible refine Calmly.gf_ff (fun _ _ => ?_) | with_reducible refine Calmly.gf_tf (kept_of hk) (fun _ _ => ?_) | with_reducible refine Calmly.gf_ft (kept_of hk) (fun _ _ => ?_)) | ((with_reducible refine Calmly.is_kept ?_); refine ⟨kept_of hk, ?_⟩) | (with_reducible refine Calmly.mix_alt ?_ ?_) | (refine kept_alloc hk (fun hk' hblk hge => ?_); replace hk := hk'; clear hk') | (go_at_call 21; refine (recordErr_any step a n c xs _ ((h1.keep BW).keep hk) rE HRE.out).mono ?_; rintro r w1 ⟨rfl, hs⟩; replace hk := step_of hk hs; clear hs) | (go_at_call 28; refine (isDen_any _ _).mono ?_; rintro r w2 ⟨rfl, rfl⟩; rw [HBD.out]) | (go_at_call 27; refine (nUnless_any _ _ _).mono ?_; rintro r w3 ⟨rfl, rfl⟩) | (go_at_call 29; refine (containsPart_any b m e ps _ ((h2.keep BW).keep hk)).mono ?_; rintro r w4 ⟨rfl, rfl⟩; rw [HBP.out]))
  refine (nFirst_any _ 4 4 _ _ (SI.four _ _ _ _ _ _ (by simp))).mono ?_
  rintro r w5 ⟨rfl, rfl⟩
  rw [HF1.out]
  have hs := hk
  replace x1 := blk_keep x1 hs; replace x2 := blk_keep x2 hs; replace x3 := blk_keep x3 hs; replace BW := BW.trans (hs.mono BW.size)
  clear hs f0 f1 g0 g1 k0 k1 k2 hge hblk hbN
  generalize World.alloc _ _ = V2 at hk x1 x2 x3 BW ⊢
  (try clear f0 f1 g0 g1 k0 k1 k2); have f0 := cell_block x1 0; have f1 := cell_block x1 1; have g0 := cell_block x2 0; have g1 := cell_block x2 1; have k0 := cell_block x3 0; have k1 := cell_block x3 1; have k2 := cell_block x3 2
  by_cases hz : F1 = 0
  case neg =>
    obtain ⟨z1, z2⟩ := HC1.out hz
    have b1 : (F1 != 0) = true := by simpa using hz
    subst z1 z2
    clear hz
    go_wp2_with (first | ((with_reducible refine Calmly.is_fl ?_); refine Calmly.mix_fl rfl ?_ (fun _ _ => ?_); (first | exact .move _ | exact .load _ _ | exact .fieldAddr _ _ _ (by kernel_rfl) | exact .assign _ | exact .binOp _ _ _ _ _ rfl | exact .indexAddr _ _ _ | exact .len _ _ (by kernel_rfl) | exact .field _ _ _ | exact .extract _ _ | exact .pick _ _ _ | exact .build _ _ | exact .slice _ _ _ _ _ | exact .unOp _ _ _ rfl | exact .index _ _ _ | exact .max _ _ _ rfl rfl | exact .min _ _ _ rfl rfl)) | ((with_reducible refine Calmly.is_gl ?_); refine Calmly.mix_gl rfl rfl rfl ?_; first | ((first | with_reducible refine Calmly.gl_tt ?_ (fun _ _ => ?_) | with_reducible refine Calmly.gl_ff ?_ (fun _ _ => ?_)); (first | exact .move _ | exact .load _ _ | exact .fieldAddr _ _ _ (by kernel_rfl) | exact .assign _ | exact .binOp _ _ _ _ _ rfl | exact .indexAddr _ _ _ | exact .len _ _ (by kernel_rfl) | exact .field _ _ _ | exact .extract _ _ | exact .pick _ _ _ | exact .build _ _ | exact .slice _ _ _ _ _ | exact .unOp _ _ _ rfl | exact .index _ _ _ | exact .max _ _ _ rfl rfl | exact .min _ _ _ rfl rfl)) | with_reducible refine Calmly.gl_tf (fun _ _ => ?_) | with_reducible refine Calmly.gl_ft (fun _ _ => ?_)) | ((with_reducible refine Calmly.is_eff ?_); refine Calmly.mix_eff rfl (fun _ _ => ?_)) | ((with_reducible refine Calmly.is_gf ?_); refine Calmly.mix_gf rfl rfl rfl ?_; first | with_reducible refine Calmly.gf_tt (fun _ _ => ?_) | with_reducible refine Calmly.gf_ff (fun _ _ => ?_) | with_reducible refine Calmly.gf_tf (kept_of hk) (fun _ _ => ?_) | with_reducible refine Calmly.gf_ft (kept_of hk) (fun _ _ => ?_)) | ((with_reducible refine Calmly.is_tail ?_); first | refine Calmly.mix_tail_nil ?_ | refine Calmly.mix_tail rfl (fun _ _ => ?_)) | ((with_reducible refine Calmly.is_kept ?_); refine ⟨kept_of hk, ?_⟩) | (with_reducible refine Calmly.mix_alt ?_ ?_))
    go_ret2
    exact ⟨rfl, BW⟩
  obtain ⟨z1, z2, z3, z4⟩ := first4 (HF1.out.trans hz)
  have z2' := unlessE_zero z2 (by decide)
  have z3' := unlessE_zero z3 (by decide)
  have z4' := unlessE_zero z4 (by decide)
  subst z1 z2' z3' z4' hz
  obtain rfl : n = m := by have := HBN.out; simp at this; omega
  have hDb : 1 ≤ D ∧ D ≤ 1000000000 := wIn_iff.1 HBD.out
  obtain ⟨hD1, hD2⟩ := hDb
  obtain ⟨r1, r2, r3, r4, r5⟩ := recF_ok HRE.out
  have hn0 : 0 < n := by omega
  have hn : n ≤ 24 := by omega
  have H5 := Lib.hid r5
  have hpb : ∀ j : Nat, -1000000000000 ≤ ps[j]?.getD 0 ∧ ps[j]?.getD 0 ≤ 1000000000000 := by
    intro j
    rcases Nat.lt_or_ge j n with hj | hj
    · exact wIn_iff.1 (prtB_all HBP.out j hj)
    · rw [List.getElem?_eq_none (by omega)]
      simp
  have HPB := Lib.hid hpb
  have hpm : ∀ x ∈ [D] ++ ps, -9223372036854775807 ≤ x ∧ x ≤ 9223372036854775807 := by
    intro x hx
    rcases List.mem_append.1 hx with hx | hx
    · simp at hx; omega
    · obtain ⟨j, hj, rfl⟩ := List.getElem_of_mem hx
      have := hpb j
      rw [List.getElem?_eq_getElem hj] at this
      simp at this
      omega
  have HPM := Lib.hid hpm
  obtain ⟨g1', hg1'⟩ : ∃ x, ((gcds ([D] ++ ps) : Nat) : Int) = x := ⟨_, rfl⟩
  have HG1 := Lib.hid hg1'
  obtain ⟨bG, hbG⟩ : ∃ x, (g1' == 1) = x := ⟨_, rfl⟩
  have HBG := Lib.hid hbG
  have hb17 : 1 + n ≤ 17592186044416 := by omega
  clear z2 z3 z4 r1 r2 r3 r4 r5 hpb hpm hg1'
  go_wp2_with (first | ((with_reducible refine Calmly.is_fl ?_); refine Calmly.mix_fl rfl ?_ (fun _ _ => ?_); (first | exact .move _ | exact .load _ _ | exact .fieldAddr _ _ _ (by kernel_rfl) | exact .assign _ | exact .binOp _ _ _ _ _ rfl | exact .indexAddr _ _ _ | exact .len _ _ (by kernel_rfl) | exact .field _ _ _ | exact .extract _ _ | exact .pick _ _ _ | exact .build _ _ | exact .slice _ _ _ _ _ | exact .unOp _ _ _ rfl | exact .index _ _ _ | exact .max _ _ _ rfl rfl | exact .min _ _ _ rfl rfl)) | ((with_reducible refine Calmly.is_gl ?_); refine Calmly.mix_gl rfl rfl rfl ?_; first | ((first | with_reducible refine Calmly.gl_tt ?_ (fun _ _ => ?_) | with_reducible refine Calmly.gl_ff ?_ (fun _ _ => ?_)); (first | exact .move _ | exact .load _ _ | exact .fieldAddr _ _ _ (by kernel_rfl) | exact .assign _ | exact .binOp _ _ _ _ _ rfl | exact .indexAddr _ _ _ | exact .len _ _ (by kernel_rfl) | exact .field _ _ _ | exact .extract _ _ | exact .pick _ _ _ | exact .build _ _ | exact .slice _ _ _ _ _ | exact .unOp _ _ _ rfl | exact .index _ _ _ | exact .max _ _ _ rfl rfl | exact .min _ _ _ rfl rfl)) | with_reducible refine Calmly.gl_tf (fun _ _ => ?_) | with_reducible refine Calmly.gl_ft (fun _ _ => ?_)) | ((with_reducible refine Calmly.is_eff ?_); refine Calmly.mix_eff rfl (fun _ _ => ?_)) | ((with_reducible refine Calmly.is_gf ?_); refine Calmly.mix_gf rfl rfl rfl ?_; first | with_reducible refine Calmly.gf_tt (fun _ _ => ?_) | with_reducible refine Calmly.gf_ff (fun _ _ => ?_) | with_reducible refine Calmly.gf_tf (kept_of hk) (fun _ _ => ?_) | with_reducible refine Calmly.gf_ft (kept_of hk) (fun _ _ => ?_)) | ((with_reducible refine Calmly.is_tail ?_); first | refine Calmly.mix_tail_nil ?_ | refine Calmly.mix_tail rfl (fun _ _ => ?_)) | ((with_reducible refine Calmly.is_kept ?_); refine ⟨kept_of hk, ?_⟩) | (with_reducible refine Calmly.mix_alt ?_ ?_))
  clear hk
  refine Calmly.wp_region_mix 25 (.fl 0 <| .fl 1 <| .fl 3 <| .fl 4 <| .fl 9 <| .fl 10 <| .eff 2 <| .eff 5 <| .eff 6 <| .fl 7 <| .eff 8 <| .eff 11 <| .fl 12 <| .gl 13 <| .gl 14 <| .gf 15 <| .fl 16 <| .fl 17 <| .gl 18 <| .gl 19 <| .gf 20 <| .fl 21 <| .eff 22 <| .eff 23 <| .eff 24 <| .tail [25]) (by kernel_rfl) (by kernel_rfl) ?_
  have hs := (Below.refl V2.heap.size V2).drew
  replace x1 := blk_keep x1 hs; replace x2 := blk_keep x2 hs; replace x3 := blk_keep x3 hs; replace BW := BW.trans (hs.mono BW.size); clear hs; (try clear f0 f1 g0 g1 k0 k1 k2); have f0 := cell_block x1 0; have f1 := cell_block x1 1; have g0 := cell_block x2 0; have g1 := cell_block x2 1; have k0 := cell_block x3 0; have k1 := cell_block x3 1; have k2 := cell_block x3 2
  generalize V2.drew = V3 at x1 x2 x3 BW f0 f1 g0 g1 k0 k1 k2 ⊢
  have hk := Below.refl V3.heap.size V3
  have hsz := BW.size
  have hcase : dnm d = false ∨ (dnm d = true ∧ prt v = false) ∨ (dnm d = true ∧ prt v = true ∧ prt u = false) := by
    cases h1' : dnm d <;> cases h2' : prt v <;> cases h3' : prt u <;> simp [h1', h2', h3'] at hbad ⊢
  clear hbad
  rcases hcase with hdd | ⟨hdd, hvv⟩ | ⟨hdd, hvv, huu⟩
  all_goals
    as_aux_lemma =>
    go_wp2_with (first | (refine mix_appL 5 (xs := [D]) (ys := ps) rfl (OwI.one V3 (Nat.le_refl _) D) ((h2.keep BW).keep hk) hn0 rfl rfl hb17 (by simp) (fun a6 c6 w6 ho6 hb6 => ?_); replace hk := hk.trans (hb6.mono (Nat.le_refl _)); refine ⟨kept_of hk, ?_⟩) | ((with_reducible refine Calmly.is_fl ?_); refine Calmly.mix_fl rfl ?_ (fun _ _ => ?_); (first | exact .move _ | exact .load _ _ | exact .fieldAddr _ _ _ (by kernel_rfl) | exact .assign _ | exact .binOp _ _ _ _ _ rfl | exact .indexAddr _ _ _ | exact .len _ _ (by kernel_rfl) | exact .field _ _ _ | exact .extract _ _ | exact .pick _ _ _ | exact .build _ _ | exact .slice _ _ _ _ _ | exact .unOp _ _ _ rfl | exact .index _ _ _ | exact .max _ _ _ rfl rfl | exact .min _ _ _ rfl rfl)) | ((with_reducible refine Calmly.is_gl ?_); refine Calmly.mix_gl rfl rfl rfl ?_; first | ((first | with_reducible refine Calmly.gl_tt ?_ (fun _ _ => ?_) | with_reducible refine Calmly.gl_ff ?_ (fun _ _ => ?_)); (first | exact .move _ | exact .load _ _ | exact .fieldAddr _ _ _ (by kernel_rfl) | exact .assign _ | exact .binOp _ _ _ _ _ rfl | exact .indexAddr _ _ _ | exact .len _ _ (by kernel_rfl) | exact .field _ _ _ | exact .extract _ _ | exact .pick _ _ _ | exact .build _ _ | exact .slice _ _ _ _ _ | exact .unOp _ _ _ rfl | exact .index _ _ _ | exact .max _ _ _ rfl rfl | exact .min _ _ _ rfl rfl)) | with_reducible refine Calmly.gl_tf (fun _ _ => ?_) | with_reducible refine Calmly.gl_ft (fun _ _ => ?_)) | ((with_reducible refine Calmly.is_eff ?_); refine Calmly.mix_eff rfl (fun _ _ => ?_)) | ((with_reducible refine Calmly.is_gf ?_); refine Calmly.mix_gf rfl rfl rfl ?_; first | with_reducible refine Calmly.gf_tt (fun _ _ => ?_) | with_reducible refine Calmly.gf_ff (fun _ _ => ?_) | with_reducible refine Calmly.gf_tf (kept_of hk) (fun _ _ => ?_) | with_reducible refine Calmly.gf_ft (kept_of hk) (fun _ _ => ?_)) | ((with_reducible refine Calmly.is_kept ?_); refine ⟨kept_of hk, ?_⟩) | (with_reducible refine Calmly.mix_alt ?_ ?_) | (refine kept_alloc hk (fun hk' hblk hge => ?_); replace hk := hk'; clear hk') | (go_at_call 32; refine (nDivisor_any a6 (1 + n) c6 ([D] ++ ps) _ ho6.si HPM.out).mono ?_; rintro r w7 ⟨rfl, q7, rfl⟩; rw [HG1.out]; replace hk := below_drewN hk q7) | (go_at_call 28; refine (isDen_any _ _).mono ?_; rintro r w8 ⟨rfl, rfl⟩; rw [hdd]) | (go_at_call 31; refine (isPart_any _ _).mono ?_; rintro r w9 ⟨rfl, rfl⟩; first | rw [hvv] | rw [huu]) | (go_at_call 27; refine (nUnless_any _ _ _).mono ?_; rintro r w10 ⟨rfl, rfl⟩))
    refine (nFirst_any _ 2 2 _ _ (SI.two _ _ _ _ (by simp))).mono ?_
    rintro r w11 ⟨rfl, rfl⟩
    have e4 : firstE [unlessE bG 3, unlessE false 2] = F2 := by rw [← HF2.out, HG1.out, HBG.out]; rfl
    rw [e4]
    have hF2n : F2 ≠ 0 := by rw [← e4]; cases bG <;> decide
    have HFN := Lib.hid hF2n
    have hs := hk
    replace x1 := blk_keep x1 hs; replace x2 := blk_keep x2 hs; replace x3 := blk_keep x3 hs; replace BW := BW.trans (hs.mono BW.size)
    clear hs e4 hF2n f0 f1 g0 g1 k0 k1 k2 hge hblk hbG
    generalize World.alloc _ _ = V4 at hk x1 x2 x3 BW ⊢
    (try clear f0 f1 g0 g1 k0 k1 k2); have f0 := cell_block x1 0; have f1 := cell_block x1 1; have g0 := cell_block x2 0; have g1 := cell_block x2 1; have k0 := cell_block x3 0; have k1 := cell_block x3 1; have k2 := cell_block x3 2
    go_wp2_with (first | ((with_reducible refine Calmly.is_fl ?_); refine Calmly.mix_fl rfl ?_ (fun _ _ => ?_); (first | exact .move _ | exact .load _ _ | exact .fieldAddr _ _ _ (by kernel_rfl) | exact .assign _ | exact .binOp _ _ _ _ _ rfl | exact .indexAddr _ _ _ | exact .len _ _ (by kernel_rfl) | exact .field _ _ _ | exact .extract _ _ | exact .pick _ _ _ | exact .build _ _ | exact .slice _ _ _ _ _ | exact .unOp _ _ _ rfl | exact .index _ _ _ | exact .max _ _ _ rfl rfl | exact .min _ _ _ rfl rfl)) | ((with_reducible refine Calmly.is_gl ?_); refine Calmly.mix_gl rfl rfl rfl ?_; first | ((first | with_reducible refine Calmly.gl_tt ?_ (fun _ _ => ?_) | with_reducible refine Calmly.gl_ff ?_ (fun _ _ => ?_)); (first | exact .move _ | exact .load _ _ | exact .fieldAddr _ _ _ (by kernel_rfl) | exact .assign _ | exact .binOp _ _ _ _ _ rfl | exact .indexAddr _ _ _ | exact .len _ _ (by kernel_rfl) | exact .field _ _ _ | exact .extract _ _ | exact .pick _ _ _ | exact .build _ _ | exact .slice _ _ _ _ _ | exact .unOp _ _ _ rfl | exact .index _ _ _ | exact .max _ _ _ rfl rfl | exact .min _ _ _ rfl rfl)) | with_reducible refine Calmly.gl_tf (fun _ _ => ?_) | with_reducible refine Calmly.gl_ft (fun _ _ => ?_)) | ((with_reducible refine Calmly.is_eff ?_); refine Calmly.mix_eff rfl (fun _ _ => ?_)) | ((with_reducible refine Calmly.is_gf ?_); refine Calmly.mix_gf rfl rfl rfl ?_; first | with_reducible refine Calmly.gf_tt (fun _ _ => ?_) | with_reducible refine Calmly.gf_ff (fun _ _ => ?_) | with_reducible refine Calmly.gf_tf (kept_of hk) (fun _ _ => ?_) | with_reducible refine Calmly.gf_ft (kept_of hk) (fun _ _ => ?_)) | ((with_reducible refine Calmly.is_tail ?_); first | refine Calmly.mix_tail_nil ?_ | refine Calmly.mix_tail rfl (fun _ _ => ?_)) | ((with_reducible refine Calmly.is_kept ?_); refine ⟨kept_of hk, ?_⟩) | (with_reducible refine Calmly.mix_alt ?_ ?_))
    clear hk
    refine Calmly.wp_region_mix 13 (.fl 0 <| .fl 1 <| .fl 2 <| .fl 3 <| .fl 4 <| .gl 5 <| .gl 7 <| .gf 6 <| .gf 8 <| .fl 9 <| .eff 10 <| .eff 11 <| .eff 12 <| .tail [13]) (by kernel_rfl) (by kernel_rfl) ?_
    have hs := (Below.refl V4.heap.size V4).drew
    replace x1 := blk_keep x1 hs; replace x2 := blk_keep x2 hs; replace x3 := blk_keep x3 hs; replace BW := BW.trans (hs.mono BW.size); clear hs; (try clear f0 f1 g0 g1 k0 k1 k2); have f0 := cell_block x1 0; have f1 := cell_block x1 1; have g0 := cell_block x2 0; have g1 := cell_block x2 1; have k0 := cell_block x3 0; have k1 := cell_block x3 1; have k2 := cell_block x3 2
    generalize V4.drew = V5 at x1 x2 x3 BW f0 f1 g0 g1 k0 k1 k2 ⊢
    have hk := Below.refl V5.heap.size V5
    have e5 : ∀ y : Int, firstE [F2, y] = F2 := fun y => by rw [firstE, if_neg HFN.out]
    have E5 := Lib.hid e5
    clear e5
    obtain ⟨z1, z2⟩ := HC2.out (by trivial)
    have HZ2 := Lib.hid z2
    subst z1
    clear z2
    by_cases hd0 : d = 0
    · have bd : (d != 0) = false := by simpa using hd0
      clear hd0
      go_wp2_with (first | ((with_reducible refine Calmly.is_fl ?_); refine Calmly.mix_fl rfl ?_ (fun _ _ => ?_); (first | exact .move _ | exact .load _ _ | exact .fieldAddr _ _ _ (by kernel_rfl) | exact .assign _ | exact .binOp _ _ _ _ _ rfl | exact .indexAddr _ _ _ | exact .len _ _ (by kernel_rfl) | exact .field _ _ _ | exact .extract _ _ | exact .pick _ _ _ | exact .build _ _ | exact .slice _ _ _ _ _ | exact .unOp _ _ _ rfl | exact .index _ _ _ | exact .max _ _ _ rfl rfl | exact .min _ _ _ rfl rfl)) | ((with_reducible refine Calmly.is_gl ?_); refine Calmly.mix_gl rfl rfl rfl ?_; first | ((first | with_reducible refine Calmly.gl_tt ?_ (fun _ _ => ?_) | with_reducible refine Calmly.gl_ff ?_ (fun _ _ => ?_)); (first | exact .move _ | exact .load _ _ | exact .fieldAddr _ _ _ (by kernel_rfl) | exact .assign _ | exact .binOp _ _ _ _ _ rfl | exact .indexAddr _ _ _ | exact .len _ _ (by kernel_rfl) | exact .field _ _ _ | exact .extract _ _ | exact .pick _ _ _ | exact .build _ _ | exact .slice _ _ _ _ _ | exact .unOp _ _ _ rfl | exact .index _ _ _ | exact .max _ _ _ rfl rfl | exact .min _ _ _ rfl rfl)) | with_reducible refine Calmly.gl_tf (fun _ _ => ?_) | with_reducible refine Calmly.gl_ft (fun _ _ => ?_)) | ((with_reducible refine Calmly.is_eff ?_); refine Calmly.mix_eff rfl (fun _ _ => ?_)) | ((with_reducible refine Calmly.is_gf ?_); refine Calmly.mix_gf rfl rfl rfl ?_; first | with_reducible refine Calmly.gf_tt (fun _ _ => ?_) | with_reducible refine Calmly.gf_ff (fun _ _ => ?_) | with_reducible refine Calmly.gf_tf (kept_of hk) (fun _ _ => ?_) | with_reducible refine Calmly.gf_ft (kept_of hk) (fun _ _ => ?_)) | ((with_reducible refine Calmly.is_kept ?_); refine ⟨kept_of hk, ?_⟩) | (with_reducible refine Calmly.mix_alt ?_ ?_) | (refine kept_alloc hk (fun hk' hblk hge => ?_); replace hk := hk'; clear hk') | (go_at_call 27; refine (nUnless_any _ _ _).mono ?_; rintro r w13 ⟨rfl, rfl⟩))
      refine (nFirst_any _ 2 2 _ _ (SI.two _ _ _ _ (by simp))).mono ?_
      rintro r w14 ⟨rfl, rfl⟩
      rw [E5.out]
      have hs := hk
      replace x1 := blk_keep x1 hs; replace x2 := blk_keep x2 hs; replace x3 := blk_keep x3 hs; replace BW := BW.trans (hs.mono BW.size)
      have bE : (F2 != 0) = true := by simpa using HFN.out
      clear hs f0 f1 g0 g1 k0 k1 k2 hge hblk
      generalize World.alloc _ _ = V6 at hk x1 x2 x3 BW ⊢
      go_wp2_with (first | ((with_reducible refine Calmly.is_fl ?_); refine Calmly.mix_fl rfl ?_ (fun _ _ => ?_); (first | exact .move _ | exact .load _ _ | exact .fieldAddr _ _ _ (by kernel_rfl) | exact .assign _ | exact .binOp _ _ _ _ _ rfl | exact .indexAddr _ _ _ | exact .len _ _ (by kernel_rfl) | exact .field _ _ _ | exact .extract _ _ | exact .pick _ _ _ | exact .build _ _ | exact .slice _ _ _ _ _ | exact .unOp _ _ _ rfl | exact .index _ _ _ | exact .max _ _ _ rfl rfl | exact .min _ _ _ rfl rfl)) | ((with_reducible refine Calmly.is_gl ?_); refine Calmly.mix_gl rfl rfl rfl ?_; first | ((first | with_reducible refine Calmly.gl_tt ?_ (fun _ _ => ?_) | with_reducible refine Calmly.gl_ff ?_ (fun _ _ => ?_)); (first | exact .move _ | exact .load _ _ | exact .fieldAddr _ _ _ (by kernel_rfl) | exact .assign _ | exact .binOp _ _ _ _ _ rfl | exact .indexAddr _ _ _ | exact .len _ _ (by kernel_rfl) | exact .field _ _ _ | exact .extract _ _ | exact .pick _ _ _ | exact .build _ _ | exact .slice _ _ _ _ _ | exact .unOp _ _ _ rfl | exact .index _ _ _ | exact .max _ _ _ rfl rfl | exact .min _ _ _ rfl rfl)) | with_reducible refine Calmly.gl_tf (fun _ _ => ?_) | with_reducible refine Calmly.gl_ft (fun _ _ => ?_)) | ((with_reducible refine Calmly.is_eff ?_); refine Calmly.mix_eff rfl (fun _ _ => ?_)) | ((with_reducible refine Calmly.is_gf ?_); refine Calmly.mix_gf rfl rfl rfl ?_; first | with_reducible refine Calmly.gf_tt (fun _ _ => ?_) | with_reducible refine Calmly.gf_ff (fun _ _ => ?_) | with_reducible refine Calmly.gf_tf (kept_of hk) (fun _ _ => ?_) | with_reducible refine Calmly.gf_ft (kept_of hk) (fun _ _ => ?_)) | ((with_reducible refine Calmly.is_tail ?_); first | refine Calmly.mix_tail_nil ?_ | refine Calmly.mix_tail rfl (fun _ _ => ?_)) | ((with_reducible refine Calmly.is_kept ?_); refine ⟨kept_of hk, ?_⟩) | (with_reducible refine Calmly.mix_alt ?_ ?_))
      go_ret2
      exact ⟨by rw [HZ2.out]; rfl, BW⟩
    · have bd : (d != 0) = true := by simpa using hd0
      go_wp2_with (first | ((with_reducible refine Calmly.is_fl ?_); refine Calmly.mix_fl rfl ?_ (fun _ _ => ?_); (first | exact .move _ | exact .load _ _ | exact .fieldAddr _ _ _ (by kernel_rfl) | exact .assign _ | exact .binOp _ _ _ _ _ rfl | exact .indexAddr _ _ _ | exact .len _ _ (by kernel_rfl) | exact .field _ _ _ | exact .extract _ _ | exact .pick _ _ _ | exact .build _ _ | exact .slice _ _ _ _ _ | exact .unOp _ _ _ rfl | exact .index _ _ _ | exact .max _ _ _ rfl rfl | exact .min _ _ _ rfl rfl)) | ((with_reducible refine Calmly.is_gl ?_); refine Calmly.mix_gl rfl rfl rfl ?_; first | ((first | with_reducible refine Calmly.gl_tt ?_ (fun _ _ => ?_) | with_reducible refine Calmly.gl_ff ?_ (fun _ _ => ?_)); (first | exact .move _ | exact .load _ _ | exact .fieldAddr _ _ _ (by kernel_rfl) | exact .assign _ | exact .binOp _ _ _ _ _ rfl | exact .indexAddr _ _ _ | exact .len _ _ (by kernel_rfl) | exact .field _ _ _ | exact .extract _ _ | exact .pick _ _ _ | exact .build _ _ | exact .slice _ _ _ _ _ | exact .unOp _ _ _ rfl | exact .index _ _ _ | exact .max _ _ _ rfl rfl | exact .min _ _ _ rfl rfl)) | with_reducible refine Calmly.gl_tf (fun _ _ => ?_) | with_reducible refine Calmly.gl_ft (fun _ _ => ?_)) | ((with_reducible refine Calmly.is_eff ?_); refine Calmly.mix_eff rfl (fun _ _ => ?_)) | ((with_reducible refine Calmly.is_gf ?_); refine Calmly.mix_gf rfl rfl rfl ?_; first | with_reducible refine Calmly.gf_tt (fun _ _ => ?_) | with_reducible refine Calmly.gf_ff (fun _ _ => ?_) | with_reducible refine Calmly.gf_tf (kept_of hk) (fun _ _ => ?_) | with_reducible refine Calmly.gf_ft (kept_of hk) (fun _ _ => ?_)) | ((with_reducible refine Calmly.is_kept ?_); refine ⟨kept_of hk, ?_⟩) | (with_reducible refine Calmly.mix_alt ?_ ?_) | (refine kept_alloc hk (fun hk' hblk hge => ?_); replace hk := hk'; clear hk') | (go_at_call 33; refine (lowestP_wild d v u _ hd0 hd1 hd2 hv1 hv2 hu1 hu2).mono ?_; rintro r w12 ⟨⟨D', V', U', rfl⟩, hs⟩; replace hk := step_of hk hs; clear hs) | (go_at_call 27; refine (nUnless_any _ _ _).mono ?_; rintro r w13 ⟨rfl, rfl⟩))
      all_goals
        refine (nFirst_any _ 2 2 _ _ (SI.two _ _ _ _ (by simp))).mono ?_
        rintro r w14 ⟨rfl, rfl⟩
        rw [E5.out]
        have hs := hk
        replace x1 := blk_keep x1 hs; replace x2 := blk_keep x2 hs; replace x3 := blk_keep x3 hs; replace BW := BW.trans (hs.mono BW.size)
        have bE : (F2 != 0) = true := by simpa using HFN.out
        clear hs f0 f1 g0 g1 k0 k1 k2 hge hblk
        generalize World.alloc _ _ = V6 at hk x1 x2 x3 BW ⊢
        go_wp2_with (first | ((with_reducible refine Calmly.is_fl ?_); refine Calmly.mix_fl rfl ?_ (fun _ _ => ?_); (first | exact .move _ | exact .load _ _ | exact .fieldAddr _ _ _ (by kernel_rfl) | exact .assign _ | exact .binOp _ _ _ _ _ rfl | exact .indexAddr _ _ _ | exact .len _ _ (by kernel_rfl) | exact .field _ _ _ | exact .extract _ _ | exact .pick _ _ _ | exact .build _ _ | exact .slice _ _ _ _ _ | exact .unOp _ _ _ rfl | exact .index _ _ _ | exact .max _ _ _ rfl rfl | exact .min _ _ _ rfl rfl)) | ((with_reducible refine Calmly.is_gl ?_); refine Calmly.mix_gl rfl rfl rfl ?_; first | ((first | with_reducible refine Calmly.gl_tt ?_ (fun _ _ => ?_) | with_reducible refine Calmly.gl_ff ?_ (fun _ _ => ?_)); (first | exact .move _ | exact .load _ _ | exact .fieldAddr _ _ _ (by kernel_rfl) | exact .assign _ | exact .binOp _ _ _ _ _ rfl | exact .indexAddr _ _ _ | exact .len _ _ (by kernel_rfl) | exact .field _ _ _ | exact .extract _ _ | exact .pick _ _ _ | exact .build _ _ | exact .slice _ _ _ _ _ | exact .unOp _ _ _ rfl | exact .index _ _ _ | exact .max _ _ _ rfl rfl | exact .min _ _ _ rfl rfl)) | with_reducible refine Calmly.gl_tf (fun _ _ => ?_) | with_reducible refine Calmly.gl_ft (fun _ _ => ?_)) | ((with_reducible refine Calmly.is_eff ?_); refine Calmly.mix_eff rfl (fun _ _ => ?_)) | ((with_reducible refine Calmly.is_gf ?_); refine Calmly.mix_gf rfl rfl rfl ?_; first | with_reducible refine Calmly.gf_tt (fun _ _ => ?_) | with_reducible refine Calmly.gf_ff (fun _ _ => ?_) | with_reducible refine Calmly.gf_tf (kept_of hk) (fun _ _ => ?_) | with_reducible refine Calmly.gf_ft (kept_of hk) (fun _ _ => ?_)) | ((with_reducible refine Calmly.is_tail ?_); first | refine Calmly.mix_tail_nil ?_ | refine Calmly.mix_tail rfl (fun _ _ => ?_)) | ((with_reducible refine Calmly.is_kept ?_); refine ⟨kept_of hk, ?_⟩) | (with_reducible refine Calmly.mix_alt ?_ ?_))
        go_ret2
        exact ⟨by rw [HZ2.out]; rfl, BW⟩
end Go.Proofs.YtfjcfbmfpefabaaGreat

namespace Go.Proofs.YtfjcfbmfpefabaaGreat
open Go.RowKit Go.Wides
open Calmly (Kept)

theorem rIsPart_any (x : Int) (w : World) : Calls Tryz.prog 43 #[.int .i64 x] w fun e w' => e = .returned (.bool (prt x)) ∧ w = w' := by
  go_enter Tryz.func43, Tryz.ntmps43
  go_wp2_with (first | (go_at_call 42; refine (within_any _ _ _ _).mono ?_; rintro e w5 ⟨rfl, rfl⟩))
  go_ret
  exact ⟨rfl, rfl⟩

theorem gcds_snoc (l : List Int) (x : Int) : gcds (l ++ [x]) = Int.gcd (gcds l) x := by
  unfold gcds
  rw [List.foldl_append]
  rfl
set_option maxRecDepth 100000 in
set_option maxHeartbeats 1000000 in
theorem rGcdOf_any (D : Int) (a : Option Addr) (n c : Nat) (xs : List Int) (w : World) (h1 : SI w a n c xs) (hn : n ≤ 1000000) (hD1 : 1 ≤ D) (hD2 : D ≤ 9223372036854775807) (hb : ∀ j : Nat, -9223372036854775807 ≤ xs[j]?.getD 0 ∧ xs[j]?.getD 0 ≤ 9223372036854775807) (G : Int) (hG : ((gcds ([D] ++ xs) : Nat) : Int) = G) :
    Calls Tryz.prog 44 #[.int .i64 D, .slice a n c] w fun e w' => e = .returned (.int .i64 G) ∧ Below w.heap.size w w' := by
  obtain ⟨l1, l2⟩ : n ≤ xs.length ∧ xs.length ≤ n := by have := h1.len; omega
  have HB := Lib.hid hb
  have HG := Lib.hid hG
  clear hb hG
  go_enter Tryz.func44, Tryz.ntmps44
  go_wp2_with fail
  refine (size_any D w (by omega) hD2).mono ?_
  rintro e w1 ⟨rfl, rfl⟩
  go_wp2_with fail
  have hz : ((gcds ([D] ++ xs.take 0) : Nat) : Int) = (D.natAbs : Int) := by
    show ((Int.gcd 0 D : Nat) : Int) = _
    rw [Int.gcd_zero_left]
  have hbd : ∀ k : Nat, 0 ≤ ((gcds ([D] ++ xs.take k) : Nat) : Int) ∧ ((gcds ([D] ++ xs.take k) : Nat) : Int) ≤ 9223372036854775807 := by
    intro k
    have := gcds_dvd_mem (l := [D] ++ xs.take k) (p := D) (by simp)
    have := Int.le_of_dvd (by omega) this
    omega
  have HBD := Lib.hid hbd
  have HZ := Lib.hid hz
  clear hz hbd
  rename World => w0
  have hb0 := Below.refl w0.heap.size w0
  go_loopw [6, 5] (fun z g wr => ∃ k : Nat, z = .int .i64 (k : Int) ∧ g = .int .i64 ((gcds ([D] ++ xs.take k) : Nat) : Int) ∧ k ≤ n ∧ Below w0.heap.size w0 wr) (fun z _ _ => n - (intOf z).toNat)
  case atStart => exact ⟨0, rfl, by rw [HZ.out], by omega, hb0⟩
  case round =>
    obtain ⟨k, rfl, rfl, hk0, hbr⟩ := hrel
    clear hb0
    have hg := HBD.out k
    by_cases hlt : k < n
    · have hk1 : (k : Int) < (n : Int) := by omega
      have hk2 : (0 : Int) ≤ (k : Int) := by omega
      obtain ⟨ba, oa, rfl, hca⟩ := (h1.keep hbr).at_ (by omega)
      have ea := hca k hlt
      have hxb := HB.out k
      have hkl : k < xs.length := by omega
      have hsn : ((gcds ([D] ++ xs.take (k + 1)) : Nat) : Int) = ((Int.gcd ((gcds ([D] ++ xs.take k) : Nat) : Int) (xs[k]?.getD 0) : Nat) : Int) := by
        rw [List.take_succ_eq_append_getElem hkl, ← List.append_assoc, gcds_snoc, List.getElem?_eq_getElem hkl]
        rfl
      have HSN := Lib.hid hsn
      obtain ⟨x, hx⟩ : ∃ v, xs[k]?.getD 0 = v := ⟨_, rfl⟩
      rw [hx] at ea hxb HSN
      obtain ⟨g, hgg⟩ : ∃ v, ((gcds ([D] ++ xs.take k) : Nat) : Int) = v := ⟨_, rfl⟩
      rw [hgg] at hg HSN ⊢
      clear hca hx hsn hkl hgg
      go_wp2_with fail
      refine (gcd_any g x _ (by omega) hg.2 hxb.1 hxb.2).mono ?_
      rintro e w5 ⟨rfl, m, rfl⟩
      go_wp2_with fail
      go_roundw
      case rel => exact ⟨k + 1, by go_num, by rw [HSN.out], by omega, below_drewN hbr _⟩
      case measure => simp [intOf]; omega
    · obtain rfl : k = n := by omega
      have htk : xs.take k = xs := List.take_of_length_le (by omega)
      rw [htk, HG.out]
      go_wp2_with fail
      go_ret
      exact ⟨rfl, hbr⟩
end Go.Proofs.YtfjcfbmfpefabaaGreat
