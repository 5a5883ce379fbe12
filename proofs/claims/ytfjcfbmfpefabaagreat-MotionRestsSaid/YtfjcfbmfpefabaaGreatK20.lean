/- Contract of chapter 2: CheckRest, for valid prices. -/
import Derived.Test.YtfjcfbmfpefabaaGreatK19
namespace Go.Proofs.YtfjcfbmfpefabaaGreat
open Go.RowKit
open Calmly (Kept)


theorem first4 {a b c d : Int} (h : firstE [a, b, c, d] = 0) : a = 0 ∧ b = 0 ∧ c = 0 ∧ d = 0 := by
  have := firstE_all h
  exact ⟨this a (by simp), this b (by simp), this c (by simp), this d (by simp)⟩

set_option maxRecDepth 100000 in
set_option maxHeartbeats 8000000 in
theorem CheckRest_any (step : Int) (a : Option Addr) (n c : Nat) (xs : List Int) (D : Int) (b : Option Addr) (m e : Nat) (ps : List Int) (d v u : Int) (w : World) (h1 : SI w a n c xs) (h2 : SI w b m e ps) (hd1 : 1 ≤ d) (hd2 : d ≤ 1000000000) (hv1 : -1000000000000 ≤ v) (hv2 : v ≤ 1000000000000) (hu1 : -1000000000000 ≤ u) (hu2 : u ≤ 1000000000000)
    (I E F1 F2 : Int) (hF1 : firstE [(recF step xs).2, unlessE (dnm D) 2, unlessE ((m : Int) == (n : Int)) 10, unlessE (prtB ps m) 2] = F1) (hF2 : firstE [unlessE (((gcds ([D] ++ ps) : Nat) : Int) == 1) 3, unlessE (decide (gcds [d, v, u] = 1)) 3] = F2)
    (hc1 : F1 ≠ 0 → I = 0 ∧ E = F1) (hc2 : F1 = 0 → F2 ≠ 0 → I = 0 ∧ E = F2) (hc3 : F1 = 0 → F2 = 0 → sumT ps n ≠ 0 → I = 0 ∧ E = 21) (hc4 : F1 = 0 → F2 = 0 → sumT ps n = 0 → sumT (sumsF ps) n ≠ 0 → I = 1 ∧ E = 21)
    (hc5 : F1 = 0 → F2 = 0 → sumT ps n = 0 → sumT (sumsF ps) n = 0 → (I, E) = ckOut (fBad (ckBad xs ps D d v u n) 0 n)) :
    Calls Tryz.prog 9 #[.agg #[.int .i64 step, .slice a n c], .agg #[.int .i64 D, .slice b m e], .agg #[.int .i64 d, .int .i64 v, .int .i64 u]] w fun r w' => r = .returned (.tuple #[.int .i64 I, .int .i64 E]) ∧ Below w.heap.size w w' := by
  have hA : ∀ (A : World) (o : Obj), Below A.heap.size A (A.alloc o) := fun A o => (Below.refl _ _).alloc (Nat.le_refl _) _
  obtain ⟨l1, l2⟩ : n ≤ xs.length ∧ xs.length ≤ n := by have := h1.len; omega
  obtain ⟨i1, i2⟩ : m ≤ ps.length ∧ ps.length ≤ m := by have := h2.len; omega
  have m1 := h1.max
  have c1 := h1.cap
  have m2 := h2.max
  have c2 := h2.cap
  obtain ⟨rE, hrE⟩ : ∃ x, (recF step xs).2 = x := ⟨_, rfl⟩
  obtain ⟨bD, hbD⟩ : ∃ x, dnm D = x := ⟨_, rfl⟩
  obtain ⟨bN, hbN⟩ : ∃ x, ((m : Int) == (n : Int)) = x := ⟨_, rfl⟩
  obtain ⟨bP, hbP⟩ : ∃ x, prtB ps m = x := ⟨_, rfl⟩
  rw [hrE, hbD, hbN, hbP] at hF1
  have HRE := Lib.hid hrE
  have HBD := Lib.hid hbD
  have HBN := Lib.hid hbN
  have HBP := Lib.hid hbP
  have HF1 := Lib.hid hF1
  have HF2 := Lib.hid hF2
  have HC1 := Lib.hid hc1
  have HC2 := Lib.hid hc2
  have HC3 := Lib.hid hc3
  have HC4 := Lib.hid hc4
  have HC5 := Lib.hid hc5
  clear hrE hbD hbP hF1 hF2 hc1 hc2 hc3 hc4 hc5
  obtain ⟨W, hW⟩ : ∃ W, ((w.alloc (.cells #[.int .i64 step, .slice a n c] 24)).alloc (.cells #[.int .i64 D, .slice b m e] 26)).alloc (.cells #[.int .i64 d, .int .i64 v, .int .i64 u] 28) = W := ⟨_, rfl⟩
  have BW : Below w.heap.size w W := by rw [← hW]; exact (((Below.refl _ _).alloc (Nat.le_refl _) _).alloc (by simp) _).alloc (by simp; omega) _
  have x1 : W.heap[w.heap.size]? = some (.cells #[.int .i64 step, .slice a n c] 24) := by
    rw [← hW]
    exact blk_keep (blk_keep (alloc_new w _) (hA _ _)) (hA _ _)
  have x2 : W.heap[w.heap.size + 1]? = some (.cells #[.int .i64 D, .slice b m e] 26) := by
    rw [← hW]
    have := alloc_new (w.alloc (.cells #[.int .i64 step, .slice a n c] 24)) (.cells #[.int .i64 D, .slice b m e] 26)
    simp only [World.size_alloc] at this
    exact blk_keep this (hA _ _)
  have x3 : W.heap[w.heap.size + 1 + 1]? = some (.cells #[.int .i64 d, .int .i64 v, .int .i64 u] 28) := by
    rw [← hW]
    have := alloc_new ((w.alloc (.cells #[.int .i64 step, .slice a n c] 24)).alloc (.cells #[.int .i64 D, .slice b m e] 26)) (.cells #[.int .i64 d, .int .i64 v, .int .i64 u] 28)
    simpa only [World.size_alloc] using this
  have HW := Lib.hid hW
  clear hW
  go_enter Tryz.func9, Tryz.ntmps9
  go_wp2_with fail
  rw [HW.out]
  refine Calmly.wp_region_mix 21 (.fl 0 <| .fl 2 <| .fl 3 <| .fl 6 <| .fl 7 <| .fl 8 <| .fl 9 <| .fl 10 <| .fl 11 <| .fl 12 <| .fl 14 <| .fl 15 <| .eff 1 <| .eff 4 <| .eff 5 <| .eff 13 <| .eff 16 <| .fl 17 <| .eff 18 <| .eff 19 <| .eff 20 <| .tail [21]) (by kernel_rfl) (by kernel_rfl) ?_
  have hs := (Below.refl W.heap.size W).drew
  replace x1 := blk_keep x1 hs; replace x2 := blk_keep x2 hs; replace x3 := blk_keep x3 hs; replace BW := BW.trans (hs.mono BW.size); clear hs; (try clear f0 f1 g0 g1 k0 k1 k2); have f0 := cell_block x1 0; have f1 := cell_block x1 1; have g0 := cell_block x2 0; have g1 := cell_block x2 1; have k0 := cell_block x3 0; have k1 := cell_block x3 1; have k2 := cell_block x3 2
  generalize W.drew = V at x1 x2 x3 BW f0 f1 g0 g1 k0 k1 k2 ⊢
  have hk := Below.refl V.heap.size V
  go_wp2_with (first | ((with_reducible refine Calmly.is_fl ?_); refine Calmly.mix_fl rfl ?_ (fun _ _ => ?_); (first | exact .move _ | exact .load _ _ | exact .fieldAddr _ _ _ (by kernel_rfl) | exact .assign _ | exact .binOp _ _ _ _ _ rfl | exact .indexAddr _ _ _ | exact .len _ _ (by kernel_rfl) | exact .field _ _ _ | exact .extract _ _ | exact .pick _ _ _ | exact .build _ _ | exact .slice _ _ _ _ _ | exact .unOp _ _ _ rfl | exact .index _ _ _ | exact .max _ _ _ rfl rfl | exact .min _ _ _ rfl rfl)) | ((with_reducible refine Calmly.is_gl ?_); refine Calmly.mix_gl rfl rfl rfl ?_; first | ((first | with_reducible refine Calmly.gl_tt ?_ (fun _ _ => ?_) | with_reducible refine Calmly.gl_ff ?_ (fun _ _ => ?_)); (first | exact .move _ | exact .load _ _ | exact .fieldAddr _ _ _ (by kernel_rfl) | exact .assign _ | exact .binOp _ _ _ _ _ rfl | exact .indexAddr _ _ _ | exact .len _ _ (by kernel_rfl) | exact .field _ _ _ | exact .extract _ _ | exact .pick _ _ _ | exact .build _ _ | exact .slice _ _ _ _ _ | exact .unOp _ _ _ rfl | exact .index _ _ _ | exact .max _ _ _ rfl rfl | exact .min _ _ _ rfl rfl)) | with_reducible refine Calmly.gl_tf (fun _ _ => ?_) | with_reducible refine Calmly.gl_ft (fun _ _ => ?_)) | ((with_reducible refine Calmly.is_eff ?_); refine Calmly.mix_eff rfl (fun _ _ => ?_)) | ((with_reducible refine Calmly.is_gf ?_); refine Calmly.mix_gf rfl rfl rfl ?_; first | with_reducible refine Calmly.gf_tt (fun _ _ => ?_) | with_reducible refine Calmly.gf_ff (fun _ _ => ?_) | with_reducible refine Calmly.gf_tf (kept_of hk) (fun _ _ => ?_) | with_reducible refine Calmly.gf_ft (kept_of hk) (fun _ _ => ?_)) | ((with_reducible refine Calmly.is_kept ?_); refine ⟨kept_of hk, ?_⟩) | (with_reducible refine Calmly.mix_alt ?_ ?_) | (refine kept_alloc hk (fun hk' hblk hge => ?_); replace hk := hk'; clear hk') | (go_at_call 21; refine (recordErr_any step a n c xs _ ((h1.keep BW).keep hk) rE HRE.out).mono ?_; rintro r w1 ⟨rfl, hs⟩; replace hk := step_of hk hs; clear hs) | (go_at_call 28; refine (isDen_any _ _).mono ?_; rintro r w2 ⟨rfl, rfl⟩; rw [HBD.out]) | (go_at_call 27; refine (nUnless_any _ _ _).mono ?_; rintro r w3 ⟨rfl, rfl⟩) | (go_at_call 29; refine (containsPart_any b m e ps _ ((h2.keep BW).keep hk)).mono ?_; rintro r w4 ⟨rfl, rfl⟩; rw [HBP.out]))
  refine (nFirst_any _ 4 4 _ _ (SI.four _ _ _ _ _ _ (by simp))).mono ?_
  rintro r w5 ⟨rfl, rfl⟩
  rw [HF1.out]
  have hs := hk
  replace x1 := blk_keep x1 hs; replace x2 := blk_keep x2 hs; replace x3 := blk_keep x3 hs; replace BW := BW.trans (hs.mono BW.size)
  clear hs f0 f1 g0 g1 k0 k1 k2 hge hblk hbN
  generalize World.alloc _ _ = V2 at hk x1 x2 x3 BW ⊢
  (try clear f0 f1 g0 g1 k0 k1 k2); have f0 := cell_block x1 0; have f1 := cell_block x1 1; have g0 := cell_block x2 0; have g1 := cell_block x2 1; have k0 := cell_block x3 0; have k1 := cell_block x3 1; have k2 := cell_block x3 2
  by_cases hz : F1 = 0
  case neg =>
    obtain ⟨z1, z2⟩ := HC1.out hz
    have b1 : (F1 != 0) = true := by simpa using hz
    subst z1 z2
    clear hz
    go_wp2_with (first | ((with_reducible refine Calmly.is_fl ?_); refine Calmly.mix_fl rfl ?_ (fun _ _ => ?_); (first | exact .move _ | exact .load _ _ | exact .fieldAddr _ _ _ (by kernel_rfl) | exact .assign _ | exact .binOp _ _ _ _ _ rfl | exact .indexAddr _ _ _ | exact .len _ _ (by kernel_rfl) | exact .field _ _ _ | exact .extract _ _ | exact .pick _ _ _ | exact .build _ _ | exact .slice _ _ _ _ _ | exact .unOp _ _ _ rfl | exact .index _ _ _ | exact .max _ _ _ rfl rfl | exact .min _ _ _ rfl rfl)) | ((with_reducible refine Calmly.is_gl ?_); refine Calmly.mix_gl rfl rfl rfl ?_; first | ((first | with_reducible refine Calmly.gl_tt ?_ (fun _ _ => ?_) | with_reducible refine Calmly.gl_ff ?_ (fun _ _ => ?_)); (first | exact .move _ | exact .load _ _ | exact .fieldAddr _ _ _ (by kernel_rfl) | exact .assign _ | exact .binOp _ _ _ _ _ rfl | exact .indexAddr _ _ _ | exact .len _ _ (by kernel_rfl) | exact .field _ _ _ | exact .extract _ _ | exact .pick _ _ _ | exact .build _ _ | exact .slice _ _ _ _ _ | exact .unOp _ _ _ rfl | exact .index _ _ _ | exact .max _ _ _ rfl rfl | exact .min _ _ _ rfl rfl)) | with_reducible refine Calmly.gl_tf (fun _ _ => ?_) | with_reducible refine Calmly.gl_ft (fun _ _ => ?_)) | ((with_reducible refine Calmly.is_eff ?_); refine Calmly.mix_eff rfl (fun _ _ => ?_)) | ((with_reducible refine Calmly.is_gf ?_); refine Calmly.mix_gf rfl rfl rfl ?_; first | with_reducible refine Calmly.gf_tt (fun _ _ => ?_) | with_reducible refine Calmly.gf_ff (fun _ _ => ?_) | with_reducible refine Calmly.gf_tf (kept_of hk) (fun _ _ => ?_) | with_reducible refine Calmly.gf_ft (kept_of hk) (fun _ _ => ?_)) | ((with_reducible refine Calmly.is_tail ?_); first | refine Calmly.mix_tail_nil ?_ | refine Calmly.mix_tail rfl (fun _ _ => ?_)) | ((with_reducible refine Calmly.is_kept ?_); refine ⟨kept_of hk, ?_⟩) | (with_reducible refine Calmly.mix_alt ?_ ?_))
    go_ret2
    exact ⟨rfl, BW⟩
  obtain ⟨z1, z2, z3, z4⟩ := first4 (HF1.out.trans hz)
  have z2' := unlessE_zero z2 (by decide)
  have z3' := unlessE_zero z3 (by decide)
  have z4' := unlessE_zero z4 (by decide)
  subst z1 z2' z3' z4' hz
  obtain rfl : n = m := by have := HBN.out; simp at this; omega
  have hDb : 1 ≤ D ∧ D ≤ 1000000000 := wIn_iff.1 HBD.out
  obtain ⟨hD1, hD2⟩ := hDb
  obtain ⟨r1, r2, r3, r4, r5⟩ := recF_ok HRE.out
  have hn0 : 0 < n := by omega
  have hn : n ≤ 24 := by omega
  have H5 := Lib.hid r5
  have hpb : ∀ j : Nat, -1000000000000 ≤ ps[j]?.getD 0 ∧ ps[j]?.getD 0 ≤ 1000000000000 := by
    intro j
    rcases Nat.lt_or_ge j n with hj | hj
    · exact wIn_iff.1 (prtB_all HBP.out j hj)
    · rw [List.getElem?_eq_none (by omega)]
      simp
  have HPB := Lib.hid hpb
  have hpm : ∀ x ∈ [D] ++ ps, -9223372036854775807 ≤ x ∧ x ≤ 9223372036854775807 := by
    intro x hx
    rcases List.mem_append.1 hx with hx | hx
    · simp at hx; omega
    · obtain ⟨j, hj, rfl⟩ := List.getElem_of_mem hx
      have := hpb j
      rw [List.getElem?_eq_getElem hj] at this
      simp at this
      omega
  have HPM := Lib.hid hpm
  obtain ⟨g1', hg1'⟩ : ∃ x, ((gcds ([D] ++ ps) : Nat) : Int) = x := ⟨_, rfl⟩
  have HG1 := Lib.hid hg1'
  obtain ⟨bG, hbG⟩ : ∃ x, (g1' == 1) = x := ⟨_, rfl⟩
  have HBG := Lib.hid hbG
  have hdd : dnm d = true := wIn_iff.2 ⟨hd1, hd2⟩
  have hvv : prt v = true := wIn_iff.2 ⟨hv1, hv2⟩
  have huu : prt u = true := wIn_iff.2 ⟨hu1, hu2⟩
  have hb17 : 1 + n ≤ 17592186044416 := by omega
  clear z2 z3 z4 r1 r2 r3 r4 r5 hpb hpm hg1'
  go_wp2_with (first | ((with_reducible refine Calmly.is_fl ?_); refine Calmly.mix_fl rfl ?_ (fun _ _ => ?_); (first | exact .move _ | exact .load _ _ | exact .fieldAddr _ _ _ (by kernel_rfl) | exact .assign _ | exact .binOp _ _ _ _ _ rfl | exact .indexAddr _ _ _ | exact .len _ _ (by kernel_rfl) | exact .field _ _ _ | exact .extract _ _ | exact .pick _ _ _ | exact .build _ _ | exact .slice _ _ _ _ _ | exact .unOp _ _ _ rfl | exact .index _ _ _ | exact .max _ _ _ rfl rfl | exact .min _ _ _ rfl rfl)) | ((with_reducible refine Calmly.is_gl ?_); refine Calmly.mix_gl rfl rfl rfl ?_; first | ((first | with_reducible refine Calmly.gl_tt ?_ (fun _ _ => ?_) | with_reducible refine Calmly.gl_ff ?_ (fun _ _ => ?_)); (first | exact .move _ | exact .load _ _ | exact .fieldAddr _ _ _ (by kernel_rfl) | exact .assign _ | exact .binOp _ _ _ _ _ rfl | exact .indexAddr _ _ _ | exact .len _ _ (by kernel_rfl) | exact .field _ _ _ | exact .extract _ _ | exact .pick _ _ _ | exact .build _ _ | exact .slice _ _ _ _ _ | exact .unOp _ _ _ rfl | exact .index _ _ _ | exact .max _ _ _ rfl rfl | exact .min _ _ _ rfl rfl)) | with_reducible refine Calmly.gl_tf (fun _ _ => ?_) | with_reducible refine Calmly.gl_ft (fun _ _ => ?_)) | ((with_reducible refine Calmly.is_eff ?_); refine Calmly.mix_eff rfl (fun _ _ => ?_)) | ((with_reducible refine Calmly.is_gf ?_); refine Calmly.mix_gf rfl rfl rfl ?_; first | with_reducible refine Calmly.gf_tt (fun _ _ => ?_) | with_reducible refine Calmly.gf_ff (fun _ _ => ?_) | with_reducible refine Calmly.gf_tf (kept_of hk) (fun _ _ => ?_) | with_reducible refine Calmly.gf_ft (kept_of hk) (fun _ _ => ?_)) | ((with_reducible refine Calmly.is_tail ?_); first | refine Calmly.mix_tail_nil ?_ | refine Calmly.mix_tail rfl (fun _ _ => ?_)) | ((with_reducible refine Calmly.is_kept ?_); refine ⟨kept_of hk, ?_⟩) | (with_reducible refine Calmly.mix_alt ?_ ?_))
  clear hk
  refine Calmly.wp_region_mix 25 (.fl 0 <| .fl 1 <| .fl 3 <| .fl 4 <| .fl 9 <| .fl 10 <| .eff 2 <| .eff 5 <| .eff 6 <| .fl 7 <| .eff 8 <| .eff 11 <| .fl 12 <| .gl 13 <| .gl 14 <| .gf 15 <| .fl 16 <| .fl 17 <| .gl 18 <| .gl 19 <| .gf 20 <| .fl 21 <| .eff 22 <| .eff 23 <| .eff 24 <| .tail [25]) (by kernel_rfl) (by kernel_rfl) ?_
  have hs := (Below.refl V2.heap.size V2).drew
  replace x1 := blk_keep x1 hs; replace x2 := blk_keep x2 hs; replace x3 := blk_keep x3 hs; replace BW := BW.trans (hs.mono BW.size); clear hs; (try clear f0 f1 g0 g1 k0 k1 k2); have f0 := cell_block x1 0; have f1 := cell_block x1 1; have g0 := cell_block x2 0; have g1 := cell_block x2 1; have k0 := cell_block x3 0; have k1 := cell_block x3 1; have k2 := cell_block x3 2
  generalize V2.drew = V3 at x1 x2 x3 BW f0 f1 g0 g1 k0 k1 k2 ⊢
  have hk := Below.refl V3.heap.size V3
  have hsz := BW.size
  go_wp2_with (first | (refine mix_appL 5 (xs := [D]) (ys := ps) rfl (OwI.one V3 (Nat.le_refl _) D) ((h2.keep BW).keep hk) hn0 rfl rfl hb17 (by simp) (fun a6 c6 w6 ho6 hb6 => ?_); replace hk := hk.trans (hb6.mono (Nat.le_refl _)); refine ⟨kept_of hk, ?_⟩) | ((with_reducible refine Calmly.is_fl ?_); refine Calmly.mix_fl rfl ?_ (fun _ _ => ?_); (first | exact .move _ | exact .load _ _ | exact .fieldAddr _ _ _ (by kernel_rfl) | exact .assign _ | exact .binOp _ _ _ _ _ rfl | exact .indexAddr _ _ _ | exact .len _ _ (by kernel_rfl) | exact .field _ _ _ | exact .extract _ _ | exact .pick _ _ _ | exact .build _ _ | exact .slice _ _ _ _ _ | exact .unOp _ _ _ rfl | exact .index _ _ _ | exact .max _ _ _ rfl rfl | exact .min _ _ _ rfl rfl)) | ((with_reducible refine Calmly.is_gl ?_); refine Calmly.mix_gl rfl rfl rfl ?_; first | ((first | with_reducible refine Calmly.gl_tt ?_ (fun _ _ => ?_) | with_reducible refine Calmly.gl_ff ?_ (fun _ _ => ?_)); (first | exact .move _ | exact .load _ _ | exact .fieldAddr _ _ _ (by kernel_rfl) | exact .assign _ | exact .binOp _ _ _ _ _ rfl | exact .indexAddr _ _ _ | exact .len _ _ (by kernel_rfl) | exact .field _ _ _ | exact .extract _ _ | exact .pick _ _ _ | exact .build _ _ | exact .slice _ _ _ _ _ | exact .unOp _ _ _ rfl | exact .index _ _ _ | exact .max _ _ _ rfl rfl | exact .min _ _ _ rfl rfl)) | with_reducible refine Calmly.gl_tf (fun _ _ => ?_) | with_reducible refine Calmly.gl_ft (fun _ _ => ?_)) | ((with_reducible refine Calmly.is_eff ?_); refine Calmly.mix_eff rfl (fun _ _ => ?_)) | ((with_reducible refine Calmly.is_gf ?_); refine Calmly.mix_gf rfl rfl rfl ?_; first | with_reducible refine Calmly.gf_tt (fun _ _ => ?_) | with_reducible refine Calmly.gf_ff (fun _ _ => ?_) | with_reducible refine Calmly.gf_tf (kept_of hk) (fun _ _ => ?_) | with_reducible refine Calmly.gf_ft (kept_of hk) (fun _ _ => ?_)) | ((with_reducible refine Calmly.is_kept ?_); refine ⟨kept_of hk, ?_⟩) | (with_reducible refine Calmly.mix_alt ?_ ?_) | (refine kept_alloc hk (fun hk' hblk hge => ?_); replace hk := hk'; clear hk') | (go_at_call 32; refine (nDivisor_any a6 (1 + n) c6 ([D] ++ ps) _ ho6.si HPM.out).mono ?_; rintro r w7 ⟨rfl, q7, rfl⟩; rw [HG1.out]; replace hk := below_drewN hk q7) | (go_at_call 28; refine (isDen_any _ _).mono ?_; rintro r w8 ⟨rfl, rfl⟩; rw [hdd]) | (go_at_call 31; refine (isPart_any _ _).mono ?_; rintro r w9 ⟨rfl, rfl⟩; first | rw [hvv] | rw [huu]) | (go_at_call 27; refine (nUnless_any _ _ _).mono ?_; rintro r w10 ⟨rfl, rfl⟩))
  refine (nFirst_any _ 2 2 _ _ (SI.two _ _ _ _ (by simp))).mono ?_
  rintro r w11 ⟨rfl, rfl⟩
  have e4 : firstE [unlessE bG 3, unlessE true 2] = unlessE bG 3 := by cases bG <;> rfl
  rw [e4]
  have hs := hk
  replace x1 := blk_keep x1 hs; replace x2 := blk_keep x2 hs; replace x3 := blk_keep x3 hs; replace BW := BW.trans (hs.mono BW.size)
  clear hs e4 f0 f1 g0 g1 k0 k1 k2 hge hblk hbG
  generalize World.alloc _ _ = V4 at hk x1 x2 x3 BW ⊢
  (try clear f0 f1 g0 g1 k0 k1 k2); have f0 := cell_block x1 0; have f1 := cell_block x1 1; have g0 := cell_block x2 0; have g1 := cell_block x2 1; have k0 := cell_block x3 0; have k1 := cell_block x3 1; have k2 := cell_block x3 2
  have hd0 : (d != 0) = true := by simp; omega
  obtain ⟨gg, hgg⟩ : ∃ x, gcds [d, v, u] = x := ⟨_, rfl⟩
  obtain ⟨d', hd'⟩ : ∃ x, d.tdiv (gcds [d, v, u] : Nat) = x := ⟨_, rfl⟩
  obtain ⟨v', hv'⟩ : ∃ x, v.tdiv (gcds [d, v, u] : Nat) = x := ⟨_, rfl⟩
  obtain ⟨u', hu'⟩ : ∃ x, u.tdiv (gcds [d, v, u] : Nat) = x := ⟨_, rfl⟩
  have HLD := Lib.hid hd'
  have HLV := Lib.hid hv'
  have HLU := Lib.hid hu'
  go_wp2_with (first | ((with_reducible refine Calmly.is_fl ?_); refine Calmly.mix_fl rfl ?_ (fun _ _ => ?_); (first | exact .move _ | exact .load _ _ | exact .fieldAddr _ _ _ (by kernel_rfl) | exact .assign _ | exact .binOp _ _ _ _ _ rfl | exact .indexAddr _ _ _ | exact .len _ _ (by kernel_rfl) | exact .field _ _ _ | exact .extract _ _ | exact .pick _ _ _ | exact .build _ _ | exact .slice _ _ _ _ _ | exact .unOp _ _ _ rfl | exact .index _ _ _ | exact .max _ _ _ rfl rfl | exact .min _ _ _ rfl rfl)) | ((with_reducible refine Calmly.is_gl ?_); refine Calmly.mix_gl rfl rfl rfl ?_; first | ((first | with_reducible refine Calmly.gl_tt ?_ (fun _ _ => ?_) | with_reducible refine Calmly.gl_ff ?_ (fun _ _ => ?_)); (first | exact .move _ | exact .load _ _ | exact .fieldAddr _ _ _ (by kernel_rfl) | exact .assign _ | exact .binOp _ _ _ _ _ rfl | exact .indexAddr _ _ _ | exact .len _ _ (by kernel_rfl) | exact .field _ _ _ | exact .extract _ _ | exact .pick _ _ _ | exact .build _ _ | exact .slice _ _ _ _ _ | exact .unOp _ _ _ rfl | exact .index _ _ _ | exact .max _ _ _ rfl rfl | exact .min _ _ _ rfl rfl)) | with_reducible refine Calmly.gl_tf (fun _ _ => ?_) | with_reducible refine Calmly.gl_ft (fun _ _ => ?_)) | ((with_reducible refine Calmly.is_eff ?_); refine Calmly.mix_eff rfl (fun _ _ => ?_)) | ((with_reducible refine Calmly.is_gf ?_); refine Calmly.mix_gf rfl rfl rfl ?_; first | with_reducible refine Calmly.gf_tt (fun _ _ => ?_) | with_reducible refine Calmly.gf_ff (fun _ _ => ?_) | with_reducible refine Calmly.gf_tf (kept_of hk) (fun _ _ => ?_) | with_reducible refine Calmly.gf_ft (kept_of hk) (fun _ _ => ?_)) | ((with_reducible refine Calmly.is_tail ?_); first | refine Calmly.mix_tail_nil ?_ | refine Calmly.mix_tail rfl (fun _ _ => ?_)) | ((with_reducible refine Calmly.is_kept ?_); refine ⟨kept_of hk, ?_⟩) | (with_reducible refine Calmly.mix_alt ?_ ?_))
  clear hk
  by_cases hg : gg = 1
  case neg =>
    have hne : d' ≠ d := by
      rw [← hd', hgg]
      have hpos : 0 < gcds [d, v, u] := gcds_pos (p := d) (by simp) (by omega)
      rw [hgg] at hpos
      rw [Int.tdiv_eq_ediv_of_nonneg (by omega)]
      have h2 : d * 2 ≤ d * (gg : Int) := Int.mul_le_mul_of_nonneg_left (by omega) (by omega)
      have := Int.ediv_lt_of_lt_mul (a := d) (b := d) (c := (gg : Int)) (by omega) (by omega)
      omega
    have hF : F2 = 3 := by
      rw [← HF2.out, HG1.out, HBG.out, hgg, decide_eq_false hg]
      cases bG <;> rfl
    have hne' : (d' == d) = false := by simpa using hne
    clear hgg hd' hv' hu' hg
    refine Calmly.wp_region_mix 13 (.fl 0 <| .fl 1 <| .fl 2 <| .fl 3 <| .fl 4 <| .gl 5 <| .gl 7 <| .gf 6 <| .gf 8 <| .fl 9 <| .eff 10 <| .eff 11 <| .eff 12 <| .tail [13]) (by kernel_rfl) (by kernel_rfl) ?_
    have hs := (Below.refl V4.heap.size V4).drew
    replace x1 := blk_keep x1 hs; replace x2 := blk_keep x2 hs; replace x3 := blk_keep x3 hs; replace BW := BW.trans (hs.mono BW.size); clear hs; (try clear f0 f1 g0 g1 k0 k1 k2); have f0 := cell_block x1 0; have f1 := cell_block x1 1; have g0 := cell_block x2 0; have g1 := cell_block x2 1; have k0 := cell_block x3 0; have k1 := cell_block x3 1; have k2 := cell_block x3 2
    generalize V4.drew = V5 at x1 x2 x3 BW f0 f1 g0 g1 k0 k1 k2 ⊢
    have hk := Below.refl V5.heap.size V5
    go_wp2_with (first | ((with_reducible refine Calmly.is_fl ?_); refine Calmly.mix_fl rfl ?_ (fun _ _ => ?_); (first | exact .move _ | exact .load _ _ | exact .fieldAddr _ _ _ (by kernel_rfl) | exact .assign _ | exact .binOp _ _ _ _ _ rfl | exact .indexAddr _ _ _ | exact .len _ _ (by kernel_rfl) | exact .field _ _ _ | exact .extract _ _ | exact .pick _ _ _ | exact .build _ _ | exact .slice _ _ _ _ _ | exact .unOp _ _ _ rfl | exact .index _ _ _ | exact .max _ _ _ rfl rfl | exact .min _ _ _ rfl rfl)) | ((with_reducible refine Calmly.is_gl ?_); refine Calmly.mix_gl rfl rfl rfl ?_; first | ((first | with_reducible refine Calmly.gl_tt ?_ (fun _ _ => ?_) | with_reducible refine Calmly.gl_ff ?_ (fun _ _ => ?_)); (first | exact .move _ | exact .load _ _ | exact .fieldAddr _ _ _ (by kernel_rfl) | exact .assign _ | exact .binOp _ _ _ _ _ rfl | exact .indexAddr _ _ _ | exact .len _ _ (by kernel_rfl) | exact .field _ _ _ | exact .extract _ _ | exact .pick _ _ _ | exact .build _ _ | exact .slice _ _ _ _ _ | exact .unOp _ _ _ rfl | exact .index _ _ _ | exact .max _ _ _ rfl rfl | exact .min _ _ _ rfl rfl)) | with_reducible refine Calmly.gl_tf (fun _ _ => ?_) | with_reducible refine Calmly.gl_ft (fun _ _ => ?_)) | ((with_reducible refine Calmly.is_eff ?_); refine Calmly.mix_eff rfl (fun _ _ => ?_)) | ((with_reducible refine Calmly.is_gf ?_); refine Calmly.mix_gf rfl rfl rfl ?_; first | with_reducible refine Calmly.gf_tt (fun _ _ => ?_) | with_reducible refine Calmly.gf_ff (fun _ _ => ?_) | with_reducible refine Calmly.gf_tf (kept_of hk) (fun _ _ => ?_) | with_reducible refine Calmly.gf_ft (kept_of hk) (fun _ _ => ?_)) | ((with_reducible refine Calmly.is_kept ?_); refine ⟨kept_of hk, ?_⟩) | (with_reducible refine Calmly.mix_alt ?_ ?_) | (refine kept_alloc hk (fun hk' hblk hge => ?_); replace hk := hk'; clear hk') | (go_at_call 33; refine (lowestP_any d v u _ hd1 (by omega) ⟨by omega, by omega⟩ ⟨by omega, by omega⟩ d' v' u' HLD.out HLV.out HLU.out).mono ?_; rintro r w12 ⟨rfl, hs⟩; replace hk := step_of hk hs; clear hs) | (go_at_call 27; refine (nUnless_any _ _ _).mono ?_; rintro r w13 ⟨rfl, rfl⟩))
    refine (nFirst_any _ 2 2 _ _ (SI.two _ _ _ _ (by simp))).mono ?_
    rintro r w14 ⟨rfl, rfl⟩
    have e5 : firstE [unlessE bG 3, unlessE false 3] = 3 := by cases bG <;> rfl
    rw [e5]
    have hs := hk
    replace x1 := blk_keep x1 hs; replace x2 := blk_keep x2 hs; replace x3 := blk_keep x3 hs; replace BW := BW.trans (hs.mono BW.size)
    clear hs e5 f0 f1 g0 g1 k0 k1 k2 hge hblk
    generalize World.alloc _ _ = V6 at hk x1 x2 x3 BW ⊢
    (try clear f0 f1 g0 g1 k0 k1 k2); have f0 := cell_block x1 0; have f1 := cell_block x1 1; have g0 := cell_block x2 0; have g1 := cell_block x2 1; have k0 := cell_block x3 0; have k1 := cell_block x3 1; have k2 := cell_block x3 2
    obtain ⟨z1, z2⟩ := HC2.out (by trivial) (by rw [hF]; decide)
    rw [hF] at z2
    subst z1 z2
    clear hF
    go_wp2_with (first | ((with_reducible refine Calmly.is_fl ?_); refine Calmly.mix_fl rfl ?_ (fun _ _ => ?_); (first | exact .move _ | exact .load _ _ | exact .fieldAddr _ _ _ (by kernel_rfl) | exact .assign _ | exact .binOp _ _ _ _ _ rfl | exact .indexAddr _ _ _ | exact .len _ _ (by kernel_rfl) | exact .field _ _ _ | exact .extract _ _ | exact .pick _ _ _ | exact .build _ _ | exact .slice _ _ _ _ _ | exact .unOp _ _ _ rfl | exact .index _ _ _ | exact .max _ _ _ rfl rfl | exact .min _ _ _ rfl rfl)) | ((with_reducible refine Calmly.is_gl ?_); refine Calmly.mix_gl rfl rfl rfl ?_; first | ((first | with_reducible refine Calmly.gl_tt ?_ (fun _ _ => ?_) | with_reducible refine Calmly.gl_ff ?_ (fun _ _ => ?_)); (first | exact .move _ | exact .load _ _ | exact .fieldAddr _ _ _ (by kernel_rfl) | exact .assign _ | exact .binOp _ _ _ _ _ rfl | exact .indexAddr _ _ _ | exact .len _ _ (by kernel_rfl) | exact .field _ _ _ | exact .extract _ _ | exact .pick _ _ _ | exact .build _ _ | exact .slice _ _ _ _ _ | exact .unOp _ _ _ rfl | exact .index _ _ _ | exact .max _ _ _ rfl rfl | exact .min _ _ _ rfl rfl)) | with_reducible refine Calmly.gl_tf (fun _ _ => ?_) | with_reducible refine Calmly.gl_ft (fun _ _ => ?_)) | ((with_reducible refine Calmly.is_eff ?_); refine Calmly.mix_eff rfl (fun _ _ => ?_)) | ((with_reducible refine Calmly.is_gf ?_); refine Calmly.mix_gf rfl rfl rfl ?_; first | with_reducible refine Calmly.gf_tt (fun _ _ => ?_) | with_reducible refine Calmly.gf_ff (fun _ _ => ?_) | with_reducible refine Calmly.gf_tf (kept_of hk) (fun _ _ => ?_) | with_reducible refine Calmly.gf_ft (kept_of hk) (fun _ _ => ?_)) | ((with_reducible refine Calmly.is_tail ?_); first | refine Calmly.mix_tail_nil ?_ | refine Calmly.mix_tail rfl (fun _ _ => ?_)) | ((with_reducible refine Calmly.is_kept ?_); refine ⟨kept_of hk, ?_⟩) | (with_reducible refine Calmly.mix_alt ?_ ?_))
    go_ret2
    exact ⟨rfl, BW⟩
  case pos =>
    have e1 : d' = d := by rw [← hd', hgg, hg]; simp
    have e2 : v' = v := by rw [← hv', hgg, hg]; simp
    have e3 : u' = u := by rw [← hu', hgg, hg]; simp
    have hF : F2 = unlessE bG 3 := by
      rw [← HF2.out, HG1.out, HBG.out, hgg, decide_eq_true hg]
      cases bG <;> rfl
    have HFF := Lib.hid hF
    obtain rfl : d = d' := e1.symm
    obtain rfl : v = v' := e2.symm
    obtain rfl : u = u' := e3.symm
    clear hgg hd' hv' hu' hg hF
    refine Calmly.wp_region_mix 13 (.fl 0 <| .fl 1 <| .fl 2 <| .fl 3 <| .fl 4 <| .gl 5 <| .gl 7 <| .gf 6 <| .gf 8 <| .fl 9 <| .eff 10 <| .eff 11 <| .eff 12 <| .tail [13]) (by kernel_rfl) (by kernel_rfl) ?_
    have hs := (Below.refl V4.heap.size V4).drew
    replace x1 := blk_keep x1 hs; replace x2 := blk_keep x2 hs; replace x3 := blk_keep x3 hs; replace BW := BW.trans (hs.mono BW.size); clear hs; (try clear f0 f1 g0 g1 k0 k1 k2); have f0 := cell_block x1 0; have f1 := cell_block x1 1; have g0 := cell_block x2 0; have g1 := cell_block x2 1; have k0 := cell_block x3 0; have k1 := cell_block x3 1; have k2 := cell_block x3 2
    generalize V4.drew = V5 at x1 x2 x3 BW f0 f1 g0 g1 k0 k1 k2 ⊢
    have hk := Below.refl V5.heap.size V5
    go_wp2_with (first | ((with_reducible refine Calmly.is_fl ?_); refine Calmly.mix_fl rfl ?_ (fun _ _ => ?_); (first | exact .move _ | exact .load _ _ | exact .fieldAddr _ _ _ (by kernel_rfl) | exact .assign _ | exact .binOp _ _ _ _ _ rfl | exact .indexAddr _ _ _ | exact .len _ _ (by kernel_rfl) | exact .field _ _ _ | exact .extract _ _ | exact .pick _ _ _ | exact .build _ _ | exact .slice _ _ _ _ _ | exact .unOp _ _ _ rfl | exact .index _ _ _ | exact .max _ _ _ rfl rfl | exact .min _ _ _ rfl rfl)) | ((with_reducible refine Calmly.is_gl ?_); refine Calmly.mix_gl rfl rfl rfl ?_; first | ((first | with_reducible refine Calmly.gl_tt ?_ (fun _ _ => ?_) | with_reducible refine Calmly.gl_ff ?_ (fun _ _ => ?_)); (first | exact .move _ | exact .load _ _ | exact .fieldAddr _ _ _ (by kernel_rfl) | exact .assign _ | exact .binOp _ _ _ _ _ rfl | exact .indexAddr _ _ _ | exact .len _ _ (by kernel_rfl) | exact .field _ _ _ | exact .extract _ _ | exact .pick _ _ _ | exact .build _ _ | exact .slice _ _ _ _ _ | exact .unOp _ _ _ rfl | exact .index _ _ _ | exact .max _ _ _ rfl rfl | exact .min _ _ _ rfl rfl)) | with_reducible refine Calmly.gl_tf (fun _ _ => ?_) | with_reducible refine Calmly.gl_ft (fun _ _ => ?_)) | ((with_reducible refine Calmly.is_eff ?_); refine Calmly.mix_eff rfl (fun _ _ => ?_)) | ((with_reducible refine Calmly.is_gf ?_); refine Calmly.mix_gf rfl rfl rfl ?_; first | with_reducible refine Calmly.gf_tt (fun _ _ => ?_) | with_reducible refine Calmly.gf_ff (fun _ _ => ?_) | with_reducible refine Calmly.gf_tf (kept_of hk) (fun _ _ => ?_) | with_reducible refine Calmly.gf_ft (kept_of hk) (fun _ _ => ?_)) | ((with_reducible refine Calmly.is_kept ?_); refine ⟨kept_of hk, ?_⟩) | (with_reducible refine Calmly.mix_alt ?_ ?_) | (refine kept_alloc hk (fun hk' hblk hge => ?_); replace hk := hk'; clear hk') | (go_at_call 33; refine (lowestP_any d v u _ hd1 (by omega) ⟨by omega, by omega⟩ ⟨by omega, by omega⟩ d v u HLD.out HLV.out HLU.out).mono ?_; rintro r w12 ⟨rfl, hs⟩; replace hk := step_of hk hs; clear hs) | (go_at_call 27; refine (nUnless_any _ _ _).mono ?_; rintro r w13 ⟨rfl, rfl⟩))
    refine (nFirst_any _ 2 2 _ _ (SI.two _ _ _ _ (by simp))).mono ?_
    rintro r w14 ⟨rfl, rfl⟩
    have e5 : firstE [unlessE bG 3, unlessE true 3] = unlessE bG 3 := by cases bG <;> rfl
    rw [e5]
    have hs := hk
    replace x1 := blk_keep x1 hs; replace x2 := blk_keep x2 hs; replace x3 := blk_keep x3 hs; replace BW := BW.trans (hs.mono BW.size)
    clear hs e5 f0 f1 g0 g1 k0 k1 k2 hge hblk
    generalize World.alloc _ _ = V6 at hk x1 x2 x3 BW ⊢
    (try clear f0 f1 g0 g1 k0 k1 k2); have f0 := cell_block x1 0; have f1 := cell_block x1 1; have g0 := cell_block x2 0; have g1 := cell_block x2 1; have k0 := cell_block x3 0; have k1 := cell_block x3 1; have k2 := cell_block x3 2
    cases bG
    · have hF : F2 = 3 := HFF.out
      obtain ⟨z1, z2⟩ := HC2.out (by trivial) (by rw [hF]; decide)
      rw [hF] at z2
      subst z1 z2
      clear hF
      go_wp2_with (first | ((with_reducible refine Calmly.is_fl ?_); refine Calmly.mix_fl rfl ?_ (fun _ _ => ?_); (first | exact .move _ | exact .load _ _ | exact .fieldAddr _ _ _ (by kernel_rfl) | exact .assign _ | exact .binOp _ _ _ _ _ rfl | exact .indexAddr _ _ _ | exact .len _ _ (by kernel_rfl) | exact .field _ _ _ | exact .extract _ _ | exact .pick _ _ _ | exact .build _ _ | exact .slice _ _ _ _ _ | exact .unOp _ _ _ rfl | exact .index _ _ _ | exact .max _ _ _ rfl rfl | exact .min _ _ _ rfl rfl)) | ((with_reducible refine Calmly.is_gl ?_); refine Calmly.mix_gl rfl rfl rfl ?_; first | ((first | with_reducible refine Calmly.gl_tt ?_ (fun _ _ => ?_) | with_reducible refine Calmly.gl_ff ?_ (fun _ _ => ?_)); (first | exact .move _ | exact .load _ _ | exact .fieldAddr _ _ _ (by kernel_rfl) | exact .assign _ | exact .binOp _ _ _ _ _ rfl | exact .indexAddr _ _ _ | exact .len _ _ (by kernel_rfl) | exact .field _ _ _ | exact .extract _ _ | exact .pick _ _ _ | exact .build _ _ | exact .slice _ _ _ _ _ | exact .unOp _ _ _ rfl | exact .index _ _ _ | exact .max _ _ _ rfl rfl | exact .min _ _ _ rfl rfl)) | with_reducible refine Calmly.gl_tf (fun _ _ => ?_) | with_reducible refine Calmly.gl_ft (fun _ _ => ?_)) | ((with_reducible refine Calmly.is_eff ?_); refine Calmly.mix_eff rfl (fun _ _ => ?_)) | ((with_reducible refine Calmly.is_gf ?_); refine Calmly.mix_gf rfl rfl rfl ?_; first | with_reducible refine Calmly.gf_tt (fun _ _ => ?_) | with_reducible refine Calmly.gf_ff (fun _ _ => ?_) | with_reducible refine Calmly.gf_tf (kept_of hk) (fun _ _ => ?_) | with_reducible refine Calmly.gf_ft (kept_of hk) (fun _ _ => ?_)) | ((with_reducible refine Calmly.is_tail ?_); first | refine Calmly.mix_tail_nil ?_ | refine Calmly.mix_tail rfl (fun _ _ => ?_)) | ((with_reducible refine Calmly.is_kept ?_); refine ⟨kept_of hk, ?_⟩) | (with_reducible refine Calmly.mix_alt ?_ ?_))
      go_ret2
      exact ⟨rfl, BW⟩
    have hF : F2 = 0 := HFF.out
    subst hF
    clear HFF
    go_wp2_with (first | ((with_reducible refine Calmly.is_fl ?_); refine Calmly.mix_fl rfl ?_ (fun _ _ => ?_); (first | exact .move _ | exact .load _ _ | exact .fieldAddr _ _ _ (by kernel_rfl) | exact .assign _ | exact .binOp _ _ _ _ _ rfl | exact .indexAddr _ _ _ | exact .len _ _ (by kernel_rfl) | exact .field _ _ _ | exact .extract _ _ | exact .pick _ _ _ | exact .build _ _ | exact .slice _ _ _ _ _ | exact .unOp _ _ _ rfl | exact .index _ _ _ | exact .max _ _ _ rfl rfl | exact .min _ _ _ rfl rfl)) | ((with_reducible refine Calmly.is_gl ?_); refine Calmly.mix_gl rfl rfl rfl ?_; first | ((first | with_reducible refine Calmly.gl_tt ?_ (fun _ _ => ?_) | with_reducible refine Calmly.gl_ff ?_ (fun _ _ => ?_)); (first | exact .move _ | exact .load _ _ | exact .fieldAddr _ _ _ (by kernel_rfl) | exact .assign _ | exact .binOp _ _ _ _ _ rfl | exact .indexAddr _ _ _ | exact .len _ _ (by kernel_rfl) | exact .field _ _ _ | exact .extract _ _ | exact .pick _ _ _ | exact .build _ _ | exact .slice _ _ _ _ _ | exact .unOp _ _ _ rfl | exact .index _ _ _ | exact .max _ _ _ rfl rfl | exact .min _ _ _ rfl rfl)) | with_reducible refine Calmly.gl_tf (fun _ _ => ?_) | with_reducible refine Calmly.gl_ft (fun _ _ => ?_)) | ((with_reducible refine Calmly.is_eff ?_); refine Calmly.mix_eff rfl (fun _ _ => ?_)) | ((with_reducible refine Calmly.is_gf ?_); refine Calmly.mix_gf rfl rfl rfl ?_; first | with_reducible refine Calmly.gf_tt (fun _ _ => ?_) | with_reducible refine Calmly.gf_ff (fun _ _ => ?_) | with_reducible refine Calmly.gf_tf (kept_of hk) (fun _ _ => ?_) | with_reducible refine Calmly.gf_ft (kept_of hk) (fun _ _ => ?_)) | ((with_reducible refine Calmly.is_tail ?_); first | refine Calmly.mix_tail_nil ?_ | refine Calmly.mix_tail rfl (fun _ _ => ?_)) | ((with_reducible refine Calmly.is_kept ?_); refine ⟨kept_of hk, ?_⟩) | (with_reducible refine Calmly.mix_alt ?_ ?_))
    clear hk
    obtain ⟨SV, hSV⟩ : ∃ x, sumT ps n = x := ⟨_, rfl⟩
    obtain ⟨SD, hSD⟩ : ∃ x, sumT (sumsF ps) n = x := ⟨_, rfl⟩
    have HSV := Lib.hid hSV
    have HSD := Lib.hid hSD
    clear hSV hSD
    refine (endB_any b n e ps _ (h2.keep BW) hn0 (by omega) HPB.out SV SD HSV.out HSD.out).mono ?_
    rintro r w15 ⟨rfl, hs⟩
    replace x1 := blk_keep x1 hs; replace x2 := blk_keep x2 hs; replace x3 := blk_keep x3 hs; replace BW := BW.trans (hs.mono BW.size)
    clear hs f0 f1 g0 g1 k0 k1 k2
    have hs := hA w15 (.cells #[.int .i64 SV, .int .i64 SD] 71)
    have x9 := alloc_new w15 (.cells #[.int .i64 SV, .int .i64 SD] 71)
    replace x1 := blk_keep x1 hs; replace x2 := blk_keep x2 hs; replace x3 := blk_keep x3 hs; replace BW := BW.trans (hs.mono BW.size)
    clear hs
    (try clear f0 f1 g0 g1 k0 k1 k2); have f0 := cell_block x1 0; have f1 := cell_block x1 1; have g0 := cell_block x2 0; have g1 := cell_block x2 1; have k0 := cell_block x3 0; have k1 := cell_block x3 1; have k2 := cell_block x3 2
    have t0 := cell_block x9 0
    have t1 := cell_block x9 1
    by_cases hz : SV = 0
    case neg =>
      obtain ⟨z1, z2⟩ := HC3.out (by trivial) (by trivial) (by rw [HSV.out]; exact hz)
      have b1 : (SV != 0) = true := by simpa using hz
      subst z1 z2
      clear hz
      go_wp2_with fail
      go_ret2
      exact ⟨rfl, BW⟩
    subst hz
    by_cases hz : SD = 0
    case neg =>
      obtain ⟨z1, z2⟩ := HC4.out (by trivial) (by trivial) HSV.out (by rw [HSD.out]; exact hz)
      have b1 : (SD != 0) = true := by simpa using hz
      subst z1 z2
      clear hz
      go_wp2_with fail
      go_ret2
      exact ⟨rfl, BW⟩
    subst hz
    have hck := HC5.out (by trivial) (by trivial) HSV.out HSD.out
    obtain ⟨bad, hbad⟩ : ∃ f, ckBad xs ps D d v u n = f := ⟨_, rfl⟩
    rw [hbad] at hck
    have HCK := Lib.hid hck
    have HBAD := Lib.hid hbad
    clear hck hbad HC1 HC2 HC3 HC4 HC5 HF1 HF2
    go_wp2_with fail
    go_loopw [89] (fun i wr => ∃ k : Nat, k ≤ n ∧ i = .int .i64 k ∧ fBad bad 0 n = fBad bad k (n - k) ∧ Below w.heap.size w wr ∧ wr.heap[w.heap.size]? = some (.cells #[.int .i64 step, .slice a n c] 24) ∧ wr.heap[w.heap.size + 1]? = some (.cells #[.int .i64 D, .slice b n e] 26) ∧ wr.heap[w.heap.size + 1 + 1]? = some (.cells #[.int .i64 d, .int .i64 v, .int .i64 u] 28)) (fun i _ => n - (intOf i).toNat)
    case atStart => exact ⟨0, by omega, rfl, rfl, BW, x1, x2, x3⟩
    case round =>
      obtain ⟨k, hkn, rfl, hfb, hbr, X1, X2, X3⟩ := hrel
      have HFB := Lib.hid hfb
      clear hfb BW x1 x2 x3 x9 t0 t1 f0 f1 g0 g1 k0 k1 k2
      have hrs := hbr.size
      by_cases hlt : k < n
      · have hst : fBad bad k (n - k) = if bad k = true then some k else fBad bad (k + 1) (n - (k + 1)) := by
          rw [show n - k = (n - (k + 1)) + 1 by omega]
          rfl
        have HST := Lib.hid hst
        obtain ⟨ba, oa, rfl, hca⟩ := (h1.keep hbr).at_ (by omega)
        obtain ⟨bb, ob, rfl, hcb⟩ := (h2.keep hbr).at_ (by omega)
        have ea := hca k hlt
        have eb := hcb k hlt
        have hxk := H5.out k
        have hpk := HPB.out k
        have hbk : bad k = decide (fracF (ps[k]?.getD 0 - xs[k]?.getD 0 * D) D ≠ fracF (v + u * ((n : Int) - (k : Int))) d) := by rw [← HBAD.out]; rfl
        obtain ⟨x, hx⟩ : ∃ x, xs[k]?.getD 0 = x := ⟨_, rfl⟩
        obtain ⟨p, hp⟩ : ∃ x, ps[k]?.getD 0 = x := ⟨_, rfl⟩
        rw [hx] at ea hxk hbk
        rw [hp] at eb hpk hbk
        obtain ⟨q1, q2⟩ := pr_bd (c := x) (a := D) (C := 1000) (A := 1000000000) hxk.1 hxk.2 (by omega) hD2
        obtain ⟨q3, q4⟩ := pr_bd (c := u) (a := (n : Int) - (k : Int)) (C := 1000000000000) (A := 24) hu1 hu2 (by omega) (by omega)
        obtain ⟨R, hR⟩ : ∃ R, v + u * ((n : Int) - (k : Int)) = R := ⟨_, rfl⟩
        obtain ⟨hp1, hp2⟩ := hpk
        have hR1 : -100000000000000 ≤ R ∧ R ≤ 100000000000000 := by omega
        obtain ⟨hR1, hR2⟩ := hR1
        rw [hR] at hbk
        obtain ⟨A1, hA1⟩ : ∃ y, (fracF (p - x * D) D).1 = y := ⟨_, rfl⟩
        obtain ⟨A2, hA2⟩ : ∃ y, (fracF (p - x * D) D).2 = y := ⟨_, rfl⟩
        obtain ⟨B1, hB1⟩ : ∃ y, (fracF R d).1 = y := ⟨_, rfl⟩
        obtain ⟨B2, hB2⟩ : ∃ y, (fracF R d).2 = y := ⟨_, rfl⟩
        have hbk' : bad k = decide ((A1, A2) ≠ (B1, B2)) := by rw [hbk, ← hA1, ← hA2, ← hB1, ← hB2]
        have HR := Lib.hid hR
        have HA1 := Lib.hid hA1
        have HA2 := Lib.hid hA2
        have HB1 := Lib.hid hB1
        have HB2 := Lib.hid hB2
        have HBK := Lib.hid hbk'
        have hi : (k : Int) < (n : Int) := by omega
        have hi0 : (0 : Int) ≤ (k : Int) := by omega
        clear hst hca hcb hbk hbk' hx hp hR hA1 hA2 hB1 hB2 hxk q3 q4
        have f1 := cell_block X1 1
        have g0 := cell_block X2 0
        have g1 := cell_block X2 1
        have k0 := cell_block X3 0
        have k1 := cell_block X3 1
        have k2 := cell_block X3 2
        go_wp2_with fail
        refine Calmly.wp_region_mix 22 (.fl 0 <| .fl 1 <| .fl 2 <| .fl 3 <| .fl 4 <| .fl 5 <| .fl 6 <| .fl 7 <| .fl 8 <| .fl 9 <| .fl 10 <| .fl 11 <| .fl 13 <| .fl 14 <| .fl 15 <| .fl 16 <| .fl 17 <| .fl 19 <| .fl 20 <| .eff 12 <| .eff 18 <| .eff 21 <| .tail [22]) (by kernel_rfl) (by kernel_rfl) ?_
        have hs := (Below.refl wr.heap.size wr).drew
        replace X1 := blk_keep X1 hs
        replace X2 := blk_keep X2 hs
        replace X3 := blk_keep X3 hs
        replace ea := cell_keep ea hs
        replace eb := cell_keep eb hs
        replace hbr := hbr.trans (hs.mono hrs)
        clear hs f1 g0 g1 k0 k1 k2
        generalize wr.drew = U at X1 X2 X3 ea eb hbr ⊢
        have f1 := cell_block X1 1
        have g0 := cell_block X2 0
        have g1 := cell_block X2 1
        have k0 := cell_block X3 0
        have k1 := cell_block X3 1
        have k2 := cell_block X3 2
        have hk := Below.refl U.heap.size U
        have M0 := Lib.hid True.intro
        by_cases heq : (A1, A2) = (B1, B2)
        · have hb0 : bad k = false := by rw [HBK.out, heq]; simp
          rw [Prod.mk.injEq] at heq
          obtain ⟨he1, he2⟩ := heq
          obtain rfl : A1 = B1 := he1
          obtain rfl : A2 = B2 := he2
          have HBF := Lib.hid hb0
          clear hb0
          go_wp2_with (first | ((with_reducible refine Calmly.is_fl ?_); refine Calmly.mix_fl rfl ?_ (fun _ _ => ?_); (first | exact .move _ | exact .load _ _ | exact .fieldAddr _ _ _ (by kernel_rfl) | exact .assign _ | exact .binOp _ _ _ _ _ rfl | exact .indexAddr _ _ _ | exact .len _ _ (by kernel_rfl) | exact .field _ _ _ | exact .extract _ _ | exact .pick _ _ _ | exact .build _ _ | exact .slice _ _ _ _ _ | exact .unOp _ _ _ rfl | exact .index _ _ _ | exact .max _ _ _ rfl rfl | exact .min _ _ _ rfl rfl)) | ((with_reducible refine Calmly.is_gl ?_); refine Calmly.mix_gl rfl rfl rfl ?_; first | ((first | with_reducible refine Calmly.gl_tt ?_ (fun _ _ => ?_) | with_reducible refine Calmly.gl_ff ?_ (fun _ _ => ?_)); (first | exact .move _ | exact .load _ _ | exact .fieldAddr _ _ _ (by kernel_rfl) | exact .assign _ | exact .binOp _ _ _ _ _ rfl | exact .indexAddr _ _ _ | exact .len _ _ (by kernel_rfl) | exact .field _ _ _ | exact .extract _ _ | exact .pick _ _ _ | exact .build _ _ | exact .slice _ _ _ _ _ | exact .unOp _ _ _ rfl | exact .index _ _ _ | exact .max _ _ _ rfl rfl | exact .min _ _ _ rfl rfl)) | with_reducible refine Calmly.gl_tf (fun _ _ => ?_) | with_reducible refine Calmly.gl_ft (fun _ _ => ?_)) | ((with_reducible refine Calmly.is_eff ?_); refine Calmly.mix_eff rfl (fun _ _ => ?_)) | ((with_reducible refine Calmly.is_gf ?_); refine Calmly.mix_gf rfl rfl rfl ?_; first | with_reducible refine Calmly.gf_tt (fun _ _ => ?_) | with_reducible refine Calmly.gf_ff (fun _ _ => ?_) | with_reducible refine Calmly.gf_tf (kept_of hk) (fun _ _ => ?_) | with_reducible refine Calmly.gf_ft (kept_of hk) (fun _ _ => ?_)) | ((with_reducible refine Calmly.is_tail ?_); first | refine Calmly.mix_tail_nil ?_ | refine Calmly.mix_tail rfl (fun _ _ => ?_)) | ((with_reducible refine Calmly.is_kept ?_); refine ⟨kept_of hk, ?_⟩) | (with_reducible refine Calmly.mix_alt ?_ ?_) | (have _ := M0.out; clear M0; go_at_call 35; refine (fraction_any (p - x * D) D _ (by omega) (by omega) (by omega) (by omega) A1 A2 HA1.out HA2.out).mono ?_; rintro r w21 ⟨rfl, hs⟩; replace hk := step_of hk hs; clear hs) | (go_at_call 23; refine (change_any d v u (n : Int) (k : Int) _ ⟨by omega, by omega⟩ ⟨by omega, by omega⟩ ⟨by omega, by omega⟩ ⟨by omega, by omega⟩ R HR.out).mono ?_; rintro r w22 ⟨rfl, hs⟩; replace hk := step_of hk hs; clear hs) | (go_at_call 35; refine (fraction_any R d _ (by omega) (by omega) (by omega) (by omega) A1 A2 HB1.out HB2.out).mono ?_; rintro r w23 ⟨rfl, hs⟩; replace hk := step_of hk hs; clear hs))
          exact ⟨⟨k + 1, by omega, by go_num, by rw [HFB.out, HST.out, HBF.out]; simp, hbr.trans (hk.mono hbr.size), blk_keep X1 hk, blk_keep X2 hk, blk_keep X3 hk⟩, by simp [intOf]; omega⟩
        · have hb0 : bad k = true := by rw [HBK.out]; exact decide_eq_true heq
          have HBF := Lib.hid hb0
          have hck := HCK.out
          rw [HFB.out, HST.out, if_pos hb0, ckOut, Prod.mk.injEq] at hck
          obtain ⟨z1, z2⟩ := hck
          subst z1 z2
          clear hb0
          have heq' : ¬ (A1 = B1 ∧ A2 = B2) := by simpa using heq
          clear heq
          go_wp2_with (first | ((with_reducible refine Calmly.is_fl ?_); refine Calmly.mix_fl rfl ?_ (fun _ _ => ?_); (first | exact .move _ | exact .load _ _ | exact .fieldAddr _ _ _ (by kernel_rfl) | exact .assign _ | exact .binOp _ _ _ _ _ rfl | exact .indexAddr _ _ _ | exact .len _ _ (by kernel_rfl) | exact .field _ _ _ | exact .extract _ _ | exact .pick _ _ _ | exact .build _ _ | exact .slice _ _ _ _ _ | exact .unOp _ _ _ rfl | exact .index _ _ _ | exact .max _ _ _ rfl rfl | exact .min _ _ _ rfl rfl)) | ((with_reducible refine Calmly.is_gl ?_); refine Calmly.mix_gl rfl rfl rfl ?_; first | ((first | with_reducible refine Calmly.gl_tt ?_ (fun _ _ => ?_) | with_reducible refine Calmly.gl_ff ?_ (fun _ _ => ?_)); (first | exact .move _ | exact .load _ _ | exact .fieldAddr _ _ _ (by kernel_rfl) | exact .assign _ | exact .binOp _ _ _ _ _ rfl | exact .indexAddr _ _ _ | exact .len _ _ (by kernel_rfl) | exact .field _ _ _ | exact .extract _ _ | exact .pick _ _ _ | exact .build _ _ | exact .slice _ _ _ _ _ | exact .unOp _ _ _ rfl | exact .index _ _ _ | exact .max _ _ _ rfl rfl | exact .min _ _ _ rfl rfl)) | with_reducible refine Calmly.gl_tf (fun _ _ => ?_) | with_reducible refine Calmly.gl_ft (fun _ _ => ?_)) | ((with_reducible refine Calmly.is_eff ?_); refine Calmly.mix_eff rfl (fun _ _ => ?_)) | ((with_reducible refine Calmly.is_gf ?_); refine Calmly.mix_gf rfl rfl rfl ?_; first | with_reducible refine Calmly.gf_tt (fun _ _ => ?_) | with_reducible refine Calmly.gf_ff (fun _ _ => ?_) | with_reducible refine Calmly.gf_tf (kept_of hk) (fun _ _ => ?_) | with_reducible refine Calmly.gf_ft (kept_of hk) (fun _ _ => ?_)) | ((with_reducible refine Calmly.is_tail ?_); first | refine Calmly.mix_tail_nil ?_ | refine Calmly.mix_tail rfl (fun _ _ => ?_)) | ((with_reducible refine Calmly.is_kept ?_); refine ⟨kept_of hk, ?_⟩) | (with_reducible refine Calmly.mix_alt ?_ ?_) | (have _ := M0.out; clear M0; go_at_call 35; refine (fraction_any (p - x * D) D _ (by omega) (by omega) (by omega) (by omega) A1 A2 HA1.out HA2.out).mono ?_; rintro r w21 ⟨rfl, hs⟩; replace hk := step_of hk hs; clear hs) | (go_at_call 23; refine (change_any d v u (n : Int) (k : Int) _ ⟨by omega, by omega⟩ ⟨by omega, by omega⟩ ⟨by omega, by omega⟩ ⟨by omega, by omega⟩ R HR.out).mono ?_; rintro r w22 ⟨rfl, hs⟩; replace hk := step_of hk hs; clear hs) | (go_at_call 35; refine (fraction_any R d _ (by omega) (by omega) (by omega) (by omega) B1 B2 HB1.out HB2.out).mono ?_; rintro r w23 ⟨rfl, hs⟩; replace hk := step_of hk hs; clear hs))
          all_goals
            go_ret2
            exact ⟨rfl, hbr.trans (hk.mono hbr.size)⟩
      · obtain rfl : n = k := by omega
        have hle : (n : Int) ≤ (n : Int) := by omega
        have hck := HCK.out
        rw [HFB.out, Nat.sub_self, fBad, ckOut, Prod.mk.injEq] at hck
        obtain ⟨z1, z2⟩ := hck
        subst z1 z2
        go_wp2_with fail
        go_ret2
        exact ⟨rfl, hbr⟩
end Go.Proofs.YtfjcfbmfpefabaaGreat
