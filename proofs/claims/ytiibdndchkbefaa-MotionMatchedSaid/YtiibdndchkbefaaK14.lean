/- The law MotionWaves, walked. -/
import Derived.Test.YtiibdndchkbefaaK13
namespace Go.Proofs.Ytiibdndchkbefaa
open Go.RowKit
open Calmly (Kept)


theorem SI.set2 {w : World} {a : Option Addr} {n c : Nat} {xs : List Int} {r : Nat} {e' : TypeId} (h : SI w a n c xs) (hi : In w 3 a) (hr : BlkT w r e') (he : 3 ≠ e') (u v : Value) : SI ((w.setCell ⟨r, 0, none⟩ u).setCell ⟨r, 1, none⟩ v) a n c xs :=
  Sl.set (Sl.set h hi hr he) (hi.set _ _) (hr.set _ _) he
theorem kept_allocW {W w : World} {o : Obj} {G : Prop} (h : Below W.heap.size W w) (k : Below w.heap.size w (w.alloc o) → Below W.heap.size W (w.alloc o) → (w.alloc o).heap[w.heap.size]? = some o → G) : Kept W (w.alloc o) ∧ G :=
  ⟨kept_of (h.alloc h.size o), k ((Below.refl _ _).alloc (Nat.le_refl _) _) (h.alloc h.size o) (alloc_new w o)⟩
theorem kept_setW {W w : World} {b : Nat} {x y u0 u1 : Value} {t : TypeId} {a : Option Addr} {n c : Nat} {xs : List Int} {G : Prop} (h : Below W.heap.size W w) (hb : W.heap.size ≤ b) (p : w.heap[b]? = some (.cells #[u0, u1] t)) (s : SI w a n c xs) (hi : In w 3 a) (he : 3 ≠ t)
    (k : Below W.heap.size W ((w.setCell ⟨b, 0, none⟩ x).setCell ⟨b, 1, none⟩ y) → ((w.setCell ⟨b, 0, none⟩ x).setCell ⟨b, 1, none⟩ y).heap[b]? = some (.cells #[x, y] t) → SI ((w.setCell ⟨b, 0, none⟩ x).setCell ⟨b, 1, none⟩ y) a n c xs → G) :
    Kept W ((w.setCell ⟨b, 0, none⟩ x).setCell ⟨b, 1, none⟩ y) ∧ G := by
  have h2 := (h.setCell (p := ⟨b, 0, none⟩) hb x).setCell (p := ⟨b, 1, none⟩) hb y
  exact ⟨kept_of h2, k h2 (blk_setAt (blk_setAt p 0 _) 1 _) (s.set2 hi ⟨_, p⟩ he x y)⟩

set_option maxRecDepth 100000 in
set_option maxHeartbeats 8000000 in
theorem MotionWaves_walk (step : Int) (a : Option Addr) (n c : Nat) (xs : List Int) (b : Option Addr) (m d : Nat) (ws : List (List Int)) (t : Option Addr) (p e : Nat) (ts : List Int) (z : Option Addr) (q y : Nat) (l : List Four) (w : World) (h1 : SI w a n c xs) (h2 : SW w b m d ws) (h3 : SI w t p e ts) (h4 : SB w z q y l) :
    Calls Try.prog 10 #[.agg #[.int .i64 step, .slice a n c], .agg #[.slice b m d, .slice t p e], .slice z q y] w fun r w' => r = .returned (.bool true) ∧ Below w.heap.size w w' := by
  have hA : ∀ (A : World) (o : Obj), Below A.heap.size A (A.alloc o) := fun A o => (Below.refl _ _).alloc (Nat.le_refl _) _
  have x1 := box1 (w := w) (o := .cells #[.int .i64 step, .slice a n c] 24) (hA (w.alloc (.cells #[.int .i64 step, .slice a n c] 24)) (.cells #[.slice b m d, .slice t p e] 96))
  have x2 := alloc_new (w.alloc (.cells #[.int .i64 step, .slice a n c] 24)) (.cells #[.slice b m d, .slice t p e] 96)
  have BW : Below w.heap.size w ((w.alloc (.cells #[.int .i64 step, .slice a n c] 24)).alloc (.cells #[.slice b m d, .slice t p e] 96)) := ((Below.refl _ _).alloc (Nat.le_refl _) _).alloc (by simp) _
  simp only [World.size_alloc] at x2
  obtain ⟨l1, l2⟩ : n ≤ xs.length ∧ xs.length ≤ n := by have := h1.len; omega
  obtain ⟨k1, k2⟩ : m ≤ ws.length ∧ ws.length ≤ m := by have := h2.len; omega
  obtain ⟨j1, j2⟩ : p ≤ ts.length ∧ ts.length ≤ p := by have := h3.len; omega
  obtain ⟨i1, i2⟩ : q ≤ l.length ∧ l.length ≤ q := by have := h4.len; omega
  have m1 := h1.max
  have c1 := h1.cap
  have m2 := h2.max
  have c2 := h2.cap
  have m3 := h3.max
  have c3 := h3.cap
  have m4 := h4.max
  have c4 := h4.cap
  go_enter Try.func10, Try.ntmps10
  go_wp2_with fail
  refine (awake_any _).mono ?_
  rintro r w1 ⟨rfl, hs⟩
  replace x1 := blk_keep x1 hs; replace x2 := blk_keep x2 hs; (try replace pA := blk_keep pA hs); replace BW := BW.trans (hs.mono BW.size); (try replace sY := sY.keep hs); clear hs; (try clear f0 f1 f2 f3); have f0 := cell_block x1 0; have f1 := cell_block x1 1; have f2 := cell_block x2 0; have f3 := cell_block x2 1; (try clear zA0 zA1); (try have zA0 := cell_block pA 0); (try have zA1 := cell_block pA 1)
  go_wp2_with fail
  refine (few_any step a n c _ c1 m1).mono ?_
  rintro r w2 ⟨rfl, hs⟩
  replace x1 := blk_keep x1 hs; replace x2 := blk_keep x2 hs; (try replace pA := blk_keep pA hs); replace BW := BW.trans (hs.mono BW.size); (try replace sY := sY.keep hs); clear hs; (try clear f0 f1 f2 f3); have f0 := cell_block x1 0; have f1 := cell_block x1 1; have f2 := cell_block x2 0; have f3 := cell_block x2 1; (try clear zA0 zA1); (try have zA0 := cell_block pA 0); (try have zA1 := cell_block pA 1)
  by_cases hn : n ≤ 26
  case neg =>
    rw [show decide (n ≤ 26) = false from by simpa using hn]
    go_wp2_with fail
    go_ret
    exact ⟨rfl, BW⟩
  rw [show decide (n ≤ 26) = true from by simpa using hn]
  obtain ⟨R, hR⟩ : ∃ R, (decide (m ≤ 5) && ws.all (fun x => decide (x.length ≤ 26))) = R := ⟨_, rfl⟩
  have HR := Lib.hid hR
  clear hR
  go_wp2_with fail
  refine (fewWaves_any b m d ws _ (h2.keep BW) R HR.out).mono ?_
  rintro r w3 ⟨rfl, rfl⟩
  cases R
  · go_wp2_with fail
    go_ret
    exact ⟨rfl, BW⟩
  by_cases hp5 : 5 < p
  · have i5 : (5 : Int) < (p : Int) := by omega
    go_wp2_with fail
    go_ret
    exact ⟨rfl, BW⟩
  have i5 : (p : Int) ≤ 5 := by omega
  by_cases hq8 : 8 < q
  · have i6 : (8 : Int) < (q : Int) := by omega
    go_wp2_with fail
    go_ret
    exact ⟨rfl, BW⟩
  have i6 : (q : Int) ≤ 8 := by omega
  have hfw : m ≤ 5 ∧ ∀ i, i < m → (ws[i]?.getD []).length ≤ 1000000 := by
    have h := HR.out
    rw [Bool.and_eq_true] at h
    refine ⟨of_decide_eq_true h.1, fun i hi => ?_⟩
    have := (List.all_eq_true.1 h.2) (ws[i]?.getD []) (by
      have : i < ws.length := by omega
      rw [List.getElem?_eq_getElem this]
      exact List.getElem_mem this)
    have := of_decide_eq_true this
    omega
  obtain ⟨hm5, hfw⟩ := hfw
  have HFW := Lib.hid hfw
  obtain ⟨rE, hrE⟩ : ∃ x, (recF step xs).2 = x := ⟨_, rfl⟩
  obtain ⟨wE, hwE⟩ : ∃ x, wavesE n ws = x := ⟨_, rfl⟩
  obtain ⟨tE, htE⟩ : ∃ x, timesE m ts = x := ⟨_, rfl⟩
  obtain ⟨bE, hbE⟩ : ∃ x, bandE l = x := ⟨_, rfl⟩
  obtain ⟨oE, hoE⟩ : ∃ x, openE step xs ws = x := ⟨_, rfl⟩
  have hop : oE = if rE = 0 then wE else rE := by rw [← hoE, ← hrE, ← hwE]; unfold openE; rw [show xs.length = n by omega]
  obtain ⟨F1, hF1⟩ : ∃ F, firstE [oE, tE] = F := ⟨_, rfl⟩
  obtain ⟨F2, hF2⟩ : ∃ F, firstE [oE, tE, bE] = F := ⟨_, rfl⟩
  obtain ⟨G, hG⟩ : ∃ G, decide (gsT (adTo xs ws ts m) n ≤ 1000) = G := ⟨_, rfl⟩
  obtain ⟨B, hB⟩ : ∃ B, (outT (adTo xs ws ts m) l l.length).isEmpty = B := ⟨_, rfl⟩
  obtain ⟨E1, S1, X1, hA1, hA2, hA3⟩ : ∃ (E1 S1 : Int) (X1 : List Int), (F1 ≠ 0 → E1 = F1 ∧ S1 = 0 ∧ X1 = []) ∧ (F1 = 0 → G = false → E1 = 8 ∧ S1 = 0 ∧ X1 = []) ∧ (F1 = 0 → G = true → E1 = 0 ∧ S1 = step ∧ X1 = adTo xs ws ts m) := by
    by_cases h : F1 = 0
    · cases G
      · exact ⟨_, _, _, fun hh => absurd h hh, fun _ _ => ⟨rfl, rfl, rfl⟩, fun _ hh => by cases hh⟩
      · exact ⟨_, _, _, fun hh => absurd h hh, fun _ hh => by (cases hh), fun _ _ => ⟨rfl, rfl, rfl⟩⟩
    · exact ⟨_, _, _, fun _ => ⟨rfl, rfl, rfl⟩, fun hh => absurd hh h, fun hh => absurd hh h⟩
  obtain ⟨E2, hB1, hB2⟩ : ∃ (E2 : Int), (F2 ≠ 0 → E2 = F2) ∧ (F2 = 0 → firstE [unlessE G 8, unlessE B 22] = E2) := by
    by_cases h : F2 = 0
    · exact ⟨_, fun hh => absurd h hh, fun _ => rfl⟩
    · exact ⟨_, fun _ => rfl, fun hh => absurd hh h⟩
  obtain ⟨N, hN1, hN2⟩ : ∃ (N : Int), (E2 ≠ 0 → N = 0) ∧ (E2 = 0 → N = szT ts m) := by
    by_cases h : E2 = 0
    · exact ⟨_, fun hh => absurd h hh, fun _ => rfl⟩
    · exact ⟨_, fun _ => rfl, fun hh => absurd hh h⟩
  have HOF1 : Hid (firstE [openE step xs ws, timesE m ts] = F1) := Lib.hid (by rw [hoE, htE]; exact hF1)
  have HOF2 : Hid (firstE [openE step xs ws, timesE m ts, bandE l] = F2) := Lib.hid (by rw [hoE, htE, hbE]; exact hF2)
  have HRE := Lib.hid hrE
  have HWE := Lib.hid hwE
  have HTE := Lib.hid htE
  have HBE := Lib.hid hbE
  have HOE := Lib.hid hoE
  have HOP := Lib.hid hop
  have HF1 := Lib.hid hF1
  have HF2 := Lib.hid hF2
  have HG := Lib.hid hG
  have HB := Lib.hid hB
  have HA1 := Lib.hid hA1
  have HA2 := Lib.hid hA2
  have HA3 := Lib.hid hA3
  have HB1 := Lib.hid hB1
  have HB2 := Lib.hid hB2
  have HN1 := Lib.hid hN1
  have HN2 := Lib.hid hN2
  clear hrE hwE htE hbE hoE hop hF1 hF2 hG hB hA1 hA2 hA3 hB1 hB2 hN1 hN2 hfw
  go_wp2_with fail
  refine Calmly.wp_region_mix 14 (.fl 0 <| .fl 2 <| .fl 3 <| .fl 5 <| .fl 6 <| .alt 1 (.alt 4 (.alt 7 (.alt 8 (.fl 9 <| .fl 10 <| .fl 11 <| .eff 12 <| .eff 13 <| .tail [14]) (.eff 12 (.eff 8 <| .fl 9 <| .fl 10 <| .fl 11 <| .eff 13 <| .tail [14]))) (.eff 12 (.eff 7 <| .eff 8 <| .fl 9 <| .fl 10 <| .fl 11 <| .eff 13 <| .tail [14]))) (.eff 12 (.eff 4 <| .eff 7 <| .eff 8 <| .fl 9 <| .fl 10 <| .fl 11 <| .eff 13 <| .tail [14]))) (.eff 12 (.eff 1 <| .eff 4 <| .eff 7 <| .eff 8 <| .fl 9 <| .fl 10 <| .fl 11 <| .eff 13 <| .tail [14]))) (by kernel_rfl) (by kernel_rfl) ?_
  have hs := (Below.refl w2.heap.size w2).drew
  replace x1 := blk_keep x1 hs; replace x2 := blk_keep x2 hs; (try replace pA := blk_keep pA hs); replace BW := BW.trans (hs.mono BW.size); (try replace sY := sY.keep hs); clear hs; (try clear f0 f1 f2 f3); have f0 := cell_block x1 0; have f1 := cell_block x1 1; have f2 := cell_block x2 0; have f3 := cell_block x2 1; (try clear zA0 zA1); (try have zA0 := cell_block pA 0); (try have zA1 := cell_block pA 1)
  generalize w2.drew = w5 at x1 x2 BW f0 f1 f2 f3 ⊢
  have hk := Below.refl w5.heap.size w5
  go_wp2_with (first | ((with_reducible refine Calmly.is_fl ?_); refine Calmly.mix_fl rfl ?_ (fun _ _ => ?_); (first | exact .move _ | exact .load _ _ | exact .fieldAddr _ _ _ (by kernel_rfl) | exact .assign _ | exact .binOp _ _ _ _ _ rfl | exact .indexAddr _ _ _ | exact .len _ _ (by kernel_rfl) | exact .field _ _ _ | exact .extract _ _ | exact .pick _ _ _ | exact .build _ _ | exact .slice _ _ _ _ _ | exact .unOp _ _ _ rfl | exact .index _ _ _ | exact .max _ _ _ rfl rfl | exact .min _ _ _ rfl rfl)) | ((with_reducible refine Calmly.is_gl ?_); refine Calmly.mix_gl rfl rfl rfl ?_; first | ((first | with_reducible refine Calmly.gl_tt ?_ (fun _ _ => ?_) | with_reducible refine Calmly.gl_ff ?_ (fun _ _ => ?_)); (first | exact .move _ | exact .load _ _ | exact .fieldAddr _ _ _ (by kernel_rfl) | exact .assign _ | exact .binOp _ _ _ _ _ rfl | exact .indexAddr _ _ _ | exact .len _ _ (by kernel_rfl) | exact .field _ _ _ | exact .extract _ _ | exact .pick _ _ _ | exact .build _ _ | exact .slice _ _ _ _ _ | exact .unOp _ _ _ rfl | exact .index _ _ _ | exact .max _ _ _ rfl rfl | exact .min _ _ _ rfl rfl)) | with_reducible refine Calmly.gl_tf (fun _ _ => ?_) | with_reducible refine Calmly.gl_ft (fun _ _ => ?_)) | ((with_reducible refine Calmly.is_eff ?_); refine Calmly.mix_eff rfl (fun _ _ => ?_)) | ((with_reducible refine Calmly.is_gf ?_); refine Calmly.mix_gf rfl rfl rfl ?_; first | with_reducible refine Calmly.gf_tt (fun _ _ => ?_) | with_reducible refine Calmly.gf_ff (fun _ _ => ?_) | with_reducible refine Calmly.gf_tf (kept_of hk) (fun _ _ => ?_) | with_reducible refine Calmly.gf_ft (kept_of hk) (fun _ _ => ?_)) | ((with_reducible refine Calmly.is_kept ?_); refine ⟨kept_of hk, ?_⟩) | (with_reducible refine Calmly.mix_alt ?_ ?_) | (go_at_call 18; refine (copy_any step a n c xs _ ((h1.keep BW).keep hk) (by omega)).mono ?_; rintro r w' ⟨a1, k1, rfl, s1, hs⟩; replace hk := step_of hk hs; (try replace pA := blk_keep pA hs); clear hs) | (go_at_call 19; refine (copyLists_any b m d ws _ ((h2.keep BW).keep hk) (by omega) HFW.out).mono ?_; rintro r w' ⟨b1, d1, rfl, sW, hs⟩; replace hk := step_of hk hs; replace s1 := s1.keep hs; (try replace pA := blk_keep pA hs); clear hs) | (go_at_call 57; refine (copyInts_any t p e ts _ ((h3.keep BW).keep hk) (by omega)).mono ?_; rintro r w' ⟨t1, e1, rfl, oT, hs⟩; have sT := oT.si; replace hk := step_of hk hs; replace s1 := s1.keep hs; replace sW := sW.keep hs; (try replace pA := blk_keep pA hs); clear hs oT) | (go_at_call 56; refine (Added_any step a1 _ k1 xs b1 m d1 ws t1 p e1 ts _ s1 sW sT F1 G E1 S1 X1 HOF1.out HG.out HA1.out HA2.out HA3.out).mono ?_; rintro r w' ⟨aY, nY, cY, rfl, sY, iY, hs⟩; replace hk := step_of hk hs; clear s1 sW sT; (try replace pA := blk_keep pA hs); clear hs; (try have zA0 := cell_block pA 0); (try have zA1 := cell_block pA 1); (try have zA2 := frozen_block pA 0); (try have zA3 := frozen_block pA 1)) | (refine kept_setW hk hAge pA sY iY (by decide) (fun hk' h1' h2' => ?_); replace hk := hk'; replace pA := h1'; replace sY := h2'; clear hk' h1' h2' iY zA0 zA1 zA2 zA3; generalize World.setCell (World.setCell _ _ _) _ _ = W' at hk pA sY ⊢) | (have hAge := hk.size; refine kept_allocW hk (fun hs hk' hblk => ?_); (try replace s1 := s1.keep hs); (try replace sW := sW.keep hs); (try replace sT := sT.keep hs); (try replace sY := sY.keep hs); (try replace iY := iY.keep hs); (first | generalize World.alloc _ _ = W' at hs hk' hblk s1 sW sT ⊢ | generalize World.alloc _ _ = W' at hs hk' hblk s1 sW ⊢ | generalize World.alloc _ _ = W' at hs hk' hblk s1 ⊢ | generalize World.alloc _ _ = W' at hs hk' hblk sY iY ⊢ | generalize World.alloc _ _ = W' at hs hk' hblk ⊢); replace hk := hk'; clear hk'; have pA := hblk; clear hs hblk; have zA0 := cell_block pA 0; have zA1 := cell_block pA 1; have zA2 := frozen_block pA 0; have zA3 := frozen_block pA 1))
  all_goals
    as_aux_lemma =>
    go_wp2_with (first | ((with_reducible refine Calmly.is_fl ?_); refine Calmly.mix_fl rfl ?_ (fun _ _ => ?_); (first | exact .move _ | exact .load _ _ | exact .fieldAddr _ _ _ (by kernel_rfl) | exact .assign _ | exact .binOp _ _ _ _ _ rfl | exact .indexAddr _ _ _ | exact .len _ _ (by kernel_rfl) | exact .field _ _ _ | exact .extract _ _ | exact .pick _ _ _ | exact .build _ _ | exact .slice _ _ _ _ _ | exact .unOp _ _ _ rfl | exact .index _ _ _ | exact .max _ _ _ rfl rfl | exact .min _ _ _ rfl rfl)) | ((with_reducible refine Calmly.is_gl ?_); refine Calmly.mix_gl rfl rfl rfl ?_; first | ((first | with_reducible refine Calmly.gl_tt ?_ (fun _ _ => ?_) | with_reducible refine Calmly.gl_ff ?_ (fun _ _ => ?_)); (first | exact .move _ | exact .load _ _ | exact .fieldAddr _ _ _ (by kernel_rfl) | exact .assign _ | exact .binOp _ _ _ _ _ rfl | exact .indexAddr _ _ _ | exact .len _ _ (by kernel_rfl) | exact .field _ _ _ | exact .extract _ _ | exact .pick _ _ _ | exact .build _ _ | exact .slice _ _ _ _ _ | exact .unOp _ _ _ rfl | exact .index _ _ _ | exact .max _ _ _ rfl rfl | exact .min _ _ _ rfl rfl)) | with_reducible refine Calmly.gl_tf (fun _ _ => ?_) | with_reducible refine Calmly.gl_ft (fun _ _ => ?_)) | ((with_reducible refine Calmly.is_eff ?_); refine Calmly.mix_eff rfl (fun _ _ => ?_)) | ((with_reducible refine Calmly.is_gf ?_); refine Calmly.mix_gf rfl rfl rfl ?_; first | with_reducible refine Calmly.gf_tt (fun _ _ => ?_) | with_reducible refine Calmly.gf_ff (fun _ _ => ?_) | with_reducible refine Calmly.gf_tf (kept_of hk) (fun _ _ => ?_) | with_reducible refine Calmly.gf_ft (kept_of hk) (fun _ _ => ?_)) | ((with_reducible refine Calmly.is_tail ?_); first | refine Calmly.mix_tail_nil ?_ | refine Calmly.mix_tail rfl (fun _ _ => ?_)) | ((with_reducible refine Calmly.is_kept ?_); refine ⟨kept_of hk, ?_⟩) | (with_reducible refine Calmly.mix_alt ?_ ?_))
    replace x1 := blk_keep x1 hk
    replace x2 := blk_keep x2 hk
    replace BW := BW.trans (hk.mono BW.size)
    clear hk hAge
    refine Calmly.wp_region_mix 11 (.fl 0 <| .fl 2 <| .fl 4 <| .eff 1 <| .eff 3 <| .eff 5 <| .eff 6 <| .fl 7 <| .fl 8 <| .fl 9 <| .fl 10 <| .tail [11]) (by kernel_rfl) (by kernel_rfl) ?_
    have hs := (Below.refl W'.heap.size W').drew
    replace x1 := blk_keep x1 hs; replace x2 := blk_keep x2 hs; (try replace pA := blk_keep pA hs); replace BW := BW.trans (hs.mono BW.size); (try replace sY := sY.keep hs); clear hs; (try clear f0 f1 f2 f3); have f0 := cell_block x1 0; have f1 := cell_block x1 1; have f2 := cell_block x2 0; have f3 := cell_block x2 1; (try clear zA0 zA1); (try have zA0 := cell_block pA 0); (try have zA1 := cell_block pA 1)
    generalize W'.drew = w6 at x1 x2 pA BW sY f0 f1 f2 f3 zA0 zA1 ⊢
    have hk := Below.refl w6.heap.size w6
    have M0 := Lib.hid True.intro
    go_wp2_with (first | ((with_reducible refine Calmly.is_fl ?_); refine Calmly.mix_fl rfl ?_ (fun _ _ => ?_); (first | exact .move _ | exact .load _ _ | exact .fieldAddr _ _ _ (by kernel_rfl) | exact .assign _ | exact .binOp _ _ _ _ _ rfl | exact .indexAddr _ _ _ | exact .len _ _ (by kernel_rfl) | exact .field _ _ _ | exact .extract _ _ | exact .pick _ _ _ | exact .build _ _ | exact .slice _ _ _ _ _ | exact .unOp _ _ _ rfl | exact .index _ _ _ | exact .max _ _ _ rfl rfl | exact .min _ _ _ rfl rfl)) | ((with_reducible refine Calmly.is_gl ?_); refine Calmly.mix_gl rfl rfl rfl ?_; first | ((first | with_reducible refine Calmly.gl_tt ?_ (fun _ _ => ?_) | with_reducible refine Calmly.gl_ff ?_ (fun _ _ => ?_)); (first | exact .move _ | exact .load _ _ | exact .fieldAddr _ _ _ (by kernel_rfl) | exact .assign _ | exact .binOp _ _ _ _ _ rfl | exact .indexAddr _ _ _ | exact .len _ _ (by kernel_rfl) | exact .field _ _ _ | exact .extract _ _ | exact .pick _ _ _ | exact .build _ _ | exact .slice _ _ _ _ _ | exact .unOp _ _ _ rfl | exact .index _ _ _ | exact .max _ _ _ rfl rfl | exact .min _ _ _ rfl rfl)) | with_reducible refine Calmly.gl_tf (fun _ _ => ?_) | with_reducible refine Calmly.gl_ft (fun _ _ => ?_)) | ((with_reducible refine Calmly.is_eff ?_); refine Calmly.mix_eff rfl (fun _ _ => ?_)) | ((with_reducible refine Calmly.is_gf ?_); refine Calmly.mix_gf rfl rfl rfl ?_; first | with_reducible refine Calmly.gf_tt (fun _ _ => ?_) | with_reducible refine Calmly.gf_ff (fun _ _ => ?_) | with_reducible refine Calmly.gf_tf (kept_of hk) (fun _ _ => ?_) | with_reducible refine Calmly.gf_ft (kept_of hk) (fun _ _ => ?_)) | ((with_reducible refine Calmly.is_tail ?_); first | refine Calmly.mix_tail_nil ?_ | refine Calmly.mix_tail rfl (fun _ _ => ?_)) | ((with_reducible refine Calmly.is_kept ?_); refine ⟨kept_of hk, ?_⟩) | (with_reducible refine Calmly.mix_alt ?_ ?_) | (have _ := M0.out; clear M0; go_at_call 18; refine (copy_any step a n c xs _ ((h1.keep BW).keep hk) (by omega)).mono ?_; rintro r u1 ⟨a1, k1, rfl, s1, hs⟩; replace hk := step_of hk hs; clear hs) | (go_at_call 59; refine (copyMatch_any b m d ws t p e ts _ ((h2.keep BW).keep hk) ((h3.keep BW).keep hk) (by omega) HFW.out (by omega)).mono ?_; rintro r u2 ⟨b1, d1, t1, e1, rfl, sW, sT, hs⟩; replace hk := step_of hk hs; replace s1 := s1.keep hs; clear hs) | (go_at_call 20; refine (copyBand_any z q y l _ ((h4.keep BW).keep hk) (by omega)).mono ?_; rintro r u3 ⟨z1, y1, rfl, sB, hs⟩; replace hk := step_of hk hs; replace s1 := s1.keep hs; replace sW := sW.keep hs; replace sT := sT.keep hs; clear hs) | (go_at_call 58; refine (CheckMatch_any step a1 _ k1 xs b1 m d1 ws t1 p e1 ts z1 q y1 l _ s1 sW sT sB F2 G B E2 N HOF2.out HG.out HB.out HB1.out HB2.out HN1.out HN2.out).mono ?_; rintro r w7 ⟨rfl, hs⟩; replace hk := step_of hk hs; clear s1 sW sT sB hs; replace x1 := blk_keep x1 hk; replace x2 := blk_keep x2 hk; replace pA := blk_keep pA hk; (try clear f0 f1 f2 f3); have f0 := cell_block x1 0; have f1 := cell_block x1 1; have f2 := cell_block x2 0; have f3 := cell_block x2 1; (try clear zA0 zA1); (try have zA0 := cell_block pA 0); (try have zA1 := cell_block pA 1)))
    replace BW := BW.trans (hk.mono BW.size)
    replace sY := sY.keep hk
    clear hk
    refine (rRecordErr_any step a n c xs _ (h1.keep BW) rE HRE.out).mono ?_
    rintro r w8 ⟨rfl, hs⟩
    replace x1 := blk_keep x1 hs; replace x2 := blk_keep x2 hs; (try replace pA := blk_keep pA hs); replace BW := BW.trans (hs.mono BW.size); (try replace sY := sY.keep hs); clear hs; (try clear f0 f1 f2 f3); have f0 := cell_block x1 0; have f1 := cell_block x1 1; have f2 := cell_block x2 0; have f3 := cell_block x2 1; (try clear zA0 zA1); (try have zA0 := cell_block pA 0); (try have zA1 := cell_block pA 1)
    by_cases hz : rE = 0
    case neg =>
      have hoo : oE = rE := by rw [HOP.out, if_neg hz]
      have hFe : F1 = rE := by rw [← HF1.out, hoo, firstE, if_neg hz]
      have hFf : F2 = rE := by rw [← HF2.out, hoo, firstE, if_neg hz]
      clear hoo
      have hAA := HA1.out (by rw [hFe]; exact hz)
      have hE2 := HB1.out (by rw [hFf]; exact hz)
      have hNN := HN1.out (by rw [hE2, hFf]; exact hz)
      obtain ⟨u1, u2, u3⟩ := hAA
      rw [hFe] at u1
      rw [hFf] at hE2
      have b1 : (rE == 0) = false := by simpa using hz
      have b2 : (rE != 0) = true := by simpa using hz
      subst u1 u2 u3 hE2 hNN
      clear hz hFe hFf
      obtain rfl : nY = 0 := sY.len
      go_wp2_with fail
      refine (same_any 0 0 aY none 0 0 cY 0 [] [] _ sY (Sl.nil _ 1) true (by simp)).mono ?_
      rintro r w9 ⟨rfl, hs⟩
      go_wp2_with fail
      go_ret
      exact ⟨rfl, BW.trans (hs.mono BW.size)⟩
    subst hz
    have hoo : oE = wE := by rw [HOP.out, if_pos rfl]
    obtain ⟨r1, r2, r3, r4, r5⟩ := recF_ok HRE.out
    have hn24 : n ≤ 24 := by omega
    have hn0 : 0 < n := by omega
    have H5 := Lib.hid r5
    clear r1 r2 r3 r4 r5
    subst hoo
    go_wp2_with fail
    refine (rWavesErr_any n b m d ws _ (h2.keep BW) hn24 oE HWE.out).mono ?_
    rintro r w9 ⟨rfl, hs⟩
    replace x1 := blk_keep x1 hs; replace x2 := blk_keep x2 hs; (try replace pA := blk_keep pA hs); replace BW := BW.trans (hs.mono BW.size); (try replace sY := sY.keep hs); clear hs; (try clear f0 f1 f2 f3); have f0 := cell_block x1 0; have f1 := cell_block x1 1; have f2 := cell_block x2 0; have f3 := cell_block x2 1; (try clear zA0 zA1); (try have zA0 := cell_block pA 0); (try have zA1 := cell_block pA 1)
    by_cases hz : oE = 0
    case neg =>
      have hFe : F1 = oE := by rw [← HF1.out, firstE, if_neg hz]
      have hFf : F2 = oE := by rw [← HF2.out, firstE, if_neg hz]
      have hAA := HA1.out (by rw [hFe]; exact hz)
      have hE2 := HB1.out (by rw [hFf]; exact hz)
      have hNN := HN1.out (by rw [hE2, hFf]; exact hz)
      obtain ⟨u1, u2, u3⟩ := hAA
      rw [hFe] at u1
      rw [hFf] at hE2
      have b1 : (oE == 0) = false := by simpa using hz
      have b2 : (oE != 0) = true := by simpa using hz
      subst u1 u2 u3 hE2 hNN
      clear hz hFe hFf
      obtain rfl : nY = 0 := sY.len
      go_wp2_with fail
      refine (same_any 0 0 aY none 0 0 cY 0 [] [] _ sY (Sl.nil _ 1) true (by simp)).mono ?_
      rintro r w9 ⟨rfl, hs⟩
      go_wp2_with fail
      go_ret
      exact ⟨rfl, BW.trans (hs.mono BW.size)⟩
    subst hz
    go_wp2_with fail
    refine (rTimesErr_any b m d t p e ts _ (h3.keep BW) c2 m2 tE HTE.out).mono ?_
    rintro r w10 ⟨rfl, rfl⟩
    by_cases hz : tE = 0
    case neg =>
      have hFe : F1 = tE := by rw [← HF1.out, firstE, if_pos rfl, firstE, if_neg hz]
      have hFf : F2 = tE := by rw [← HF2.out, firstE, if_pos rfl, firstE, if_neg hz]
      have hAA := HA1.out (by rw [hFe]; exact hz)
      have hE2 := HB1.out (by rw [hFf]; exact hz)
      have hNN := HN1.out (by rw [hE2, hFf]; exact hz)
      obtain ⟨u1, u2, u3⟩ := hAA
      rw [hFe] at u1
      rw [hFf] at hE2
      have b1 : (tE == 0) = false := by simpa using hz
      have b2 : (tE != 0) = true := by simpa using hz
      subst u1 u2 u3 hE2 hNN
      clear hz hFe hFf
      obtain rfl : nY = 0 := sY.len
      go_wp2_with fail
      refine (same_any 0 0 aY none 0 0 cY 0 [] [] _ sY (Sl.nil _ 1) true (by simp)).mono ?_
      rintro r w9 ⟨rfl, hs⟩
      go_wp2_with fail
      go_ret
      exact ⟨rfl, BW.trans (hs.mono BW.size)⟩
    subst hz
    have hFe : F1 = 0 := by rw [← HF1.out]; rfl
    have hFb : F2 = bE := by
      rw [← HF2.out, firstE, if_pos rfl, firstE, if_pos rfl, firstE]
      split
      · rename_i h; rw [h]; rfl
      · rfl
    obtain ⟨a1, a2, a3, a4, a5, a6, a7, a8⟩ := add_ok (show ws.length = m by omega) HOE.out HTE.out
    have hpm : p = m := by omega
    have hxn : xs.length = n := by omega
    have H6 : Hid (∀ i, i < ws.length → (ws[i]?.getD []).length = n) := Lib.hid (by rw [hxn] at a5; exact a5)
    have H7 := Lib.hid a6
    have H8 := Lib.hid a8
    clear a1 a2 a3 a4 a5 a6 a7 a8
    subst hpm
    go_wp2_with fail
    refine (rAdded_any a n c xs b p d ws t e ts _ (h1.keep BW) (h2.keep BW) (h3.keep BW) hn0 hn hm5 H5.out H6.out H7.out H8.out G HG.out).mono ?_
    rintro r w11 ⟨aL, nL, cL, rfl, hS, cL1, cL2, hs⟩
    replace x1 := blk_keep x1 hs; replace x2 := blk_keep x2 hs; (try replace pA := blk_keep pA hs); replace BW := BW.trans (hs.mono BW.size); (try replace sY := sY.keep hs); clear hs; (try clear f0 f1 f2 f3); have f0 := cell_block x1 0; have f1 := cell_block x1 1; have f2 := cell_block x2 0; have f3 := cell_block x2 1; (try clear zA0 zA1); (try have zA0 := cell_block pA 0); (try have zA1 := cell_block pA 1)
    cases G
    · obtain ⟨u1, u2, u3⟩ := HA2.out hFe rfl
      subst u1 u2 u3
      obtain rfl : nY = 0 := sY.len
      go_wp2_with fail
      refine Calmly.wp_region_mix 26 (.fl 0 <| .fl 1 <| .fl 2 <| .gl 3 <| .gl 4 <| .gl 5 <| .gl 6 <| .gl 7 <| .gf 8 <| .gl 9 <| .gl 10 <| .fl 11 <| .fl 12 <| .gl 13 <| .gl 14 <| .gl 15 <| .gl 16 <| .gl 17 <| .gl 18 <| .gl 19 <| .gl 20 <| .gf 21 <| .gf 22 <| .gl 23 <| .gl 24 <| .gl 25 <| .tail [26]) (by kernel_rfl) (by kernel_rfl) ?_
      have hs := (Below.refl w11.heap.size w11).drew
      replace x1 := blk_keep x1 hs; replace x2 := blk_keep x2 hs; (try replace pA := blk_keep pA hs); replace BW := BW.trans (hs.mono BW.size); (try replace sY := sY.keep hs); clear hs; (try clear f0 f1 f2 f3); have f0 := cell_block x1 0; have f1 := cell_block x1 1; have f2 := cell_block x2 0; have f3 := cell_block x2 1; (try clear zA0 zA1); (try have zA0 := cell_block pA 0); (try have zA1 := cell_block pA 1)
      generalize w11.drew = w12 at x1 x2 pA BW sY f0 f1 f2 f3 zA0 zA1 ⊢
      have hk := Below.refl w12.heap.size w12
      go_wp2_with (first | ((with_reducible refine Calmly.is_fl ?_); refine Calmly.mix_fl rfl ?_ (fun _ _ => ?_); (first | exact .move _ | exact .load _ _ | exact .fieldAddr _ _ _ (by kernel_rfl) | exact .assign _ | exact .binOp _ _ _ _ _ rfl | exact .indexAddr _ _ _ | exact .len _ _ (by kernel_rfl) | exact .field _ _ _ | exact .extract _ _ | exact .pick _ _ _ | exact .build _ _ | exact .slice _ _ _ _ _ | exact .unOp _ _ _ rfl | exact .index _ _ _ | exact .max _ _ _ rfl rfl | exact .min _ _ _ rfl rfl)) | ((with_reducible refine Calmly.is_gl ?_); refine Calmly.mix_gl rfl rfl rfl ?_; first | ((first | with_reducible refine Calmly.gl_tt ?_ (fun _ _ => ?_) | with_reducible refine Calmly.gl_ff ?_ (fun _ _ => ?_)); (first | exact .move _ | exact .load _ _ | exact .fieldAddr _ _ _ (by kernel_rfl) | exact .assign _ | exact .binOp _ _ _ _ _ rfl | exact .indexAddr _ _ _ | exact .len _ _ (by kernel_rfl) | exact .field _ _ _ | exact .extract _ _ | exact .pick _ _ _ | exact .build _ _ | exact .slice _ _ _ _ _ | exact .unOp _ _ _ rfl | exact .index _ _ _ | exact .max _ _ _ rfl rfl | exact .min _ _ _ rfl rfl)) | with_reducible refine Calmly.gl_tf (fun _ _ => ?_) | with_reducible refine Calmly.gl_ft (fun _ _ => ?_)) | ((with_reducible refine Calmly.is_eff ?_); refine Calmly.mix_eff rfl (fun _ _ => ?_)) | ((with_reducible refine Calmly.is_gf ?_); refine Calmly.mix_gf rfl rfl rfl ?_; first | with_reducible refine Calmly.gf_tt (fun _ _ => ?_) | with_reducible refine Calmly.gf_ff (fun _ _ => ?_) | with_reducible refine Calmly.gf_tf (kept_of hk) (fun _ _ => ?_) | with_reducible refine Calmly.gf_ft (kept_of hk) (fun _ _ => ?_)) | ((with_reducible refine Calmly.is_tail ?_); first | refine Calmly.mix_tail_nil ?_ | refine Calmly.mix_tail rfl (fun _ _ => ?_)) | ((with_reducible refine Calmly.is_kept ?_); refine ⟨kept_of hk, ?_⟩) | (with_reducible refine Calmly.mix_alt ?_ ?_) | ((with_reducible refine Calmly.is_gl ?_); refine Calmly.mix_glu rfl rfl rfl (fun _ _ => ?_)) | ((with_reducible refine Calmly.is_gf ?_); refine Calmly.mix_gfu rfl rfl rfl (kept_of hk) (fun _ _ => ?_)) | (go_at_call 49; refine (same_any 0 0 aY none 0 0 cY 0 [] [] _ (sY.keep hk) (Sl.nil _ 1) true (by simp)).mono ?_; rintro r w13 ⟨rfl, hs⟩; replace hk := step_of hk hs; clear hs))
      replace BW := BW.trans (hk.mono BW.size)
      clear hk f0 f1 f2 f3 zA0 zA1 x1 x2 pA sY
      refine (rBandErr_any z q y l _ (h4.keep BW) bE HBE.out).mono ?_
      rintro r w14 ⟨rfl, hs⟩
      replace BW := BW.trans (hs.mono BW.size)
      clear hs
      subst hFb
      by_cases hz : F2 = 0
      case neg =>
        have hE2 := HB1.out hz
        have hNN := HN1.out (by rw [hE2]; exact hz)
        have b2 : (F2 != 0) = true := by simpa using hz
        subst hE2 hNN
        clear hz
        go_wp2_with fail
        go_ret
        exact ⟨rfl, BW⟩
      have hE2 : E2 = 8 := by rw [← HB2.out hz]; rfl
      have hNN := HN1.out (by rw [hE2]; decide)
      subst hz hE2 hNN
      go_wp2_with fail
      go_ret
      exact ⟨rfl, BW⟩
    · obtain ⟨u1, u2, u3⟩ := HA3.out hFe rfl
      have sL := hS rfl
      subst u1
      rw [u2] at pA zA0
      rw [u3] at sY
      obtain rfl : n = nL := by have := sL.len; rw [adTo_len] at this; omega
      have hG2 : ∀ j : Nat, -1000 ≤ (adTo xs ws ts p)[j]?.getD 0 ∧ (adTo xs ws ts p)[j]?.getD 0 ≤ 1000 := by
        intro j
        rcases Nat.lt_or_ge j n with hj | hj
        · exact (gsT_le _ 1000 (by omega) n).1 (of_decide_eq_true HG.out) j hj
        · rw [List.getElem?_eq_none (by rw [adTo_len]; omega)]
          simp
      have HG2 := Lib.hid hG2
      have cY1 := sY.cap
      have cY2 := sY.max
      clear hS u2 u3 HA1 HA2 HA3 hG2
      go_wp2_with fail
      refine Calmly.wp_region_mix 26 (.fl 0 <| .fl 1 <| .fl 2 <| .gl 3 <| .gl 4 <| .gl 5 <| .gl 6 <| .gl 7 <| .gf 8 <| .gl 9 <| .gl 10 <| .fl 11 <| .fl 12 <| .gl 13 <| .gl 14 <| .gl 15 <| .gl 16 <| .gl 17 <| .gl 18 <| .gl 19 <| .gl 20 <| .gf 21 <| .gf 22 <| .gl 23 <| .gl 24 <| .gl 25 <| .tail [26]) (by kernel_rfl) (by kernel_rfl) ?_
      have hs := (Below.refl w11.heap.size w11).drew
      replace sL := sL.keep hs
      replace x1 := blk_keep x1 hs; replace x2 := blk_keep x2 hs; (try replace pA := blk_keep pA hs); replace BW := BW.trans (hs.mono BW.size); (try replace sY := sY.keep hs); clear hs; (try clear f0 f1 f2 f3); have f0 := cell_block x1 0; have f1 := cell_block x1 1; have f2 := cell_block x2 0; have f3 := cell_block x2 1; (try clear zA0 zA1); (try have zA0 := cell_block pA 0); (try have zA1 := cell_block pA 1)
      generalize w11.drew = w12 at x1 x2 pA BW sY sL f0 f1 f2 f3 zA0 zA1 ⊢
      have hk := Below.refl w12.heap.size w12
      go_wp2_with (first | ((with_reducible refine Calmly.is_fl ?_); refine Calmly.mix_fl rfl ?_ (fun _ _ => ?_); (first | exact .move _ | exact .load _ _ | exact .fieldAddr _ _ _ (by kernel_rfl) | exact .assign _ | exact .binOp _ _ _ _ _ rfl | exact .indexAddr _ _ _ | exact .len _ _ (by kernel_rfl) | exact .field _ _ _ | exact .extract _ _ | exact .pick _ _ _ | exact .build _ _ | exact .slice _ _ _ _ _ | exact .unOp _ _ _ rfl | exact .index _ _ _ | exact .max _ _ _ rfl rfl | exact .min _ _ _ rfl rfl)) | ((with_reducible refine Calmly.is_gl ?_); refine Calmly.mix_gl rfl rfl rfl ?_; first | ((first | with_reducible refine Calmly.gl_tt ?_ (fun _ _ => ?_) | with_reducible refine Calmly.gl_ff ?_ (fun _ _ => ?_)); (first | exact .move _ | exact .load _ _ | exact .fieldAddr _ _ _ (by kernel_rfl) | exact .assign _ | exact .binOp _ _ _ _ _ rfl | exact .indexAddr _ _ _ | exact .len _ _ (by kernel_rfl) | exact .field _ _ _ | exact .extract _ _ | exact .pick _ _ _ | exact .build _ _ | exact .slice _ _ _ _ _ | exact .unOp _ _ _ rfl | exact .index _ _ _ | exact .max _ _ _ rfl rfl | exact .min _ _ _ rfl rfl)) | with_reducible refine Calmly.gl_tf (fun _ _ => ?_) | with_reducible refine Calmly.gl_ft (fun _ _ => ?_)) | ((with_reducible refine Calmly.is_eff ?_); refine Calmly.mix_eff rfl (fun _ _ => ?_)) | ((with_reducible refine Calmly.is_gf ?_); refine Calmly.mix_gf rfl rfl rfl ?_; first | with_reducible refine Calmly.gf_tt (fun _ _ => ?_) | with_reducible refine Calmly.gf_ff (fun _ _ => ?_) | with_reducible refine Calmly.gf_tf (kept_of hk) (fun _ _ => ?_) | with_reducible refine Calmly.gf_ft (kept_of hk) (fun _ _ => ?_)) | ((with_reducible refine Calmly.is_tail ?_); first | refine Calmly.mix_tail_nil ?_ | refine Calmly.mix_tail rfl (fun _ _ => ?_)) | ((with_reducible refine Calmly.is_kept ?_); refine ⟨kept_of hk, ?_⟩) | (with_reducible refine Calmly.mix_alt ?_ ?_) | ((with_reducible refine Calmly.is_gl ?_); refine Calmly.mix_glu rfl rfl rfl (fun _ _ => ?_)) | ((with_reducible refine Calmly.is_gf ?_); refine Calmly.mix_gfu rfl rfl rfl (kept_of hk) (fun _ _ => ?_)) | (go_at_call 44; refine (with_any step a n c aL n cL (adTo xs ws ts p) _ (sL.keep hk) (by omega)).mono ?_; rintro r w13 ⟨aW, cW, rfl, sW, hs⟩; replace hk := step_of hk hs; clear hs) | (go_at_call 49; refine (same_any step step aY aW nY n cY cW (adTo xs ws ts p) (adTo xs ws ts p) _ (sY.keep hk) sW true (by simp)).mono ?_; rintro r w14 ⟨rfl, hs⟩; replace hk := step_of hk hs; clear hs))
      replace BW := BW.trans (hk.mono BW.size)
      replace sL := sL.keep hk
      replace x2 := blk_keep x2 hk
      clear hk f0 f1 f2 f3 zA0 zA1 x1 pA sY
      refine (rBandErr_any z q y l _ (h4.keep BW) bE HBE.out).mono ?_
      rintro r w15 ⟨rfl, hs⟩
      replace BW := BW.trans (hs.mono BW.size)
      replace sL := sL.keep hs
      replace x2 := blk_keep x2 hs
      clear hs
      subst hFb
      by_cases hz : F2 = 0
      case neg =>
        have hE2 := HB1.out hz
        have hNN := HN1.out (by rw [hE2]; exact hz)
        have b2 : (F2 != 0) = true := by simpa using hz
        subst hE2 hNN
        clear hz
        go_wp2_with fail
        go_ret
        exact ⟨rfl, BW⟩
      subst hz
      obtain ⟨r1, r2, r3⟩ := bandE_ok HBE.out
      have hq1 : q ≤ 1000 := by omega
      have hql : l.length = q := by omega
      have HOB := Lib.hid (fun k hk => (bndE_ok (r3 k hk)).1)
      clear r1 r2 r3
      subst hql
      go_wp2_with fail
      refine (rOutside_any aL n cL _ z _ y l _ sL (h4.keep BW) (by omega) HG2.out hq1 HOB.out).mono ?_
      rintro r w16 ⟨aO, nO, cO, rfl, sO, hs⟩
      replace BW := BW.trans (hs.mono BW.size)
      replace x2 := blk_keep x2 hs
      have lO := sO.len
      have mO := sO.max
      have cO' := sO.cap
      clear hs sO sL
      have f2 := cell_block x2 0
      have f3 := cell_block x2 1
      cases B
      · have hE2 : E2 = 22 := by rw [← HB2.out trivial]; rfl
        have hNN := HN1.out (by rw [hE2]; decide)
        have hO : 0 < nO := by
          rw [lO]
          have := HB.out
          cases ho : outT (adTo xs ws ts p) l l.length with
          | nil => rw [ho] at this; cases this
          | cons v vs => simp
        have i7 : (0 : Int) < (nO : Int) := by omega
        subst hE2 hNN
        clear lO
        go_wp2_with fail
        go_ret
        exact ⟨rfl, BW⟩
      · have hE2 : E2 = 0 := by rw [← HB2.out trivial]; rfl
        have hNN := HN2.out hE2
        have hO : nO = 0 := by
          rw [lO]
          have := HB.out
          cases ho : outT (adTo xs ws ts p) l l.length with
          | nil => rfl
          | cons v vs => rw [ho] at this; cases this
        subst hE2 hNN hO
        clear lO
        go_wp2_with fail
        refine (rSizes_any t p e ts _ (h3.keep BW) (by omega) (fun j => by have := H8.out j; omega)).mono ?_
        rintro r w17 ⟨rfl, rfl⟩
        go_wp2_with fail
        go_ret
        exact ⟨rfl, BW⟩
end Go.Proofs.Ytiibdndchkbefaa
