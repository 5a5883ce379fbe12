/- Contracts of chapter 6: the shape at a square, by the reference. Plain law of shapes: what the program returns is what the reference returns, for sways and for shapes at a square. Contracts of chapter 6: nodes of numbers, by the program and by the reference. A region walked by a plan: an operation whose guard is itself an operation that was not carried out. -/
import Derived.Test.YtmaidjankakppaaK23
namespace Go.Proofs.Ytmaidjankakppaa
open Go.RowKit Go.Wides
open Calmly (Kept)

/-- How many digits a number of a shape has at most. -/
def hL : Nat → Nat
  | 0 => 46
  | i + 1 => 32 * hL i + 186
theorem hL_bd (i : Nat) (hi : i ≤ 3) : 46 ≤ hL i ∧ hL i ≤ 2000000 := by
  rcases (by omega : i = 0 ∨ i = 1 ∨ i = 2 ∨ i = 3) with rfl | rfl | rfl | rfl <;> decide
theorem shQs_get (ms ks : List Int) (q : Rat) (n i : Nat) (hi : i < n) : (shQs ms ks q n)[i]?.getD 0 = (shQ ms ks q i).2 := by
  unfold shQs
  rw [List.getElem?_map, List.getElem?_range hi]
  rfl
theorem shQs_succ (ms ks : List Int) (q : Rat) (n : Nat) : shQs ms ks q (n + 1) = shQs ms ks q n ++ [(shQ ms ks q n).2] := by
  unfold shQs
  rw [List.range_succ, List.map_append]
  rfl
theorem pullQ_eq (ms ks : List Int) (q : Rat) (n i : Nat) (hi : i < n) :
    ((ks[i]?.getD 0 : Int) : Rat) * ((shQs ms ks q n)[i]?.getD 0 - (if i = 0 then 0 else (shQs ms ks q n)[i - 1]?.getD 0)) - q * ((ms[i]?.getD 0 : Int) : Rat) * (shQ ms ks q i).2 = pullQ ms ks q i := by
  unfold pullQ
  rw [shQs_get _ _ _ _ _ hi]
  rcases i with _ | i
  · rw [if_pos rfl]
    rfl
  · rw [if_neg (by omega), Nat.add_sub_cancel, shQs_get _ _ _ _ _ (by omega)]
    rfl

set_option maxRecDepth 100000 in
set_option maxHeartbeats 8000000 in
theorem rShape_any (a b : Option Addr) (n c m d : Nat) (ms ks : List Int) (s1 : Int) (a1 : Option Addr) (n1 c1 : Nat) (s2 : Int) (a2 : Option Addr) (n2 c2 : Nat) (q : Rat) (w : World) (h1 : SI w a n c ms) (h2 : SI w b m d ks) (hf : Fr ms ks)
    (h : RatV w s1 a1 n1 c1 s2 a2 n2 c2 q) (hl1 : n1 ≤ 7) (hl2 : n2 ≤ 7) (N S : Int) (xs : List Int) (hN : (lcmQ (shQs ms ks q n) : Int) = N) (hN2 : N ≤ 100000000000000000) (hx : comQ (shQs ms ks q n) = xs) (hxb : ∀ j : Nat, -100000000000000000 ≤ xs[j]?.getD 0 ∧ xs[j]?.getD 0 ≤ 100000000000000000) (hS : (pullQ ms ks q (n - 1)).num.sign = S) :
    Calls Try.prog 84 #[.agg #[.slice a n c, .slice b m d], .agg #[.int .i64 s1, .slice a1 n1 c1, .int .i64 s2, .slice a2 n2 c2]] w fun e w' => ∃ a' c' B, e = .returned (.tuple #[.agg #[.int .i64 N, .slice a' n c'], .int .i64 S]) ∧ OwI w' B a' n c' xs ∧ w.heap.size ≤ B ∧ Below w.heap.size w w' := by
  have hb2 : Below w.heap.size w (((w.alloc (.cells #[.slice a n c, .slice b m d] 24)).alloc (.cells #[.int .i64 s1, .slice a1 n1 c1, .int .i64 s2, .slice a2 n2 c2] 72)).alloc (.cells #[.int .i64 0, .slice none 0 0] 117)) := (((Below.refl _ _).alloc (Nat.le_refl _) _).alloc (by simp) _).alloc (by simp; omega) _
  obtain ⟨l1, l2⟩ : n ≤ ms.length ∧ ms.length ≤ n := by have := h1.len; omega
  obtain ⟨l3, l4⟩ : m ≤ n ∧ n ≤ m := by have := h2.len; have := hf.len; omega
  obtain ⟨l5, l6⟩ : 0 < n ∧ n ≤ 4 := by have := hf.pos; have := hf.few; omega
  have HXB := Lib.hid hxb
  have HN := Lib.hid hN
  have HX := Lib.hid hx
  have HS := Lib.hid hS
  clear hxb hN hx hS
  have hmx := h1.max
  have hcp := h1.cap
  go_enter Try.func84, Try.ntmps84
  go_wp2_with fail
  refine (RatioInt_any 1 _ (by omega) (by omega)).mono ?_
  rintro e w1 ⟨⟨gs, ga, gn, gc, gs', ga', gn', gc', rfl, gh, gh', gV⟩, hs⟩
  obtain ⟨x1, x2, x3⟩ := box3r (w := w) (o := .cells #[.slice a n c, .slice b m d] 24) (o' := .cells #[.int .i64 s1, .slice a1 n1 c1, .int .i64 s2, .slice a2 n2 c2] 72) (o'' := .cells #[.int .i64 0, .slice none 0 0] 117) hs
  have B1 := hb2.trans (hs.mono hb2.size)
  have sX := blk_lt x3
  have R1 := RowQ.one (B := w.heap.size + 1 + 1 + 1) (by omega) gV (L := hL 0) (by show _ ≤ 46; omega) (by show _ ≤ 46; omega)
  have hNew := (Below.refl w1.heap.size w1).alloc (Nat.le_refl _) (.cells #[.int .i64 gs, .slice ga gn gc, .int .i64 gs', .slice ga' gn' gc'] 72)
  clear hb2 hs gV
  go_wp2_with fail
  go_loopw [7, 6] (fun z l wr => ∃ (i c' : Nat) (a' : Option Addr), z = .int .i64 (i : Int) ∧ l = .slice a' (i + 1) c' ∧ i ≤ n - 1 ∧ RowQ wr (w.heap.size + 1 + 1 + 1) a' (i + 1) c' (hL i) (shQs ms ks q (i + 1)) ∧ Below (w.heap.size + 1 + 1 + 1) w1 wr) (fun z _ _ => n - (intOf z).toNat)
  case atStart => exact ⟨0, _, _, rfl, rfl, by omega, R1, hNew.mono (by omega)⟩
  case round =>
    clear hNew R1
    obtain ⟨i, c', a', rfl, rfl, hi0, hrow, hbr⟩ := hrel
    rename World => wi
    have Bw := B1.trans (hbr.mono (by omega))
    have X1 := (hbr.block _ (by omega)).trans x1
    have X2 := (hbr.block _ (by omega)).trans x2
    have X3 := (hbr.block _ (by omega)).trans x3
    have sB := hbr.size
    have hn1m : (i : Int) < (n : Int) := by omega
    obtain ⟨dl1, dl2⟩ := hL_bd i (by omega)
    obtain ⟨ba, oa, rfl, hca⟩ := h1.at_ l5
    have em := hca i (by omega)
    have em' : wi.cell? ⟨ba, oa + i, none⟩ = some (.int .i64 (ms[i]?.getD 0)) := (Bw.cell (p := ⟨ba, oa + i, none⟩) (cell_lt em)).trans em
    have hmb := hf.m i (by omega)
    have hkb := hf.k i (by omega)
    have hpq := pullQ_eq ms ks q (i + 1) i (by omega)
    obtain ⟨bq, hbq⟩ : ∃ v, ((ks[i]?.getD 0 : Int) : Rat) * ((shQs ms ks q (i + 1))[i]?.getD 0 - (if i = 0 then 0 else (shQs ms ks q (i + 1))[i - 1]?.getD 0)) = v := ⟨_, rfl⟩
    obtain ⟨mv, hmv⟩ : ∃ v, ms[i]?.getD 0 = v := ⟨_, rfl⟩
    obtain ⟨pq, hpv⟩ : ∃ v, pullQ ms ks q i = v := ⟨_, rfl⟩
    obtain ⟨uv, huv⟩ : ∃ v, (shQ ms ks q i).2 = v := ⟨_, rfl⟩
    rw [hbq, hmv, hpv, huv] at hpq
    rw [hmv] at em' hmb
    have HPQ := Lib.hid hpq
    have HBQ := Lib.hid hbq
    have HPV := Lib.hid hpv
    have HUV := Lib.hid huv
    obtain ⟨br, off, gs1, ga1, gn1, gc1, gs2, ga2, gn2, gc2, rfl, g0, g1, g2, g3, gl1, gl2, gR⟩ := hrow.at_ i (by omega)
    rw [shQs_get _ _ _ _ _ (Nat.lt_succ_self _), huv] at gR
    clear hca em hpq hbq hmv hpv huv
    have f0 := cell_block X1 0
    have hi3 : (i : Int) < ((i + 1 : Nat) : Int) := by omega
    have hi4 : (i : Int) < (i : Int) + 1 := by omega
    have hi5 : (0 : Int) ≤ (i : Int) := by omega
    by_cases hlt : i < n - 1
    · have hi1 : (i : Int) + 1 < (n : Int) := by omega
      go_wp2_with fail
      refine Calmly.wp_region_mix 19 (.fl 0 <| .fl 1 <| .fl 2 <| .fl 4 <| .fl 5 <| .fl 6 <| .fl 7 <| .fl 8 <| .fl 9 <| .fl 12 <| .fl 13 <| .fl 14 <| .fl 15 <| .alt 3 (.alt 10 (.alt 11 (.alt 16 (.alt 17 (.eff 18 <| .tail [19]) (.eff 18 (.eff 17 <| .tail [19]))) (.eff 18 (.eff 16 <| .eff 17 <| .tail [19]))) (.eff 18 (.eff 11 <| .eff 16 <| .eff 17 <| .tail [19]))) (.eff 18 (.eff 10 <| .eff 11 <| .eff 16 <| .eff 17 <| .tail [19]))) (.eff 18 (.eff 3 <| .eff 10 <| .eff 11 <| .eff 16 <| .eff 17 <| .tail [19]))) (by kernel_rfl) (by kernel_rfl) ?_
      rename_i K hK
      have hK' := fun a w (h : StopR _) => hK a w h.out
      clear hK
      replace X1 := blk_keep X1 (Below.refl _ _).drew
      replace X2 := blk_keep X2 (Below.refl _ _).drew
      replace em' := cell_keep em' (Below.refl _ _).drew
      replace g0 := cell_keep g0 (Below.refl _ _).drew
      replace g1 := cell_keep g1 (Below.refl _ _).drew
      replace g2 := cell_keep g2 (Below.refl _ _).drew
      replace g3 := cell_keep g3 (Below.refl _ _).drew
      replace gR := gR.keep (Below.refl _ _).drew
      replace hrow := hrow.drew
      replace Bw := Bw.drew
      replace hbr := hbr.drew
      replace sB : w1.heap.size ≤ wi.drew.heap.size := sB
      clear f0
      generalize wi.drew = V at X1 X2 em' g0 g1 g2 g3 gR hrow Bw hbr sB ⊢
      have H := h.keep Bw
      have H2 := h2.keep Bw
      have f0 := cell_block X1 0
      have f1 := cell_block X1 1
      have u0 := cell_block X2 0
      have u1 := cell_block X2 1
      have u2 := cell_block X2 2
      have u3 := cell_block X2 3
      have hk := Below.refl V.heap.size V
      go_wp2_with (first | ((with_reducible refine Calmly.is_fl ?_); refine Calmly.mix_fl rfl ?_ (fun _ _ => ?_); (first | exact .move _ | exact .load _ _ | exact .fieldAddr _ _ _ (by kernel_rfl) | exact .assign _ | exact .binOp _ _ _ _ _ rfl | exact .indexAddr _ _ _ | exact .len _ _ (by kernel_rfl) | exact .field _ _ _ | exact .extract _ _ | exact .pick _ _ _ | exact .build _ _ | exact .slice _ _ _ _ _ | exact .unOp _ _ _ rfl | exact .index _ _ _ | exact .max _ _ _ rfl rfl | exact .min _ _ _ rfl rfl)) | ((with_reducible refine Calmly.is_gl ?_); refine Calmly.mix_gl rfl rfl rfl ?_; first | ((first | with_reducible refine Calmly.gl_tt ?_ (fun _ _ => ?_) | with_reducible refine Calmly.gl_ff ?_ (fun _ _ => ?_)); (first | exact .move _ | exact .load _ _ | exact .fieldAddr _ _ _ (by kernel_rfl) | exact .assign _ | exact .binOp _ _ _ _ _ rfl | exact .indexAddr _ _ _ | exact .len _ _ (by kernel_rfl) | exact .field _ _ _ | exact .extract _ _ | exact .pick _ _ _ | exact .build _ _ | exact .slice _ _ _ _ _ | exact .unOp _ _ _ rfl | exact .index _ _ _ | exact .max _ _ _ rfl rfl | exact .min _ _ _ rfl rfl)) | with_reducible refine Calmly.gl_tf (fun _ _ => ?_) | with_reducible refine Calmly.gl_ft (fun _ _ => ?_)) | ((with_reducible refine Calmly.is_eff ?_); refine Calmly.mix_eff rfl (fun _ _ => ?_)) | ((with_reducible refine Calmly.is_gf ?_); refine Calmly.mix_gf rfl rfl rfl ?_; first | with_reducible refine Calmly.gf_tt (fun _ _ => ?_) | with_reducible refine Calmly.gf_ff (fun _ _ => ?_) | with_reducible refine Calmly.gf_tf (kept_of hk) (fun _ _ => ?_) | with_reducible refine Calmly.gf_ft (kept_of hk) (fun _ _ => ?_)) | ((with_reducible refine Calmly.is_kept ?_); refine ⟨kept_of hk, ?_⟩) | (with_reducible refine Calmly.mix_alt ?_ ?_) | (go_at_call 126; refine (rbelow_any _ b _ _ c m d (i + 1) c' (hL i) ks (shQs ms ks q (i + 1)) i _ _ (H2.keep hk) (hrow.keep hk) (by omega) (by omega) hkb (by omega) (by omega) bq HBQ.out (by omega)).mono ?_; rintro e w' ⟨⟨bs, bb, bn, bc, bs', bb', bn', bc', rfl, bh, bh', rB⟩, hs⟩; replace hk := step_of hk hs; (try replace p8 := blk_keep p8 hs); clear hs) | (go_at_call 47; refine (RatioInt_any mv _ (by omega) (by omega)).mono ?_; rintro e w' ⟨⟨is, ib, iN, ic, is', ib', iN', ic', rfl, ih, ih', rI⟩, hs⟩; replace rB := rB.keep hs; replace hk := step_of hk hs; (try replace p8 := blk_keep p8 hs); clear hs) | (go_at_call 49; have hq := rM; refine (RatioMul_any _ _ _ _ _ _ _ _ _ _ _ _ _ _ _ _ (hL i) _ _ _ rM (gR.keep hk) (by omega) (by omega) (by omega) (by omega) (by omega)).mono ?_; rintro e w' ⟨⟨ts, tb, tn, tc, ts', tb', tn', tc', rfl, th, th', rT⟩, hs⟩; replace rB := rB.keep hs; replace hk := step_of hk hs; (try replace p8 := blk_keep p8 hs); clear hs hq) | (go_at_call 49; refine (RatioMul_any _ _ _ _ _ _ _ _ _ _ _ _ _ _ _ _ 7 _ _ _ (H.keep hk) rI (by omega) (by omega) (by omega) (by omega) (by omega)).mono ?_; rintro e w' ⟨⟨fs, fb, fn, fc, fs', fb', fn', fc', rfl, fh, fh', rM⟩, hs⟩; replace rB := rB.keep hs; replace hk := step_of hk hs; (try replace p8 := blk_keep p8 hs); clear hs) | (go_at_call 125; refine (RatioSub_any _ _ _ _ _ _ _ _ _ _ _ _ _ _ _ _ (4 * hL i + 18) _ _ _ rB rT (by omega) (by omega) (by omega) (by omega) (by omega)).mono ?_; rintro e w' ⟨⟨js, jb, jn, jc, js', jb', jn', jc', rfl, jh, jh', rJ⟩, hs⟩; replace hk := step_of hk hs; (try replace p8 := blk_keep p8 hs); clear hs) | (refine kept_allocB hk (fun hs hk' hblk => ?_); have hge := hk.size; generalize World.alloc _ _ = W' at hs hk' hblk ⊢; replace hk := hk'; clear hk'; (try replace rB := rB.keep hs); (try replace rI := rI.keep hs); (try replace rM := rM.keep hs); (try replace rT := rT.keep hs); (try replace rJ := rJ.keep hs); have p8 := hblk; clear hs hblk))
      all_goals
        have z0 := cell_block p8 0
        have z1 := cell_block p8 1
        have z2 := cell_block p8 2
        have z3 := cell_block p8 3
        have z4 := frozen_block p8 0
        have z5 := frozen_block p8 1
        have z6 := frozen_block p8 2
        have z7 := frozen_block p8 3
      go_wp2_with (first | ((with_reducible refine Calmly.is_fl ?_); refine Calmly.mix_fl rfl ?_ (fun _ _ => ?_); (first | exact .move _ | exact .load _ _ | exact .fieldAddr _ _ _ (by kernel_rfl) | exact .assign _ | exact .binOp _ _ _ _ _ rfl | exact .indexAddr _ _ _ | exact .len _ _ (by kernel_rfl) | exact .field _ _ _ | exact .extract _ _ | exact .pick _ _ _ | exact .build _ _ | exact .slice _ _ _ _ _ | exact .unOp _ _ _ rfl | exact .index _ _ _ | exact .max _ _ _ rfl rfl | exact .min _ _ _ rfl rfl)) | ((with_reducible refine Calmly.is_gl ?_); refine Calmly.mix_gl rfl rfl rfl ?_; first | ((first | with_reducible refine Calmly.gl_tt ?_ (fun _ _ => ?_) | with_reducible refine Calmly.gl_ff ?_ (fun _ _ => ?_)); (first | exact .move _ | exact .load _ _ | exact .fieldAddr _ _ _ (by kernel_rfl) | exact .assign _ | exact .binOp _ _ _ _ _ rfl | exact .indexAddr _ _ _ | exact .len _ _ (by kernel_rfl) | exact .field _ _ _ | exact .extract _ _ | exact .pick _ _ _ | exact .build _ _ | exact .slice _ _ _ _ _ | exact .unOp _ _ _ rfl | exact .index _ _ _ | exact .max _ _ _ rfl rfl | exact .min _ _ _ rfl rfl)) | with_reducible refine Calmly.gl_tf (fun _ _ => ?_) | with_reducible refine Calmly.gl_ft (fun _ _ => ?_)) | ((with_reducible refine Calmly.is_eff ?_); refine Calmly.mix_eff rfl (fun _ _ => ?_)) | ((with_reducible refine Calmly.is_gf ?_); refine Calmly.mix_gf rfl rfl rfl ?_; first | with_reducible refine Calmly.gf_tt (fun _ _ => ?_) | with_reducible refine Calmly.gf_ff (fun _ _ => ?_) | with_reducible refine Calmly.gf_tf (kept_of hk) (fun _ _ => ?_) | with_reducible refine Calmly.gf_ft (kept_of hk) (fun _ _ => ?_)) | ((with_reducible refine Calmly.is_tail ?_); first | refine Calmly.mix_tail_nil ?_ | refine Calmly.mix_tail rfl (fun _ _ => ?_)) | ((with_reducible refine Calmly.is_kept ?_); refine ⟨kept_of hk, ?_⟩) | (with_reducible refine Calmly.mix_alt ?_ ?_))
      all_goals
        refine ⟨?_⟩
        obtain ⟨b8, v2, e2, e1, hb8, hv2, X8, RJ⟩ := packQ p8 rJ hk (by omega)
        rw [e2, e1]
        clear e2 e1 z0 z1 z2 z3 z4 z5 z6 z7 p8 rJ hk f0 f1 u0 u1 u2 u3 hge
        rw [HPQ.out] at RJ
        have hjj : jn ≤ 8 * hL i + 42 := by omega
        have hjj' : jn' ≤ 8 * hL i + 42 := by omega
        clear jh jh'
        replace X1 := blk_keep X1 hv2
        replace g0 := cell_keep g0 hv2
        replace g1 := cell_keep g1 hv2
        replace g2 := cell_keep g2 hv2
        replace g3 := cell_keep g3 hv2
        replace gR := gR.keep hv2
        replace hrow := hrow.keep hv2
        replace Bw := Bw.trans (hv2.mono Bw.size)
        replace hbr := hbr.trans (hv2.mono (by omega))
        replace sB : w.heap.size + 1 + 1 < v2.heap.size := by have := hv2.size; omega
        replace H2 := H2.keep hv2
        clear hv2 H em'
        obtain ⟨bkb, obk, rfl, hcb⟩ := H2.at_ (by omega)
        have eb := hcb (i + 1) (by omega)
        have hkb2 := hf.k (i + 1) (by omega)
        have hsq := shQ_succ ms ks q i
        rw [HPV.out, HUV.out] at hsq
        obtain ⟨kv, hkv⟩ : ∃ v, ks[i + 1]?.getD 0 = v := ⟨_, rfl⟩
        rw [hkv] at eb hkb2 hsq
        obtain ⟨u2, hu2⟩ : ∃ v, (shQ ms ks q (i + 1)).2 = v := ⟨_, rfl⟩
        have hss := shQs_succ ms ks q (i + 1)
        rw [hu2] at hsq hss
        have HSQ := Lib.hid hsq
        have HSS := Lib.hid hss
        have hkz : (kv : Rat) ≠ 0 := rat_ne (by omega)
        have hLs : hL (i + 1) = 32 * hL i + 186 := rfl
        have HLS := Lib.hid hLs
        clear hcb hkv hsq hu2 hss hLs
        have hi6 : (i : Int) + 1 < (m : Int) := by omega
        have hi7 : (0 : Int) ≤ (i : Int) + 1 := by omega
        have hi8 : ((i : Int) + 1).toNat = i + 1 := by omega
        go_wp2_with fail
        refine Calmly.wp_region_mix 16 (.fl 0 <| .fl 1 <| .fl 2 <| .fl 3 <| .fl 4 <| .fl 5 <| .fl 6 <| .fl 7 <| .fl 8 <| .fl 9 <| .fl 10 <| .fl 11 <| .eff 12 <| .eff 13 <| .eff 14 <| .eff 15 <| .tail [16, 17]) (by kernel_rfl) (by kernel_rfl) ?_
        replace X1 := blk_keep X1 (Below.refl _ _).drew
        replace X8 := blk_keep X8 (Below.refl _ _).drew
        replace eb := cell_keep eb (Below.refl _ _).drew
        replace g0 := cell_keep g0 (Below.refl _ _).drew
        replace g1 := cell_keep g1 (Below.refl _ _).drew
        replace g2 := cell_keep g2 (Below.refl _ _).drew
        replace g3 := cell_keep g3 (Below.refl _ _).drew
        replace gR := gR.keep (Below.refl _ _).drew
        replace RJ := RJ.keep (Below.refl _ _).drew
        replace hrow := hrow.drew
        replace hbr := hbr.drew
        replace sB : w.heap.size + 1 + 1 < v2.drew.heap.size := sB
        generalize v2.drew = V2 at X1 X8 eb g0 g1 g2 g3 gR RJ hrow hbr sB ⊢
        have f1 := cell_block X1 1
        have z0 := cell_block X8 0
        have z1 := cell_block X8 1
        have z2 := cell_block X8 2
        have z3 := cell_block X8 3
        have hk := Below.refl V2.heap.size V2
        go_wp2_with (first | ((with_reducible refine Calmly.is_fl ?_); refine Calmly.mix_fl rfl ?_ (fun _ _ => ?_); (first | exact .move _ | exact .load _ _ | exact .fieldAddr _ _ _ (by kernel_rfl) | exact .assign _ | exact .binOp _ _ _ _ _ rfl | exact .indexAddr _ _ _ | exact .len _ _ (by kernel_rfl) | exact .field _ _ _ | exact .extract _ _ | exact .pick _ _ _ | exact .build _ _ | exact .slice _ _ _ _ _ | exact .unOp _ _ _ rfl | exact .index _ _ _ | exact .max _ _ _ rfl rfl | exact .min _ _ _ rfl rfl)) | ((with_reducible refine Calmly.is_gl ?_); refine Calmly.mix_gl rfl rfl rfl ?_; first | ((first | with_reducible refine Calmly.gl_tt ?_ (fun _ _ => ?_) | with_reducible refine Calmly.gl_ff ?_ (fun _ _ => ?_)); (first | exact .move _ | exact .load _ _ | exact .fieldAddr _ _ _ (by kernel_rfl) | exact .assign _ | exact .binOp _ _ _ _ _ rfl | exact .indexAddr _ _ _ | exact .len _ _ (by kernel_rfl) | exact .field _ _ _ | exact .extract _ _ | exact .pick _ _ _ | exact .build _ _ | exact .slice _ _ _ _ _ | exact .unOp _ _ _ rfl | exact .index _ _ _ | exact .max _ _ _ rfl rfl | exact .min _ _ _ rfl rfl)) | with_reducible refine Calmly.gl_tf (fun _ _ => ?_) | with_reducible refine Calmly.gl_ft (fun _ _ => ?_)) | ((with_reducible refine Calmly.is_eff ?_); refine Calmly.mix_eff rfl (fun _ _ => ?_)) | ((with_reducible refine Calmly.is_gf ?_); refine Calmly.mix_gf rfl rfl rfl ?_; first | with_reducible refine Calmly.gf_tt (fun _ _ => ?_) | with_reducible refine Calmly.gf_ff (fun _ _ => ?_) | with_reducible refine Calmly.gf_tf (kept_of hk) (fun _ _ => ?_) | with_reducible refine Calmly.gf_ft (kept_of hk) (fun _ _ => ?_)) | ((with_reducible refine Calmly.is_kept ?_); refine ⟨kept_of hk, ?_⟩) | (with_reducible refine Calmly.mix_alt ?_ ?_))
        refine (RatioInt_any kv V2 (by omega) (by omega)).mono ?_
        rintro e w5 ⟨⟨ps, pb, pn, pc, ps', pb', pn', pc', rfl, ph, ph', rP⟩, hs⟩
        replace hk := step_of hk hs
        replace RJ := RJ.keep hs
        replace gR := gR.keep hs
        replace hrow := hrow.keep hs
        replace hbr := hbr.trans (hs.mono (by omega))
        replace sB : w.heap.size + 1 + 1 < w5.heap.size := by have := hs.size; omega
        clear hs
        go_wp2_with (first | ((with_reducible refine Calmly.is_fl ?_); refine Calmly.mix_fl rfl ?_ (fun _ _ => ?_); (first | exact .move _ | exact .load _ _ | exact .fieldAddr _ _ _ (by kernel_rfl) | exact .assign _ | exact .binOp _ _ _ _ _ rfl | exact .indexAddr _ _ _ | exact .len _ _ (by kernel_rfl) | exact .field _ _ _ | exact .extract _ _ | exact .pick _ _ _ | exact .build _ _ | exact .slice _ _ _ _ _ | exact .unOp _ _ _ rfl | exact .index _ _ _ | exact .max _ _ _ rfl rfl | exact .min _ _ _ rfl rfl)) | ((with_reducible refine Calmly.is_gl ?_); refine Calmly.mix_gl rfl rfl rfl ?_; first | ((first | with_reducible refine Calmly.gl_tt ?_ (fun _ _ => ?_) | with_reducible refine Calmly.gl_ff ?_ (fun _ _ => ?_)); (first | exact .move _ | exact .load _ _ | exact .fieldAddr _ _ _ (by kernel_rfl) | exact .assign _ | exact .binOp _ _ _ _ _ rfl | exact .indexAddr _ _ _ | exact .len _ _ (by kernel_rfl) | exact .field _ _ _ | exact .extract _ _ | exact .pick _ _ _ | exact .build _ _ | exact .slice _ _ _ _ _ | exact .unOp _ _ _ rfl | exact .index _ _ _ | exact .max _ _ _ rfl rfl | exact .min _ _ _ rfl rfl)) | with_reducible refine Calmly.gl_tf (fun _ _ => ?_) | with_reducible refine Calmly.gl_ft (fun _ _ => ?_)) | ((with_reducible refine Calmly.is_eff ?_); refine Calmly.mix_eff rfl (fun _ _ => ?_)) | ((with_reducible refine Calmly.is_gf ?_); refine Calmly.mix_gf rfl rfl rfl ?_; first | with_reducible refine Calmly.gf_tt (fun _ _ => ?_) | with_reducible refine Calmly.gf_ff (fun _ _ => ?_) | with_reducible refine Calmly.gf_tf (kept_of hk) (fun _ _ => ?_) | with_reducible refine Calmly.gf_ft (kept_of hk) (fun _ _ => ?_)) | ((with_reducible refine Calmly.is_kept ?_); refine ⟨kept_of hk, ?_⟩) | (with_reducible refine Calmly.mix_alt ?_ ?_))
        refine (RatioDiv_any _ _ _ _ _ _ _ _ _ _ _ _ _ _ _ _ (8 * hL i + 42) _ _ w5 RJ rP hjj hjj' (by omega) (by omega) (by omega) hkz).mono ?_
        rintro e w6 ⟨⟨ds, db, dn, dc, ds', db', dn', dc', rfl, dh, dh', rD⟩, hs⟩
        replace hk := step_of hk hs
        replace gR := gR.keep hs
        replace hrow := hrow.keep hs
        replace hbr := hbr.trans (hs.mono (by omega))
        replace sB : w.heap.size + 1 + 1 < w6.heap.size := by have := hs.size; omega
        clear hs rP RJ
        go_wp2_with (first | ((with_reducible refine Calmly.is_fl ?_); refine Calmly.mix_fl rfl ?_ (fun _ _ => ?_); (first | exact .move _ | exact .load _ _ | exact .fieldAddr _ _ _ (by kernel_rfl) | exact .assign _ | exact .binOp _ _ _ _ _ rfl | exact .indexAddr _ _ _ | exact .len _ _ (by kernel_rfl) | exact .field _ _ _ | exact .extract _ _ | exact .pick _ _ _ | exact .build _ _ | exact .slice _ _ _ _ _ | exact .unOp _ _ _ rfl | exact .index _ _ _ | exact .max _ _ _ rfl rfl | exact .min _ _ _ rfl rfl)) | ((with_reducible refine Calmly.is_gl ?_); refine Calmly.mix_gl rfl rfl rfl ?_; first | ((first | with_reducible refine Calmly.gl_tt ?_ (fun _ _ => ?_) | with_reducible refine Calmly.gl_ff ?_ (fun _ _ => ?_)); (first | exact .move _ | exact .load _ _ | exact .fieldAddr _ _ _ (by kernel_rfl) | exact .assign _ | exact .binOp _ _ _ _ _ rfl | exact .indexAddr _ _ _ | exact .len _ _ (by kernel_rfl) | exact .field _ _ _ | exact .extract _ _ | exact .pick _ _ _ | exact .build _ _ | exact .slice _ _ _ _ _ | exact .unOp _ _ _ rfl | exact .index _ _ _ | exact .max _ _ _ rfl rfl | exact .min _ _ _ rfl rfl)) | with_reducible refine Calmly.gl_tf (fun _ _ => ?_) | with_reducible refine Calmly.gl_ft (fun _ _ => ?_)) | ((with_reducible refine Calmly.is_eff ?_); refine Calmly.mix_eff rfl (fun _ _ => ?_)) | ((with_reducible refine Calmly.is_gf ?_); refine Calmly.mix_gf rfl rfl rfl ?_; first | with_reducible refine Calmly.gf_tt (fun _ _ => ?_) | with_reducible refine Calmly.gf_ff (fun _ _ => ?_) | with_reducible refine Calmly.gf_tf (kept_of hk) (fun _ _ => ?_) | with_reducible refine Calmly.gf_ft (kept_of hk) (fun _ _ => ?_)) | ((with_reducible refine Calmly.is_kept ?_); refine ⟨kept_of hk, ?_⟩) | (with_reducible refine Calmly.mix_alt ?_ ?_))
        refine (RatioAdd_any _ _ _ _ _ _ _ _ _ _ _ _ _ _ _ _ (16 * hL i + 90) _ _ w6 gR rD (by omega) (by omega) (by omega) (by omega) (by omega)).mono ?_
        rintro e w7 ⟨⟨es, eb1, en, ec, es', eb2, en', ec', rfl, eh, eh', rE⟩, hs⟩
        rw [← HSQ.out] at rE
        replace hk := step_of hk hs
        replace hrow := hrow.keep hs
        replace hbr := hbr.trans (hs.mono (by omega))
        replace sB : w.heap.size + 1 + 1 < w7.heap.size := by have := hs.size; omega
        have he1 : en ≤ hL (i + 1) := by rw [HLS.out]; omega
        have he2 : en' ≤ hL (i + 1) := by rw [HLS.out]; omega
        have hrow2 := hrow.mono (L' := hL (i + 1)) (by rw [HLS.out]; omega)
        clear hs rD gR hrow g0 g1 g2 g3 z0 z1 z2 z3 f1 eb X1 X8 eh eh'
        go_wp2_with (first | ((with_reducible refine Calmly.is_tail ?_); refine Calmly.mix_tail_app rfl (fun rest hrest => ?_); refine appQ w7 rfl rfl _ _ rfl hrow2 rE he1 he2 rfl rfl (by omega) (by omega) ?_; intro a9 c9 w9 hrow9 hb9 hlt9; refine hrest _ _ ?_) | ((with_reducible refine Calmly.is_fl ?_); refine Calmly.mix_fl rfl ?_ (fun _ _ => ?_); (first | exact .move _ | exact .load _ _ | exact .fieldAddr _ _ _ (by kernel_rfl) | exact .assign _ | exact .binOp _ _ _ _ _ rfl | exact .indexAddr _ _ _ | exact .len _ _ (by kernel_rfl) | exact .field _ _ _ | exact .extract _ _ | exact .pick _ _ _ | exact .build _ _ | exact .slice _ _ _ _ _ | exact .unOp _ _ _ rfl | exact .index _ _ _ | exact .max _ _ _ rfl rfl | exact .min _ _ _ rfl rfl)) | ((with_reducible refine Calmly.is_gl ?_); refine Calmly.mix_gl rfl rfl rfl ?_; first | ((first | with_reducible refine Calmly.gl_tt ?_ (fun _ _ => ?_) | with_reducible refine Calmly.gl_ff ?_ (fun _ _ => ?_)); (first | exact .move _ | exact .load _ _ | exact .fieldAddr _ _ _ (by kernel_rfl) | exact .assign _ | exact .binOp _ _ _ _ _ rfl | exact .indexAddr _ _ _ | exact .len _ _ (by kernel_rfl) | exact .field _ _ _ | exact .extract _ _ | exact .pick _ _ _ | exact .build _ _ | exact .slice _ _ _ _ _ | exact .unOp _ _ _ rfl | exact .index _ _ _ | exact .max _ _ _ rfl rfl | exact .min _ _ _ rfl rfl)) | with_reducible refine Calmly.gl_tf (fun _ _ => ?_) | with_reducible refine Calmly.gl_ft (fun _ _ => ?_)) | ((with_reducible refine Calmly.is_eff ?_); refine Calmly.mix_eff rfl (fun _ _ => ?_)) | ((with_reducible refine Calmly.is_gf ?_); refine Calmly.mix_gf rfl rfl rfl ?_; first | with_reducible refine Calmly.gf_tt (fun _ _ => ?_) | with_reducible refine Calmly.gf_ff (fun _ _ => ?_) | with_reducible refine Calmly.gf_tf (kept_of hk) (fun _ _ => ?_) | with_reducible refine Calmly.gf_ft (kept_of hk) (fun _ _ => ?_)) | ((with_reducible refine Calmly.is_tail ?_); first | refine Calmly.mix_tail_nil ?_ | refine Calmly.mix_tail rfl (fun _ _ => ?_)) | ((with_reducible refine Calmly.is_kept ?_); refine ⟨kept_of hk, ?_⟩) | (with_reducible refine Calmly.mix_alt ?_ ?_) | (refine kept_alloc hk (fun hk' hblk hge => ?_); replace hk := hk'; clear hk'))
        go_roundw
        case rel =>
          refine ⟨i + 1, c9, a9, by go_num, rfl, by omega, ?_, hbr.trans (hb9.mono (by omega))⟩
          rw [HSS.out]
          exact hrow9
        case measure => simp [intOf]; omega
    · obtain rfl : n = i + 1 := by omega
      have hlt2 : ¬ (i : Int) + 1 < ((i + 1 : Nat) : Int) := by omega
      have hcz : ((i + 1 : Nat) : Int) - 1 = (i : Int) := by omega
      have hcy : (i : Int) + 1 - 1 = (i : Int) := by omega
      clear hlt hi0
      go_wp2_with fail
      refine Calmly.wp_region_mix 19 (.fl 0 <| .fl 1 <| .fl 2 <| .fl 4 <| .fl 5 <| .fl 6 <| .fl 7 <| .fl 8 <| .fl 9 <| .fl 12 <| .fl 13 <| .fl 14 <| .fl 15 <| .alt 3 (.alt 10 (.alt 11 (.alt 16 (.alt 17 (.eff 18 <| .tail [19]) (.eff 18 (.eff 17 <| .tail [19]))) (.eff 18 (.eff 16 <| .eff 17 <| .tail [19]))) (.eff 18 (.eff 11 <| .eff 16 <| .eff 17 <| .tail [19]))) (.eff 18 (.eff 10 <| .eff 11 <| .eff 16 <| .eff 17 <| .tail [19]))) (.eff 18 (.eff 3 <| .eff 10 <| .eff 11 <| .eff 16 <| .eff 17 <| .tail [19]))) (by kernel_rfl) (by kernel_rfl) ?_
      rename_i K hK
      have hK' := fun a w (h : StopR _) => hK a w h.out
      clear hK
      replace X1 := blk_keep X1 (Below.refl _ _).drew
      replace X2 := blk_keep X2 (Below.refl _ _).drew
      replace em' := cell_keep em' (Below.refl _ _).drew
      replace g0 := cell_keep g0 (Below.refl _ _).drew
      replace g1 := cell_keep g1 (Below.refl _ _).drew
      replace g2 := cell_keep g2 (Below.refl _ _).drew
      replace g3 := cell_keep g3 (Below.refl _ _).drew
      replace gR := gR.keep (Below.refl _ _).drew
      replace hrow := hrow.drew
      replace Bw := Bw.drew
      replace hbr := hbr.drew
      replace sB : w1.heap.size ≤ wi.drew.heap.size := sB
      clear f0
      generalize wi.drew = V at X1 X2 em' g0 g1 g2 g3 gR hrow Bw hbr sB ⊢
      have H := h.keep Bw
      have H2 := h2.keep Bw
      have f0 := cell_block X1 0
      have f1 := cell_block X1 1
      have u0 := cell_block X2 0
      have u1 := cell_block X2 1
      have u2 := cell_block X2 2
      have u3 := cell_block X2 3
      have hk := Below.refl V.heap.size V
      go_wp2_with (first | ((with_reducible refine Calmly.is_fl ?_); refine Calmly.mix_fl rfl ?_ (fun _ _ => ?_); (first | exact .move _ | exact .load _ _ | exact .fieldAddr _ _ _ (by kernel_rfl) | exact .assign _ | exact .binOp _ _ _ _ _ rfl | exact .indexAddr _ _ _ | exact .len _ _ (by kernel_rfl) | exact .field _ _ _ | exact .extract _ _ | exact .pick _ _ _ | exact .build _ _ | exact .slice _ _ _ _ _ | exact .unOp _ _ _ rfl | exact .index _ _ _ | exact .max _ _ _ rfl rfl | exact .min _ _ _ rfl rfl)) | ((with_reducible refine Calmly.is_gl ?_); refine Calmly.mix_gl rfl rfl rfl ?_; first | ((first | with_reducible refine Calmly.gl_tt ?_ (fun _ _ => ?_) | with_reducible refine Calmly.gl_ff ?_ (fun _ _ => ?_)); (first | exact .move _ | exact .load _ _ | exact .fieldAddr _ _ _ (by kernel_rfl) | exact .assign _ | exact .binOp _ _ _ _ _ rfl | exact .indexAddr _ _ _ | exact .len _ _ (by kernel_rfl) | exact .field _ _ _ | exact .extract _ _ | exact .pick _ _ _ | exact .build _ _ | exact .slice _ _ _ _ _ | exact .unOp _ _ _ rfl | exact .index _ _ _ | exact .max _ _ _ rfl rfl | exact .min _ _ _ rfl rfl)) | with_reducible refine Calmly.gl_tf (fun _ _ => ?_) | with_reducible refine Calmly.gl_ft (fun _ _ => ?_)) | ((with_reducible refine Calmly.is_eff ?_); refine Calmly.mix_eff rfl (fun _ _ => ?_)) | ((with_reducible refine Calmly.is_gf ?_); refine Calmly.mix_gf rfl rfl rfl ?_; first | with_reducible refine Calmly.gf_tt (fun _ _ => ?_) | with_reducible refine Calmly.gf_ff (fun _ _ => ?_) | with_reducible refine Calmly.gf_tf (kept_of hk) (fun _ _ => ?_) | with_reducible refine Calmly.gf_ft (kept_of hk) (fun _ _ => ?_)) | ((with_reducible refine Calmly.is_kept ?_); refine ⟨kept_of hk, ?_⟩) | (with_reducible refine Calmly.mix_alt ?_ ?_) | (go_at_call 126; refine (rbelow_any _ b _ _ c m d (i + 1) c' (hL i) ks (shQs ms ks q (i + 1)) i _ _ (H2.keep hk) (hrow.keep hk) (by omega) (by omega) hkb (by omega) (by omega) bq HBQ.out (by omega)).mono ?_; rintro e w' ⟨⟨bs, bb, bn, bc, bs', bb', bn', bc', rfl, bh, bh', rB⟩, hs⟩; replace hk := step_of hk hs; (try replace p8 := blk_keep p8 hs); clear hs) | (go_at_call 47; refine (RatioInt_any mv _ (by omega) (by omega)).mono ?_; rintro e w' ⟨⟨is, ib, iN, ic, is', ib', iN', ic', rfl, ih, ih', rI⟩, hs⟩; replace rB := rB.keep hs; replace hk := step_of hk hs; (try replace p8 := blk_keep p8 hs); clear hs) | (go_at_call 49; have hq := rM; refine (RatioMul_any _ _ _ _ _ _ _ _ _ _ _ _ _ _ _ _ (hL i) _ _ _ rM (gR.keep hk) (by omega) (by omega) (by omega) (by omega) (by omega)).mono ?_; rintro e w' ⟨⟨ts, tb, tn, tc, ts', tb', tn', tc', rfl, th, th', rT⟩, hs⟩; replace rB := rB.keep hs; replace hk := step_of hk hs; (try replace p8 := blk_keep p8 hs); clear hs hq) | (go_at_call 49; refine (RatioMul_any _ _ _ _ _ _ _ _ _ _ _ _ _ _ _ _ 7 _ _ _ (H.keep hk) rI (by omega) (by omega) (by omega) (by omega) (by omega)).mono ?_; rintro e w' ⟨⟨fs, fb, fn, fc, fs', fb', fn', fc', rfl, fh, fh', rM⟩, hs⟩; replace rB := rB.keep hs; replace hk := step_of hk hs; (try replace p8 := blk_keep p8 hs); clear hs) | (go_at_call 125; refine (RatioSub_any _ _ _ _ _ _ _ _ _ _ _ _ _ _ _ _ (4 * hL i + 18) _ _ _ rB rT (by omega) (by omega) (by omega) (by omega) (by omega)).mono ?_; rintro e w' ⟨⟨js, jb, jn, jc, js', jb', jn', jc', rfl, jh, jh', rJ⟩, hs⟩; replace hk := step_of hk hs; (try replace p8 := blk_keep p8 hs); clear hs) | (refine kept_allocB hk (fun hs hk' hblk => ?_); have hge := hk.size; generalize World.alloc _ _ = W' at hs hk' hblk ⊢; replace hk := hk'; clear hk'; (try replace rB := rB.keep hs); (try replace rI := rI.keep hs); (try replace rM := rM.keep hs); (try replace rT := rT.keep hs); (try replace rJ := rJ.keep hs); have p8 := hblk; clear hs hblk))
      all_goals
        have z0 := cell_block p8 0
        have z1 := cell_block p8 1
        have z2 := cell_block p8 2
        have z3 := cell_block p8 3
        have z4 := frozen_block p8 0
        have z5 := frozen_block p8 1
        have z6 := frozen_block p8 2
        have z7 := frozen_block p8 3
      go_wp2_with (first | ((with_reducible refine Calmly.is_fl ?_); refine Calmly.mix_fl rfl ?_ (fun _ _ => ?_); (first | exact .move _ | exact .load _ _ | exact .fieldAddr _ _ _ (by kernel_rfl) | exact .assign _ | exact .binOp _ _ _ _ _ rfl | exact .indexAddr _ _ _ | exact .len _ _ (by kernel_rfl) | exact .field _ _ _ | exact .extract _ _ | exact .pick _ _ _ | exact .build _ _ | exact .slice _ _ _ _ _ | exact .unOp _ _ _ rfl | exact .index _ _ _ | exact .max _ _ _ rfl rfl | exact .min _ _ _ rfl rfl)) | ((with_reducible refine Calmly.is_gl ?_); refine Calmly.mix_gl rfl rfl rfl ?_; first | ((first | with_reducible refine Calmly.gl_tt ?_ (fun _ _ => ?_) | with_reducible refine Calmly.gl_ff ?_ (fun _ _ => ?_)); (first | exact .move _ | exact .load _ _ | exact .fieldAddr _ _ _ (by kernel_rfl) | exact .assign _ | exact .binOp _ _ _ _ _ rfl | exact .indexAddr _ _ _ | exact .len _ _ (by kernel_rfl) | exact .field _ _ _ | exact .extract _ _ | exact .pick _ _ _ | exact .build _ _ | exact .slice _ _ _ _ _ | exact .unOp _ _ _ rfl | exact .index _ _ _ | exact .max _ _ _ rfl rfl | exact .min _ _ _ rfl rfl)) | with_reducible refine Calmly.gl_tf (fun _ _ => ?_) | with_reducible refine Calmly.gl_ft (fun _ _ => ?_)) | ((with_reducible refine Calmly.is_eff ?_); refine Calmly.mix_eff rfl (fun _ _ => ?_)) | ((with_reducible refine Calmly.is_gf ?_); refine Calmly.mix_gf rfl rfl rfl ?_; first | with_reducible refine Calmly.gf_tt (fun _ _ => ?_) | with_reducible refine Calmly.gf_ff (fun _ _ => ?_) | with_reducible refine Calmly.gf_tf (kept_of hk) (fun _ _ => ?_) | with_reducible refine Calmly.gf_ft (kept_of hk) (fun _ _ => ?_)) | ((with_reducible refine Calmly.is_tail ?_); first | refine Calmly.mix_tail_nil ?_ | refine Calmly.mix_tail rfl (fun _ _ => ?_)) | ((with_reducible refine Calmly.is_kept ?_); refine ⟨kept_of hk, ?_⟩) | (with_reducible refine Calmly.mix_alt ?_ ?_))
      all_goals
        refine ⟨?_⟩
        obtain ⟨b8, v2, e2, e1, hb8, hv2, X8, RJ⟩ := packQ p8 rJ hk (by omega)
        rw [e2, e1]
        clear e2 e1 z0 z1 z2 z3 z4 z5 z6 z7 p8 rJ hk f0 f1 u0 u1 u2 u3 hge
        rw [HPQ.out] at RJ
        have hjj : jn ≤ 8 * hL i + 42 := by omega
        have hjj' : jn' ≤ 8 * hL i + 42 := by omega
        clear jh jh'
        have BW9 := Bw.trans (hv2.mono Bw.size)
        have X9 := blk_keep X3 (Below.drew (Below.refl _ _))
        replace hbr := hbr.trans (hv2.mono (by omega))
        replace X3 := (hbr.block _ (by omega)).trans x3
        replace hrow := hrow.keep hv2
        have hvs : w.heap.size + 1 + 1 < v2.heap.size := by have := hv2.size; omega
        clear X9 hv2 H em' X1 X2 g0 g1 g2 g3 gR H2
        rw [HPV.out.symm] at RJ
        have hS := HS.out
        rw [Nat.add_sub_cancel] at hS
        have HS2 := Lib.hid hS
        clear hS
        go_wp2_with fail
        refine Calmly.wp_region_mix 4 (.fl 0 <| .fl 2 <| .eff 1 <| .eff 3 <| .tail [4, 5]) (by kernel_rfl) (by kernel_rfl) ?_
        replace X3 := blk_keep X3 (Below.refl _ _).drew
        replace X8 := blk_keep X8 (Below.refl _ _).drew
        replace RJ := RJ.keep (Below.refl _ _).drew
        replace hrow := hrow.drew
        replace BW9 := BW9.drew
        replace hvs : w.heap.size + 1 + 1 < v2.drew.heap.size := hvs
        generalize v2.drew = V2 at X3 X8 RJ hrow BW9 hvs ⊢
        have z0 := cell_block X8 0
        have z1 := cell_block X8 1
        have z2 := cell_block X8 2
        have z3 := cell_block X8 3
        have hk := Below.refl V2.heap.size V2
        go_wp2_with (first | ((with_reducible refine Calmly.is_fl ?_); refine Calmly.mix_fl rfl ?_ (fun _ _ => ?_); (first | exact .move _ | exact .load _ _ | exact .fieldAddr _ _ _ (by kernel_rfl) | exact .assign _ | exact .binOp _ _ _ _ _ rfl | exact .indexAddr _ _ _ | exact .len _ _ (by kernel_rfl) | exact .field _ _ _ | exact .extract _ _ | exact .pick _ _ _ | exact .build _ _ | exact .slice _ _ _ _ _ | exact .unOp _ _ _ rfl | exact .index _ _ _ | exact .max _ _ _ rfl rfl | exact .min _ _ _ rfl rfl)) | ((with_reducible refine Calmly.is_gl ?_); refine Calmly.mix_gl rfl rfl rfl ?_; first | ((first | with_reducible refine Calmly.gl_tt ?_ (fun _ _ => ?_) | with_reducible refine Calmly.gl_ff ?_ (fun _ _ => ?_)); (first | exact .move _ | exact .load _ _ | exact .fieldAddr _ _ _ (by kernel_rfl) | exact .assign _ | exact .binOp _ _ _ _ _ rfl | exact .indexAddr _ _ _ | exact .len _ _ (by kernel_rfl) | exact .field _ _ _ | exact .extract _ _ | exact .pick _ _ _ | exact .build _ _ | exact .slice _ _ _ _ _ | exact .unOp _ _ _ rfl | exact .index _ _ _ | exact .max _ _ _ rfl rfl | exact .min _ _ _ rfl rfl)) | with_reducible refine Calmly.gl_tf (fun _ _ => ?_) | with_reducible refine Calmly.gl_ft (fun _ _ => ?_)) | ((with_reducible refine Calmly.is_eff ?_); refine Calmly.mix_eff rfl (fun _ _ => ?_)) | ((with_reducible refine Calmly.is_gf ?_); refine Calmly.mix_gf rfl rfl rfl ?_; first | with_reducible refine Calmly.gf_tt (fun _ _ => ?_) | with_reducible refine Calmly.gf_ff (fun _ _ => ?_) | with_reducible refine Calmly.gf_tf (kept_of hk) (fun _ _ => ?_) | with_reducible refine Calmly.gf_ft (kept_of hk) (fun _ _ => ?_)) | ((with_reducible refine Calmly.is_kept ?_); refine ⟨kept_of hk, ?_⟩) | (with_reducible refine Calmly.mix_alt ?_ ?_))
        refine (Common_any _ (i + 1) c' (hL i) _ (shQs ms ks q (i + 1)) V2 hrow (by omega) (by omega) (by omega) N HN.out hN2 xs HX.out HXB.out).mono ?_
        rintro e w5 ⟨a9, c9, B9, rfl, ho9, hB9, hs⟩
        replace hk := step_of hk hs
        replace X3 := blk_keep X3 hs
        replace RJ := RJ.keep hs
        replace BW9 := BW9.trans (hs.mono BW9.size)
        clear hs
        go_wp2_with (first | ((with_reducible refine Calmly.is_fl ?_); refine Calmly.mix_fl rfl ?_ (fun _ _ => ?_); (first | exact .move _ | exact .load _ _ | exact .fieldAddr _ _ _ (by kernel_rfl) | exact .assign _ | exact .binOp _ _ _ _ _ rfl | exact .indexAddr _ _ _ | exact .len _ _ (by kernel_rfl) | exact .field _ _ _ | exact .extract _ _ | exact .pick _ _ _ | exact .build _ _ | exact .slice _ _ _ _ _ | exact .unOp _ _ _ rfl | exact .index _ _ _ | exact .max _ _ _ rfl rfl | exact .min _ _ _ rfl rfl)) | ((with_reducible refine Calmly.is_gl ?_); refine Calmly.mix_gl rfl rfl rfl ?_; first | ((first | with_reducible refine Calmly.gl_tt ?_ (fun _ _ => ?_) | with_reducible refine Calmly.gl_ff ?_ (fun _ _ => ?_)); (first | exact .move _ | exact .load _ _ | exact .fieldAddr _ _ _ (by kernel_rfl) | exact .assign _ | exact .binOp _ _ _ _ _ rfl | exact .indexAddr _ _ _ | exact .len _ _ (by kernel_rfl) | exact .field _ _ _ | exact .extract _ _ | exact .pick _ _ _ | exact .build _ _ | exact .slice _ _ _ _ _ | exact .unOp _ _ _ rfl | exact .index _ _ _ | exact .max _ _ _ rfl rfl | exact .min _ _ _ rfl rfl)) | with_reducible refine Calmly.gl_tf (fun _ _ => ?_) | with_reducible refine Calmly.gl_ft (fun _ _ => ?_)) | ((with_reducible refine Calmly.is_eff ?_); refine Calmly.mix_eff rfl (fun _ _ => ?_)) | ((with_reducible refine Calmly.is_gf ?_); refine Calmly.mix_gf rfl rfl rfl ?_; first | with_reducible refine Calmly.gf_tt (fun _ _ => ?_) | with_reducible refine Calmly.gf_ff (fun _ _ => ?_) | with_reducible refine Calmly.gf_tf (kept_of hk) (fun _ _ => ?_) | with_reducible refine Calmly.gf_ft (kept_of hk) (fun _ _ => ?_)) | ((with_reducible refine Calmly.is_kept ?_); refine ⟨kept_of hk, ?_⟩) | (with_reducible refine Calmly.mix_alt ?_ ?_))
        refine (RatioSign_any _ _ _ _ _ _ _ _ _ w5 RJ).mono ?_
        rintro e w6 ⟨rfl, hs⟩
        rw [HS2.out]
        replace hk := step_of hk hs
        replace X3 := blk_keep X3 hs
        replace ho9 := ho9.keep hs
        replace BW9 := BW9.trans (hs.mono BW9.size)
        clear hs z0 z1 z2 z3
        have t0 := cell_block X3 0
        have t1 := cell_block X3 1
        have t2 := frozen_block X3 0
        have t3 := frozen_block X3 1
        go_wp2_with (first | ((with_reducible refine Calmly.is_fl ?_); refine Calmly.mix_fl rfl ?_ (fun _ _ => ?_); (first | exact .move _ | exact .load _ _ | exact .fieldAddr _ _ _ (by kernel_rfl) | exact .assign _ | exact .binOp _ _ _ _ _ rfl | exact .indexAddr _ _ _ | exact .len _ _ (by kernel_rfl) | exact .field _ _ _ | exact .extract _ _ | exact .pick _ _ _ | exact .build _ _ | exact .slice _ _ _ _ _ | exact .unOp _ _ _ rfl | exact .index _ _ _ | exact .max _ _ _ rfl rfl | exact .min _ _ _ rfl rfl)) | ((with_reducible refine Calmly.is_gl ?_); refine Calmly.mix_gl rfl rfl rfl ?_; first | ((first | with_reducible refine Calmly.gl_tt ?_ (fun _ _ => ?_) | with_reducible refine Calmly.gl_ff ?_ (fun _ _ => ?_)); (first | exact .move _ | exact .load _ _ | exact .fieldAddr _ _ _ (by kernel_rfl) | exact .assign _ | exact .binOp _ _ _ _ _ rfl | exact .indexAddr _ _ _ | exact .len _ _ (by kernel_rfl) | exact .field _ _ _ | exact .extract _ _ | exact .pick _ _ _ | exact .build _ _ | exact .slice _ _ _ _ _ | exact .unOp _ _ _ rfl | exact .index _ _ _ | exact .max _ _ _ rfl rfl | exact .min _ _ _ rfl rfl)) | with_reducible refine Calmly.gl_tf (fun _ _ => ?_) | with_reducible refine Calmly.gl_ft (fun _ _ => ?_)) | ((with_reducible refine Calmly.is_eff ?_); refine Calmly.mix_eff rfl (fun _ _ => ?_)) | ((with_reducible refine Calmly.is_gf ?_); refine Calmly.mix_gf rfl rfl rfl ?_; first | with_reducible refine Calmly.gf_tt (fun _ _ => ?_) | with_reducible refine Calmly.gf_ff (fun _ _ => ?_) | with_reducible refine Calmly.gf_tf (kept_of hk) (fun _ _ => ?_) | with_reducible refine Calmly.gf_ft (kept_of hk) (fun _ _ => ?_)) | ((with_reducible refine Calmly.is_tail ?_); first | refine Calmly.mix_tail_nil ?_ | refine Calmly.mix_tail rfl (fun _ _ => ?_)) | ((with_reducible refine Calmly.is_kept ?_); refine ⟨kept_of hk, ?_⟩) | (with_reducible refine Calmly.mix_alt ?_ ?_))
        obtain ⟨q1, q2, q3, q4⟩ := set2 (x := .int .i64 N) (y := .slice a9 (i + 1) c9) t0 t1
        refine bodyPost_ret (v := .tuple #[.agg #[.int .i64 N, .slice a9 (i + 1) c9], .int .i64 S]) (by simp [results, Try.results84, go_sem, q1, q2]) rfl ⟨a9, c9, B9, rfl, ho9.under2 (by omega) _ _, by omega, (BW9.setCell (by simp; omega) _).setCell (by simp; omega) _⟩
end Go.Proofs.Ytmaidjankakppaa

namespace Go.Proofs.Ytmaidjankakppaa

theorem tdivM_bd {p M : Int} (g : Nat) (h1 : -M ≤ p) (h2 : p ≤ M) : -M ≤ p.tdiv g ∧ p.tdiv g ≤ M := by
  have := Int.natAbs_tdiv_le_natAbs p (g : Int)
  omega
theorem map_bd {ps : List Int} {M : Int} (g : Nat) (hM : 0 ≤ M) (h : ∀ p ∈ ps, -M ≤ p ∧ p ≤ M) (j : Nat) : -M ≤ (ps.map (fun p => p.tdiv (g : Int)))[j]?.getD 0 ∧ (ps.map (fun p => p.tdiv (g : Int)))[j]?.getD 0 ≤ M := by
  rcases Nat.lt_or_ge j ps.length with hj | hj
  · rw [List.getElem?_map, List.getElem?_eq_getElem hj]
    obtain ⟨h1, h2⟩ := h _ (List.getElem_mem hj)
    exact tdivM_bd g h1 h2
  · rw [List.getElem?_eq_none (by simpa using hj)]
    simp
    omega
theorem swayE_ok {ms ks ls : List Int} (h : swayE ms ks ls = 0) : (checkF ms ks).2 = 0 ∧ loadsE ms.length ls = 0 := by
  unfold swayE at h
  split at h
  · rename_i h0
    exact ⟨h0, h⟩
  · rename_i h0
    exact absurd h h0
theorem sway_facts {ms ks ls : List Int} {n : Nat} (hn : ms.length = n) (hE : swayE ms ks ls = 0) :
    ∃ (R : Int) (xs : List Int), (prodK ks n).tdiv (lowG (swPs ks ls n) (prodK ks n)) = R ∧ (swPs ks ls n).map (fun p => p.tdiv (lowG (swPs ks ls n) (prodK ks n))) = xs ∧ xs.length = n ∧ (lcmQ (swQs ks ls n) : Int) = R ∧ comQ (swQs ks ls n) = xs ∧
      1 ≤ R ∧ R ≤ 160000 ∧ (∀ j : Nat, -2560000000 ≤ xs[j]?.getD 0 ∧ xs[j]?.getD 0 ≤ 2560000000) := by
  obtain ⟨hc, hl⟩ := swayE_ok hE
  obtain ⟨_, hls⟩ := loadsE_ok hl
  obtain ⟨q1, q2, q3, q4, q5⟩ := checkF_ok hc
  rw [hn] at q2 q3 q4 q5
  obtain ⟨p1, p2⟩ := prodK_bd q5 n (Nat.le_refl _)
  have p3 : prodK ks n ≤ 160000 := by
    refine Int.le_trans p2 ?_
    rcases (by omega : n = 0 ∨ n = 1 ∨ n = 2 ∨ n = 3 ∨ n = 4) with rfl | rfl | rfl | rfl | rfl <;> decide
  obtain ⟨e1, e2, e3, e4⟩ := common_low (swPs ks ls n) (prodK ks n) p1 (swQs ks ls n) (swQs_low q5)
  have hp := lcmQ_pos (swQs ks ls n)
  refine ⟨_, _, rfl, rfl, by simp [swPs], e1, e2, by omega, by omega, fun j => ?_⟩
  refine map_bd _ (by omega) (fun p hp => ?_) j
  obtain ⟨t, ht, rfl⟩ := List.mem_map.1 hp
  have ht2 := List.mem_range.1 ht
  have := swP_bd q3 q5 hls (t + 1) (by omega)
  omega
theorem shape_facts {ms ks : List Int} {x y : Int} {n : Nat} (hn : ms.length = n) (hc : (checkF ms ks).2 = 0) (hs : squareE x y = 0) :
    ∃ (R : Int) (xs : List Int) (S : Int), (shDen ks y (n - 1)).tdiv (lowG (shP ms ks x y (n - 1)) (shDen ks y (n - 1))) = R ∧ (shP ms ks x y (n - 1)).map (fun p => p.tdiv (lowG (shP ms ks x y (n - 1)) (shDen ks y (n - 1)))) = xs ∧ (pullI ms ks x y (shP ms ks x y (n - 1)) (n - 1)).sign = S ∧ xs.length = n ∧
      (lcmQ (shQs ms ks (Rat.divInt x y) n) : Int) = R ∧ comQ (shQs ms ks (Rat.divInt x y) n) = xs ∧ (pullQ ms ks (Rat.divInt x y) (n - 1)).num.sign = S ∧
      1 ≤ R ∧ R ≤ 8000000000 ∧ (∀ j : Nat, -97336000000000 ≤ xs[j]?.getD 0 ∧ xs[j]?.getD 0 ≤ 97336000000000) := by
  obtain ⟨q1, q2, q3, q4, q5⟩ := checkF_ok hc
  rw [hn] at q2 q3 q4 q5
  have hq := sq_of hs
  obtain ⟨_, h1, h2, _, _⟩ := squareE_ok hs
  obtain ⟨i, rfl⟩ : ∃ i, n = i + 1 := ⟨n - 1, by omega⟩
  rw [Nat.add_sub_cancel]
  obtain ⟨d1, d2⟩ := shDen_bd (den := y) (by omega) h2 q5 i (by omega)
  obtain ⟨e1, e2, e3, e4⟩ := common_low (shP ms ks x y i) (shDen ks y i) d1 (shQs ms ks (Rat.divInt x y) (i + 1)) (shQs_low (by omega) h2 q5)
  have hp := lcmQ_pos (shQs ms ks (Rat.divInt x y) (i + 1))
  have hM : (46000 : Int) ^ i ≤ 97336000000000 := by
    rcases (by omega : i = 0 ∨ i = 1 ∨ i = 2 ∨ i = 3) with rfl | rfl | rfl | rfl <;> decide
  have hD2 : (2000 : Int) ^ i ≤ 8000000000 := by
    rcases (by omega : i = 0 ∨ i = 1 ∨ i = 2 ∨ i = 3) with rfl | rfl | rfl | rfl <;> decide
  refine ⟨_, _, _, rfl, rfl, rfl, by rw [List.length_map, shP_len], e1, e2, pull_sign (by omega) h2 q5 i (by omega), by omega, by omega, fun j => ?_⟩
  refine map_bd _ (by omega) (fun p hp => ?_) j
  obtain ⟨t, ht, rfl⟩ := List.getElem_of_mem hp
  have := shP_bd hq q5 q4 i (by omega) t
  rw [List.getElem?_eq_getElem ht] at this
  simp only [Option.getD_some] at this
  omega
end Go.Proofs.Ytmaidjankakppaa

namespace Go.Proofs.Ytmaidjankakppaa
open Go.RowKit

/-- The count of changes of sign, and the last sign. -/
def ndStep (s : Int × Int) (n : Int) : Int × Int := (if n.sign ≠ 0 ∧ n.sign = -s.2 then s.1 + 1 else s.1, if n.sign ≠ 0 then n.sign else s.2)
def ndTo (xs : List Int) : Nat → Int × Int
  | 0 => (0, 0)
  | k + 1 => ndStep (ndTo xs k) (xs[k]?.getD 0)
theorem ndTo_bd (xs : List Int) (k : Nat) : 0 ≤ (ndTo xs k).1 ∧ (ndTo xs k).1 ≤ k ∧ -1 ≤ (ndTo xs k).2 ∧ (ndTo xs k).2 ≤ 1 := by
  induction k with
  | zero => simp [ndTo]
  | succ k ih =>
    obtain ⟨h1, h2, h3, h4⟩ := ih
    have h5 : -1 ≤ (xs[k]?.getD 0).sign ∧ (xs[k]?.getD 0).sign ≤ 1 := by
      rcases Int.lt_trichotomy (xs[k]?.getD 0) 0 with h | h | h
      · rw [Int.sign_eq_neg_one_of_neg h]; decide
      · rw [h]; decide
      · rw [Int.sign_eq_one_of_pos h]; decide
    show 0 ≤ (ndStep _ _).1 ∧ (ndStep _ _).1 ≤ _ ∧ -1 ≤ (ndStep _ _).2 ∧ (ndStep _ _).2 ≤ 1
    unfold ndStep
    dsimp only
    generalize (xs[k]?.getD 0).sign = t at *
    refine ⟨?_, ?_, ?_, ?_⟩ <;> split <;> omega

set_option maxRecDepth 100000 in
set_option maxHeartbeats 2000000 in
theorem NodesOf_any (a : Option Addr) (n c : Nat) (xs : List Int) (w : World) (h1 : SI w a n c xs) (E R : Int) (hE : (if n ≤ 60 then (0 : Int) else 8) = E) (hR : (if n ≤ 60 then (ndTo xs n).1 else 0) = R) :
    Calls Try.prog 79 #[.slice a n c] w fun e w' => e = .returned (.tuple #[.int .i64 R, .int .i64 E]) ∧ Below w.heap.size w w' := by
  have m1 := h1.max
  have c1 := h1.cap
  by_cases hn : n ≤ 60
  case neg =>
    rw [if_neg hn] at hE hR
    subst hE hR
    have hgt : (60 : Int) < (n : Int) := by omega
    clear hn
    go_enter Try.func79, Try.ntmps79
    go_wp2_with fail
    all_goals first | (exfalso; omega) | skip
    exact bodyPost_ret (v := .tuple #[.int .i64 0, .int .i64 8]) (by simp [results, Try.results79, go_sem]) rfl ⟨rfl, Below.refl _ _⟩
  rw [if_pos hn] at hE hR
  subst hE
  have HR := Lib.hid hR
  clear hR
  have hle : (n : Int) ≤ 60 := by omega
  go_enter Try.func79, Try.ntmps79
  go_wp2_with fail
  go_loopw [4, 5, 14] (fun x y z wr => ∃ (k : Nat) (p q : Int), k ≤ n ∧ x = .int .i64 p ∧ y = .int .i64 q ∧ z = .int .i64 (k : Int) ∧ Hid (ndTo xs k = (p, q)) ∧ Below w.heap.size w wr) (fun _ _ z _ => n - (intOf z).toNat)
  case atStart => exact ⟨0, 0, 0, by omega, rfl, rfl, rfl, Lib.hid rfl, Below.refl _ _⟩
  case round =>
    obtain ⟨k, p, q, hk0, rfl, rfl, rfl, HK, hbr⟩ := hrel
    have hbd := ndTo_bd xs k
    rw [HK.out] at hbd
    dsimp only at hbd
    obtain ⟨b1, b2, b3, b4⟩ := hbd
    by_cases hlt : k < n
    · obtain ⟨ba, oa, rfl, hca⟩ := (h1.keep hbr).at_ (by omega)
      have ea := hca k hlt
      have hstep : ndTo xs (k + 1) = ndStep (p, q) (xs[k]?.getD 0) := by rw [← HK.out]; rfl
      obtain ⟨x, hx⟩ : ∃ v, xs[k]?.getD 0 = v := ⟨_, rfl⟩
      rw [hx] at ea hstep
      obtain ⟨s, hs⟩ : ∃ v, x.sign = v := ⟨_, rfl⟩
      have hs3 : s = -1 ∨ s = 0 ∨ s = 1 := by
        rw [← hs]
        rcases Int.lt_trichotomy x 0 with h | h | h
        · exact .inl (Int.sign_eq_neg_one_of_neg h)
        · exact .inr (.inl (by rw [h]; rfl))
        · exact .inr (.inr (Int.sign_eq_one_of_pos h))
      unfold ndStep at hstep
      dsimp only at hstep
      rw [hs] at hstep
      have HST := Lib.hid hstep
      have HS := Lib.hid hs
      clear hca hx hs hstep
      have hi : (k : Int) < (n : Int) := by omega
      have hi0 : (0 : Int) ≤ (k : Int) := by omega
      go_wp2_with fail
      refine (sign_any x _).mono ?_
      rintro e w1 ⟨rfl, rfl⟩
      rw [HS.out]
      clear HS HK
      have hq3 : q = -1 ∨ q = 0 ∨ q = 1 := by omega
      rcases hs3 with rfl | rfl | rfl <;> rcases hq3 with rfl | rfl | rfl
      all_goals
        go_wp2_with fail
        go_roundw
        case rel => exact ⟨k + 1, _, _, by omega, rfl, rfl, by go_num, Lib.hid (by simpa using HST.out), hbr⟩
        case measure => simp [intOf]; omega
    · have hle2 : (n : Int) ≤ (k : Int) := by omega
      obtain rfl : k = n := by omega
      obtain rfl : p = R := by have := HR.out; rw [HK.out] at this; exact this
      go_wp2_with fail
      exact bodyPost_ret (v := .tuple #[.int .i64 p, .int .i64 0]) (by simp [results, Try.results79, go_sem]) rfl ⟨rfl, hbr⟩

theorem sg3 (l : Int) : (l < 0 ∧ l.sign = -1 ∧ (l != 0) = true ∧ decide (l < 0) = true) ∨ l = 0 ∨ (0 < l ∧ l.sign = 1 ∧ (l != 0) = true ∧ decide (l < 0) = false) := by
  rcases Int.lt_trichotomy l 0 with h | h | h
  · exact .inl ⟨h, Int.sign_eq_neg_one_of_neg h, by rw [bne_iff_ne]; omega, decide_eq_true h⟩
  · exact .inr (.inl h)
  · exact .inr (.inr ⟨h, Int.sign_eq_one_of_pos h, by rw [bne_iff_ne]; omega, decide_eq_false (by omega)⟩)

set_option maxRecDepth 100000 in
set_option maxHeartbeats 2000000 in
theorem rNodes_any (a : Option Addr) (n c : Nat) (xs : List Int) (w : World) (h1 : SI w a n c xs) (R : Int) (hR : (ndTo xs n).1 = R) :
    Calls Try.prog 80 #[.slice a n c] w fun e w' => e = .returned (.int .i64 R) ∧ Below w.heap.size w w' := by
  have m1 := h1.max
  have c1 := h1.cap
  have HR := Lib.hid hR
  clear hR
  go_enter Try.func80, Try.ntmps80
  go_wp2_with fail
  go_loopw [3, 4, 5] (fun x y z wr => ∃ (k : Nat) (p l : Int), k ≤ n ∧ x = .int .i64 p ∧ y = .int .i64 l ∧ z = .int .i64 (k : Int) ∧ Hid (ndTo xs k = (p, l.sign)) ∧ Below w.heap.size w wr) (fun _ _ z _ => n - (intOf z).toNat)
  case atStart => exact ⟨0, 0, 0, by omega, rfl, rfl, rfl, Lib.hid rfl, Below.refl _ _⟩
  case round =>
    obtain ⟨k, p, l, hk0, rfl, rfl, rfl, HK, hbr⟩ := hrel
    have hbd := ndTo_bd xs k
    rw [HK.out] at hbd
    dsimp only at hbd
    obtain ⟨b1, b2, _, _⟩ := hbd
    by_cases hlt : k < n
    · obtain ⟨ba, oa, rfl, hca⟩ := (h1.keep hbr).at_ (by omega)
      have ea := hca k hlt
      have hstep : ndTo xs (k + 1) = ndStep (p, l.sign) (xs[k]?.getD 0) := by rw [← HK.out]; rfl
      obtain ⟨x, hx⟩ : ∃ v, xs[k]?.getD 0 = v := ⟨_, rfl⟩
      rw [hx] at ea hstep
      unfold ndStep at hstep
      dsimp only at hstep
      clear hca hx
      have hi : (k : Int) < (n : Int) := by omega
      have hi0 : (0 : Int) ≤ (k : Int) := by omega
      rcases sg3 x with ⟨hx, hxs, hxz, hxb⟩ | hx | ⟨hx, hxs, hxz, hxb⟩
      case' inr.inl =>
        subst hx
        rw [if_neg (by simp), if_neg (by simp)] at hstep
        have HST := Lib.hid hstep
        clear hstep
        go_wp2_with fail
        go_roundw
        case rel => exact ⟨k + 1, _, _, by omega, rfl, rfl, by go_num, HST, hbr⟩
        case measure => simp [intOf]; omega
      all_goals
        have hxe : (x == 0) = false := by rw [beq_eq_false_iff_ne]; omega
        have hnx : ¬ x = 0 := by omega
        rw [hxs] at hstep
        rcases sg3 l with ⟨hl, hls, hlz, hlb⟩ | hl | ⟨hl, hls, hlz, hlb⟩
        all_goals
          try subst hl
          try rw [hls] at hstep
          have HST := Lib.hid hstep
          have HXS := Lib.hid hxs
          clear hstep hxs HK
          go_wp2_with fail
          all_goals first | (exfalso; omega) | skip
          all_goals
            go_roundw
            case rel => exact ⟨k + 1, _, _, by omega, rfl, rfl, by go_num, Lib.hid (by rw [HST.out, HXS.out]; simp), hbr⟩
            case measure => simp [intOf]; omega
    · have hle2 : (n : Int) ≤ (k : Int) := by omega
      obtain rfl : k = n := by omega
      obtain rfl : p = R := by have := HR.out; rw [HK.out] at this; exact this
      go_wp2_with fail
      go_ret
      exact ⟨rfl, hbr⟩
end Go.Proofs.Ytmaidjankakppaa

namespace Go.Calmly
section
variable {P : Program} {ops : Array Oper} {Q : Exit → Act → World → Prop} {w0 : World}
theorem wanted_un {o : Oper} {g d : Nat} {want : Bool} {a : Act} (hg : o.guard = some (g, want)) (hd : (ops[g]?).bind (·.dst) = some d) (hv : a.tmps[d]? = some undef) :
    Region.wanted o (yielded ops a.tmps) = false := by
  simp only [Region.wanted, hg, yielded, hd, Option.bind_some, hv]
  cases want <;> rfl
theorem mix_glu {i : Nat} {k : Plan} {dst : Option Tmp} {op : Op} {ty : TypeId} {pos : String} {after : Array Edge} {a : Act} {w : World} {g d : Nat} {want : Bool} (hi : ops[i]? = some ⟨dst, op, ty, pos, after, some (g, want)⟩) (hd : (ops[g]?).bind (·.dst) = some d) (hv : a.tmps[d]? = some undef)
    (h : ∀ K : Act → World → Prop, (∀ a', WpMix P ops Q w0 k a' w → K a' w0) → Oper.wp P ⟨dst, .assign (.const undef), ty, pos, after, none⟩ a w0 K NoQ) : WpMix P ops Q w0 (.gl i k) a w := by
  refine ⟨?_⟩
  have hw := wanted_un (o := ⟨dst, op, ty, pos, after, some (g, want)⟩) rfl hd hv
  simp only [Plan.gl, wpMix, hi, hw, Bool.false_eq_true, if_false]
  exact h (fun a' _ => wpMix P ops Q w0 k a' w) (fun _ hh => hh.out)
theorem mix_gfu {i : Nat} {k : Plan} {dst : Option Tmp} {op : Op} {ty : TypeId} {pos : String} {after : Array Edge} {a : Act} {w : World} {g d : Nat} {want : Bool} (hi : ops[i]? = some ⟨dst, op, ty, pos, after, some (g, want)⟩) (hd : (ops[g]?).bind (·.dst) = some d) (hv : a.tmps[d]? = some undef) (hk : Kept w0 w)
    (h : ∀ K : Act → World → Prop, (∀ a', WpMix P ops Q w0 k a' w → K a' w) → Oper.wp P ⟨dst, .assign (.const undef), ty, pos, after, none⟩ a w K NoQ) : WpMix P ops Q w0 (.gf i k) a w := by
  refine ⟨?_⟩
  show wpOp P ops NoQ i (fun a' w' => Kept w0 w' ∧ wpMix P ops Q w0 k a' w') a w
  exact op_off (K := fun a' w' => Kept w0 w' ∧ wpMix P ops Q w0 k a' w') hi (wanted_un rfl hd hv) ⟨hk, h (fun a' _ => wpMix P ops Q w0 k a' w) (fun _ hh => hh.out)⟩
end
end Go.Calmly
