/- The check of a state: the model's. The check of a state: the model's, whole. -/
import Derived.Test.YtaiikekgckjdeaaK22
namespace Go.Proofs.Ytaiikekgckjdeaa
open Go.RowKit
open Calmly (Kept)
set_option maxRecDepth 100000 in
set_option maxHeartbeats 1000000 in
theorem eachState2_any (p1 p2 : Nat) (a : Option Addr) (n c : Nat) (l : List FlR) (w0 w : World) (err : Nat → Int) (Inv : Nat → World → Prop) (h1 : SFlR w0 a n c l) (h0 : Below w0.heap.size w0 w) (hI : Inv 0 w)
    (hst : ∀ i W W', Inv i W → Below W.heap.size W W' → Inv i W')
    (hcl : ∀ (i : Nat) (W : World), i < n → Inv i W → Below w0.heap.size w0 W → Calls Try.prog 116 #[.int .i64 (i : Int), .agg #[.int .i64 (l[i]?.getD flr0).1, .int .i64 (l[i]?.getD flr0).2.1, hv (l[i]?.getD flr0).2.2], .pointer (some ⟨p1, 0, none⟩), .pointer (some ⟨p2, 0, none⟩)] W fun e w' => e = .returned (.int .i64 (err i)) ∧ (err i = 0 → Inv (i + 1) w') ∧ Below w0.heap.size W w') :
    Calls Try.prog 115 #[.slice a n c, .func (.func 116) #[] #[.pointer (some ⟨p1, 0, none⟩), .pointer (some ⟨p2, 0, none⟩)]] w fun e w' => e = .returned (.tuple #[.int .i64 (eaF err 0 n).1, .int .i64 (eaF err 0 n).2]) ∧ Below w0.heap.size w w' := by
  have l1 : n ≤ l.length ∧ l.length ≤ n := by have := h1.len; omega
  have m1 := h1.max
  have c1 := h1.cap
  obtain ⟨I, E, hR⟩ : ∃ I E, eaF err 0 n = (I, E) := ⟨_, _, rfl⟩
  rw [hR]
  dsimp only
  have HR := Lib.hid hR
  clear hR
  have hw := h0.size
  go_enter Try.func115, Try.ntmps115
  go_wp2_with fail
  go_loopw [11] (fun i wr => ∃ k : Nat, k ≤ n ∧ i = .int .i64 k ∧ eaF err k (n - k) = (I, E) ∧ Inv k wr ∧ Below w0.heap.size w wr) (fun i _ => n - (intOf i).toNat)
  case atStart => exact ⟨0, by omega, rfl, HR.out, hI, Below.refl _ _⟩
  case round =>
    obtain ⟨k, hk, rfl, ht, hi, hbr⟩ := hrel
    have HT := Lib.hid ht
    clear ht
    have hb0 := h0.trans hbr
    have hrs := hb0.size
    by_cases hlt : k < n
    · obtain ⟨cb, co, rfl, hcc⟩ := h1.at_ (by omega)
      obtain ⟨y0, y1, y2⟩ := hcc k hlt
      replace y0 := cell_keep y0 hb0
      replace y1 := cell_keep y1 hb0
      replace y2 := cell_keep y2 hb0
      clear hcc
      have hc := hcl k
      obtain ⟨rr, hrr⟩ : ∃ rr, l[k]?.getD flr0 = rr := ⟨_, rfl⟩
      obtain ⟨x0, x1, ⟨q1, q2, q3⟩⟩ := rr
      rw [hrr] at y0 y1 y2 hc
      clear hrr
      try dsimp only [hv] at y0 y1 y2 hc
      have HC := Lib.hid hc
      clear hc
      have hi1 : (k : Int) < (n : Int) := by omega
      have hi0 : (0 : Int) ≤ (k : Int) := by omega
      obtain ⟨R, hE⟩ : ∃ R, err k = R := ⟨_, rfl⟩
      have HE := Lib.hid hE
      clear hE
      have hi9 := Lib.hid hi
      clear hi
      go_wp2_with fail
      refine (HC.out _ hlt (hst k _ _ hi9.out ((Below.refl _ _).alloc (Nat.le_refl _) (.cells #[.int .i64 x0, .int .i64 x1, .slice q1 q2 q3] 130))) (hb0.alloc hrs (.cells #[.int .i64 x0, .int .i64 x1, .slice q1 q2 q3] 130))).mono ?_
      rintro e w1 ⟨rfl, hi2, hs⟩
      rw [HE.out]
      have hbn := (hbr.alloc hrs (.cells #[.int .i64 x0, .int .i64 x1, .slice q1 q2 q3] 130)).trans hs
      have hI2 := Lib.hid hi2
      clear hi2
      by_cases hz : R = 0
      · subst hz
        have hE0 : ((0 : Int) != 0) = false := rfl
        go_wp2_with fail
        go_roundw
        case rel => exact ⟨k + 1, by omega, by go_num, (eaF_ok hlt HE.out).symm.trans HT.out, hI2.out HE.out, hbn⟩
        case measure => simp [intOf]; omega
      · have b1 : (R != 0) = true := by simpa using hz
        have hRE : (I, E) = ((k : Int), R) := by rw [← HT.out, eaF_bad hlt (by rw [HE.out]; exact hz), HE.out]
        injection hRE with e1 e2
        have E1 := Lib.hid e1
        have E2 := Lib.hid e2
        clear e1 e2 hz
        go_wp2_with fail
        refine bodyPost_ret (v := .tuple #[.int .i64 (k : Int), .int .i64 R]) (by simp [results, Try.results115]) rfl ⟨by rw [E1.out, E2.out], hbn⟩
    · have hle : (n : Int) ≤ (k : Int) := by omega
      have hR0 : (I, E) = (0, 0) := by rw [← HT.out, eaF_end (by omega)]
      injection hR0 with e1 e2
      subst e1 e2
      go_wp2_with fail
      refine bodyPost_ret (v := .tuple #[.int .i64 0, .int .i64 0]) (by simp [results, Try.results115]) rfl ⟨rfl, hbr⟩
/-- The error of a floor of a state; index and error of a state of a valid frame; of a state of any frame. -/
def stErr (fs : List Fl) (s : St) (i : Nat) : Int := if plc (s.1[i]?.getD 0) = true ∧ plc (s.2.1[i]?.getD 0) = true then firstE [(hldE (fs[i]?.getD fl0).2.2 (s.2.2[i]?.getD ho0).1 (s.2.2[i]?.getD ho0).2).2, unlessE ((s.2.2[i]?.getD ho0).1 == dr s.1 i) 13, unlessE (szd (dr s.1 i) (fs[i]?.getD fl0).2.1) 22] else 2
def stfE (fs : List Fl) (s : St) : Int × Int := if s.1.length = fs.length ∧ s.2.1.length = fs.length ∧ s.2.2.length = fs.length then eaF (stErr fs s) 0 fs.length else (0, 10)
def staE (fs : List Fl) (s : St) : Int × Int := if (frmE fs).2 = 0 then stfE fs s else frmE fs
theorem first3 (a b c : Int) : firstE [a, b, c] = if a = 0 then (if b = 0 then c else b) else a := by
  by_cases ha : a = 0 <;> by_cases hb : b = 0 <;> by_cases hc : c = 0 <;> simp [firstE, ha, hb, hc]
theorem kept_allocW5 {W w : World} {o : Obj} {G : Prop} (h : Below W.heap.size W w) (k : Below W.heap.size W (w.alloc o) → Below w.heap.size w (w.alloc o) → (w.alloc o).heap[w.heap.size]? = some o → G) : Kept W (w.alloc o) ∧ G :=
  ⟨kept_of (h.alloc h.size o), k (h.alloc h.size o) ((Below.refl _ _).alloc (Nat.le_refl _) o) (alloc_new w o)⟩
/-- What the check of a floor of a state reads. -/
structure CkF (W : World) (i p1 n3 c1 c2 c3 b1 o1 b2 o2 b3 o3 : Nat) (v1 u1 : Option Addr) (v2 v3 u2 u3 : Nat) (t' X Y : Int) (sl : List Sp) (l : List El) : Prop where
  st : W.heap[p1]? = some (.cells #[.slice (some ⟨b1, o1, none⟩) n3 c1, .slice (some ⟨b2, o2, none⟩) n3 c2, .slice (some ⟨b3, o3, none⟩) n3 c3] 97)
  x : W.cell? ⟨b1, o1 + i, none⟩ = some (.int .i64 X)
  y : W.cell? ⟨b2, o2 + i, none⟩ = some (.int .i64 Y)
  t0 : W.cell? ⟨b3, o3 + i * 2, none⟩ = some (.int .i64 t')
  t1 : W.cell? ⟨b3, o3 + i * 2 + 1, none⟩ = some (.slice v1 v2 v3)
  sp : SSp W v1 v2 v3 sl
  el : SEl W u1 u2 u3 l
theorem CkF.keep {w0 W : World} {i p1 n3 c1 c2 c3 b1 o1 b2 o2 b3 o3 : Nat} {v1 u1 : Option Addr} {v2 v3 u2 u3 : Nat} {t' X Y : Int} {sl : List Sp} {l : List El} (h : CkF w0 i p1 n3 c1 c2 c3 b1 o1 b2 o2 b3 o3 v1 u1 v2 v3 u2 u3 t' X Y sl l) (hb : Below w0.heap.size w0 W) : CkF W i p1 n3 c1 c2 c3 b1 o1 b2 o2 b3 o3 v1 u1 v2 v3 u2 u3 t' X Y sl l :=
  ⟨blk_keep h.st hb, cell_keep h.x hb, cell_keep h.y hb, cell_keep h.t0 hb, cell_keep h.t1 hb, h.sp.keep hb, h.el.keep hb⟩
set_option maxRecDepth 100000 in
set_option maxHeartbeats 4000000 in
theorem chkSt1_run (i p1 p2 n3 c1 c2 c3 b1 o1 b2 o2 b3 o3 : Nat) (v1 u1 : Option Addr) (v2 v3 u2 u3 : Nat) (ms lim v t' X Y R : Int) (sl : List Sp) (l : List El) (w0 w : World) (h : CkF w0 i p1 n3 c1 c2 c3 b1 o1 b2 o2 b3 o3 v1 u1 v2 v3 u2 u3 t' X Y sl l) (hb0 : Below w0.heap.size w0 w) (hp2 : w0.heap.size ≤ p2) (y2 : w.heap[p2]? = some (.cells #[.int .i64 v] 3))
    (hi : i < n3) (m1 : n3 ≤ c1 ∧ c1 ≤ 9223372036854775807) (m2 : n3 ≤ c2 ∧ c2 ≤ 9223372036854775807) (m3 : n3 ≤ c3 ∧ c3 ≤ 9223372036854775807) (hl : ∀ j, j < u2 → elErr (l[j]?.getD el0) = 0) (hvb : -10000 ≤ v ∧ v ≤ 10000) (hlim : 1 ≤ lim ∧ lim ≤ 1000)
    (hR : (if plc X = true ∧ plc Y = true then firstE [(hldE l t' sl).2, unlessE (t' == X - v) 13, unlessE (szd (X - v) lim) 22] else 2) = R) :
    Calls Try.prog 116 #[.int .i64 (i : Int), .agg #[.int .i64 ms, .int .i64 lim, .slice u1 u2 u3], .pointer (some ⟨p1, 0, none⟩), .pointer (some ⟨p2, 0, none⟩)] w fun e w' => e = .returned (.int .i64 R) ∧ (R = 0 → w'.heap[p2]? = some (.cells #[.int .i64 X] 3)) ∧ Below w0.heap.size w w' := by
  have HR := Lib.hid hR
  have HHL := Lib.hid hl
  have hpl : p2 < w.heap.size := blk_lt y2
  have hws := hb0.size
  obtain ⟨k1, k2⟩ := m1
  obtain ⟨k3, k4⟩ := m2
  obtain ⟨k5, k6⟩ := m3
  clear hR hl
  have y5 := alloc_new w (.cells #[.int .i64 ms, .int .i64 lim, .slice u1 u2 u3] 130)
  have hA : Below w.heap.size w (w.alloc (.cells #[.int .i64 ms, .int .i64 lim, .slice u1 u2 u3] 130)) := (Below.refl _ _).alloc (Nat.le_refl _) _
  have BW := hA.mono hws
  have hC := h.keep (hb0.trans BW)
  replace y2 := blk_keep y2 hA
  have hi1 : (i : Int) < (n3 : Int) := by omega
  have hi0 : (0 : Int) ≤ (i : Int) := by omega
  have f10 := cell_block hC.st 0
  have f11 := cell_block hC.st 1
  have p0 := hC.x
  have r0 := hC.y
  have hgt : p2 ≠ w.heap.size := by omega
  go_enter Try.func116, Try.ntmps116
  go_wp2_with fail
  obtain ⟨p5, hp5⟩ : ∃ p, w.heap.size = p := ⟨_, rfl⟩
  rw [hp5] at y5 hgt ⊢
  have HB0 := Lib.hid hb0
  generalize w.alloc (.cells #[.int .i64 ms, .int .i64 lim, .slice u1 u2 u3] 130) = W at *
  clear hA hp5
  refine (dPlace_any X _).mono ?_
  rintro e w1 ⟨rfl, rfl⟩
  dsimp only
  have ret2 : ∀ {P : Prop}, R = 2 → (R = 0 → P) := fun h1 h2 => by rw [h1] at h2; cases h2
  by_cases hX : plc X = true
  case neg =>
    have hX' : plc X = false := by simpa using hX
    have hR2 : R = 2 := by rw [← HR.out, hX']; simp
    have H2 := Lib.hid hR2
    rw [hX']
    clear hR2 hX hX'
    go_wp2_with fail
    go_ret
    exact ⟨by rw [H2.out]; rfl, ret2 H2.out, BW⟩
  case pos =>
    rw [hX]
    go_wp2_with fail
    refine (dPlace_any Y _).mono ?_
    rintro e w1 ⟨rfl, rfl⟩
    dsimp only
    by_cases hY : plc Y = true
    case neg =>
      have hY' : plc Y = false := by simpa using hY
      have hR2 : R = 2 := by rw [← HR.out, hY']; simp
      have H2 := Lib.hid hR2
      rw [hY']
      clear hR2 hY hY'
      go_wp2_with fail
      go_ret
      exact ⟨by rw [H2.out]; rfl, ret2 H2.out, BW⟩
    case pos =>
      rw [hY]
      have hR2 : firstE [(hldE l t' sl).2, unlessE (t' == X - v) 13, unlessE (szd (X - v) lim) 22] = R := by rw [← HR.out, if_pos ⟨hX, hY⟩]
      have HR2 := Lib.hid hR2
      have hXb := plc_ok hX
      clear hR2 HR hX hY ret2 f11 r0
      have f20 := cell_block y2 0
      go_wp2_with fail
      refine Calmly.wp_region_mix 6 (.fl 0 <| .fl 1 <| .fl 2 <| .fl 3 <| .fl 4 <| .fl 5 <| .tail [6, 7]) (by kernel_rfl) (by kernel_rfl) ?_
      have BD : Below W.heap.size W W.drew := (Below.refl _ _).drew
      have BV := BW.trans (BD.mono (Nat.le_trans hws BW.size))
      have hC2 := hC.keep BD
      replace p0 := cell_keep p0 BD
      replace y2 := blk_keep y2 BD
      replace y5 := blk_keep y5 BD
      clear f10 f20 hC BW
      generalize W.drew = V at *
      have f10 := cell_block hC2.st 0
      have f20 := cell_block y2 0
      have n20 := frozen_block y2 0
      have hVp : p2 ≠ p5 := hgt
      have hk := Below.refl V.heap.size V
      go_wp2_with (first | ((with_reducible refine Calmly.is_fl ?_); refine Calmly.mix_fl rfl ?_ (fun _ _ => ?_); (first | exact .move _ | exact .load _ _ | exact .fieldAddr _ _ _ (by kernel_rfl) | exact .assign _ | exact .binOp _ _ _ _ _ rfl | exact .indexAddr _ _ _ | exact .len _ _ (by kernel_rfl) | exact .field _ _ _ | exact .extract _ _ | exact .pick _ _ _ | exact .build _ _ | exact .slice _ _ _ _ _ | exact .unOp _ _ _ rfl | exact .index _ _ _ | exact .max _ _ _ rfl rfl | exact .min _ _ _ rfl rfl | exact .nilCheck _ _ rfl)) | ((with_reducible refine Calmly.is_gl ?_); refine Calmly.mix_gl rfl rfl rfl ?_; first | ((first | with_reducible refine Calmly.gl_tt ?_ (fun _ _ => ?_) | with_reducible refine Calmly.gl_ff ?_ (fun _ _ => ?_)); (first | exact .move _ | exact .load _ _ | exact .fieldAddr _ _ _ (by kernel_rfl) | exact .assign _ | exact .binOp _ _ _ _ _ rfl | exact .indexAddr _ _ _ | exact .len _ _ (by kernel_rfl) | exact .field _ _ _ | exact .extract _ _ | exact .pick _ _ _ | exact .build _ _ | exact .slice _ _ _ _ _ | exact .unOp _ _ _ rfl | exact .index _ _ _ | exact .max _ _ _ rfl rfl | exact .min _ _ _ rfl rfl | exact .nilCheck _ _ rfl)) | with_reducible refine Calmly.gl_tf (fun _ _ => ?_) | with_reducible refine Calmly.gl_ft (fun _ _ => ?_)) | ((with_reducible refine Calmly.is_eff ?_); refine Calmly.mix_eff rfl (fun _ _ => ?_)) | ((with_reducible refine Calmly.is_gf ?_); refine Calmly.mix_gf rfl rfl rfl ?_; first | with_reducible refine Calmly.gf_tt (fun _ _ => ?_) | with_reducible refine Calmly.gf_ff (fun _ _ => ?_) | with_reducible refine Calmly.gf_tf (kept_of hk) (fun _ _ => ?_) | with_reducible refine Calmly.gf_ft (kept_of hk) (fun _ _ => ?_)) | ((with_reducible refine Calmly.is_tail ?_); first | refine Calmly.mix_tail_nil ?_ | refine Calmly.mix_tail rfl (fun _ _ => ?_)) | ((with_reducible refine Calmly.is_kept ?_); refine ⟨kept_of hk, ?_⟩) | (with_reducible refine Calmly.mix_alt ?_ ?_))
      have hO : ∀ b, b ≠ p2 → (V.setCell ⟨p2, 0, none⟩ (.int .i64 X)).heap[b]? = V.heap[b]? := fun b hb => Below.heap_setCell _ _ _ _ hb
      have BZ : Below w0.heap.size w (V.setCell ⟨p2, 0, none⟩ (.int .i64 X)) := BV.setCell hp2 _
      have z2 := setBlk y2 0 (.int .i64 X)
      simp at z2
      have z5 := (hO p5 (fun e => hVp e.symm)).trans y5
      clear y2 y5 f10 f20 n20 hC2 p0 hO hk BD BV
      generalize V.setCell ⟨p2, 0, none⟩ (.int .i64 X) = Z at *
      refine Calmly.wp_region_mix 12 (.fl 0 <| .fl 1 <| .fl 2 <| .fl 3 <| .fl 4 <| .fl 5 <| .fl 6 <| .eff 7 <| .fl 8 <| .fl 9 <| .fl 10 <| .fl 11 <| .tail [12]) (by kernel_rfl) (by kernel_rfl) ?_
      have BD : Below Z.heap.size Z Z.drew := (Below.refl _ _).drew
      replace z2 := blk_keep z2 BD
      replace z5 := blk_keep z5 BD
      replace BZ := BZ.trans (BD.mono (Nat.le_trans hws BZ.size))
      clear BD
      generalize Z.drew = Y3 at *
      have hC3 := h.keep (HB0.out.trans BZ)
      have f12 := cell_block hC3.st 2
      have t0 := hC3.t0
      have t1 := hC3.t1
      have f51 := cell_block z5 1
      have f52 := cell_block z5 2
      have hk := Below.refl Y3.heap.size Y3
      go_wp2_with (first | ((with_reducible refine Calmly.is_fl ?_); refine Calmly.mix_fl rfl ?_ (fun _ _ => ?_); (first | exact .move _ | exact .load _ _ | exact .fieldAddr _ _ _ (by kernel_rfl) | exact .assign _ | exact .binOp _ _ _ _ _ rfl | exact .indexAddr _ _ _ | exact .len _ _ (by kernel_rfl) | exact .field _ _ _ | exact .extract _ _ | exact .pick _ _ _ | exact .build _ _ | exact .slice _ _ _ _ _ | exact .unOp _ _ _ rfl | exact .index _ _ _ | exact .max _ _ _ rfl rfl | exact .min _ _ _ rfl rfl | exact .nilCheck _ _ rfl)) | ((with_reducible refine Calmly.is_gl ?_); refine Calmly.mix_gl rfl rfl rfl ?_; first | ((first | with_reducible refine Calmly.gl_tt ?_ (fun _ _ => ?_) | with_reducible refine Calmly.gl_ff ?_ (fun _ _ => ?_)); (first | exact .move _ | exact .load _ _ | exact .fieldAddr _ _ _ (by kernel_rfl) | exact .assign _ | exact .binOp _ _ _ _ _ rfl | exact .indexAddr _ _ _ | exact .len _ _ (by kernel_rfl) | exact .field _ _ _ | exact .extract _ _ | exact .pick _ _ _ | exact .build _ _ | exact .slice _ _ _ _ _ | exact .unOp _ _ _ rfl | exact .index _ _ _ | exact .max _ _ _ rfl rfl | exact .min _ _ _ rfl rfl | exact .nilCheck _ _ rfl)) | with_reducible refine Calmly.gl_tf (fun _ _ => ?_) | with_reducible refine Calmly.gl_ft (fun _ _ => ?_)) | ((with_reducible refine Calmly.is_eff ?_); refine Calmly.mix_eff rfl (fun _ _ => ?_)) | ((with_reducible refine Calmly.is_gf ?_); refine Calmly.mix_gf rfl rfl rfl ?_; first | with_reducible refine Calmly.gf_tt (fun _ _ => ?_) | with_reducible refine Calmly.gf_ff (fun _ _ => ?_) | with_reducible refine Calmly.gf_tf (kept_of hk) (fun _ _ => ?_) | with_reducible refine Calmly.gf_ft (kept_of hk) (fun _ _ => ?_)) | ((with_reducible refine Calmly.is_tail ?_); first | refine Calmly.mix_tail_nil ?_ | refine Calmly.mix_tail rfl (fun _ _ => ?_)) | ((with_reducible refine Calmly.is_kept ?_); refine ⟨kept_of hk, ?_⟩) | (with_reducible refine Calmly.mix_alt ?_ ?_))
      refine (holdErr_any u1 v1 u2 u3 v2 v3 l t' sl _ (hC3.el.keep hk) (hC3.sp.keep hk) HHL.out).mono ?_
      rintro e w3 ⟨rfl, hb3⟩
      replace hk := step_of hk hb3
      dsimp only
      obtain ⟨HI1, hHI1⟩ : ∃ x, (hldE l t' sl).1 = x := ⟨_, rfl⟩
      obtain ⟨HE1, hHE1⟩ : ∃ x, (hldE l t' sl).2 = x := ⟨_, rfl⟩
      rw [hHI1, hHE1]
      have HHE := Lib.hid hHE1
      clear hHI1 hHE1 hb3
      go_wp2_with (first | ((with_reducible refine Calmly.is_fl ?_); refine Calmly.mix_fl rfl ?_ (fun _ _ => ?_); (first | exact .move _ | exact .load _ _ | exact .fieldAddr _ _ _ (by kernel_rfl) | exact .assign _ | exact .binOp _ _ _ _ _ rfl | exact .indexAddr _ _ _ | exact .len _ _ (by kernel_rfl) | exact .field _ _ _ | exact .extract _ _ | exact .pick _ _ _ | exact .build _ _ | exact .slice _ _ _ _ _ | exact .unOp _ _ _ rfl | exact .index _ _ _ | exact .max _ _ _ rfl rfl | exact .min _ _ _ rfl rfl | exact .nilCheck _ _ rfl)) | ((with_reducible refine Calmly.is_gl ?_); refine Calmly.mix_gl rfl rfl rfl ?_; first | ((first | with_reducible refine Calmly.gl_tt ?_ (fun _ _ => ?_) | with_reducible refine Calmly.gl_ff ?_ (fun _ _ => ?_)); (first | exact .move _ | exact .load _ _ | exact .fieldAddr _ _ _ (by kernel_rfl) | exact .assign _ | exact .binOp _ _ _ _ _ rfl | exact .indexAddr _ _ _ | exact .len _ _ (by kernel_rfl) | exact .field _ _ _ | exact .extract _ _ | exact .pick _ _ _ | exact .build _ _ | exact .slice _ _ _ _ _ | exact .unOp _ _ _ rfl | exact .index _ _ _ | exact .max _ _ _ rfl rfl | exact .min _ _ _ rfl rfl | exact .nilCheck _ _ rfl)) | with_reducible refine Calmly.gl_tf (fun _ _ => ?_) | with_reducible refine Calmly.gl_ft (fun _ _ => ?_)) | ((with_reducible refine Calmly.is_eff ?_); refine Calmly.mix_eff rfl (fun _ _ => ?_)) | ((with_reducible refine Calmly.is_gf ?_); refine Calmly.mix_gf rfl rfl rfl ?_; first | with_reducible refine Calmly.gf_tt (fun _ _ => ?_) | with_reducible refine Calmly.gf_ff (fun _ _ => ?_) | with_reducible refine Calmly.gf_tf (kept_of hk) (fun _ _ => ?_) | with_reducible refine Calmly.gf_ft (kept_of hk) (fun _ _ => ?_)) | ((with_reducible refine Calmly.is_tail ?_); first | refine Calmly.mix_tail_nil ?_ | refine Calmly.mix_tail rfl (fun _ _ => ?_)) | ((with_reducible refine Calmly.is_kept ?_); refine ⟨kept_of hk, ?_⟩) | (with_reducible refine Calmly.mix_alt ?_ ?_))
      replace z2 := blk_keep z2 hk
      replace z5 := blk_keep z5 hk
      replace BZ := BZ.trans (hk.mono (Nat.le_trans hws BZ.size))
      clear hk f12 t0 t1 f51 f52 hC3
      generalize w3 = Z3 at *
      refine Calmly.wp_region_mix 17 (.fl 0 <| .fl 1 <| .fl 2 <| .fl 3 <| .fl 4 <| .fl 5 <| .fl 6 <| .fl 7 <| .fl 8 <| .fl 10 <| .fl 11 <| .fl 12 <| .eff 9 <| .eff 13 <| .eff 14 <| .eff 15 <| .eff 16 <| .tail [17]) (by kernel_rfl) (by kernel_rfl) ?_
      have BD : Below Z3.heap.size Z3 Z3.drew := (Below.refl _ _).drew
      replace z2 := blk_keep z2 BD
      replace z5 := blk_keep z5 BD
      replace BZ := BZ.trans (BD.mono (Nat.le_trans hws BZ.size))
      clear BD
      generalize Z3.drew = Y4 at *
      have hC3 := h.keep (HB0.out.trans BZ)
      have f12 := cell_block hC3.st 2
      have t0 := hC3.t0
      have f51 := cell_block z5 1
      have hk := Below.refl Y4.heap.size Y4
      clear hC3
      go_wp2_with (first | ((with_reducible refine Calmly.is_fl ?_); refine Calmly.mix_fl rfl ?_ (fun _ _ => ?_); (first | exact .move _ | exact .load _ _ | exact .fieldAddr _ _ _ (by kernel_rfl) | exact .assign _ | exact .binOp _ _ _ _ _ rfl | exact .indexAddr _ _ _ | exact .len _ _ (by kernel_rfl) | exact .field _ _ _ | exact .extract _ _ | exact .pick _ _ _ | exact .build _ _ | exact .slice _ _ _ _ _ | exact .unOp _ _ _ rfl | exact .index _ _ _ | exact .max _ _ _ rfl rfl | exact .min _ _ _ rfl rfl | exact .nilCheck _ _ rfl)) | ((with_reducible refine Calmly.is_gl ?_); refine Calmly.mix_gl rfl rfl rfl ?_; first | ((first | with_reducible refine Calmly.gl_tt ?_ (fun _ _ => ?_) | with_reducible refine Calmly.gl_ff ?_ (fun _ _ => ?_)); (first | exact .move _ | exact .load _ _ | exact .fieldAddr _ _ _ (by kernel_rfl) | exact .assign _ | exact .binOp _ _ _ _ _ rfl | exact .indexAddr _ _ _ | exact .len _ _ (by kernel_rfl) | exact .field _ _ _ | exact .extract _ _ | exact .pick _ _ _ | exact .build _ _ | exact .slice _ _ _ _ _ | exact .unOp _ _ _ rfl | exact .index _ _ _ | exact .max _ _ _ rfl rfl | exact .min _ _ _ rfl rfl | exact .nilCheck _ _ rfl)) | with_reducible refine Calmly.gl_tf (fun _ _ => ?_) | with_reducible refine Calmly.gl_ft (fun _ _ => ?_)) | ((with_reducible refine Calmly.is_eff ?_); refine Calmly.mix_eff rfl (fun _ _ => ?_)) | ((with_reducible refine Calmly.is_gf ?_); refine Calmly.mix_gf rfl rfl rfl ?_; first | with_reducible refine Calmly.gf_tt (fun _ _ => ?_) | with_reducible refine Calmly.gf_ff (fun _ _ => ?_) | with_reducible refine Calmly.gf_tf (kept_of hk) (fun _ _ => ?_) | with_reducible refine Calmly.gf_ft (kept_of hk) (fun _ _ => ?_)) | ((with_reducible refine Calmly.is_tail ?_); first | refine Calmly.mix_tail_nil ?_ | refine Calmly.mix_tail rfl (fun _ _ => ?_)) | ((with_reducible refine Calmly.is_kept ?_); refine ⟨kept_of hk, ?_⟩) | (with_reducible refine Calmly.mix_alt ?_ ?_))
      refine (dUnless_any _ 13 _).mono ?_
      rintro e w4 ⟨rfl, rfl⟩
      dsimp only
      go_wp2_with (first | ((with_reducible refine Calmly.is_fl ?_); refine Calmly.mix_fl rfl ?_ (fun _ _ => ?_); (first | exact .move _ | exact .load _ _ | exact .fieldAddr _ _ _ (by kernel_rfl) | exact .assign _ | exact .binOp _ _ _ _ _ rfl | exact .indexAddr _ _ _ | exact .len _ _ (by kernel_rfl) | exact .field _ _ _ | exact .extract _ _ | exact .pick _ _ _ | exact .build _ _ | exact .slice _ _ _ _ _ | exact .unOp _ _ _ rfl | exact .index _ _ _ | exact .max _ _ _ rfl rfl | exact .min _ _ _ rfl rfl | exact .nilCheck _ _ rfl)) | ((with_reducible refine Calmly.is_gl ?_); refine Calmly.mix_gl rfl rfl rfl ?_; first | ((first | with_reducible refine Calmly.gl_tt ?_ (fun _ _ => ?_) | with_reducible refine Calmly.gl_ff ?_ (fun _ _ => ?_)); (first | exact .move _ | exact .load _ _ | exact .fieldAddr _ _ _ (by kernel_rfl) | exact .assign _ | exact .binOp _ _ _ _ _ rfl | exact .indexAddr _ _ _ | exact .len _ _ (by kernel_rfl) | exact .field _ _ _ | exact .extract _ _ | exact .pick _ _ _ | exact .build _ _ | exact .slice _ _ _ _ _ | exact .unOp _ _ _ rfl | exact .index _ _ _ | exact .max _ _ _ rfl rfl | exact .min _ _ _ rfl rfl | exact .nilCheck _ _ rfl)) | with_reducible refine Calmly.gl_tf (fun _ _ => ?_) | with_reducible refine Calmly.gl_ft (fun _ _ => ?_)) | ((with_reducible refine Calmly.is_eff ?_); refine Calmly.mix_eff rfl (fun _ _ => ?_)) | ((with_reducible refine Calmly.is_gf ?_); refine Calmly.mix_gf rfl rfl rfl ?_; first | with_reducible refine Calmly.gf_tt (fun _ _ => ?_) | with_reducible refine Calmly.gf_ff (fun _ _ => ?_) | with_reducible refine Calmly.gf_tf (kept_of hk) (fun _ _ => ?_) | with_reducible refine Calmly.gf_ft (kept_of hk) (fun _ _ => ?_)) | ((with_reducible refine Calmly.is_tail ?_); first | refine Calmly.mix_tail_nil ?_ | refine Calmly.mix_tail rfl (fun _ _ => ?_)) | ((with_reducible refine Calmly.is_kept ?_); refine ⟨kept_of hk, ?_⟩) | (with_reducible refine Calmly.mix_alt ?_ ?_))
      refine (dSized_any _ lim _ (by omega) (by omega)).mono ?_
      rintro e w4 ⟨rfl, rfl⟩
      dsimp only
      go_wp2_with (first | ((with_reducible refine Calmly.is_fl ?_); refine Calmly.mix_fl rfl ?_ (fun _ _ => ?_); (first | exact .move _ | exact .load _ _ | exact .fieldAddr _ _ _ (by kernel_rfl) | exact .assign _ | exact .binOp _ _ _ _ _ rfl | exact .indexAddr _ _ _ | exact .len _ _ (by kernel_rfl) | exact .field _ _ _ | exact .extract _ _ | exact .pick _ _ _ | exact .build _ _ | exact .slice _ _ _ _ _ | exact .unOp _ _ _ rfl | exact .index _ _ _ | exact .max _ _ _ rfl rfl | exact .min _ _ _ rfl rfl | exact .nilCheck _ _ rfl)) | ((with_reducible refine Calmly.is_gl ?_); refine Calmly.mix_gl rfl rfl rfl ?_; first | ((first | with_reducible refine Calmly.gl_tt ?_ (fun _ _ => ?_) | with_reducible refine Calmly.gl_ff ?_ (fun _ _ => ?_)); (first | exact .move _ | exact .load _ _ | exact .fieldAddr _ _ _ (by kernel_rfl) | exact .assign _ | exact .binOp _ _ _ _ _ rfl | exact .indexAddr _ _ _ | exact .len _ _ (by kernel_rfl) | exact .field _ _ _ | exact .extract _ _ | exact .pick _ _ _ | exact .build _ _ | exact .slice _ _ _ _ _ | exact .unOp _ _ _ rfl | exact .index _ _ _ | exact .max _ _ _ rfl rfl | exact .min _ _ _ rfl rfl | exact .nilCheck _ _ rfl)) | with_reducible refine Calmly.gl_tf (fun _ _ => ?_) | with_reducible refine Calmly.gl_ft (fun _ _ => ?_)) | ((with_reducible refine Calmly.is_eff ?_); refine Calmly.mix_eff rfl (fun _ _ => ?_)) | ((with_reducible refine Calmly.is_gf ?_); refine Calmly.mix_gf rfl rfl rfl ?_; first | with_reducible refine Calmly.gf_tt (fun _ _ => ?_) | with_reducible refine Calmly.gf_ff (fun _ _ => ?_) | with_reducible refine Calmly.gf_tf (kept_of hk) (fun _ _ => ?_) | with_reducible refine Calmly.gf_ft (kept_of hk) (fun _ _ => ?_)) | ((with_reducible refine Calmly.is_tail ?_); first | refine Calmly.mix_tail_nil ?_ | refine Calmly.mix_tail rfl (fun _ _ => ?_)) | ((with_reducible refine Calmly.is_kept ?_); refine ⟨kept_of hk, ?_⟩) | (with_reducible refine Calmly.mix_alt ?_ ?_))
      refine (dUnless_any _ 22 _).mono ?_
      rintro e w4 ⟨rfl, rfl⟩
      dsimp only
      go_wp2_with (first | (refine kept_allocW5 hk (fun hk' hA hblk => ?_); replace hk := hk'; clear hk') | ((with_reducible refine Calmly.is_fl ?_); refine Calmly.mix_fl rfl ?_ (fun _ _ => ?_); (first | exact .move _ | exact .load _ _ | exact .fieldAddr _ _ _ (by kernel_rfl) | exact .assign _ | exact .binOp _ _ _ _ _ rfl | exact .indexAddr _ _ _ | exact .len _ _ (by kernel_rfl) | exact .field _ _ _ | exact .extract _ _ | exact .pick _ _ _ | exact .build _ _ | exact .slice _ _ _ _ _ | exact .unOp _ _ _ rfl | exact .index _ _ _ | exact .max _ _ _ rfl rfl | exact .min _ _ _ rfl rfl | exact .nilCheck _ _ rfl)) | ((with_reducible refine Calmly.is_gl ?_); refine Calmly.mix_gl rfl rfl rfl ?_; first | ((first | with_reducible refine Calmly.gl_tt ?_ (fun _ _ => ?_) | with_reducible refine Calmly.gl_ff ?_ (fun _ _ => ?_)); (first | exact .move _ | exact .load _ _ | exact .fieldAddr _ _ _ (by kernel_rfl) | exact .assign _ | exact .binOp _ _ _ _ _ rfl | exact .indexAddr _ _ _ | exact .len _ _ (by kernel_rfl) | exact .field _ _ _ | exact .extract _ _ | exact .pick _ _ _ | exact .build _ _ | exact .slice _ _ _ _ _ | exact .unOp _ _ _ rfl | exact .index _ _ _ | exact .max _ _ _ rfl rfl | exact .min _ _ _ rfl rfl | exact .nilCheck _ _ rfl)) | with_reducible refine Calmly.gl_tf (fun _ _ => ?_) | with_reducible refine Calmly.gl_ft (fun _ _ => ?_)) | ((with_reducible refine Calmly.is_eff ?_); refine Calmly.mix_eff rfl (fun _ _ => ?_)) | ((with_reducible refine Calmly.is_gf ?_); refine Calmly.mix_gf rfl rfl rfl ?_; first | with_reducible refine Calmly.gf_tt (fun _ _ => ?_) | with_reducible refine Calmly.gf_ff (fun _ _ => ?_) | with_reducible refine Calmly.gf_tf (kept_of hk) (fun _ _ => ?_) | with_reducible refine Calmly.gf_ft (kept_of hk) (fun _ _ => ?_)) | ((with_reducible refine Calmly.is_tail ?_); first | refine Calmly.mix_tail_nil ?_ | refine Calmly.mix_tail rfl (fun _ _ => ?_)) | ((with_reducible refine Calmly.is_kept ?_); refine ⟨kept_of hk, ?_⟩) | (with_reducible refine Calmly.mix_alt ?_ ?_))
      refine (dFirst_any _ 3 3 _ _ (SI.three _ _ _ _ _ rfl)).mono ?_
      rintro e w4 ⟨rfl, rfl⟩
      dsimp only
      rw [HHE.out] at HR2
      rw [HR2.out]
      go_wp2_with (first | ((with_reducible refine Calmly.is_fl ?_); refine Calmly.mix_fl rfl ?_ (fun _ _ => ?_); (first | exact .move _ | exact .load _ _ | exact .fieldAddr _ _ _ (by kernel_rfl) | exact .assign _ | exact .binOp _ _ _ _ _ rfl | exact .indexAddr _ _ _ | exact .len _ _ (by kernel_rfl) | exact .field _ _ _ | exact .extract _ _ | exact .pick _ _ _ | exact .build _ _ | exact .slice _ _ _ _ _ | exact .unOp _ _ _ rfl | exact .index _ _ _ | exact .max _ _ _ rfl rfl | exact .min _ _ _ rfl rfl | exact .nilCheck _ _ rfl)) | ((with_reducible refine Calmly.is_gl ?_); refine Calmly.mix_gl rfl rfl rfl ?_; first | ((first | with_reducible refine Calmly.gl_tt ?_ (fun _ _ => ?_) | with_reducible refine Calmly.gl_ff ?_ (fun _ _ => ?_)); (first | exact .move _ | exact .load _ _ | exact .fieldAddr _ _ _ (by kernel_rfl) | exact .assign _ | exact .binOp _ _ _ _ _ rfl | exact .indexAddr _ _ _ | exact .len _ _ (by kernel_rfl) | exact .field _ _ _ | exact .extract _ _ | exact .pick _ _ _ | exact .build _ _ | exact .slice _ _ _ _ _ | exact .unOp _ _ _ rfl | exact .index _ _ _ | exact .max _ _ _ rfl rfl | exact .min _ _ _ rfl rfl | exact .nilCheck _ _ rfl)) | with_reducible refine Calmly.gl_tf (fun _ _ => ?_) | with_reducible refine Calmly.gl_ft (fun _ _ => ?_)) | ((with_reducible refine Calmly.is_eff ?_); refine Calmly.mix_eff rfl (fun _ _ => ?_)) | ((with_reducible refine Calmly.is_gf ?_); refine Calmly.mix_gf rfl rfl rfl ?_; first | with_reducible refine Calmly.gf_tt (fun _ _ => ?_) | with_reducible refine Calmly.gf_ff (fun _ _ => ?_) | with_reducible refine Calmly.gf_tf (kept_of hk) (fun _ _ => ?_) | with_reducible refine Calmly.gf_ft (kept_of hk) (fun _ _ => ?_)) | ((with_reducible refine Calmly.is_tail ?_); first | refine Calmly.mix_tail_nil ?_ | refine Calmly.mix_tail rfl (fun _ _ => ?_)) | ((with_reducible refine Calmly.is_kept ?_); refine ⟨kept_of hk, ?_⟩) | (with_reducible refine Calmly.mix_alt ?_ ?_))
      go_ret
      exact ⟨rfl, fun _ => blk_keep z2 hk, BZ.trans (hk.mono (Nat.le_trans hws BZ.size))⟩
end Go.Proofs.Ytaiikekgckjdeaa

namespace Go.Proofs.Ytaiikekgckjdeaa
open Go.RowKit
open Calmly (Kept)
theorem stErr_plc {fs : List Fl} {s : St} {i : Nat} (h : stErr fs s i = 0) : plc (s.1[i]?.getD 0) = true := by
  unfold stErr at h
  split at h
  · rename_i hh
    exact hh.1
  · cases h
set_option maxRecDepth 100000 in
set_option maxHeartbeats 4000000 in
theorem chkSt1_any (i p1 p2 : Nat) (a a1 a2 a3 : Option Addr) (n c n1 c1 n2 c2 n3 c3 : Nat) (raw : List FlR) (fs : List Fl) (s : St) (w0 w : World) (h1 : FrV w0 a n c raw fs) (h2 : StW w0 ((a1, n1, c1), (a2, n2, c2), (a3, n3, c3)) s) (hz : (frmE fs).2 = 0) (y1 : w0.heap[p1]? = some (.cells #[.slice a1 n1 c1, .slice a2 n2 c2, .slice a3 n3 c3] 97)) (hb0 : Below w0.heap.size w0 w) (hp2 : w0.heap.size ≤ p2) (y2 : w.heap[p2]? = some (.cells #[.int .i64 (bel s.1 i)] 3)) (hvb : -10000 ≤ bel s.1 i ∧ bel s.1 i ≤ 10000)
    (e1 : n1 = n) (e2 : n2 = n) (e3 : n3 = n) (hi : i < n) :
    Calls Try.prog 116 #[.int .i64 (i : Int), .agg #[.int .i64 (raw[i]?.getD flr0).1, .int .i64 (raw[i]?.getD flr0).2.1, hv (raw[i]?.getD flr0).2.2], .pointer (some ⟨p1, 0, none⟩), .pointer (some ⟨p2, 0, none⟩)] w fun e w' => e = .returned (.int .i64 (stErr fs s i)) ∧ (stErr fs s i = 0 → w'.heap[p2]? = some (.cells #[.int .i64 (s.1[i]?.getD 0)] 3)) ∧ Below w0.heap.size w w' := by
  have hn := h1.n_
  have hil : i < fs.length := by omega
  obtain ⟨g1, g2, g3⟩ := h1.fl i hil
  have hfl := flErr_ok ((frmE_ok hz).2 i hil)
  have m1 := h2.now.max
  have q1 := h2.now.cap
  have m2 := h2.bef.max
  have q2 := h2.bef.cap
  dsimp only at m1 q1 m2 q2
  obtain ⟨hraw, hH⟩ := h2.hol
  dsimp only at hH
  have m3 := hH.row.max
  have q3 := hH.row.cap
  have hlen : n3 = s.2.2.length := by rw [hH.row.len, hH.len]
  obtain ⟨b1', o1, e1', hc1⟩ := h2.now.at_ (show 0 < n1 by omega)
  obtain ⟨b2', o2, e2', hc2⟩ := h2.bef.at_ (show 0 < n2 by omega)
  obtain ⟨b3', o3, e3', hc3⟩ := hH.row.at_ (show 0 < n3 by omega)
  dsimp only at e1' e2'
  subst e1' e2' e3'
  have p0 := hc1 i (show i < n1 by omega)
  have r0 := hc2 i (show i < n2 by omega)
  obtain ⟨t0, t1⟩ := hc3 i (show i < n3 by omega)
  obtain ⟨k0, k1⟩ := hH.hl i (by omega)
  rw [k0] at t0
  have hel := hfl.2.2
  have hlm := hfl.2.1
  rw [← g2] at hlm
  have hln := g3.len
  have hsp := (sprE_ok hel).2
  have hst : stErr fs s i = if plc (s.1[i]?.getD 0) = true ∧ plc (s.2.1[i]?.getD 0) = true then firstE [(hldE (fs[i]?.getD fl0).2.2 (s.2.2[i]?.getD ho0).1 (s.2.2[i]?.getD ho0).2).2, unlessE ((s.2.2[i]?.getD ho0).1 == s.1[i]?.getD 0 - bel s.1 i) 13, unlessE (szd (s.1[i]?.getD 0 - bel s.1 i) (raw[i]?.getD flr0).2.1) 22] else 2 := by
    rw [stErr, g2]
    rfl
  subst e1 e2
  have e3' : n3 = n2 := e3
  subst e3'
  exact chkSt1_run i p1 p2 _ _ _ _ _ _ _ _ _ _ _ _ _ _ _ _ _ _ (bel s.1 i) (s.2.2[i]?.getD ho0).1 (s.1[i]?.getD 0) (s.2.1[i]?.getD 0) _ (s.2.2[i]?.getD ho0).2 (fs[i]?.getD fl0).2.2 w0 w ⟨y1, p0, r0, t0, t1, k1, g3⟩ hb0 hp2 y2 hi ⟨q1, m1⟩ ⟨q2, m2⟩ ⟨q3, m3⟩ (fun j hj => hsp j (by omega)) hvb hlm hst.symm
set_option maxRecDepth 100000 in
set_option maxHeartbeats 4000000 in
theorem CheckState_any (a a1 a2 a3 : Option Addr) (n c n1 c1 n2 c2 n3 c3 : Nat) (raw : List FlR) (fs : List Fl) (s : St) (w : World) (h1 : FrV w a n c raw fs) (h2 : StW w ((a1, n1, c1), (a2, n2, c2), (a3, n3, c3)) s) :
    Calls Try.prog 55 #[.agg #[.slice a n c], .agg #[.slice a1 n1 c1, .slice a2 n2 c2, .slice a3 n3 c3]] w fun e w' => e = .returned (.tuple #[.int .i64 (staE fs s).1, .int .i64 (staE fs s).2]) ∧ Below w.heap.size w w' := by
  have hn := h1.n_
  have l1 := h2.now.len
  have l2 := h2.bef.len
  have m1 := h2.now.max
  have q1 := h2.now.cap
  have m2 := h2.bef.max
  have q2 := h2.bef.cap
  have m0 := h1.row.max
  have q0 := h1.row.cap
  dsimp only at l1 l2 m1 q1 m2 q2
  have hl3 : n3 = s.2.2.length ∧ n3 ≤ c3 ∧ c3 ≤ 9223372036854775807 := by
    obtain ⟨hraw, hH⟩ := h2.hol
    exact ⟨by have := hH.row.len; have := hH.len; dsimp only at *; omega, hH.row.cap, hH.row.max⟩
  obtain ⟨l3, q3, m3⟩ := hl3
  have HN := Lib.hid hn
  have HL := Lib.hid (And.intro l1 (And.intro l2 l3))
  obtain ⟨FI, hFI⟩ : ∃ x, (frmE fs).1 = x := ⟨_, rfl⟩
  obtain ⟨FE, hFE⟩ : ∃ x, (frmE fs).2 = x := ⟨_, rfl⟩
  obtain ⟨RI, hRI⟩ : ∃ x, (staE fs s).1 = x := ⟨_, rfl⟩
  obtain ⟨RE, hRE⟩ : ∃ x, (staE fs s).2 = x := ⟨_, rfl⟩
  rw [hRI, hRE]
  have HFI := Lib.hid hFI
  have HFE := Lib.hid hFE
  have HRI := Lib.hid hRI
  have HRE := Lib.hid hRE
  clear hFI hFE hRI hRE hn l1 l2 l3
  have y2 := blk_keep (alloc_new w (.cells #[.slice a n c] 24)) ((Below.refl _ _).alloc (Nat.le_refl _) (.cells #[.slice a1 n1 c1, .slice a2 n2 c2, .slice a3 n3 c3] 97))
  have y3 := alloc_new (w.alloc (.cells #[.slice a n c] 24)) (.cells #[.slice a1 n1 c1, .slice a2 n2 c2, .slice a3 n3 c3] 97)
  have BW : Below w.heap.size w ((w.alloc (.cells #[.slice a n c] 24)).alloc (.cells #[.slice a1 n1 c1, .slice a2 n2 c2, .slice a3 n3 c3] 97)) := ((Below.refl _ _).alloc (Nat.le_refl _) _).alloc (by simp) _
  simp only [World.size_alloc] at y3
  have f0 := cell_block y2 0
  go_enter Try.func55, Try.ntmps55
  go_wp2_with fail
  generalize (w.alloc (.cells #[.slice a n c] 24)).alloc (.cells #[.slice a1 n1 c1, .slice a2 n2 c2, .slice a3 n3 c3] 97) = W at *
  refine (CheckFrame_any a n c raw fs W (h1.keep BW)).mono ?_
  rintro e w1 ⟨rfl, hs⟩
  replace y2 := blk_keep y2 hs
  replace y3 := blk_keep y3 hs
  replace BW := BW.trans (hs.mono BW.size)
  clear hs f0
  rw [HFI.out, HFE.out]
  dsimp only
  by_cases hz : FE = 0
  case neg =>
    have g1 : (FE != 0) = true := by simpa using hz
    have e1 : FI = RI := by rw [← HRI.out, staE, if_neg (by rw [HFE.out]; exact hz), HFI.out]
    have e2 : FE = RE := by rw [← HRE.out, staE, if_neg (by rw [HFE.out]; exact hz), HFE.out]
    clear HFI HFE HRI HRE hz
    subst e1 e2
    go_wp2_with fail
    exact bodyPost_ret (v := .tuple #[.int .i64 FI, .int .i64 FE]) (by simp [results, Try.results55]) rfl ⟨rfl, BW⟩
  case pos =>
    subst hz
    have hRI : (stfE fs s).1 = RI := by rw [← HRI.out, staE, if_pos HFE.out]
    have hRE : (stfE fs s).2 = RE := by rw [← HRE.out, staE, if_pos HFE.out]
    clear HRI HRE HFI
    have f0 := cell_block y2 0
    have g0 := cell_block y3 0
    have g1 := cell_block y3 1
    have g2 := cell_block y3 2
    by_cases hl : n1 = n ∧ n2 = n ∧ n3 = n
    case neg =>
      have hcond : ¬ (s.1.length = fs.length ∧ s.2.1.length = fs.length ∧ s.2.2.length = fs.length) := by
        have h5 := HL.out; have h6 := HN.out
        omega
      rw [stfE, if_neg hcond] at hRI hRE
      have e1 : (0 : Int) = RI := hRI
      have e2 : (10 : Int) = RE := hRE
      clear hRI hRE hcond
      subst e1 e2
      by_cases e1 : n1 = n
      · have b1 : ((n1 : Int) != (n : Int)) = false := by simp; omega
        by_cases e2 : n2 = n
        · have b2 : ((n2 : Int) != (n : Int)) = false := by simp; omega
          have b3 : ((n3 : Int) != (n : Int)) = true := by simp; omega
          clear e1 e2 hl
          go_wp2_with fail
          exact bodyPost_ret (v := .tuple #[.int .i64 0, .int .i64 10]) (by simp [results, Try.results55]) rfl ⟨rfl, BW⟩
        · have b2 : ((n2 : Int) != (n : Int)) = true := by simp; omega
          clear e1 e2 hl
          go_wp2_with fail
          exact bodyPost_ret (v := .tuple #[.int .i64 0, .int .i64 10]) (by simp [results, Try.results55]) rfl ⟨rfl, BW⟩
      · have b1 : ((n1 : Int) != (n : Int)) = true := by simp; omega
        clear e1 hl
        go_wp2_with fail
        exact bodyPost_ret (v := .tuple #[.int .i64 0, .int .i64 10]) (by simp [results, Try.results55]) rfl ⟨rfl, BW⟩
    case pos =>
      obtain ⟨e1, e2, e3⟩ := hl
      have hcond : s.1.length = fs.length ∧ s.2.1.length = fs.length ∧ s.2.2.length = fs.length := by
        have h5 := HL.out; have h6 := HN.out
        omega
      rw [stfE, if_pos hcond, ← HN.out] at hRI hRE
      have HRI := Lib.hid hRI
      have HRE := Lib.hid hRE
      have E1 := Lib.hid e1
      have E2 := Lib.hid e2
      have E3 := Lib.hid e3
      have b1 : ((n1 : Int) != (n : Int)) = false := by simp; omega
      have b2 : ((n2 : Int) != (n : Int)) = false := by simp; omega
      have b3 : ((n3 : Int) != (n : Int)) = false := by simp; omega
      clear hcond hRI hRE e1 e2 e3
      have y9 := alloc_new w1 (.cells #[.int .i64 0] 3)
      have hA : Below w1.heap.size w1 (w1.alloc (.cells #[.int .i64 0] 3)) := (Below.refl _ _).alloc (Nat.le_refl _) _
      have f1 := cell_block (blk_keep y2 hA) 0
      go_wp2_with fail
      refine (eachState2_any (w.heap.size + 1) w1.heap.size a n c raw w1 (w1.alloc (.cells #[.int .i64 0] 3)) (stErr fs s) (fun i W => W.heap[w1.heap.size]? = some (.cells #[.int .i64 (bel s.1 i)] 3) ∧ (-10000 ≤ bel s.1 i ∧ bel s.1 i ≤ 10000)) (h1.keep BW).row hA ⟨y9, by simp [bel]⟩ (fun i W W' hI hb => ⟨blk_keep hI.1 hb, hI.2⟩) ?_).mono ?_
      · intro i W2 hi hI hb
        refine (chkSt1_any i (w.heap.size + 1) w1.heap.size a a1 a2 a3 n c n1 c1 n2 c2 n3 c3 raw fs s w1 W2 (h1.keep BW) (h2.keep BW) HFE.out y3 hb (Nat.le_refl _) hI.1 hI.2 E1.out E2.out E3.out hi).mono ?_
        rintro e w5 ⟨rfl, hx, hb5⟩
        refine ⟨rfl, fun h0 => ⟨?_, ?_⟩, hb5⟩
        · rw [bel_succ]
          exact hx h0
        · rw [bel_succ]
          have := plc_ok (stErr_plc h0)
          omega
      rintro e w5 ⟨rfl, hs5⟩
      rw [HRI.out, HRE.out]
      dsimp only
      have B5 := (BW.trans (hA.mono BW.size)).trans (hs5.mono BW.size)
      clear hs5
      go_wp2_with fail
      exact bodyPost_ret (v := .tuple #[.int .i64 RI, .int .i64 RE]) (by simp [results, Try.results55]) rfl ⟨rfl, B5⟩
end Go.Proofs.Ytaiikekgckjdeaa
