/- Which scales and quantities are valid. Printed by gen_m33.py. -/
import Derived.Test.YtaiikekgckjdeaaGreatK13
namespace Go.Proofs.YtaiikekgckjdeaaGreat
open Go.RowKit
open Calmly (Kept)

/-! ### Rows of fractions -/
abbrev Fr := Int × Int
def encFr (x : Fr) : List Value := [.int .i64 x.1, .int .i64 x.2]
def fr0 : Fr := (0, 0)
theorem encFr_len (x : Fr) : (encFr x).length = 2 := rfl
def SFr (w : World) (a : Option Addr) (n c : Nat) (l : List Fr) : Prop := Sl w 2 a n c (l.flatMap encFr)
theorem SFr.keep {w w' : World} {a : Option Addr} {n c : Nat} {l : List Fr} (h : SFr w a n c l) (hb : Below w.heap.size w w') : SFr w' a n c l := Sl.keep h hb
theorem SFr.len {w : World} {a : Option Addr} {n c : Nat} {l : List Fr} (h : SFr w a n c l) : n = l.length := Sl.recsLen encFr_len (by decide) h
theorem SFr.cap {w : World} {a : Option Addr} {n c : Nat} {l : List Fr} (h : SFr w a n c l) : n ≤ c := h.2.1
theorem SFr.max {w : World} {a : Option Addr} {n c : Nat} {l : List Fr} (h : SFr w a n c l) : c ≤ 9223372036854775807 := h.2.2.1
theorem SFr.at_ {w : World} {a : Option Addr} {n c : Nat} {l : List Fr} (h : SFr w a n c l) (hn : 0 < n) :
    ∃ b off, a = some ⟨b, off, none⟩ ∧ ∀ i, i < n → w.cell? ⟨b, off + i * 2, none⟩ = some (.int .i64 (l[i]?.getD fr0).1) ∧ w.cell? ⟨b, off + i * 2 + 1, none⟩ = some (.int .i64 (l[i]?.getD fr0).2) := by
  obtain ⟨b, off, ha, hc⟩ := Sl.recs encFr_len (by decide) fr0 h hn
  exact ⟨b, off, ha, fun i hi => ⟨hc i hi 0 (by omega), hc i hi 1 (by omega)⟩⟩

set_option maxRecDepth 100000 in
set_option maxHeartbeats 1000000 in
theorem eachScale_any (a : Option Addr) (n c : Nat) (l : List Fr) (w0 w : World) (err : Nat → Int) (Inv : Nat → World → Prop) (h1 : SFr w0 a n c l) (h0 : Below w0.heap.size w0 w) (hI : Inv 0 w)
    (hst : ∀ i W W', Inv i W → Below W.heap.size W W' → Inv i W')
    (hcl : ∀ (i : Nat) (W : World), i < n → Inv i W → Below w0.heap.size w0 W → Calls Tryz.prog 88 #[.int .i64 (i : Int), .agg #[.int .i64 (l[i]?.getD fr0).1, .int .i64 (l[i]?.getD fr0).2]] W fun e w' => e = .returned (.int .i64 (err i)) ∧ Inv (i + 1) w' ∧ Below w0.heap.size W w') :
    Calls Tryz.prog 87 #[.slice a n c, .func (.func 88) #[] #[]] w fun e w' => e = .returned (.tuple #[.int .i64 (eaF err 0 n).1, .int .i64 (eaF err 0 n).2]) ∧ Below w0.heap.size w w' := by
  have l1 : n ≤ l.length ∧ l.length ≤ n := by have := h1.len; omega
  have m1 := h1.max
  have c1 := h1.cap
  obtain ⟨I, E, hR⟩ : ∃ I E, eaF err 0 n = (I, E) := ⟨_, _, rfl⟩
  rw [hR]
  dsimp only
  have HR := Lib.hid hR
  clear hR
  have hw := h0.size
  go_enter Tryz.func87, Tryz.ntmps87
  go_wp2_with fail
  go_loopw [11] (fun i wr => ∃ k : Nat, k ≤ n ∧ i = .int .i64 k ∧ eaF err k (n - k) = (I, E) ∧ Inv k wr ∧ Below w0.heap.size w wr) (fun i _ => n - (intOf i).toNat)
  case atStart => exact ⟨0, by omega, rfl, HR.out, hI, Below.refl _ _⟩
  case round =>
    obtain ⟨k, hk, rfl, ht, hi, hbr⟩ := hrel
    have HT := Lib.hid ht
    clear ht
    have hb0 := h0.trans hbr
    have hrs := hb0.size
    by_cases hlt : k < n
    · obtain ⟨cb, co, rfl, hcc⟩ := h1.at_ (by omega)
      obtain ⟨y0, y1⟩ := hcc k hlt
      replace y0 := cell_keep y0 hb0
      replace y1 := cell_keep y1 hb0
      clear hcc
      have hc := hcl k
      obtain ⟨rr, hrr⟩ : ∃ rr, l[k]?.getD fr0 = rr := ⟨_, rfl⟩
      obtain ⟨x0, x1⟩ := rr
      rw [hrr] at y0 y1 hc
      clear hrr
      try dsimp only at y0 y1 hc
      have HC := Lib.hid hc
      clear hc
      have hi1 : (k : Int) < (n : Int) := by omega
      have hi0 : (0 : Int) ≤ (k : Int) := by omega
      obtain ⟨R, hE⟩ : ∃ R, err k = R := ⟨_, rfl⟩
      have HE := Lib.hid hE
      clear hE
      have hi9 := Lib.hid hi
      clear hi
      go_wp2_with fail
      refine (HC.out _ hlt (hst k _ _ hi9.out ((Below.refl _ _).alloc (Nat.le_refl _) (.cells #[.int .i64 x0, .int .i64 x1] 27))) (hb0.alloc hrs (.cells #[.int .i64 x0, .int .i64 x1] 27))).mono ?_
      rintro e w1 ⟨rfl, hi2, hs⟩
      rw [HE.out]
      have hbn := (hbr.alloc hrs (.cells #[.int .i64 x0, .int .i64 x1] 27)).trans hs
      have hI2 := Lib.hid hi2
      clear hi2
      by_cases hz : R = 0
      · subst hz
        have hE0 : ((0 : Int) != 0) = false := rfl
        go_wp2_with fail
        go_roundw
        case rel => exact ⟨k + 1, by omega, by go_num, (eaF_ok hlt HE.out).symm.trans HT.out, hI2.out, hbn⟩
        case measure => simp [intOf]; omega
      · have b1 : (R != 0) = true := by simpa using hz
        have hRE : (I, E) = ((k : Int), R) := by rw [← HT.out, eaF_bad hlt (by rw [HE.out]; exact hz), HE.out]
        injection hRE with e1 e2
        have E1 := Lib.hid e1
        have E2 := Lib.hid e2
        clear e1 e2 hz
        go_wp2_with fail
        refine bodyPost_ret (v := .tuple #[.int .i64 (k : Int), .int .i64 R]) (by simp [results, Tryz.results87]) rfl ⟨by rw [E1.out, E2.out], hbn⟩
    · have hle : (n : Int) ≤ (k : Int) := by omega
      have hR0 : (I, E) = (0, 0) := by rw [← HT.out, eaF_end (by omega)]
      injection hR0 with e1 e2
      subst e1 e2
      go_wp2_with fail
      refine bodyPost_ret (v := .tuple #[.int .i64 0, .int .i64 0]) (by simp [results, Tryz.results87]) rfl ⟨rfl, hbr⟩

/-! ### Divisors, lowest terms -/
set_option maxRecDepth 100000 in
set_option maxHeartbeats 400000 in
theorem dDivisor_min (a b : Int) (w : World) (ha1 : -9223372036854775808 ≤ a) (ha2 : a ≤ 9223372036854775807) (hb0 : 0 < b) (hb2 : b ≤ 9223372036854775807) :
    Calls Tryz.prog 48 #[.int .i64 a, .int .i64 b] w fun e w' => e = .returned (.int .i64 (Int.gcd a b)) ∧ ∃ n, w' = w.drewN n := by
  go_enter Tryz.func48, Tryz.ntmps48
  go_wp2
  go_loopw [0, 1] (fun x y wr => ∃ p q : Int, x = .int .i64 p ∧ y = .int .i64 q ∧ Int.gcd p q = Int.gcd a b ∧ (q = 0 → -9223372036854775807 ≤ p) ∧ -9223372036854775808 ≤ p ∧ p ≤ 9223372036854775807 ∧ -9223372036854775807 ≤ q ∧ q ≤ 9223372036854775807 ∧ ∃ n, wr = w.drewN n) (fun _ y _ => (intOf y).natAbs)
  case atStart => exact ⟨a, b, rfl, rfl, rfl, by omega, ha1, ha2, by omega, hb2, 0, rfl⟩
  case round =>
    obtain ⟨p, q, rfl, rfl, hg, hp0, hp1, hp2, hq1, hq2, n, rfl⟩ := hrel
    have HG := Lib.hid hg
    clear hg
    by_cases hz : q = 0
    · have hp9 := hp0 hz
      clear hp0
      subst hz
      by_cases hs : p < -p
      · go_wp2
        go_ret
        refine ⟨ret_int ?_, n, rfl⟩
        rw [← HG.out, Int.gcd_zero_right]
        omega
      · go_wp2
        go_ret
        refine ⟨ret_int ?_, n, rfl⟩
        rw [← HG.out, Int.gcd_zero_right]
        omega
    · have hne : (q != 0) = true := by simpa using hz
      have h1 := tmod_bd (a := p) hz hq1 hq2
      have h2 := tmod_lt (a := p) hz
      have hc : (q == 0) = false := by simpa using hz
      clear hp0
      go_wp2_with fail
      refine Calmly.wp_region_mix 5 (.fl 0 <| .fl 1 <| .fl 2 <| .fl 3 <| .fl 4 <| .tail [5]) (by kernel_rfl) (by kernel_rfl) ?_
      go_wp2_with (first | ((with_reducible refine Calmly.is_fl ?_); refine Calmly.mix_fl rfl ?_ (fun _ _ => ?_); (first | exact .move _ | exact .load _ _ | exact .fieldAddr _ _ _ (by kernel_rfl) | exact .assign _ | exact .binOp _ _ _ _ _ rfl | exact .indexAddr _ _ _ | exact .len _ _ (by kernel_rfl) | exact .field _ _ _ | exact .extract _ _ | exact .pick _ _ _ | exact .build _ _ | exact .slice _ _ _ _ _ | exact .unOp _ _ _ rfl | exact .index _ _ _ | exact .max _ _ _ rfl rfl | exact .min _ _ _ rfl rfl | exact .nilCheck _ _ rfl)) | ((with_reducible refine Calmly.is_gl ?_); refine Calmly.mix_gl rfl rfl rfl ?_; first | ((first | with_reducible refine Calmly.gl_tt ?_ (fun _ _ => ?_) | with_reducible refine Calmly.gl_ff ?_ (fun _ _ => ?_)); (first | exact .move _ | exact .load _ _ | exact .fieldAddr _ _ _ (by kernel_rfl) | exact .assign _ | exact .binOp _ _ _ _ _ rfl | exact .indexAddr _ _ _ | exact .len _ _ (by kernel_rfl) | exact .field _ _ _ | exact .extract _ _ | exact .pick _ _ _ | exact .build _ _ | exact .slice _ _ _ _ _ | exact .unOp _ _ _ rfl | exact .index _ _ _ | exact .max _ _ _ rfl rfl | exact .min _ _ _ rfl rfl | exact .nilCheck _ _ rfl)) | with_reducible refine Calmly.gl_tf (fun _ _ => ?_) | with_reducible refine Calmly.gl_ft (fun _ _ => ?_)) | ((with_reducible refine Calmly.is_eff ?_); refine Calmly.mix_eff rfl (fun _ _ => ?_)) | ((with_reducible refine Calmly.is_gf ?_); refine Calmly.mix_gf rfl rfl rfl ?_; first | with_reducible refine Calmly.gf_tt (fun _ _ => ?_) | with_reducible refine Calmly.gf_ff (fun _ _ => ?_) | with_reducible refine Calmly.gf_tf (kept_of hk) (fun _ _ => ?_) | with_reducible refine Calmly.gf_ft (kept_of hk) (fun _ _ => ?_)) | ((with_reducible refine Calmly.is_tail ?_); first | refine Calmly.mix_tail_nil ?_ | refine Calmly.mix_tail rfl (fun _ _ => ?_)) | ((with_reducible refine Calmly.is_kept ?_); refine ⟨kept_of hk, ?_⟩) | (with_reducible refine Calmly.mix_alt ?_ ?_))
      go_roundw
      case rel => exact ⟨q, p.tmod q, rfl, rfl, by rw [gcd_step]; exact HG.out, by omega, by omega, hq2, h1.1, h1.2, n + 1, rfl⟩
      case measure => simpa [intOf] using h2
def F64 (x y : Int) : Prop := (-9223372036854775808 ≤ x ∧ x ≤ 9223372036854775807) ∧ (-9223372036854775808 ≤ y ∧ y ≤ 9223372036854775807)
set_option maxRecDepth 100000 in
set_option maxHeartbeats 1000000 in
theorem dLow_any (x y : Int) (w : World) (h : F64 x y) :
    Calls Tryz.prog 89 #[.agg #[.int .i64 x, .int .i64 y]] w fun e w' => e = .returned (.bool (isLow x y)) ∧ Below w.heap.size w w' := by
  obtain ⟨⟨hx1, hx2⟩, hy1, hy2⟩ := h
  have hb : ∀ o, Below w.heap.size w (w.alloc o) := fun o => (Below.refl _ _).alloc (Nat.le_refl _) _
  by_cases h : 0 < y
  · go_enter Tryz.func89, Tryz.ntmps89
    go_wp2_with fail
    refine (dDivisor_min x y _ (by omega) (by omega) (by omega) (by omega)).mono ?_
    rintro e w1 ⟨rfl, k, rfl⟩
    go_wp2_with fail
    go_ret
    refine ⟨ret_bool ?_, below_drewN (hb _) k⟩
    unfold isLow
    rw [decide_eq_true h]
    rfl
  · have h' : y ≤ 0 := by omega
    go_enter Tryz.func89, Tryz.ntmps89
    go_wp2_with fail
    go_ret
    refine ⟨ret_bool ?_, hb _⟩
    unfold isLow
    rw [decide_eq_false (by omega)]
    rfl
/-! ### Scales -/
def sclErr (x : Fr) : Int := firstE [unlessE (isLow x.1 x.2) 3, unlessE (wIn x.1 1 100 && decide (x.2 ≤ 100)) 2]
def sclE (l : List Fr) : Int × Int := eaF (fun i => sclErr (l[i]?.getD fr0)) 0 l.length
set_option maxRecDepth 100000 in
set_option maxHeartbeats 1000000 in
theorem sclErr_any (i x y : Int) (w : World) (hf : F64 x y) :
    Calls Tryz.prog 88 #[.int .i64 i, .agg #[.int .i64 x, .int .i64 y]] w fun e w' => e = .returned (.int .i64 (sclErr (x, y))) ∧ Below w.heap.size w w' := by
  have y0 := alloc_new w (.cells #[.int .i64 x, .int .i64 y] 27)
  have BW : Below w.heap.size w (w.alloc (.cells #[.int .i64 x, .int .i64 y] 27)) := (Below.refl _ _).alloc (Nat.le_refl _) _
  have HE := Lib.hid (show sclErr (x, y) = firstE [unlessE (isLow x y) 3, unlessE (wIn x 1 100 && decide (y ≤ 100)) 2] from rfl)
  go_enter Tryz.func88, Tryz.ntmps88
  go_wp2_with fail
  generalize w.alloc (.cells #[.int .i64 x, .int .i64 y] 27) = W at *
  replace y0 := blk_keep y0 (Below.refl _ _).drew
  replace BW := BW.drew
  generalize hk0 : wIn x 1 100 = b1 at *
  refine Calmly.wp_region_mix 14 (.fl 0 <| .fl 3 <| .fl 4 <| .eff 1 <| .eff 2 <| .eff 5 <| .fl 6 <| .gl 7 <| .gl 8 <| .gl 9 <| .fl 10 <| .eff 11 <| .eff 12 <| .eff 13 <| .tail [14]) (by kernel_rfl) (by kernel_rfl) ?_
  generalize W.drew = V at *
  have f0 := cell_block y0 0
  have f1 := cell_block y0 1
  have hk := Below.refl V.heap.size V
  cases b1
  all_goals
    go_wp2_with (first | (go_at_call 89; refine (dLow_any x y _ hf).mono ?_; rintro e w' ⟨rfl, hb⟩; replace hk := step_of hk hb; clear hb) | (go_at_call 32; refine (dUnless_any _ _ _).mono ?_; rintro e w' ⟨rfl, rfl⟩) | (go_at_call 44; refine (dWithin_any x 1 100 _).mono ?_; rw [hk0]; rintro e w' ⟨rfl, rfl⟩) | (go_at_call 31; refine (dFirst_any _ 2 2 _ _ (SI.two _ _ _ _ rfl)).mono ?_; rintro e w' ⟨rfl, rfl⟩) | (refine kept_alloc hk (fun hk' hblk hge => ?_); replace hk := hk'; clear hk') | ((with_reducible refine Calmly.is_fl ?_); refine Calmly.mix_fl rfl ?_ (fun _ _ => ?_); (first | exact .move _ | exact .load _ _ | exact .fieldAddr _ _ _ (by kernel_rfl) | exact .assign _ | exact .binOp _ _ _ _ _ rfl | exact .indexAddr _ _ _ | exact .len _ _ (by kernel_rfl) | exact .field _ _ _ | exact .extract _ _ | exact .pick _ _ _ | exact .build _ _ | exact .slice _ _ _ _ _ | exact .unOp _ _ _ rfl | exact .index _ _ _ | exact .max _ _ _ rfl rfl | exact .min _ _ _ rfl rfl | exact .nilCheck _ _ rfl)) | ((with_reducible refine Calmly.is_gl ?_); refine Calmly.mix_gl rfl rfl rfl ?_; first | ((first | with_reducible refine Calmly.gl_tt ?_ (fun _ _ => ?_) | with_reducible refine Calmly.gl_ff ?_ (fun _ _ => ?_)); (first | exact .move _ | exact .load _ _ | exact .fieldAddr _ _ _ (by kernel_rfl) | exact .assign _ | exact .binOp _ _ _ _ _ rfl | exact .indexAddr _ _ _ | exact .len _ _ (by kernel_rfl) | exact .field _ _ _ | exact .extract _ _ | exact .pick _ _ _ | exact .build _ _ | exact .slice _ _ _ _ _ | exact .unOp _ _ _ rfl | exact .index _ _ _ | exact .max _ _ _ rfl rfl | exact .min _ _ _ rfl rfl | exact .nilCheck _ _ rfl)) | with_reducible refine Calmly.gl_tf (fun _ _ => ?_) | with_reducible refine Calmly.gl_ft (fun _ _ => ?_)) | ((with_reducible refine Calmly.is_eff ?_); refine Calmly.mix_eff rfl (fun _ _ => ?_)) | ((with_reducible refine Calmly.is_gf ?_); refine Calmly.mix_gf rfl rfl rfl ?_; first | with_reducible refine Calmly.gf_tt (fun _ _ => ?_) | with_reducible refine Calmly.gf_ff (fun _ _ => ?_) | with_reducible refine Calmly.gf_tf (kept_of hk) (fun _ _ => ?_) | with_reducible refine Calmly.gf_ft (kept_of hk) (fun _ _ => ?_)) | ((with_reducible refine Calmly.is_tail ?_); first | refine Calmly.mix_tail_nil ?_ | refine Calmly.mix_tail rfl (fun _ _ => ?_)) | ((with_reducible refine Calmly.is_kept ?_); refine ⟨kept_of hk, ?_⟩) | (with_reducible refine Calmly.mix_alt ?_ ?_))
    go_ret
    exact ⟨ret_int (by rw [HE.out]; rfl), BW.trans (hk.mono BW.size)⟩
theorem SFr.of3 {w : World} {r : Nat} {n1 d1 n2 d2 n3 d3 : Int} {e : TypeId} (h : w.heap[r]? = some (.cells #[.int .i64 n1, .int .i64 d1, .int .i64 n2, .int .i64 d2, .int .i64 n3, .int .i64 d3] e)) : SFr w (some ⟨r, 0, none⟩) 3 3 [(n1, d1), (n2, d2), (n3, d3)] := by
  refine ⟨rfl, by omega, by unfold maxLen; omega, .inr ⟨r, 0, rfl, fun i hi => ?_⟩⟩
  rw [cell_block h]
  rcases i with _ | _ | _ | _ | _ | _ | i
  all_goals first | rfl | omega
theorem SI.of3 {w : World} {r : Nat} {a b c : Int} {e : TypeId} (h : w.heap[r]? = some (.cells #[.int .i64 a, .int .i64 b, .int .i64 c] e)) : SI w (some ⟨r, 0, none⟩) 3 3 [a, b, c] := by
  refine ⟨rfl, by omega, by unfold maxLen; omega, .inr ⟨r, 0, rfl, fun i hi => ?_⟩⟩
  rw [cell_block h]
  rcases i with _ | _ | _ | i
  all_goals first | rfl | omega
def fs3 (n1 d1 n2 d2 n3 d3 : Int) : List Fr := [(n1, d1), (n2, d2), (n3, d3)]
set_option maxRecDepth 100000 in
set_option maxHeartbeats 1000000 in
theorem CheckScales_any (n1 d1 n2 d2 n3 d3 : Int) (w : World) (h1 : F64 n1 d1) (h2 : F64 n2 d2) (h3 : F64 n3 d3) :
    Calls Tryz.prog 71 #[.agg #[.int .i64 n1, .int .i64 d1, .int .i64 n2, .int .i64 d2, .int .i64 n3, .int .i64 d3]] w fun e w' => e = .returned (.tuple #[.int .i64 (sclE (fs3 n1 d1 n2 d2 n3 d3)).1, .int .i64 (sclE (fs3 n1 d1 n2 d2 n3 d3)).2]) ∧ Below w.heap.size w w' := by
  have y0 := alloc_new w (.cells #[.int .i64 n1, .int .i64 d1, .int .i64 n2, .int .i64 d2, .int .i64 n3, .int .i64 d3] 28)
  have BW : Below w.heap.size w (w.alloc (.cells #[.int .i64 n1, .int .i64 d1, .int .i64 n2, .int .i64 d2, .int .i64 n3, .int .i64 d3] 28)) := (Below.refl _ _).alloc (Nat.le_refl _) _
  obtain ⟨I, E, hR⟩ : ∃ I E, sclE (fs3 n1 d1 n2 d2 n3 d3) = (I, E) := ⟨_, _, rfl⟩
  rw [hR]
  have HR := Lib.hid hR
  clear hR
  have hF : ∀ i, i < 3 → F64 ((fs3 n1 d1 n2 d2 n3 d3)[i]?.getD fr0).1 ((fs3 n1 d1 n2 d2 n3 d3)[i]?.getD fr0).2 := by
    intro i hi
    rcases i with _ | _ | _ | i
    · exact h1
    · exact h2
    · exact h3
    · omega
  have HF := Lib.hid hF
  clear hF
  go_enter Tryz.func71, Tryz.ntmps71
  go_wp2_with fail
  generalize w.alloc (.cells #[.int .i64 n1, .int .i64 d1, .int .i64 n2, .int .i64 d2, .int .i64 n3, .int .i64 d3] 28) = W at *
  refine (eachScale_any (some ⟨w.heap.size, 0, none⟩) 3 3 (fs3 n1 d1 n2 d2 n3 d3) W W (fun i => sclErr ((fs3 n1 d1 n2 d2 n3 d3)[i]?.getD fr0)) (fun _ _ => True) (SFr.of3 y0) (Below.refl _ _) trivial (fun _ _ _ _ _ => trivial) (fun i V hi _ hb => (sclErr_any (i : Int) _ _ V (HF.out i hi)).mono (fun e w' h => ⟨h.1, trivial, h.2.mono hb.size⟩))).mono ?_
  rintro e w1 ⟨rfl, hs⟩
  have e3 : eaF (fun i => sclErr ((fs3 n1 d1 n2 d2 n3 d3)[i]?.getD fr0)) 0 3 = (I, E) := HR.out
  rw [e3]
  dsimp only
  go_wp2_with fail
  refine bodyPost_ret (v := .tuple #[.int .i64 I, .int .i64 E]) (by simp [results, Tryz.results71]) rfl ⟨rfl, BW.trans (hs.mono BW.size)⟩
/-! ### Quantities -/
set_option maxHeartbeats 400000 in
theorem noExp_any (x : Int) (w : World) : Calls Tryz.prog 64 #[.int .i64 x] w fun e w' => e = .returned (.bool (!szd x 4)) ∧ w = w' := by
  go_enter Tryz.func64, Tryz.ntmps64
  go_wp2_with fail
  refine (dSized_any x 4 _ (by omega) (by omega)).mono ?_
  rintro e w1 ⟨rfl, rfl⟩
  go_wp2_with fail
  go_ret
  exact ⟨rfl, rfl⟩
/-- All of the first numbers are exponents. -/
def exB (xs : List Int) : Nat → Bool
  | 0 => true
  | k + 1 => exB xs k && szd (xs[k]?.getD 0) 4
theorem exB_all {xs : List Int} {k : Nat} (h : exB xs k = true) : ∀ t, t < k → szd (xs[t]?.getD 0) 4 = true := by
  induction k with
  | zero => intro t ht; omega
  | succ k ih =>
    unfold exB at h
    rw [Bool.and_eq_true] at h
    intro t ht
    rcases Nat.lt_or_ge t k with h' | h'
    · exact ih h.1 t h'
    · obtain rfl : t = k := by omega
      exact h.2
theorem exB_no {xs : List Int} {k n : Nat} (hk : k < n) (h : szd (xs[k]?.getD 0) 4 = false) : exB xs n = false := by
  rcases hb : exB xs n with _ | _
  · rfl
  · have := exB_all hb k hk
    rw [h] at this
    cases this
set_option maxRecDepth 100000 in
set_option maxHeartbeats 1000000 in
theorem indexExp_any (a : Option Addr) (n c : Nat) (xs : List Int) (w : World) (h1 : SI w a n c xs) :
    Calls Tryz.prog 65 #[.slice a n c, .func (.func 64) #[] #[]] w fun e w' => (∃ i : Int, e = .returned (.int .i64 i) ∧ decide (i ≥ 0) = !exB xs n) ∧ w = w' := by
  obtain ⟨l1, l2⟩ : n ≤ xs.length ∧ xs.length ≤ n := by have := h1.len; omega
  have m1 := h1.max
  have c1 := h1.cap
  obtain ⟨R, hR⟩ : ∃ R, exB xs n = R := ⟨_, rfl⟩
  rw [hR]
  have HR := Lib.hid hR
  clear hR
  go_enter Tryz.func65, Tryz.ntmps65
  go_wp2_with fail
  go_loop [8] (fun i => ∃ k : Nat, k ≤ n ∧ i = .int .i64 k ∧ exB xs k = true) (fun i => n - (intOf i).toNat)
  case atStart => exact ⟨0, by omega, rfl, rfl⟩
  case round =>
    obtain ⟨k, hk, rfl, ht⟩ := hrel
    have HT := Lib.hid ht
    clear ht
    by_cases hlt : k < n
    · obtain ⟨b1, o1, rfl, hc1⟩ := h1.at_ (by omega)
      have e1 := hc1 k hlt
      clear hc1
      have hi : (k : Int) < (n : Int) := by omega
      have hi0 : (0 : Int) ≤ (k : Int) := by omega
      obtain ⟨x, hxx⟩ : ∃ x, xs[k]?.getD 0 = x := ⟨_, rfl⟩
      rw [hxx] at e1
      have HX := Lib.hid hxx
      clear hxx
      go_wp2_with fail
      refine (noExp_any _ _).mono ?_
      rintro e w1 ⟨rfl, rfl⟩
      cases ho : szd x 4
      · have hR0 : R = false := by rw [← HR.out]; exact exB_no hlt (by rw [HX.out]; exact ho)
        go_wp2_with fail
        go_ret
        exact ⟨⟨_, rfl, by rw [hR0]; simp⟩, rfl⟩
      · go_wp2_with fail
        go_round
        case rel => exact ⟨k + 1, by omega, by go_num, by rw [exB, HT.out, HX.out, ho]; rfl⟩
        case measure => simp [intOf]; omega
    · have hle : (n : Int) ≤ (k : Int) := by omega
      obtain rfl : k = n := by omega
      have hR0 : R = true := by rw [← HR.out]; exact HT.out
      go_wp2_with fail
      go_ret
      exact ⟨⟨_, rfl, by first | (rw [hR0]; rfl) | (subst hR0; simp)⟩, rfl⟩
set_option maxHeartbeats 400000 in
theorem containsExp_any (a : Option Addr) (n c : Nat) (xs : List Int) (w : World) (h1 : SI w a n c xs) :
    Calls Tryz.prog 35 #[.slice a n c, .func (.func 64) #[] #[]] w fun e w' => e = .returned (.bool (!exB xs n)) ∧ w = w' := by
  go_enter Tryz.func35, Tryz.ntmps35
  go_wp2_with fail
  refine (indexExp_any a n c xs _ h1).mono ?_
  rintro e w1 ⟨⟨i, rfl, hi⟩, rfl⟩
  have HI := Lib.hid hi
  clear hi
  go_wp2_with fail
  go_ret
  exact ⟨ret_bool HI.out, rfl⟩
def qtyE (a b c : Int) : Int := unlessE (exB [a, b, c] 3) 2
set_option maxHeartbeats 1000000 in
theorem quantityErr_any (a b c : Int) (w : World) : Calls Tryz.prog 30 #[.agg #[.int .i64 a, .int .i64 b, .int .i64 c]] w fun e w' => e = .returned (.int .i64 (qtyE a b c)) ∧ Below w.heap.size w w' := by
  have y0 := alloc_new w (.cells #[.int .i64 a, .int .i64 b, .int .i64 c] 53)
  have BW : Below w.heap.size w (w.alloc (.cells #[.int .i64 a, .int .i64 b, .int .i64 c] 53)) := (Below.refl _ _).alloc (Nat.le_refl _) _
  have HE := Lib.hid (show qtyE a b c = unlessE (exB [a, b, c] 3) 2 from rfl)
  go_enter Tryz.func30, Tryz.ntmps30
  go_wp2_with fail
  generalize w.alloc (.cells #[.int .i64 a, .int .i64 b, .int .i64 c] 53) = W at *
  refine (containsExp_any _ 3 3 _ W (SI.of3 y0)).mono ?_
  rintro e w1 ⟨rfl, rfl⟩
  go_wp2_with fail
  refine (dUnless_any _ 2 _).mono ?_
  rintro e w1 ⟨rfl, rfl⟩
  go_wp2_with fail
  go_ret
  exact ⟨ret_int (by rw [HE.out]), BW⟩
end Go.Proofs.YtaiikekgckjdeaaGreat
