/- The reference's first state. The reference's step. -/
import Derived.Test.YtaiikekgckjdeaaK26
namespace Go.Proofs.Ytaiikekgckjdeaa
open Go.RowKit
open Calmly (Kept)
set_option maxRecDepth 100000 in
set_option maxHeartbeats 4000000 in
theorem rFirst_any (a : Option Addr) (n c : Nat) (raw : List FlR) (fs : List Fl) (w : World) (h1 : FrV w a n c raw fs) (hz : (frmE fs).2 = 0) :
    Calls Try.prog 71 #[.agg #[.slice a n c]] w fun e w' => ∃ x : StR, e = .returned (.agg #[hv x.1, hv x.2.1, hv x.2.2]) ∧ StV w' x (bgSt fs) ∧ Below w.heap.size w w' := by
  have hn := h1.n_
  have m1 := h1.row.max
  have c1 := h1.row.cap
  have HN := Lib.hid hn
  have hok := frmE_ok hz
  have HO := Lib.hid hok
  have hn5 : n ≤ 5 := by omega
  clear hn hok
  have y0 := blk_keep (alloc_new w (.cells #[.slice a n c] 24)) ((Below.refl _ _).alloc (Nat.le_refl _) (.cells #[.slice none 0 0, .slice none 0 0, .slice none 0 0] 97))
  have y1 := alloc_new (w.alloc (.cells #[.slice a n c] 24)) (.cells #[.slice none 0 0, .slice none 0 0, .slice none 0 0] 97)
  have B1 : Below w.heap.size w ((w.alloc (.cells #[.slice a n c] 24)).alloc (.cells #[.slice none 0 0, .slice none 0 0, .slice none 0 0] 97)) := ((Below.refl _ _).alloc (Nat.le_refl _) _).alloc (by simp) _
  simp only [World.size_alloc] at y1
  have f0 := cell_block y0 0
  go_enter Try.func71, Try.ntmps71
  go_wp2_with fail
  generalize (w.alloc (.cells #[.slice a n c] 24)).alloc (.cells #[.slice none 0 0, .slice none 0 0, .slice none 0 0] 97) = w1 at *
  refine Calmly.wp_region_mix 6 (.fl 0 <| .fl 2 <| .alt 1 (.alt 3 (.fl 4 <| .eff 5 <| .tail [6]) (.eff 5 (.eff 3 <| .fl 4 <| .tail [6]))) (.alt 3 (.alt 1 (.fl 4 <| .eff 5 <| .tail [6]) (.eff 5 (.eff 1 <| .fl 4 <| .tail [6]))) (.eff 5 (.alt 1 (.eff 3 <| .fl 4 <| .tail [6]) (.eff 3 (.eff 1 <| .fl 4 <| .tail [6])))))) (by kernel_rfl) (by kernel_rfl) ?_
  rename_i K hK
  have hK' := fun a w (h : Stop _) => hK a w h.out
  clear hK
  have HKK : Hid (∀ (b6 : Nat) (a3 a7 : Option Addr) (X : World), BgI w b6 a a3 a7 n c fs 0 X → w.heap.size + 1 < b6 → K { tmps := #[.agg #[.slice a n c], .pointer (some ⟨w.heap.size, 0, none⟩), .pointer (some ⟨w.heap.size + 1, 0, none⟩), .int .i64 (n : Int), .pointer (some ⟨b6, 0, none⟩), undef, .pointer (some ⟨w.heap.size, 0, none⟩), .slice a n c, .int .i64 (n : Int), .int .i64 (n : Int), .slice a3 n n, .int .i64 (n : Int), .slice a7 n n, .agg #[.slice a3 n n, .slice a7 n n, .slice none 0 0], undef, undef, undef, undef, undef, undef, undef, undef, undef, undef, undef, undef, undef, undef, undef, undef, undef, undef], defers := [] } X) := Lib.hid (by
    intro b6 a3 a7 X hI hb6
    refine hK' _ _ ⟨?_⟩
    have g0 := cell_block hI.t1 0
    go_wp2_with fail
    go_loopw [5] (fun i wr => ∃ k : Nat, k ≤ n ∧ i = .int .i64 k ∧ BgI w b6 a a3 a7 n c fs k wr) (fun i _ => n - (intOf i).toNat)
    case atStart => exact ⟨0, by omega, rfl, hI⟩
    case round =>
      clear hI g0
      obtain ⟨k, hk, rfl, hI⟩ := hrel
      by_cases hlt : k < n
      · obtain ⟨cb, co, rfl, hcc⟩ := (h1.row.keep (hI.bel.mono (Nat.le_refl _))).at_ (by omega)
        obtain ⟨q0, q1, q2⟩ := hcc k hlt
        obtain ⟨-, -, hsel⟩ := (h1.keep (hI.bel.mono (Nat.le_refl _))).fl k (by rw [← HN.out]; exact hlt)
        obtain ⟨rr, hrr⟩ : ∃ rr, raw[k]?.getD flr0 = rr := ⟨_, rfl⟩
        obtain ⟨x0, x1, ⟨u1, u2, u3⟩⟩ := rr
        rw [hrr] at q0 q1 q2 hsel
        clear hrr hcc
        dsimp only [hv] at q0 q1 q2 hsel
        have hi1 : (k : Int) < (n : Int) := by omega
        have hi0 : (0 : Int) ≤ (k : Int) := by omega
        have gt1 := cell_block hI.t1 0
        go_wp2_with fail
        have BV : Below wr.heap.size wr wr.drew := (Below.refl _ _).drew
        replace q2 := cell_keep q2 BV
        replace gt1 := cell_block (blk_keep hI.t1 BV) 0
        refine Calmly.wp_region_mix 10 (.fl 0 <| .fl 1 <| .fl 2 <| .fl 3 <| .fl 4 <| .fl 5 <| .fl 6 <| .fl 7 <| .eff 8 <| .eff 9 <| .tail [10, 11, 12]) (by kernel_rfl) (by kernel_rfl) ?_
        generalize World.drew _ = V8 at *
        have HI := Lib.hid hI
        obtain ⟨i1, -, -, -, -, av, cv, rw', i6, i7, i8, i9⟩ := hI
        have H9 := Lib.hid i9
        have H8 := Lib.hid i8
        clear i8 i9
        have j6 := blk_keep i6 BV
        have j7 := i7.keep BV
        have hwV := i1.size
        have f1 := cell_block j6 2
        have hsl := hsel.keep BV
        have hfl := flErr_ok (HO.out.2 k (by rw [← HN.out]; exact hlt))
        have hl4 := (sprE_ok hfl.2.2).1
        have hu2 : u2 ≤ 4 := by rw [hsel.len]; exact hl4.2
        have hu3 := hsel.len
        have HU := Lib.hid hu3
        clear hfl hl4 hu3 q0 q1
        have hVs := BV.size
        have hk8 := Below.refl V8.heap.size V8
        have hk := hk8
        go_wp2_with (first | ((with_reducible refine Calmly.is_fl ?_); refine Calmly.mix_fl rfl ?_ (fun _ _ => ?_); (first | exact .move _ | exact .load _ _ | exact .fieldAddr _ _ _ (by kernel_rfl) | exact .assign _ | exact .binOp _ _ _ _ _ rfl | exact .indexAddr _ _ _ | exact .len _ _ (by kernel_rfl) | exact .field _ _ _ | exact .extract _ _ | exact .pick _ _ _ | exact .build _ _ | exact .slice _ _ _ _ _ | exact .unOp _ _ _ rfl | exact .index _ _ _ | exact .max _ _ _ rfl rfl | exact .min _ _ _ rfl rfl | exact .nilCheck _ _ rfl)) | ((with_reducible refine Calmly.is_gl ?_); refine Calmly.mix_gl rfl rfl rfl ?_; first | ((first | with_reducible refine Calmly.gl_tt ?_ (fun _ _ => ?_) | with_reducible refine Calmly.gl_ff ?_ (fun _ _ => ?_)); (first | exact .move _ | exact .load _ _ | exact .fieldAddr _ _ _ (by kernel_rfl) | exact .assign _ | exact .binOp _ _ _ _ _ rfl | exact .indexAddr _ _ _ | exact .len _ _ (by kernel_rfl) | exact .field _ _ _ | exact .extract _ _ | exact .pick _ _ _ | exact .build _ _ | exact .slice _ _ _ _ _ | exact .unOp _ _ _ rfl | exact .index _ _ _ | exact .max _ _ _ rfl rfl | exact .min _ _ _ rfl rfl | exact .nilCheck _ _ rfl)) | with_reducible refine Calmly.gl_tf (fun _ _ => ?_) | with_reducible refine Calmly.gl_ft (fun _ _ => ?_)) | ((with_reducible refine Calmly.is_eff ?_); refine Calmly.mix_eff rfl (fun _ _ => ?_)) | ((with_reducible refine Calmly.is_gf ?_); refine Calmly.mix_gf rfl rfl rfl ?_; first | with_reducible refine Calmly.gf_tt (fun _ _ => ?_) | with_reducible refine Calmly.gf_ff (fun _ _ => ?_) | with_reducible refine Calmly.gf_tf (kept_of hk) (fun _ _ => ?_) | with_reducible refine Calmly.gf_ft (kept_of hk) (fun _ _ => ?_)) | ((with_reducible refine Calmly.is_kept ?_); refine ⟨kept_of hk, ?_⟩) | (with_reducible refine Calmly.mix_alt ?_ ?_))
        refine (rBegin_any u1 u2 u3 _ _ (hsl.keep hk) (by omega)).mono ?_
        rintro e w3 ⟨av2, rfl, hoS, hs3⟩
        replace hk := step_of hk hs3
        clear hk8
        have k6 := blk_keep j6 hk
        have k7 := j7.keep hk
        have hms := hoS.ss.max
        have hks := hk.size
        go_wp2_with (first | ((with_reducible refine Calmly.is_tail ?_); refine Calmly.mix_tail_app rfl (fun rest hrest => ?_); refine appRec w3 95 49 (new := [.int .i64 0, .slice av2 u2 u2]) rfl rfl _ _ rfl Try.underlying95 Try.info_hor rfl (by decide) (by decide) k7 rfl rfl rfl (oneCell_HoR (0, (av2, u2, u2))) (by omega) (by omega) (fun a9 c9 w9 ho9 hb9 hko9 hsm9 => ?_); refine hrest _ _ ?_; have k9 := (hsm9 b6 (blk_lt k6) (BlkT.not ⟨_, k6⟩ (by decide))).trans k6; have f5 := cell_block k9 2; have f6 := frozen_block k9 2) | ((with_reducible refine Calmly.is_fl ?_); refine Calmly.mix_fl rfl ?_ (fun _ _ => ?_); (first | exact .move _ | exact .load _ _ | exact .fieldAddr _ _ _ (by kernel_rfl) | exact .assign _ | exact .binOp _ _ _ _ _ rfl | exact .indexAddr _ _ _ | exact .len _ _ (by kernel_rfl) | exact .field _ _ _ | exact .extract _ _ | exact .pick _ _ _ | exact .build _ _ | exact .slice _ _ _ _ _ | exact .unOp _ _ _ rfl | exact .index _ _ _ | exact .max _ _ _ rfl rfl | exact .min _ _ _ rfl rfl | exact .nilCheck _ _ rfl)) | ((with_reducible refine Calmly.is_gl ?_); refine Calmly.mix_gl rfl rfl rfl ?_; first | ((first | with_reducible refine Calmly.gl_tt ?_ (fun _ _ => ?_) | with_reducible refine Calmly.gl_ff ?_ (fun _ _ => ?_)); (first | exact .move _ | exact .load _ _ | exact .fieldAddr _ _ _ (by kernel_rfl) | exact .assign _ | exact .binOp _ _ _ _ _ rfl | exact .indexAddr _ _ _ | exact .len _ _ (by kernel_rfl) | exact .field _ _ _ | exact .extract _ _ | exact .pick _ _ _ | exact .build _ _ | exact .slice _ _ _ _ _ | exact .unOp _ _ _ rfl | exact .index _ _ _ | exact .max _ _ _ rfl rfl | exact .min _ _ _ rfl rfl | exact .nilCheck _ _ rfl)) | with_reducible refine Calmly.gl_tf (fun _ _ => ?_) | with_reducible refine Calmly.gl_ft (fun _ _ => ?_)) | ((with_reducible refine Calmly.is_eff ?_); refine Calmly.mix_eff rfl (fun _ _ => ?_)) | ((with_reducible refine Calmly.is_gf ?_); refine Calmly.mix_gf rfl rfl rfl ?_; first | with_reducible refine Calmly.gf_tt (fun _ _ => ?_) | with_reducible refine Calmly.gf_ff (fun _ _ => ?_) | with_reducible refine Calmly.gf_tf (kept_of hk) (fun _ _ => ?_) | with_reducible refine Calmly.gf_ft (kept_of hk) (fun _ _ => ?_)) | ((with_reducible refine Calmly.is_tail ?_); first | refine Calmly.mix_tail_nil ?_ | refine Calmly.mix_tail rfl (fun _ _ => ?_)) | ((with_reducible refine Calmly.is_kept ?_); refine ⟨kept_of hk, ?_⟩) | (with_reducible refine Calmly.mix_alt ?_ ?_) | (refine kept_alloc hk (fun hk' hblk hge => ?_); replace hk := hk'; clear hk'))
        go_roundw
        case rel =>
          refine ⟨k + 1, by omega, by go_num, BgI.step HI.out hb6 BV hs3 hb9 ⟨hb9.size, hsm9⟩ k9 H8.out H9.out ho9 ?_⟩
          have e9 : List.replicate u2 sp0 = bgS (fs[k]?.getD fl0).2.2 := by rw [bgS, HU.out]
          rw [e9] at hoS
          exact hoS
        case measure => simp [intOf]; omega
      · obtain rfl : k = n := by omega
        have hle : (k : Int) ≤ (k : Int) := by omega
        have hnlt : ¬ (k : Int) < (k : Int) := by omega
        have HI := Lib.hid hI
        obtain ⟨i1, -, i3, -, -, av, cv, rw', i6, i7, i8, i9⟩ := hI
        have H9 := Lib.hid i9
        have H8 := Lib.hid i8
        clear i8 i9
        have hml := i7.sr.max
        have hmc := i7.sr.cap
        have f1 := cell_block i6 0
        have f2 := cell_block i6 1
        have f3 := cell_block i6 2
        have g1 := cell_block i3 0
        have g2 := cell_block i3 1
        have g3 := cell_block i3 2
        have g4 := frozen_block i3 0
        have g5 := frozen_block i3 1
        have g6 := frozen_block i3 2
        go_wp2_with fail
        have hw : w.heap.size ≤ w.heap.size + 1 := by omega
        have q0 := setBlk (setBlk (setBlk i3 0 (.slice a3 k k)) 1 (.slice a7 k k)) 2 (.slice av k cv)
        simp at q0
        have e0 := cell_block q0 0
        have e1 := cell_block q0 1
        have e2 := cell_block q0 2
        have B4 := ((i1.setCell (p := ⟨w.heap.size + 1, 0, none⟩) hw (.slice a3 k k)).setCell (p := ⟨w.heap.size + 1, 1, none⟩) hw (.slice a7 k k)).setCell (p := ⟨w.heap.size + 1, 2, none⟩) hw (.slice av k cv)
        have hBt : But 97 wr (((wr.setCell ⟨w.heap.size + 1, 0, none⟩ (.slice a3 k k)).setCell ⟨w.heap.size + 1, 1, none⟩ (.slice a7 k k)).setCell ⟨w.heap.size + 1, 2, none⟩ (.slice av k cv)) := ⟨by simp, fun b _ hne => by
          have hb : b ≠ w.heap.size + 1 := by rintro rfl; exact hne ⟨_, i3⟩
          rw [Below.heap_setCell _ _ _ _ hb, Below.heap_setCell _ _ _ _ hb, Below.heap_setCell _ _ _ _ hb]⟩
        refine bodyPost_ret (v := .agg #[.slice a3 k k, .slice a7 k k, .slice av k cv]) (by simp [results, Try.results71, go_sem, e0, e1, e2]) rfl ⟨a3, k, k, a7, k, k, av, k, cv, rfl, HI.out.stV HN.out i7 H8.out H9.out hBt, B4⟩)
  clear hK'
  replace y0 := blk_keep y0 (Below.refl _ _).drew
  replace y1 := blk_keep y1 (Below.refl _ _).drew
  replace B1 := B1.drew
  generalize w1.drew = V at *
  clear f0
  have f0 := cell_block y0 0
  have hk := Below.refl V.heap.size V
  have hn6 : n ≤ 1000000 := by omega
  go_wp2_with (first | (refine mix_makeIa 1 (n := n) rfl rfl rfl rfl hn6 (fun a3 w' ho3 hb => ?_); have hge3 := hk.size; (try replace ho7 := ho7.keepM hb); (try replace y6 := blk_keep y6 hb); replace hk := step_of hk hb; (try have z0 := cell_block y6 0); (try have z1 := cell_block y6 1); (try have z2 := cell_block y6 2); (try have z3 := frozen_block y6 0); (try have z4 := frozen_block y6 1); (try have z5 := frozen_block y6 2); refine ⟨kept_of hk, ?_⟩; clear hb) | (refine mix_makeIa 3 (n := n) rfl rfl rfl rfl hn6 (fun a7 w' ho7 hb => ?_); have hge7 := hk.size; (try replace ho3 := ho3.keepM hb); (try replace y6 := blk_keep y6 hb); replace hk := step_of hk hb; (try have z0 := cell_block y6 0); (try have z1 := cell_block y6 1); (try have z2 := cell_block y6 2); (try have z3 := frozen_block y6 0); (try have z4 := frozen_block y6 1); (try have z5 := frozen_block y6 2); refine ⟨kept_of hk, ?_⟩; clear hb) | (refine kept_allocR hk (fun hb hk2 y6 hge6 => ?_); (try replace ho3 := ho3.keepM hb); (try replace ho7 := ho7.keepM hb); replace hk := hk2; clear hb hk2; generalize World.alloc _ (.cells #[.slice none 0 0, .slice none 0 0, .slice none 0 0] 97) = W' at *; (try have z0 := cell_block y6 0); (try have z1 := cell_block y6 1); (try have z2 := cell_block y6 2); (try have z3 := frozen_block y6 0); (try have z4 := frozen_block y6 1); (try have z5 := frozen_block y6 2)) | ((with_reducible refine Calmly.is_fl ?_); refine Calmly.mix_fl rfl ?_ (fun _ _ => ?_); (first | exact .move _ | exact .load _ _ | exact .fieldAddr _ _ _ (by kernel_rfl) | exact .assign _ | exact .binOp _ _ _ _ _ rfl | exact .indexAddr _ _ _ | exact .len _ _ (by kernel_rfl) | exact .field _ _ _ | exact .extract _ _ | exact .pick _ _ _ | exact .build _ _ | exact .slice _ _ _ _ _ | exact .unOp _ _ _ rfl | exact .index _ _ _ | exact .max _ _ _ rfl rfl | exact .min _ _ _ rfl rfl | exact .nilCheck _ _ rfl)) | ((with_reducible refine Calmly.is_gl ?_); refine Calmly.mix_gl rfl rfl rfl ?_; first | ((first | with_reducible refine Calmly.gl_tt ?_ (fun _ _ => ?_) | with_reducible refine Calmly.gl_ff ?_ (fun _ _ => ?_)); (first | exact .move _ | exact .load _ _ | exact .fieldAddr _ _ _ (by kernel_rfl) | exact .assign _ | exact .binOp _ _ _ _ _ rfl | exact .indexAddr _ _ _ | exact .len _ _ (by kernel_rfl) | exact .field _ _ _ | exact .extract _ _ | exact .pick _ _ _ | exact .build _ _ | exact .slice _ _ _ _ _ | exact .unOp _ _ _ rfl | exact .index _ _ _ | exact .max _ _ _ rfl rfl | exact .min _ _ _ rfl rfl | exact .nilCheck _ _ rfl)) | with_reducible refine Calmly.gl_tf (fun _ _ => ?_) | with_reducible refine Calmly.gl_ft (fun _ _ => ?_)) | ((with_reducible refine Calmly.is_eff ?_); refine Calmly.mix_eff rfl (fun _ _ => ?_)) | ((with_reducible refine Calmly.is_gf ?_); refine Calmly.mix_gf rfl rfl rfl ?_; first | with_reducible refine Calmly.gf_tt (fun _ _ => ?_) | with_reducible refine Calmly.gf_ff (fun _ _ => ?_) | with_reducible refine Calmly.gf_tf (kept_of hk) (fun _ _ => ?_) | with_reducible refine Calmly.gf_ft (kept_of hk) (fun _ _ => ?_)) | ((with_reducible refine Calmly.is_tail ?_); first | refine Calmly.mix_tail_nil ?_ | refine Calmly.mix_tail rfl (fun _ _ => ?_)) | ((with_reducible refine Calmly.is_kept ?_); refine ⟨kept_of hk, ?_⟩) | (with_reducible refine Calmly.mix_alt ?_ ?_))
  all_goals
    have hVw := B1.size
    have hV1 := blk_lt y1
    apply HKK.out
    · exact BgI.start (B1.trans (hk.mono B1.size)) (blk_keep y0 hk) (blk_keep y1 hk) (owns_lower ho3 (by omega)) (owns_lower ho7 (by omega)) y6 (by omega)
    · omega
end Go.Proofs.Ytaiikekgckjdeaa

namespace Go.Proofs.Ytaiikekgckjdeaa
open Go.RowKit
open Calmly (Kept)
/-- What lies between two rounds of the reference's step. -/
structure SpI (w : World) (N b3 : Nat) (O1 O2 : Array Value) (ua ca : Option Addr) (n uc cc : Nat) (us now : List Int) (hs : List Ho) (W : World) : Prop where
  bel : Below w.heap.size w W
  t1 : W.heap[w.heap.size]? = some (.cells O1 24)
  t2 : W.heap[w.heap.size + 1]? = some (.cells O2 97)
  t3 : W.heap[w.heap.size + 1 + 1]? = some (.cells #[.slice none 0 0, .slice none 0 0, .slice none 0 0] 97)
  ul : OwI W w.heap.size ua n uc us
  cl : OwI W w.heap.size ca n cc now
  hol : ∃ ha hc rw, W.heap[b3]? = some (.cells #[.slice ua n uc, .slice ca n cc, .slice ha hs.length hc] 97) ∧ OwHoR W N ha hs.length hc rw ∧ rw.length = hs.length ∧ ∀ i, i < hs.length → (rw[i]?.getD hor0).1 = (hs[i]?.getD ho0).1 ∧ SSp W (rw[i]?.getD hor0).2.1 (rw[i]?.getD hor0).2.2.1 (rw[i]?.getD hor0).2.2.2 (hs[i]?.getD ho0).2 ∧ In W 64 (rw[i]?.getD hor0).2.1
  sz : N ≤ W.heap.size
theorem SpI.keep {w : World} {N b3 : Nat} {O1 O2 : Array Value} {ua ca : Option Addr} {n uc cc : Nat} {us now : List Int} {hs : List Ho} {Z W : World} (h : SpI w N b3 O1 O2 ua ca n uc cc us now hs Z) (hb : Below Z.heap.size Z W) : SpI w N b3 O1 O2 ua ca n uc cc us now hs W := by
  obtain ⟨i1, i2, i3, i4, i5, i6, ⟨ha, hc, rw', i7, i8, i9, i10⟩, i11⟩ := h
  exact ⟨i1.trans (hb.mono i1.size), blk_keep i2 hb, blk_keep i3 hb, blk_keep i4 hb, OwI.keepM i5 hb, OwI.keepM i6 hb, ⟨ha, hc, rw', blk_keep i7 hb, i8.keep hb, i9, fun i hi => ⟨(i10 i hi).1, (i10 i hi).2.1.keep hb, (i10 i hi).2.2.keep hb⟩⟩, Nat.le_trans i11 hb.size⟩
theorem SpI.step {w : World} {N b3 : Nat} {O1 O2 : Array Value} {ua ca : Option Addr} {n uc cc : Nat} {us now : List Int} {hs : List Ho} {Z w9 : World} (h : SpI w N b3 O1 O2 ua ca n uc cc us now hs Z) (hb3 : w.heap.size + 1 + 1 < b3) (hNw : w.heap.size ≤ N) (h9 : Below N Z w9) (hB : But 49 Z w9)
    {a9 ha av : Option Addr} {c9 hc e2 cv : Nat} {d : Int} {rows : List Sp} {rw' : List HoR} (k9 : w9.heap[b3]? = some (.cells #[.slice ua n uc, .slice ca n cc, .slice ha hs.length hc] 97)) (i7 : rw'.length = hs.length)
    (i8 : ∀ i, i < hs.length → (rw'[i]?.getD hor0).1 = (hs[i]?.getD ho0).1 ∧ SSp Z (rw'[i]?.getD hor0).2.1 (rw'[i]?.getD hor0).2.2.1 (rw'[i]?.getD hor0).2.2.2 (hs[i]?.getD ho0).2 ∧ In Z 64 (rw'[i]?.getD hor0).2.1)
    (ho9 : w9.ownsRow N 49 2 (.slice a9 (hs.length + 1) c9) (hs.length + 1) (rw'.flatMap encHoR ++ [.int .i64 d, .slice av e2 cv])) (hS : SSp Z av e2 cv rows) (hSi : In Z 64 av) :
    SpI w N b3 O1 O2 ua ca n uc cc us now (hs ++ [(d, rows)]) (w9.setCell ⟨b3, 2, none⟩ (.slice a9 (hs.length + 1) c9)) := by
  obtain ⟨i1, i2, i3, i3', i4', i4, _, i9⟩ := h
  have hB6 : But 97 w9 (w9.setCell ⟨b3, 2, none⟩ (.slice a9 (hs.length + 1) c9)) := But.setCell ⟨_, k9⟩
  have hne : ∀ b, b ≠ b3 → (w9.setCell ⟨b3, 2, none⟩ (.slice a9 (hs.length + 1) c9)).heap[b]? = w9.heap[b]? := fun b hb => Below.heap_setCell _ _ _ _ hb
  have ks : ∀ (aa : Option Addr) (nn cc : Nat) (l : List Sp), SSp Z aa nn cc l → In Z 64 aa → SSp (w9.setCell ⟨b3, 2, none⟩ (.slice a9 (hs.length + 1) c9)) aa nn cc l ∧ In (w9.setCell ⟨b3, 2, none⟩ (.slice a9 (hs.length + 1) c9)) 64 aa := fun aa nn cc l h1 h2 =>
    ⟨(h1.but h2 hB (by decide)).but (h2.but hB (by decide)) hB6 (by decide), (h2.but hB (by decide)).but hB6 (by decide)⟩
  have q6 := setBlk k9 2 (.slice a9 (hs.length + 1) c9)
  refine ⟨(i1.trans (h9.mono hNw)).setCell (by show w.heap.size ≤ b3; omega) _, ?_, ?_, ?_, ?_, ?_, ⟨a9, c9, rw' ++ [(d, (av, e2, cv))], ?_, ?_, ?_, ?_⟩, ?_⟩
  · exact (hne _ (by omega)).trans (blk_but i2 hB (by decide))
  · exact (hne _ (by omega)).trans (blk_but i3 hB (by decide))
  · exact (hne _ (by omega)).trans (blk_but i3' hB (by decide))
  · exact owns_other (owns_but i4' hB (by decide)) hne ⟨_, k9⟩ (by decide)
  · exact owns_other (owns_but i4 hB (by decide)) hne ⟨_, k9⟩ (by decide)
  · rw [List.length_append]
    simpa using q6
  · rw [List.length_append]
    unfold OwHoR
    rw [List.flatMap_append]
    exact owns_other ho9 hne ⟨_, k9⟩ (by decide)
  · rw [List.length_append, List.length_append, i7]; rfl
  · intro i hi
    rcases Nat.lt_or_ge i hs.length with hik | hik
    · rw [List.getElem?_append_left (by omega), List.getElem?_append_left hik]
      obtain ⟨r1, r2, r3⟩ := i8 i hik
      obtain ⟨r4, r5⟩ := ks _ _ _ _ r2 r3
      exact ⟨r1, r4, r5⟩
    · have hi' : i = hs.length := by
        rw [List.length_append] at hi
        simp at hi
        omega
      subst hi'
      rw [List.getElem?_append_right (by omega), List.getElem?_append_right (by omega), i7, Nat.sub_self]
      obtain ⟨r4, r5⟩ := ks _ _ _ _ hS hSi
      exact ⟨rfl, r4, r5⟩
  · simp only [World.size_setCell]
    have := h9.size
    omega
set_option maxRecDepth 100000 in
set_option maxHeartbeats 4000000 in
theorem rStep_any (a a1 a2 a3 : Option Addr) (n c n1 c1 n2 c2 n3 c3 : Nat) (g : Int) (raw : List FlR) (fs : List Fl) (s : St) (w : World) (h1 : FrV w a n c raw fs) (h2 : StW w ((a1, n1, c1), (a2, n2, c2), (a3, n3, c3)) s) (hO : StOk fs s) (hg : -100 ≤ g ∧ g ≤ 100) :
    Calls Try.prog 63 #[.agg #[.slice a n c], .agg #[.slice a1 n1 c1, .slice a2 n2 c2, .slice a3 n3 c3], .int .i64 g] w fun e w' => ∃ x : StR, e = .returned (.tuple #[.agg #[hv x.1, hv x.2.1, hv x.2.2], .int .i64 (colF (badS fs (nxts fs s g)) 0 fs.length)]) ∧ (colF (badS fs (nxts fs s g)) 0 fs.length < 0 → StV w' x (steS fs s (nxts fs s g))) ∧ Below w.heap.size w w' := by
  have hln := h1.n_
  have hln1 : n1 = n := by have h5 := h2.now.len; have h6 := hO.now; dsimp only at h5; omega
  have m1 := h1.row.max
  have cc1 := h1.row.cap
  have hfo := frmE_ok hO.frm
  have hn5 : n ≤ 5 := by omega
  subst hln1
  have HLN := Lib.hid hln
  have HFO := Lib.hid hfo.2
  obtain ⟨us, hus⟩ : ∃ us, nxts fs s g = us := ⟨_, rfl⟩
  have HUS := Lib.hid hus
  rw [hus]
  obtain ⟨C, hC⟩ : ∃ C, colF (badS fs us) 0 fs.length = C := ⟨_, rfl⟩
  rw [hC]
  have HC := Lib.hid (show colF (badS fs us) 0 (n1 - 0) = C by rw [← hC, ← hln]; rfl)
  clear hln hfo hus hC
  have y3 := blk_keep (blk_keep (alloc_new w (.cells #[.slice a n1 c] 24)) ((Below.refl _ _).alloc (Nat.le_refl _) (.cells #[.slice a1 n1 c1, .slice a2 n2 c2, .slice a3 n3 c3] 97))) ((Below.refl _ _).alloc (Nat.le_refl _) (.cells #[.slice none 0 0, .slice none 0 0, .slice none 0 0] 97))
  have y4 := blk_keep (alloc_new (w.alloc (.cells #[.slice a n1 c] 24)) (.cells #[.slice a1 n1 c1, .slice a2 n2 c2, .slice a3 n3 c3] 97)) ((Below.refl _ _).alloc (Nat.le_refl _) (.cells #[.slice none 0 0, .slice none 0 0, .slice none 0 0] 97))
  have y6 := alloc_new ((w.alloc (.cells #[.slice a n1 c] 24)).alloc (.cells #[.slice a1 n1 c1, .slice a2 n2 c2, .slice a3 n3 c3] 97)) (.cells #[.slice none 0 0, .slice none 0 0, .slice none 0 0] 97)
  have BW : Below w.heap.size w (((w.alloc (.cells #[.slice a n1 c] 24)).alloc (.cells #[.slice a1 n1 c1, .slice a2 n2 c2, .slice a3 n3 c3] 97)).alloc (.cells #[.slice none 0 0, .slice none 0 0, .slice none 0 0] 97)) := (((Below.refl _ _).alloc (Nat.le_refl _) _).alloc (by simp) _).alloc (by simp; omega) _
  simp only [World.size_alloc] at y4 y6
  have f0 := cell_block y3 0
  have g0 := cell_block y4 0
  have g1 := cell_block y4 1
  have g2 := cell_block y4 2
  go_enter Try.func63, Try.ntmps63
  go_wp2_with fail
  generalize ((w.alloc (.cells #[.slice a n1 c] 24)).alloc (.cells #[.slice a1 n1 c1, .slice a2 n2 c2, .slice a3 n3 c3] 97)).alloc (.cells #[.slice none 0 0, .slice none 0 0, .slice none 0 0] 97) = W at *
  have hWs := BW.size
  refine (rNext_any a a1 a2 a3 n1 c n1 c1 n2 c2 n3 c3 g raw fs s _ (h1.keep BW) (h2.keep BW) hO hg).mono ?_
  rintro e w1 ⟨ua, uc, rfl, hu, hs⟩
  rw [HUS.out] at hu
  replace y3 := blk_keep y3 hs
  replace y4 := blk_keep y4 hs
  replace y6 := blk_keep y6 hs
  replace BW := BW.trans (hs.mono BW.size)
  clear f0 g0 g1 g2 hs
  have g0 := cell_block y4 0
  go_wp2_with fail
  refine (copyInts_any a1 n1 c1 s.1 _ (h2.keep BW).now (by omega)).mono ?_
  rintro e w2 ⟨ca, cc, rfl, hc, hs⟩
  have hu2 := OwI.keepM hu hs
  replace y3 := blk_keep y3 hs
  replace y4 := blk_keep y4 hs
  replace y6 := blk_keep y6 hs
  have B1s := BW.size
  have hwu := BW.size
  replace BW := BW.trans (hs.mono BW.size)
  clear g0 hs
  have hA : Below w2.heap.size w2 (w2.alloc (.cells #[.slice ua n1 uc, .slice ca n1 cc, .slice none 0 0] 97)) := (Below.refl _ _).alloc (Nat.le_refl _) _
  have y9 := alloc_new w2 (.cells #[.slice ua n1 uc, .slice ca n1 cc, .slice none 0 0] 97)
  have hwV := blk_lt y6
  go_wp2_with fail
  obtain ⟨b3, hb3⟩ : ∃ b, w2.heap.size = b := ⟨_, rfl⟩
  have hN : w2.heap.size + 1 ≤ (w2.alloc (.cells #[.slice ua n1 uc, .slice ca n1 cc, .slice none 0 0] 97)).heap.size := by simp
  have hstart : SpI w (b3 + 1) b3 #[.slice a n1 c] #[.slice a1 n1 c1, .slice a2 n2 c2, .slice a3 n3 c3] ua ca n1 uc cc us s.1 [] (w2.alloc (.cells #[.slice ua n1 uc, .slice ca n1 cc, .slice none 0 0] 97)) :=
    ⟨BW.trans (hA.mono BW.size), blk_keep y3 hA, blk_keep y4 hA, blk_keep y6 hA, (owns_lower (hu2.keepM hA) (by omega)), (owns_lower (hc.keepM hA) (by omega)), ⟨none, 0, [], by rw [← hb3]; exact y9, OwHoR.nil _ _, rfl, fun i hi => by cases hi⟩, by rw [← hb3]; exact hN⟩
  rw [hb3] at hwV ⊢
  clear y3 y4 y6 y9 hu hu2 hc hA hN hb3
  generalize w2.alloc (.cells #[.slice ua n1 uc, .slice ca n1 cc, .slice none 0 0] 97) = W9 at *
  have hlh : ∀ k, ((List.range k).map (hoS fs s us)).length = k := fun k => by simp
  have HLH := Lib.hid hlh
  clear hlh
  go_loopw [10] (fun i wr => ∃ k : Nat, k ≤ n1 ∧ i = .int .i64 (k : Int) ∧ colF (badS fs us) k (n1 - k) = C ∧ SpI w (b3 + 1) b3 #[.slice a n1 c] #[.slice a1 n1 c1, .slice a2 n2 c2, .slice a3 n3 c3] ua ca n1 uc cc us s.1 ((List.range k).map (hoS fs s us)) wr) (fun i _ => n1 - (intOf i).toNat)
  case atStart => exact ⟨0, by omega, rfl, HC.out, hstart⟩
  case round =>
    clear hstart
    obtain ⟨k, hk, rfl, ht, hI⟩ := hrel
    have HT := Lib.hid ht
    clear ht
    by_cases hlt : k < n1
    · have hi : (k : Int) < (n1 : Int) := by omega
      have hi0 : (0 : Int) ≤ (k : Int) := by omega
      have hkl : k < fs.length := by have := HLN.out; omega
      go_wp2_with fail
      refine Calmly.wp_region_mix 10 (.fl 0 <| .fl 1 <| .fl 4 <| .fl 5 <| .fl 6 <| .fl 7 <| .fl 8 <| .fl 9 <| .eff 2 <| .eff 3 <| .tail [10]) (by kernel_rfl) (by kernel_rfl) ?_
      have hI2 := hI.keep ((Below.refl _ _).drew)
      clear hI
      generalize wr.drew = V at *
      have HI := Lib.hid hI2
      obtain ⟨i1, i2, i3, i3', i4', i4, ⟨ha, hc, rw', i6, i7, i8, i9⟩, i10⟩ := hI2
      have H8 := Lib.hid i8
      have H9 := Lib.hid i9
      clear i6 i7 i8 i9
      have hF := h1.keep i1
      have hln3 : n3 = n1 := by
        obtain ⟨hraw, hH⟩ := h2.hol
        have h5 := hH.row.len; have h6 := hH.len; have h7 := hO.hol; have h8 := HLN.out; dsimp only at h5; omega
      subst hln3
      obtain ⟨fb, fo, rfl, hcc⟩ := hF.row.at_ (by omega)
      obtain ⟨q0, q1, q2⟩ := hcc k hlt
      obtain ⟨e0, e1, e2⟩ := hF.fl k hkl
      obtain ⟨hraw, hH⟩ := (h2.keep i1).hol
      dsimp only at hH
      obtain ⟨hb, ho, rfl, hch⟩ := hH.row.at_ (by omega)
      obtain ⟨p0, p1⟩ := hch k hlt
      obtain ⟨g0, g1⟩ := hH.hl k (by rw [hO.hol]; exact hkl)
      obtain ⟨rr, hrr⟩ : ∃ rr, raw[k]?.getD flr0 = rr := ⟨_, rfl⟩
      obtain ⟨x0, x1, ⟨u1, u2, u3⟩⟩ := rr
      obtain ⟨hh, hhh⟩ : ∃ rr, hraw[k]?.getD hor0 = rr := ⟨_, rfl⟩
      obtain ⟨t', ⟨v1, v2, v3⟩⟩ := hh
      rw [hrr] at q0 q1 q2 e0 e1 e2
      rw [hhh] at p0 p1 g0 g1
      dsimp only [hv] at q0 q1 q2 e0 e1 e2 p0 p1 g0 g1
      have hok := hO.ok k hkl
      have hfl := flErr_ok (HFO.out k hkl)
      obtain ⟨D, hD⟩ : ∃ D, dr us k = D := ⟨_, rfl⟩
      have hub := nxts_bd (s := s) (g := g) hO (by omega)
      rw [HUS.out] at hub
      have hDb : -3000000000000 ≤ D ∧ D ≤ 3000000000000 := by
        rw [← hD, dr]
        have h5 := hub k
        cases k with
        | zero => simp only [bel, if_pos]; omega
        | succ j =>
          have h6 := hub j
          rw [bel_succ]
          omega
      obtain ⟨N, hN⟩ : ∃ N : Int, (D.natAbs : Int) = N := ⟨_, rfl⟩
      have hW : ∀ w, Calls Try.prog 92 #[.int .i64 D] w fun e w' => e = .returned (.int .i64 N) ∧ w = w' := fun w => by
        have h := size_any D w (by omega) (by omega)
        rw [hN] at h
        exact h
      have hbad : badS fs us k = !szd D x1 := by rw [badS, hD, e1]
      have HBAD := Lib.hid hbad
      have HHN := Lib.hid hN
      have HDB := Lib.hid hDb
      have HW := Lib.hid hW
      have HD := Lib.hid hD
      have HUB := Lib.hid hub
      have HOK := Lib.hid hok
      have HFL := Lib.hid hfl
      have hkk := Below.refl V.heap.size V
      have hk9 := hlt
      have hkb := hk
      have hul := i4'.si
      have hlim := hfl.2.1
      rw [← e1] at hlim
      have HE1 := Lib.hid e1
      have HRR := Lib.hid e2
      have HG0 := Lib.hid g0
      have HG1 := Lib.hid g1
      have hx1 := hlim.1
      have hx2 := hlim.2
      clear hcc hch hrr hhh hok hfl hub hDb hN hbad hW hD hF hH e0 e1 e2 g0 g1 hk hlt hlim
      have f0 := cell_block i2 0
      have hk := hkk
      clear hkk
      go_wp2_with (first | ((with_reducible refine Calmly.is_fl ?_); refine Calmly.mix_fl rfl ?_ (fun _ _ => ?_); (first | exact .move _ | exact .load _ _ | exact .fieldAddr _ _ _ (by kernel_rfl) | exact .assign _ | exact .binOp _ _ _ _ _ rfl | exact .indexAddr _ _ _ | exact .len _ _ (by kernel_rfl) | exact .field _ _ _ | exact .extract _ _ | exact .pick _ _ _ | exact .build _ _ | exact .slice _ _ _ _ _ | exact .unOp _ _ _ rfl | exact .index _ _ _ | exact .max _ _ _ rfl rfl | exact .min _ _ _ rfl rfl | exact .nilCheck _ _ rfl)) | ((with_reducible refine Calmly.is_gl ?_); refine Calmly.mix_gl rfl rfl rfl ?_; first | ((first | with_reducible refine Calmly.gl_tt ?_ (fun _ _ => ?_) | with_reducible refine Calmly.gl_ff ?_ (fun _ _ => ?_)); (first | exact .move _ | exact .load _ _ | exact .fieldAddr _ _ _ (by kernel_rfl) | exact .assign _ | exact .binOp _ _ _ _ _ rfl | exact .indexAddr _ _ _ | exact .len _ _ (by kernel_rfl) | exact .field _ _ _ | exact .extract _ _ | exact .pick _ _ _ | exact .build _ _ | exact .slice _ _ _ _ _ | exact .unOp _ _ _ rfl | exact .index _ _ _ | exact .max _ _ _ rfl rfl | exact .min _ _ _ rfl rfl | exact .nilCheck _ _ rfl)) | with_reducible refine Calmly.gl_tf (fun _ _ => ?_) | with_reducible refine Calmly.gl_ft (fun _ _ => ?_)) | ((with_reducible refine Calmly.is_eff ?_); refine Calmly.mix_eff rfl (fun _ _ => ?_)) | ((with_reducible refine Calmly.is_gf ?_); refine Calmly.mix_gf rfl rfl rfl ?_; first | with_reducible refine Calmly.gf_tt (fun _ _ => ?_) | with_reducible refine Calmly.gf_ff (fun _ _ => ?_) | with_reducible refine Calmly.gf_tf (kept_of hk) (fun _ _ => ?_) | with_reducible refine Calmly.gf_ft (kept_of hk) (fun _ _ => ?_)) | ((with_reducible refine Calmly.is_tail ?_); first | refine Calmly.mix_tail_nil ?_ | refine Calmly.mix_tail rfl (fun _ _ => ?_)) | ((with_reducible refine Calmly.is_kept ?_); refine ⟨kept_of hk, ?_⟩) | (with_reducible refine Calmly.mix_alt ?_ ?_))
      refine (rDrift_any ua n3 uc k us _ (hul.keep hk) hk9 HUB.out).mono ?_
      rintro e w5 ⟨rfl, hb5⟩
      replace hk := step_of hk hb5
      rw [HD.out]
      clear hb5
      go_wp2_with (first | ((with_reducible refine Calmly.is_fl ?_); refine Calmly.mix_fl rfl ?_ (fun _ _ => ?_); (first | exact .move _ | exact .load _ _ | exact .fieldAddr _ _ _ (by kernel_rfl) | exact .assign _ | exact .binOp _ _ _ _ _ rfl | exact .indexAddr _ _ _ | exact .len _ _ (by kernel_rfl) | exact .field _ _ _ | exact .extract _ _ | exact .pick _ _ _ | exact .build _ _ | exact .slice _ _ _ _ _ | exact .unOp _ _ _ rfl | exact .index _ _ _ | exact .max _ _ _ rfl rfl | exact .min _ _ _ rfl rfl | exact .nilCheck _ _ rfl)) | ((with_reducible refine Calmly.is_gl ?_); refine Calmly.mix_gl rfl rfl rfl ?_; first | ((first | with_reducible refine Calmly.gl_tt ?_ (fun _ _ => ?_) | with_reducible refine Calmly.gl_ff ?_ (fun _ _ => ?_)); (first | exact .move _ | exact .load _ _ | exact .fieldAddr _ _ _ (by kernel_rfl) | exact .assign _ | exact .binOp _ _ _ _ _ rfl | exact .indexAddr _ _ _ | exact .len _ _ (by kernel_rfl) | exact .field _ _ _ | exact .extract _ _ | exact .pick _ _ _ | exact .build _ _ | exact .slice _ _ _ _ _ | exact .unOp _ _ _ rfl | exact .index _ _ _ | exact .max _ _ _ rfl rfl | exact .min _ _ _ rfl rfl | exact .nilCheck _ _ rfl)) | with_reducible refine Calmly.gl_tf (fun _ _ => ?_) | with_reducible refine Calmly.gl_ft (fun _ _ => ?_)) | ((with_reducible refine Calmly.is_eff ?_); refine Calmly.mix_eff rfl (fun _ _ => ?_)) | ((with_reducible refine Calmly.is_gf ?_); refine Calmly.mix_gf rfl rfl rfl ?_; first | with_reducible refine Calmly.gf_tt (fun _ _ => ?_) | with_reducible refine Calmly.gf_ff (fun _ _ => ?_) | with_reducible refine Calmly.gf_tf (kept_of hk) (fun _ _ => ?_) | with_reducible refine Calmly.gf_ft (kept_of hk) (fun _ _ => ?_)) | ((with_reducible refine Calmly.is_tail ?_); first | refine Calmly.mix_tail_nil ?_ | refine Calmly.mix_tail rfl (fun _ _ => ?_)) | ((with_reducible refine Calmly.is_kept ?_); refine ⟨kept_of hk, ?_⟩) | (with_reducible refine Calmly.mix_alt ?_ ?_))
      refine (HW.out _).mono ?_
      rintro e w6 ⟨rfl, rfl⟩
      have z3 := blk_keep i3' hk
      have z31 := cell_block z3 0
      have z32 := cell_block z3 1
      have z33 := cell_block z3 2
      have z34 := frozen_block z3 0
      have z35 := frozen_block z3 1
      have z36 := frozen_block z3 2
      have hI3 := HI.out.keep hk
      have HI3 := Lib.hid hI3
      clear hI3
      by_cases hgt : x1 < N
      · as_aux_lemma =>
        have hCk : C = (k : Int) := by
          rw [← HT.out, show n3 - k = (n3 - k - 1) + 1 by omega, colF, HBAD.out]
          have h5 : szd D x1 = false := by
            cases h : szd D x1
            · rfl
            · have h6 := szd_iff.1 h
              have h7 := HHN.out
              omega
          rw [h5]
          rfl
        subst hCk
        go_wp2_with (first | ((with_reducible refine Calmly.is_fl ?_); refine Calmly.mix_fl rfl ?_ (fun _ _ => ?_); (first | exact .move _ | exact .load _ _ | exact .fieldAddr _ _ _ (by kernel_rfl) | exact .assign _ | exact .binOp _ _ _ _ _ rfl | exact .indexAddr _ _ _ | exact .len _ _ (by kernel_rfl) | exact .field _ _ _ | exact .extract _ _ | exact .pick _ _ _ | exact .build _ _ | exact .slice _ _ _ _ _ | exact .unOp _ _ _ rfl | exact .index _ _ _ | exact .max _ _ _ rfl rfl | exact .min _ _ _ rfl rfl | exact .nilCheck _ _ rfl)) | ((with_reducible refine Calmly.is_gl ?_); refine Calmly.mix_gl rfl rfl rfl ?_; first | ((first | with_reducible refine Calmly.gl_tt ?_ (fun _ _ => ?_) | with_reducible refine Calmly.gl_ff ?_ (fun _ _ => ?_)); (first | exact .move _ | exact .load _ _ | exact .fieldAddr _ _ _ (by kernel_rfl) | exact .assign _ | exact .binOp _ _ _ _ _ rfl | exact .indexAddr _ _ _ | exact .len _ _ (by kernel_rfl) | exact .field _ _ _ | exact .extract _ _ | exact .pick _ _ _ | exact .build _ _ | exact .slice _ _ _ _ _ | exact .unOp _ _ _ rfl | exact .index _ _ _ | exact .max _ _ _ rfl rfl | exact .min _ _ _ rfl rfl | exact .nilCheck _ _ rfl)) | with_reducible refine Calmly.gl_tf (fun _ _ => ?_) | with_reducible refine Calmly.gl_ft (fun _ _ => ?_)) | ((with_reducible refine Calmly.is_eff ?_); refine Calmly.mix_eff rfl (fun _ _ => ?_)) | ((with_reducible refine Calmly.is_gf ?_); refine Calmly.mix_gf rfl rfl rfl ?_; first | with_reducible refine Calmly.gf_tt (fun _ _ => ?_) | with_reducible refine Calmly.gf_ff (fun _ _ => ?_) | with_reducible refine Calmly.gf_tf (kept_of hk) (fun _ _ => ?_) | with_reducible refine Calmly.gf_ft (kept_of hk) (fun _ _ => ?_)) | ((with_reducible refine Calmly.is_tail ?_); first | refine Calmly.mix_tail_nil ?_ | refine Calmly.mix_tail rfl (fun _ _ => ?_)) | ((with_reducible refine Calmly.is_kept ?_); refine ⟨kept_of hk, ?_⟩) | (with_reducible refine Calmly.mix_alt ?_ ?_))
        have hw : w.heap.size ≤ w.heap.size + 1 + 1 := by omega
        have q0 := setBlk (setBlk (setBlk z3 0 (.slice none 0 0)) 1 (.slice none 0 0)) 2 (.slice none 0 0)
        simp at q0
        have e0 := cell_block q0 0
        have e1 := cell_block q0 1
        have e2 := cell_block q0 2
        have B4 := (((i1.trans (hk.mono i1.size)).setCell (p := ⟨w.heap.size + 1 + 1, 0, none⟩) hw (.slice none 0 0)).setCell (p := ⟨w.heap.size + 1 + 1, 1, none⟩) hw (.slice none 0 0)).setCell (p := ⟨w.heap.size + 1 + 1, 2, none⟩) hw (.slice none 0 0)
        exact bodyPost_ret (v := .tuple #[.agg #[.slice none 0 0, .slice none 0 0, .slice none 0 0], .int .i64 (k : Int)]) (by simp [results, Try.results63, go_sem, e0, e1, e2]) rfl ⟨((none, 0, 0), (none, 0, 0), (none, 0, 0)), rfl, fun h => absurd h (by omega), B4⟩
      · have hgood : badS fs us k = false := by
          rw [HBAD.out]
          have h5 : szd D x1 = true := szd_iff.2 (by have h7 := HHN.out; omega)
          rw [h5]
          rfl
        have hC2 : colF (badS fs us) (k + 1) (n3 - (k + 1)) = C := by
          rw [← HT.out, show n3 - k = (n3 - (k + 1)) + 1 by omega, colF, hgood]
          rfl
        have hDb2 : -1000 ≤ D ∧ D ≤ 1000 := by have h7 := HHN.out; omega
        have HC2 := Lib.hid hC2
        have HDB2 := Lib.hid hDb2
        clear hgood hC2 hDb2
        go_wp2_with (first | ((with_reducible refine Calmly.is_fl ?_); refine Calmly.mix_fl rfl ?_ (fun _ _ => ?_); (first | exact .move _ | exact .load _ _ | exact .fieldAddr _ _ _ (by kernel_rfl) | exact .assign _ | exact .binOp _ _ _ _ _ rfl | exact .indexAddr _ _ _ | exact .len _ _ (by kernel_rfl) | exact .field _ _ _ | exact .extract _ _ | exact .pick _ _ _ | exact .build _ _ | exact .slice _ _ _ _ _ | exact .unOp _ _ _ rfl | exact .index _ _ _ | exact .max _ _ _ rfl rfl | exact .min _ _ _ rfl rfl | exact .nilCheck _ _ rfl)) | ((with_reducible refine Calmly.is_gl ?_); refine Calmly.mix_gl rfl rfl rfl ?_; first | ((first | with_reducible refine Calmly.gl_tt ?_ (fun _ _ => ?_) | with_reducible refine Calmly.gl_ff ?_ (fun _ _ => ?_)); (first | exact .move _ | exact .load _ _ | exact .fieldAddr _ _ _ (by kernel_rfl) | exact .assign _ | exact .binOp _ _ _ _ _ rfl | exact .indexAddr _ _ _ | exact .len _ _ (by kernel_rfl) | exact .field _ _ _ | exact .extract _ _ | exact .pick _ _ _ | exact .build _ _ | exact .slice _ _ _ _ _ | exact .unOp _ _ _ rfl | exact .index _ _ _ | exact .max _ _ _ rfl rfl | exact .min _ _ _ rfl rfl | exact .nilCheck _ _ rfl)) | with_reducible refine Calmly.gl_tf (fun _ _ => ?_) | with_reducible refine Calmly.gl_ft (fun _ _ => ?_)) | ((with_reducible refine Calmly.is_eff ?_); refine Calmly.mix_eff rfl (fun _ _ => ?_)) | ((with_reducible refine Calmly.is_gf ?_); refine Calmly.mix_gf rfl rfl rfl ?_; first | with_reducible refine Calmly.gf_tt (fun _ _ => ?_) | with_reducible refine Calmly.gf_ff (fun _ _ => ?_) | with_reducible refine Calmly.gf_tf (kept_of hk) (fun _ _ => ?_) | with_reducible refine Calmly.gf_ft (kept_of hk) (fun _ _ => ?_)) | ((with_reducible refine Calmly.is_tail ?_); first | refine Calmly.mix_tail_nil ?_ | refine Calmly.mix_tail rfl (fun _ _ => ?_)) | ((with_reducible refine Calmly.is_kept ?_); refine ⟨kept_of hk, ?_⟩) | (with_reducible refine Calmly.mix_alt ?_ ?_))
        clear z3 z31 z32 z33 z34 z35 z36
        refine Calmly.wp_region_mix 18 (.fl 0 <| .fl 1 <| .fl 2 <| .fl 3 <| .fl 4 <| .fl 5 <| .fl 6 <| .fl 7 <| .fl 8 <| .fl 9 <| .fl 10 <| .fl 11 <| .fl 12 <| .fl 13 <| .fl 14 <| .eff 15 <| .eff 16 <| .eff 17 <| .tail [18, 19, 20]) (by kernel_rfl) (by kernel_rfl) ?_
        have BV : Below V.heap.size V w5.drew := hk.drew
        have hI4 := HI3.out.keep ((Below.refl _ _).drew)
        replace q0 := cell_keep q0 BV
        replace q1 := cell_keep q1 BV
        replace q2 := cell_keep q2 BV
        replace p0 := cell_keep p0 BV
        replace p1 := cell_keep p1 BV
        have hE := HRR.out.keep BV
        have hS := HG1.out.keep BV
        have hG0 := HG0.out
        clear HRR HG1 hk HI3
        generalize w5.drew = V8 at *
        have HI4 := Lib.hid hI4
        obtain ⟨j1, j2, j3, j3', j4', j4, ⟨ja, jc, jw, j6, j7, j8, j9⟩, j10⟩ := hI4
        have H8' := Lib.hid j8
        have H9' := Lib.hid j9
        clear j8 j9 BV i1 i2 i3 i3' i4 i4' hul
        rw [HLH.out] at j6 j7
        have hul := j4'.si
        have hu2 : v2 = u2 := by rw [hE.len, hS.len]; exact HOK.out.same
        subst hu2
        have hl4 := HOK.out.len
        have hul4 : v2 ≤ 4 := by rw [hE.len]; exact hl4.2
        have hplc : plc D = true := plc_iff.2 (by have := HDB2.out; omega)
        have f0 := cell_block j2 0
        have f3 := cell_block j3 2
        have f6 := cell_block j6 2
        have hk8 := Below.refl V8.heap.size V8
        have hk := hk8
        have hMV : ∀ W, Below V8.heap.size V8 W → Calls Try.prog 41 #[.slice u1 v2 u3, .agg #[.int .i64 t', .slice v1 v2 v3], .int .i64 D] W fun e w' => ∃ av cv, e = .returned (.agg #[.int .i64 D, .slice av v2 cv]) ∧ OwS w' W.heap.size av v2 cv (hoS fs s us k).2 ∧ Below W.heap.size W w' := fun W hb => by
          refine (rMoved_any u1 v1 v2 u3 v3 _ t' D _ W (hE.keep hb) (hS.keep hb) (by omega) (fun i hi => HOK.out.elB hplc (by rw [← hE.len]; exact hi))).mono ?_
          rintro e w' ⟨av, cv, rfl, ho, hb'⟩
          refine ⟨av, cv, rfl, ?_, hb'⟩
          rw [hoS, HD.out, mvdS, ← hE.len]
          exact ho
        have HMV := Lib.hid hMV
        clear hMV hE hS hG0 hl4 hk8
        go_wp2_with (first | ((with_reducible refine Calmly.is_fl ?_); refine Calmly.mix_fl rfl ?_ (fun _ _ => ?_); (first | exact .move _ | exact .load _ _ | exact .fieldAddr _ _ _ (by kernel_rfl) | exact .assign _ | exact .binOp _ _ _ _ _ rfl | exact .indexAddr _ _ _ | exact .len _ _ (by kernel_rfl) | exact .field _ _ _ | exact .extract _ _ | exact .pick _ _ _ | exact .build _ _ | exact .slice _ _ _ _ _ | exact .unOp _ _ _ rfl | exact .index _ _ _ | exact .max _ _ _ rfl rfl | exact .min _ _ _ rfl rfl | exact .nilCheck _ _ rfl)) | ((with_reducible refine Calmly.is_gl ?_); refine Calmly.mix_gl rfl rfl rfl ?_; first | ((first | with_reducible refine Calmly.gl_tt ?_ (fun _ _ => ?_) | with_reducible refine Calmly.gl_ff ?_ (fun _ _ => ?_)); (first | exact .move _ | exact .load _ _ | exact .fieldAddr _ _ _ (by kernel_rfl) | exact .assign _ | exact .binOp _ _ _ _ _ rfl | exact .indexAddr _ _ _ | exact .len _ _ (by kernel_rfl) | exact .field _ _ _ | exact .extract _ _ | exact .pick _ _ _ | exact .build _ _ | exact .slice _ _ _ _ _ | exact .unOp _ _ _ rfl | exact .index _ _ _ | exact .max _ _ _ rfl rfl | exact .min _ _ _ rfl rfl | exact .nilCheck _ _ rfl)) | with_reducible refine Calmly.gl_tf (fun _ _ => ?_) | with_reducible refine Calmly.gl_ft (fun _ _ => ?_)) | ((with_reducible refine Calmly.is_eff ?_); refine Calmly.mix_eff rfl (fun _ _ => ?_)) | ((with_reducible refine Calmly.is_gf ?_); refine Calmly.mix_gf rfl rfl rfl ?_; first | with_reducible refine Calmly.gf_tt (fun _ _ => ?_) | with_reducible refine Calmly.gf_ff (fun _ _ => ?_) | with_reducible refine Calmly.gf_tf (kept_of hk) (fun _ _ => ?_) | with_reducible refine Calmly.gf_ft (kept_of hk) (fun _ _ => ?_)) | ((with_reducible refine Calmly.is_tail ?_); first | refine Calmly.mix_tail_nil ?_ | refine Calmly.mix_tail rfl (fun _ _ => ?_)) | ((with_reducible refine Calmly.is_kept ?_); refine ⟨kept_of hk, ?_⟩) | (with_reducible refine Calmly.mix_alt ?_ ?_))
        refine (rDrift_any ua n3 uc k us _ (hul.keep hk) hk9 HUB.out).mono ?_
        rintro e w6 ⟨rfl, hb5⟩
        replace hk := step_of hk hb5
        rw [HD.out]
        clear hb5
        go_wp2_with (first | ((with_reducible refine Calmly.is_fl ?_); refine Calmly.mix_fl rfl ?_ (fun _ _ => ?_); (first | exact .move _ | exact .load _ _ | exact .fieldAddr _ _ _ (by kernel_rfl) | exact .assign _ | exact .binOp _ _ _ _ _ rfl | exact .indexAddr _ _ _ | exact .len _ _ (by kernel_rfl) | exact .field _ _ _ | exact .extract _ _ | exact .pick _ _ _ | exact .build _ _ | exact .slice _ _ _ _ _ | exact .unOp _ _ _ rfl | exact .index _ _ _ | exact .max _ _ _ rfl rfl | exact .min _ _ _ rfl rfl | exact .nilCheck _ _ rfl)) | ((with_reducible refine Calmly.is_gl ?_); refine Calmly.mix_gl rfl rfl rfl ?_; first | ((first | with_reducible refine Calmly.gl_tt ?_ (fun _ _ => ?_) | with_reducible refine Calmly.gl_ff ?_ (fun _ _ => ?_)); (first | exact .move _ | exact .load _ _ | exact .fieldAddr _ _ _ (by kernel_rfl) | exact .assign _ | exact .binOp _ _ _ _ _ rfl | exact .indexAddr _ _ _ | exact .len _ _ (by kernel_rfl) | exact .field _ _ _ | exact .extract _ _ | exact .pick _ _ _ | exact .build _ _ | exact .slice _ _ _ _ _ | exact .unOp _ _ _ rfl | exact .index _ _ _ | exact .max _ _ _ rfl rfl | exact .min _ _ _ rfl rfl | exact .nilCheck _ _ rfl)) | with_reducible refine Calmly.gl_tf (fun _ _ => ?_) | with_reducible refine Calmly.gl_ft (fun _ _ => ?_)) | ((with_reducible refine Calmly.is_eff ?_); refine Calmly.mix_eff rfl (fun _ _ => ?_)) | ((with_reducible refine Calmly.is_gf ?_); refine Calmly.mix_gf rfl rfl rfl ?_; first | with_reducible refine Calmly.gf_tt (fun _ _ => ?_) | with_reducible refine Calmly.gf_ff (fun _ _ => ?_) | with_reducible refine Calmly.gf_tf (kept_of hk) (fun _ _ => ?_) | with_reducible refine Calmly.gf_ft (kept_of hk) (fun _ _ => ?_)) | ((with_reducible refine Calmly.is_tail ?_); first | refine Calmly.mix_tail_nil ?_ | refine Calmly.mix_tail rfl (fun _ _ => ?_)) | ((with_reducible refine Calmly.is_kept ?_); refine ⟨kept_of hk, ?_⟩) | (with_reducible refine Calmly.mix_alt ?_ ?_))
        refine (HMV.out _ hk).mono ?_
        rintro e w7 ⟨av, cv, rfl, hoM, hb7⟩
        replace hk := step_of hk hb7
        have hkM := hk
        have k6 := blk_keep j6 hk
        have k7 := j7.keep hk
        have hms := hoM.ss.max
        have hks := hk.size
        go_wp2_with (first | ((with_reducible refine Calmly.is_tail ?_); refine Calmly.mix_tail_app rfl (fun rest hrest => ?_); refine appRec w7 95 49 (new := [.int .i64 D, .slice av v2 cv]) rfl rfl _ _ rfl Try.underlying95 Try.info_hor rfl (by decide) (by decide) k7 rfl rfl rfl (oneCell_HoR (D, (av, v2, cv))) (by omega) (by omega) (fun a9 c9 w9 ho9 hb9 hko9 hsm9 => ?_); refine hrest _ _ ?_; have k9 := (hsm9 b3 (blk_lt k6) (BlkT.not ⟨_, k6⟩ (by decide))).trans k6; have f5 := cell_block k9 2; have f7 := frozen_block k9 2) | ((with_reducible refine Calmly.is_fl ?_); refine Calmly.mix_fl rfl ?_ (fun _ _ => ?_); (first | exact .move _ | exact .load _ _ | exact .fieldAddr _ _ _ (by kernel_rfl) | exact .assign _ | exact .binOp _ _ _ _ _ rfl | exact .indexAddr _ _ _ | exact .len _ _ (by kernel_rfl) | exact .field _ _ _ | exact .extract _ _ | exact .pick _ _ _ | exact .build _ _ | exact .slice _ _ _ _ _ | exact .unOp _ _ _ rfl | exact .index _ _ _ | exact .max _ _ _ rfl rfl | exact .min _ _ _ rfl rfl | exact .nilCheck _ _ rfl)) | ((with_reducible refine Calmly.is_gl ?_); refine Calmly.mix_gl rfl rfl rfl ?_; first | ((first | with_reducible refine Calmly.gl_tt ?_ (fun _ _ => ?_) | with_reducible refine Calmly.gl_ff ?_ (fun _ _ => ?_)); (first | exact .move _ | exact .load _ _ | exact .fieldAddr _ _ _ (by kernel_rfl) | exact .assign _ | exact .binOp _ _ _ _ _ rfl | exact .indexAddr _ _ _ | exact .len _ _ (by kernel_rfl) | exact .field _ _ _ | exact .extract _ _ | exact .pick _ _ _ | exact .build _ _ | exact .slice _ _ _ _ _ | exact .unOp _ _ _ rfl | exact .index _ _ _ | exact .max _ _ _ rfl rfl | exact .min _ _ _ rfl rfl | exact .nilCheck _ _ rfl)) | with_reducible refine Calmly.gl_tf (fun _ _ => ?_) | with_reducible refine Calmly.gl_ft (fun _ _ => ?_)) | ((with_reducible refine Calmly.is_eff ?_); refine Calmly.mix_eff rfl (fun _ _ => ?_)) | ((with_reducible refine Calmly.is_gf ?_); refine Calmly.mix_gf rfl rfl rfl ?_; first | with_reducible refine Calmly.gf_tt (fun _ _ => ?_) | with_reducible refine Calmly.gf_ff (fun _ _ => ?_) | with_reducible refine Calmly.gf_tf (kept_of hk) (fun _ _ => ?_) | with_reducible refine Calmly.gf_ft (kept_of hk) (fun _ _ => ?_)) | ((with_reducible refine Calmly.is_tail ?_); first | refine Calmly.mix_tail_nil ?_ | refine Calmly.mix_tail rfl (fun _ _ => ?_)) | ((with_reducible refine Calmly.is_kept ?_); refine ⟨kept_of hk, ?_⟩) | (with_reducible refine Calmly.mix_alt ?_ ?_) | (refine kept_alloc hk (fun hk' hblk hge => ?_); replace hk := hk'; clear hk'))
        go_roundw
        case rel =>
          have hI7 := HI4.out.keep hkM
          have hst := SpI.step hI7 (by omega) (by omega) hb9 ⟨hb9.size, hsm9⟩ (rw' := jw) (ha := ja) (hc := jc) (by rw [HLH.out]; exact k9) H8'.out (fun i hi => ⟨(H9'.out i hi).1, (H9'.out i hi).2.1.keep hkM, (H9'.out i hi).2.2.keep hkM⟩) (by rw [HLH.out]; exact ho9) hoM.ss (In.of_owns hoM)
          rw [HLH.out] at hst
          refine ⟨k + 1, by omega, by go_num, HC2.out, ?_⟩
          rw [List.range_succ, List.map_append]
          have e9 : [(D, (hoS fs s us k).2)] = List.map (hoS fs s us) [k] := by rw [← HD.out]; rfl
          rw [← e9]
          exact hst
        case measure => simp [intOf]; omega
    · have hle : (n1 : Int) ≤ (k : Int) := by omega
      obtain rfl : n1 = k := by omega
      have hC1 : C = -1 := by rw [← HT.out, Nat.sub_self]; rfl
      subst hC1
      have HI := Lib.hid hI
      obtain ⟨i1, i2, i3, i4, i5, i6, ⟨ha, hc, rw', i7, i8, i9, i10⟩, i11⟩ := hI
      clear hlt hk
      have f1 := cell_block i7 0
      have f2 := cell_block i7 1
      have f3 := cell_block i7 2
      have g1 := cell_block i4 0
      have g2 := cell_block i4 1
      have g3 := cell_block i4 2
      have g4 := frozen_block i4 0
      have g5 := frozen_block i4 1
      have g6 := frozen_block i4 2
      go_wp2_with fail
      rw [HLH.out] at *
      have hw : w.heap.size ≤ w.heap.size + 1 + 1 := by omega
      have q0 := setBlk (setBlk (setBlk i4 0 (.slice ua n1 uc)) 1 (.slice ca n1 cc)) 2 (.slice ha n1 hc)
      simp at q0
      have e0 := cell_block q0 0
      have e1 := cell_block q0 1
      have e2 := cell_block q0 2
      have B4 := ((i1.setCell (p := ⟨w.heap.size + 1 + 1, 0, none⟩) hw (.slice ua n1 uc)).setCell (p := ⟨w.heap.size + 1 + 1, 1, none⟩) hw (.slice ca n1 cc)).setCell (p := ⟨w.heap.size + 1 + 1, 2, none⟩) hw (.slice ha n1 hc)
      have hBt : But 97 wr (((wr.setCell ⟨w.heap.size + 1 + 1, 0, none⟩ (.slice ua n1 uc)).setCell ⟨w.heap.size + 1 + 1, 1, none⟩ (.slice ca n1 cc)).setCell ⟨w.heap.size + 1 + 1, 2, none⟩ (.slice ha n1 hc)) := ⟨by simp, fun b _ hne => by
        have hb : b ≠ w.heap.size + 1 + 1 := by rintro rfl; exact hne ⟨_, i4⟩
        rw [Below.heap_setCell _ _ _ _ hb, Below.heap_setCell _ _ _ _ hb, Below.heap_setCell _ _ _ _ hb]⟩
      refine bodyPost_ret (v := .tuple #[.agg #[.slice ua n1 uc, .slice ca n1 cc, .slice ha n1 hc], .int .i64 (-1)]) (by simp [results, Try.results63, go_sem, e0, e1, e2]) rfl ⟨((ua, n1, uc), (ca, n1, cc), (ha, n1, hc)), rfl, fun _ => ?_, B4⟩
      have hst : steS fs s us = (us, s.1, (List.range n1).map (hoS fs s us)) := by rw [steS, HLN.out]
      rw [hst]
      have k5 := owns_but i5 hBt (by decide)
      have k6 := owns_but i6 hBt (by decide)
      have k8 := owns_but i8 hBt (by decide)
      refine ⟨OwI.si k5, In.of_owns k5, OwI.si k6, In.of_owns k6, ⟨rw', OwHoR.sr k8, ?_, ?_⟩, In.of_owns k8⟩
      · rw [HLH.out]; exact i9
      · intro i hi
        obtain ⟨r1, r2, r3⟩ := i10 i (by rw [HLH.out] at hi; exact hi)
        exact ⟨r1, r2.but r3 hBt (by decide), r3.but hBt (by decide)⟩
end Go.Proofs.Ytaiikekgckjdeaa
