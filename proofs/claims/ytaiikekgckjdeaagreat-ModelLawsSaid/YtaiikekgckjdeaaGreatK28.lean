/- Copies of a law. Laws that are small enough for the sample. -/
import Derived.Test.YtaiikekgckjdeaaGreatK27
namespace Go.Proofs.YtaiikekgckjdeaaGreat
open Go.RowKit
attribute [local go_sem] Oper.semAt_some
open Calmly (Kept)
/-- What lies between two rows of the copy. -/
structure CpI (w : World) (ts : List (List Int)) (k : Nat) (av : Option Addr) (cv : Nat) (rw' : List LsR) (W : World) : Prop where
  bel : Below w.heap.size w W
  own : OwLsR W w.heap.size av k cv rw'
  len : rw'.length = k
  at_ : ∀ i, i < k → SI W (rw'[i]?.getD lsr0).1 (rw'[i]?.getD lsr0).2.1 (rw'[i]?.getD lsr0).2.2 (ts[i]?.getD []) ∧ In W 3 (rw'[i]?.getD lsr0).1
/-- Rows of rows that read, in blocks of their types. -/
structure LlO (w : World) (a : Option Addr) (n c : Nat) (raw : List LsR) (M : List (List Int)) : Prop where
  v : LlV w a n c raw M
  i1 : In w 29 a
  i2 : ∀ i, i < M.length → In w 3 (raw[i]?.getD lsr0).1
theorem LlO.but {e : TypeId} {w w' : World} {a : Option Addr} {n c : Nat} {raw : List LsR} {M : List (List Int)} (h : LlO w a n c raw M) (hb : But e w w') (h1 : 29 ≠ e) (h2 : 3 ≠ e) : LlV w' a n c raw M :=
  ⟨Sl.same h.v.row (fun b o hn ha => hb.2 b (h.v.row.blk b o hn ha) ((h.i1.blk b o ha).not h1)), h.v.len, fun i hi => (h.v.at_ i hi).but (h.i2 i hi) hb h2⟩
theorem In.ofI {w : World} {B n c : Nat} {a : Option Addr} {xs : List Int} (h : OwI w B a n c xs) : In w 3 a := In.of_owns h
set_option maxRecDepth 100000 in
set_option maxHeartbeats 2000000 in
theorem CopyLists_any (a : Option Addr) (n c : Nat) (raw : List LsR) (ts : List (List Int)) (w : World) (h1 : LlV w a n c raw ts) (hn : n ≤ 1000) (hsp : ∀ i, i < ts.length → (ts[i]?.getD []).length ≤ 1000) :
    Calls Tryz.prog 40 #[.slice a n c] w fun e w' => ∃ a' c' raw', e = .returned (.slice a' n c') ∧ LlO w' a' n c' raw' ts ∧ Below w.heap.size w w' := by
  have hln := h1.n_
  have HLN := Lib.hid hln
  have HSP := Lib.hid hsp
  have m1 := h1.row.max
  have c1 := h1.row.cap
  clear hln hsp
  go_enter Tryz.func40, Tryz.ntmps40
  go_wp2_with fail
  go_loopw [4, 3] (fun i oo wr => ∃ (k : Nat) (av : Option Addr) (cv : Nat) (rw' : List LsR), k ≤ n ∧ i = .int .i64 k ∧ oo = .slice av k cv ∧ CpI w ts k av cv rw' wr) (fun i _ _ => n - (intOf i).toNat)
  case atStart => exact ⟨0, none, 0, [], by omega, rfl, rfl, Below.refl _ _, OwLsR.nil _ _, rfl, fun i hi => absurd hi (by omega)⟩
  case round =>
    obtain ⟨k, av, cv, rw', hk, rfl, rfl, hI⟩ := hrel
    by_cases hlt : k < n
    case pos =>
      obtain ⟨hb, hO, hrl, hS⟩ := hI
      have hF := h1.keep hb
      obtain ⟨b1', o1, rfl, hc1⟩ := hF.row.at_ (by omega)
      have p0 := hc1 k hlt
      have hkl : k < ts.length := by have := HLN.out; omega
      have e2 := hF.at_ k hkl
      have hi : (k : Int) < (n : Int) := by omega
      have hi0 : (0 : Int) ≤ (k : Int) := by omega
      have hl6 := HSP.out k hkl
      have hl7 := e2.len
      obtain ⟨⟨a', n', c'⟩, hyy⟩ : ∃ x, raw[k]?.getD lsr0 = x := ⟨_, rfl⟩
      rw [hyy] at e2 p0 hl7
      dsimp only [hv] at e2 p0 hl7
      rw [Nat.mul_one] at p0
      have hn' : n' ≤ 1000 := by omega
      have HRL := Lib.hid hrl
      have HS := Lib.hid hS
      have hws := hb.size
      clear hc1 hyy hl6 hl7 hrl hS hF
      have o1' := hO.sr.max
      have o2' := hO.sr.cap
      go_wp2_with fail
      refine (copyInts_any a' n' c' _ _ e2 (by omega)).mono ?_
      rintro e w3 ⟨a4, c4, rfl, ho4, hb4⟩
      dsimp only
      have hO3 := hO.keep hb4
      have hb3 := hb.trans (hb4.mono hws)
      have hS3 : ∀ i, i < k → SI w3 (rw'[i]?.getD lsr0).1 (rw'[i]?.getD lsr0).2.1 (rw'[i]?.getD lsr0).2.2 (ts[i]?.getD []) ∧ In w3 3 (rw'[i]?.getD lsr0).1 := fun i hi => ⟨(HS.out i hi).1.keep hb4, (HS.out i hi).2.keep hb4⟩
      have hS4 : SI w3 a4 n' c4 (ts[k]?.getD []) ∧ In w3 3 a4 := ⟨ho4.si, In.of_owns ho4⟩
      have HS3 := Lib.hid hS3
      have HS4 := Lib.hid hS4
      have hO' : World.ownsRow w3 w.heap.size 29 1 (.slice av k cv) k (rw'.flatMap encLsR) := hO3
      have HOO := Lib.hid hO'
      have hws3 := hb3.size
      clear hS3 hS4 hO hO' hO3 ho4 hb hb4 HS e2 p0 hws
      go_wp2_with (at_builtin; go_loud (refine appRec w3 23 29 (new := [.slice a4 n' c4]) rfl rfl _ _ rfl Tryz.underlying23 Tryz.info_lsr rfl (by decide) (by decide) HOO.out rfl rfl rfl (oneCell_LsR (a4, n', c4)) (by omega) hws3 (fun a9 c9 w9 ho9 hb9 _ hsm9 => ?_)))
      have hbut : But 29 w3 w9 := ⟨(hb9.mono (Nat.le_refl _)).size, hsm9⟩
      have hS9 : ∀ i, i < k + 1 → SI w9 ((rw' ++ [(a4, n', c4)])[i]?.getD lsr0).1 ((rw' ++ [(a4, n', c4)])[i]?.getD lsr0).2.1 ((rw' ++ [(a4, n', c4)])[i]?.getD lsr0).2.2 (ts[i]?.getD []) ∧ In w9 3 ((rw' ++ [(a4, n', c4)])[i]?.getD lsr0).1 := fun i hi => by
        by_cases hik : i < k
        · rw [List.getElem?_append_left (by have := HRL.out; omega)]
          have := HS3.out i hik
          exact ⟨this.1.but this.2 hbut (by decide), this.2.but hbut (by decide)⟩
        · obtain rfl : i = k := by omega
          have : (rw' ++ [(a4, n', c4)])[i]?.getD lsr0 = (a4, n', c4) := by
            rw [List.getElem?_append_right (by have := HRL.out; omega)]
            simp [HRL.out]
          rw [this]
          have := HS4.out
          exact ⟨this.1.but this.2 hbut (by decide), this.2.but hbut (by decide)⟩
      have hO9 : OwLsR w9 w.heap.size a9 (k + 1) c9 (rw' ++ [(a4, n', c4)]) := by simpa [OwLsR, encLsR, hv] using ho9
      have hL9 : (rw' ++ [(a4, n', c4)]).length = k + 1 := by simp [HRL.out]
      have HI := Lib.hid (show CpI w ts (k + 1) a9 c9 (rw' ++ [(a4, n', c4)]) w9 from ⟨hb3.trans hb9, hO9, hL9, hS9⟩)
      clear hbut hS9 hO9 hL9
      go_roundw
      case rel => exact ⟨k + 1, a9, c9, _, by omega, by go_num, rfl, HI.out⟩
      case measure => simp [intOf]; omega
    case neg =>
      obtain rfl : k = n := by omega
      have hle : ¬ (k : Int) < (k : Int) := by omega
      have HR := Lib.hid (show LlO wr av k cv rw' ts from ⟨⟨hI.own.sr, by rw [hI.len, ← HLN.out], fun i hi => (hI.at_ i (by have := HLN.out; omega)).1⟩, In.of_owns hI.own, fun i hi => (hI.at_ i (by have := HLN.out; omega)).2⟩)
      have BF := hI.bel
      clear hI
      go_wp2_with fail
      refine bodyPost_ret (v := .slice av k cv) (by simp [results, Tryz.results40]) rfl ⟨av, cv, rfl, ⟨rw', HR.out⟩, BF⟩
set_option maxRecDepth 100000 in
set_option maxHeartbeats 2000000 in
theorem CopyLaw_any (qa la : Option Addr) (qn qc ln lc : Nat) (qs : List QuR) (raw : List LsR) (ts : List (List Int)) (w : World) (h1 : SQuR w qa qn qc qs) (h2 : LlV w la ln lc raw ts) (hq : qn ≤ 1000) (hn : ln ≤ 1000) (hsp : ∀ i, i < ts.length → (ts[i]?.getD []).length ≤ 1000) :
    Calls Tryz.prog 7 #[.agg #[.slice qa qn qc, .slice la ln lc]] w fun e w' => ∃ qa' qc' la' lc' raw', e = .returned (.agg #[.slice qa' qn qc', .slice la' ln lc']) ∧ SQuR w' qa' qn qc' qs ∧ LlV w' la' ln lc' raw' ts ∧ Below w.heap.size w w' := by
  have HSP := Lib.hid hsp
  have m1 := h1.max
  have c1 := h1.cap
  have m2 := h2.row.max
  have c2 := h2.row.cap
  have y1 := blk_keep (alloc_new w (.cells #[.slice qa qn qc, .slice la ln lc] 25)) ((Below.refl _ _).alloc (Nat.le_refl _) (.cells #[.slice none 0 0, .slice none 0 0] 25))
  have y2 := alloc_new (w.alloc (.cells #[.slice qa qn qc, .slice la ln lc] 25)) (.cells #[.slice none 0 0, .slice none 0 0] 25)
  have BW : Below w.heap.size w ((w.alloc (.cells #[.slice qa qn qc, .slice la ln lc] 25)).alloc (.cells #[.slice none 0 0, .slice none 0 0] 25)) := ((Below.refl _ _).alloc (Nat.le_refl _) _).alloc (by simp) _
  simp only [World.size_alloc] at y2
  clear hsp
  go_enter Tryz.func7, Tryz.ntmps7
  go_wp2_with fail
  generalize (w.alloc (.cells #[.slice qa qn qc, .slice la ln lc] 25)).alloc (.cells #[.slice none 0 0, .slice none 0 0] 25) = W at *
  refine Calmly.wp_region_mix 6 (.fl 0 <| .fl 1 <| .fl 3 <| .fl 4 <| .eff 2 <| .eff 5 <| .tail [6, 7]) (by kernel_rfl) (by kernel_rfl) ?_
  have BD : Below W.heap.size W W.drew := (Below.refl _ _).drew
  replace y1 := blk_keep y1 BD
  replace y2 := blk_keep y2 BD
  replace BW := BW.trans (BD.mono BW.size)
  clear BD
  generalize W.drew = V at *
  have f0 := cell_block y1 0
  have f1 := cell_block y1 1
  have hq1 := h1.keep BW
  have hl1 := h2.keep BW
  have hk := Below.refl V.heap.size V
  rename_i K1 hK1
  have hK1' := fun a w (h : Stop _) => hK1 a w h.out
  have HK1 := Lib.hid hK1'
  clear hK1 hK1'
  go_wp2_with (first | ((with_reducible refine Calmly.is_fl ?_); refine Calmly.mix_fl rfl ?_ (fun _ _ => ?_); (first | exact .move _ | exact .load _ _ | exact .fieldAddr _ _ _ (by kernel_rfl) | exact .assign _ | exact .binOp _ _ _ _ _ rfl | exact .indexAddr _ _ _ | exact .len _ _ (by kernel_rfl) | exact .field _ _ _ | exact .extract _ _ | exact .pick _ _ _ | exact .build _ _ | exact .slice _ _ _ _ _ | exact .unOp _ _ _ rfl | exact .index _ _ _ | exact .max _ _ _ rfl rfl | exact .min _ _ _ rfl rfl | exact .nilCheck _ _ rfl)) | ((with_reducible refine Calmly.is_gl ?_); refine Calmly.mix_gl rfl rfl rfl ?_; first | ((first | with_reducible refine Calmly.gl_tt ?_ (fun _ _ => ?_) | with_reducible refine Calmly.gl_ff ?_ (fun _ _ => ?_)); (first | exact .move _ | exact .load _ _ | exact .fieldAddr _ _ _ (by kernel_rfl) | exact .assign _ | exact .binOp _ _ _ _ _ rfl | exact .indexAddr _ _ _ | exact .len _ _ (by kernel_rfl) | exact .field _ _ _ | exact .extract _ _ | exact .pick _ _ _ | exact .build _ _ | exact .slice _ _ _ _ _ | exact .unOp _ _ _ rfl | exact .index _ _ _ | exact .max _ _ _ rfl rfl | exact .min _ _ _ rfl rfl | exact .nilCheck _ _ rfl)) | with_reducible refine Calmly.gl_tf (fun _ _ => ?_) | with_reducible refine Calmly.gl_ft (fun _ _ => ?_)) | ((with_reducible refine Calmly.is_eff ?_); refine Calmly.mix_eff rfl (fun _ _ => ?_)) | ((with_reducible refine Calmly.is_gf ?_); refine Calmly.mix_gf rfl rfl rfl ?_; first | with_reducible refine Calmly.gf_tt (fun _ _ => ?_) | with_reducible refine Calmly.gf_ff (fun _ _ => ?_) | with_reducible refine Calmly.gf_tf (kept_of hk) (fun _ _ => ?_) | with_reducible refine Calmly.gf_ft (kept_of hk) (fun _ _ => ?_)) | ((with_reducible refine Calmly.is_tail ?_); first | refine Calmly.mix_tail_nil ?_ | refine Calmly.mix_tail rfl (fun _ _ => ?_)) | ((with_reducible refine Calmly.is_kept ?_); refine ⟨kept_of hk, ?_⟩) | (with_reducible refine Calmly.mix_alt ?_ ?_))
  refine (CopyQuantities_any qa qn qc qs _ hq1 (by omega)).mono ?_
  rintro e w1 ⟨qa', qc', rfl, hQ, hs⟩
  dsimp only
  replace hk := step_of hk hs
  replace hl1 := hl1.keep hs
  have hQ1 := hQ.sr
  have hQ2 : In w1 53 qa' := In.of_owns hQ
  clear hs hQ
  have m3 := hQ1.max
  have c3 := hQ1.cap
  go_wp2_with (first | ((with_reducible refine Calmly.is_fl ?_); refine Calmly.mix_fl rfl ?_ (fun _ _ => ?_); (first | exact .move _ | exact .load _ _ | exact .fieldAddr _ _ _ (by kernel_rfl) | exact .assign _ | exact .binOp _ _ _ _ _ rfl | exact .indexAddr _ _ _ | exact .len _ _ (by kernel_rfl) | exact .field _ _ _ | exact .extract _ _ | exact .pick _ _ _ | exact .build _ _ | exact .slice _ _ _ _ _ | exact .unOp _ _ _ rfl | exact .index _ _ _ | exact .max _ _ _ rfl rfl | exact .min _ _ _ rfl rfl | exact .nilCheck _ _ rfl)) | ((with_reducible refine Calmly.is_gl ?_); refine Calmly.mix_gl rfl rfl rfl ?_; first | ((first | with_reducible refine Calmly.gl_tt ?_ (fun _ _ => ?_) | with_reducible refine Calmly.gl_ff ?_ (fun _ _ => ?_)); (first | exact .move _ | exact .load _ _ | exact .fieldAddr _ _ _ (by kernel_rfl) | exact .assign _ | exact .binOp _ _ _ _ _ rfl | exact .indexAddr _ _ _ | exact .len _ _ (by kernel_rfl) | exact .field _ _ _ | exact .extract _ _ | exact .pick _ _ _ | exact .build _ _ | exact .slice _ _ _ _ _ | exact .unOp _ _ _ rfl | exact .index _ _ _ | exact .max _ _ _ rfl rfl | exact .min _ _ _ rfl rfl | exact .nilCheck _ _ rfl)) | with_reducible refine Calmly.gl_tf (fun _ _ => ?_) | with_reducible refine Calmly.gl_ft (fun _ _ => ?_)) | ((with_reducible refine Calmly.is_eff ?_); refine Calmly.mix_eff rfl (fun _ _ => ?_)) | ((with_reducible refine Calmly.is_gf ?_); refine Calmly.mix_gf rfl rfl rfl ?_; first | with_reducible refine Calmly.gf_tt (fun _ _ => ?_) | with_reducible refine Calmly.gf_ff (fun _ _ => ?_) | with_reducible refine Calmly.gf_tf (kept_of hk) (fun _ _ => ?_) | with_reducible refine Calmly.gf_ft (kept_of hk) (fun _ _ => ?_)) | ((with_reducible refine Calmly.is_tail ?_); first | refine Calmly.mix_tail_nil ?_ | refine Calmly.mix_tail rfl (fun _ _ => ?_)) | ((with_reducible refine Calmly.is_kept ?_); refine ⟨kept_of hk, ?_⟩) | (with_reducible refine Calmly.mix_alt ?_ ?_))
  refine (CopyLists_any la ln lc raw ts _ hl1 hn HSP.out).mono ?_
  rintro e w2 ⟨la', lc', raw', rfl, hL, hs⟩
  dsimp only
  replace hk := step_of hk hs
  replace hQ1 := hQ1.keep hs
  replace hQ2 := hQ2.keep hs
  replace y2 := blk_keep y2 hk
  have BW2 := BW.trans (hk.mono BW.size)
  clear hs f0 f1 hl1 hq1 y1
  have m4 := hL.v.row.max
  have c4 := hL.v.row.cap
  have z0 := cell_block y2 0
  have z1 := cell_block y2 1
  have x0' := frozen_block y2 0
  have x1' := frozen_block y2 1
  go_wp2_with (first | ((with_reducible refine Calmly.is_fl ?_); refine Calmly.mix_fl rfl ?_ (fun _ _ => ?_); (first | exact .move _ | exact .load _ _ | exact .fieldAddr _ _ _ (by kernel_rfl) | exact .assign _ | exact .binOp _ _ _ _ _ rfl | exact .indexAddr _ _ _ | exact .len _ _ (by kernel_rfl) | exact .field _ _ _ | exact .extract _ _ | exact .pick _ _ _ | exact .build _ _ | exact .slice _ _ _ _ _ | exact .unOp _ _ _ rfl | exact .index _ _ _ | exact .max _ _ _ rfl rfl | exact .min _ _ _ rfl rfl | exact .nilCheck _ _ rfl)) | ((with_reducible refine Calmly.is_gl ?_); refine Calmly.mix_gl rfl rfl rfl ?_; first | ((first | with_reducible refine Calmly.gl_tt ?_ (fun _ _ => ?_) | with_reducible refine Calmly.gl_ff ?_ (fun _ _ => ?_)); (first | exact .move _ | exact .load _ _ | exact .fieldAddr _ _ _ (by kernel_rfl) | exact .assign _ | exact .binOp _ _ _ _ _ rfl | exact .indexAddr _ _ _ | exact .len _ _ (by kernel_rfl) | exact .field _ _ _ | exact .extract _ _ | exact .pick _ _ _ | exact .build _ _ | exact .slice _ _ _ _ _ | exact .unOp _ _ _ rfl | exact .index _ _ _ | exact .max _ _ _ rfl rfl | exact .min _ _ _ rfl rfl | exact .nilCheck _ _ rfl)) | with_reducible refine Calmly.gl_tf (fun _ _ => ?_) | with_reducible refine Calmly.gl_ft (fun _ _ => ?_)) | ((with_reducible refine Calmly.is_eff ?_); refine Calmly.mix_eff rfl (fun _ _ => ?_)) | ((with_reducible refine Calmly.is_gf ?_); refine Calmly.mix_gf rfl rfl rfl ?_; first | with_reducible refine Calmly.gf_tt (fun _ _ => ?_) | with_reducible refine Calmly.gf_ff (fun _ _ => ?_) | with_reducible refine Calmly.gf_tf (kept_of hk) (fun _ _ => ?_) | with_reducible refine Calmly.gf_ft (kept_of hk) (fun _ _ => ?_)) | ((with_reducible refine Calmly.is_tail ?_); first | refine Calmly.mix_tail_nil ?_ | refine Calmly.mix_tail rfl (fun _ _ => ?_)) | ((with_reducible refine Calmly.is_kept ?_); refine ⟨kept_of hk, ?_⟩) | (with_reducible refine Calmly.mix_alt ?_ ?_))
  refine HK1.out _ _ ⟨?_⟩
  have hbut : But 25 w2 ((w2.setCell ⟨w.heap.size + 1, 0, none⟩ (.slice qa' qn qc')).setCell ⟨w.heap.size + 1, 1, none⟩ (.slice la' ln lc')) := by
    refine ⟨by simp, fun b hb hn => ?_⟩
    have hne : b ≠ w.heap.size + 1 := by
      rintro rfl
      exact hn ⟨_, y2⟩
    rw [Below.heap_setCell _ _ _ _ hne, Below.heap_setCell _ _ _ _ hne]
  have q2 := two_set2 (x := .slice qa' qn qc') (y := .slice la' ln lc') y2
  have HQ := Lib.hid (show SQuR _ qa' qn qc' qs from Sl.same hQ1 (fun b o hn ha => hbut.2 b (hQ1.blk b o hn ha) ((hQ2.blk b o ha).not (by decide))))
  have HL := Lib.hid (hL.but hbut (by decide) (by decide))
  have BF := (BW2.setCell (p := ⟨w.heap.size + 1, 0, none⟩) (by simp) (.slice qa' qn qc')).setCell (p := ⟨w.heap.size + 1, 1, none⟩) (by simp) (.slice la' ln lc')
  clear hbut hQ1 hQ2 hL y2 z0 z1 x0' x1' BW2 hk HK1
  generalize World.setCell (World.setCell _ ⟨w.heap.size + 1, 0, none⟩ (.slice qa' qn qc')) ⟨w.heap.size + 1, 1, none⟩ (.slice la' ln lc') = W9 at *
  have e0 := cell_block q2 0
  have e1 := cell_block q2 1
  go_wp2_with fail
  refine bodyPost_ret (v := .agg #[.slice qa' qn qc', .slice la' ln lc']) (by simp [results, Tryz.results7, go_sem, e0, e1]) rfl ⟨qa', qc', la', lc', raw', rfl, HQ.out, HL.out, BF⟩
end Go.Proofs.YtaiikekgckjdeaaGreat

namespace Go.Proofs.YtaiikekgckjdeaaGreat
open Go.RowKit
attribute [local go_sem] Oper.semAt_some
open Calmly (Kept)
def FewL (qn ln : Nat) (ts : List (List Int)) : Prop := qn ≤ 10 ∧ ln ≤ 10 ∧ ∀ i, i < ts.length → (ts[i]?.getD []).length ≤ 10
set_option maxRecDepth 100000 in
set_option maxHeartbeats 2000000 in
theorem fewLaw_any (qa la : Option Addr) (qn qc ln lc : Nat) (raw : List LsR) (ts : List (List Int)) (w : World) (h2 : LlV w la ln lc raw ts) :
    Calls Tryz.prog 5 #[.agg #[.slice qa qn qc, .slice la ln lc]] w fun e w' => ∃ b, e = .returned (.bool b) ∧ Hid (b = true → FewL qn ln ts) ∧ Below w.heap.size w w' := by
  have hln := h2.n_
  have HLN := Lib.hid hln
  have m2 := h2.row.max
  have c2 := h2.row.cap
  have y1 := alloc_new w (.cells #[.slice qa qn qc, .slice la ln lc] 25)
  have BW : Below w.heap.size w (w.alloc (.cells #[.slice qa qn qc, .slice la ln lc] 25)) := (Below.refl _ _).alloc (Nat.le_refl _) _
  have f0 := cell_block y1 0
  have f1 := cell_block y1 1
  clear hln
  by_cases h10 : 10 < qn
  case pos =>
    have b1 : (10 : Int) < (qn : Int) := by omega
    go_enter Tryz.func5, Tryz.ntmps5
    go_wp2_with fail
    refine bodyPost_ret (v := .bool false) (by simp [results, Tryz.results5]) rfl (by first | exact ⟨false, rfl, Lib.hid (fun h => by cases h), BW⟩ | exact .inl ⟨rfl, Lib.hid trivial, BW⟩)
  case neg =>
    have b1 : ¬ (10 : Int) < (qn : Int) := by omega
    by_cases h11 : 10 < ln
    case pos =>
      have b2 : (10 : Int) < (ln : Int) := by omega
      go_enter Tryz.func5, Tryz.ntmps5
      go_wp2_with fail
      refine bodyPost_ret (v := .bool false) (by simp [results, Tryz.results5]) rfl (by first | exact ⟨false, rfl, Lib.hid (fun h => by cases h), BW⟩ | exact .inl ⟨rfl, Lib.hid trivial, BW⟩)
    case neg =>
      have b2 : ¬ (10 : Int) < (ln : Int) := by omega
      go_enter Tryz.func5, Tryz.ntmps5
      go_wp2_with fail
      generalize w.alloc (.cells #[.slice qa qn qc, .slice la ln lc] 25) = W at *
      go_loopw [3] (fun i wr => ∃ k : Nat, k ≤ ln ∧ i = .int .i64 k ∧ Hid (∀ i, i < k → (ts[i]?.getD []).length ≤ 10) ∧ wr.heap[w.heap.size]? = some (.cells #[.slice qa qn qc, .slice la ln lc] 25) ∧ Below w.heap.size w wr) (fun i _ => ln - (intOf i).toNat)
      case atStart => exact ⟨0, by omega, rfl, Lib.hid (fun i hi => absurd hi (by omega)), y1, BW⟩
      case round =>
        clear y1 BW f0 f1
        obtain ⟨k, hk, rfl, hA, y1, BW⟩ := hrel
        have f0 := cell_block y1 0
        have f1 := cell_block y1 1
        by_cases hlt : k < ln
        case pos =>
          have hF := h2.keep BW
          obtain ⟨b1', o1, rfl, hc1⟩ := hF.row.at_ (by omega)
          have p0 := hc1 k hlt
          have e2 := hF.at_ k (by have := HLN.out; omega)
          have hl7 := e2.len
          have m3 := e2.max
          have c3 := e2.cap
          have hi : (k : Int) < (ln : Int) := by omega
          have hi0 : (0 : Int) ≤ (k : Int) := by omega
          obtain ⟨⟨a', n', c'⟩, hyy⟩ : ∃ x, raw[k]?.getD lsr0 = x := ⟨_, rfl⟩
          rw [hyy] at p0 hl7 m3 c3
          dsimp only [hv] at p0 hl7 m3 c3
          rw [Nat.mul_one] at p0
          have HL7 := Lib.hid hl7
          clear hc1 hyy e2 hl7 hF
          by_cases hs : 10 < n'
          case pos =>
            have b3 : (10 : Int) < (n' : Int) := by omega
            go_wp2_with fail
            refine bodyPost_ret (v := .bool false) (by simp [results, Tryz.results5]) rfl (by first | exact ⟨false, rfl, Lib.hid (fun h => by cases h), BW⟩ | exact .inl ⟨rfl, Lib.hid trivial, BW⟩)
          case neg =>
            have b3 : ¬ (10 : Int) < (n' : Int) := by omega
            have HA2 := Lib.hid (show ∀ i, i < k + 1 → (ts[i]?.getD []).length ≤ 10 from fun i hi => by
              by_cases hik : i < k
              · exact hA.out i hik
              · obtain rfl : i = k := by omega
                have := HL7.out
                omega)
            go_wp2_with fail
            go_roundw
            case rel => exact ⟨k + 1, by omega, by go_num, HA2, y1, BW⟩
            case measure => simp [intOf]; omega
        case neg =>
          have hle : ¬ (k : Int) < (ln : Int) := by omega
          have HR := Lib.hid (show True → FewL qn ln ts from fun _ => ⟨by omega, by omega, fun i hi => hA.out i (by have := HLN.out; omega)⟩)
          go_wp2_with fail
          refine bodyPost_ret (v := .bool true) (by simp [results, Tryz.results5]) rfl (by first | exact ⟨true, rfl, Lib.hid (fun _ => HR.out trivial), BW⟩ | exact .inr ⟨rfl, Lib.hid (HR.out trivial), BW⟩)
end Go.Proofs.YtaiikekgckjdeaaGreat
