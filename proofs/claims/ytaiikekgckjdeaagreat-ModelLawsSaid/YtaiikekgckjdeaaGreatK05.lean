/- Contracts of CheckSpring, holdErr and CheckHold. A range over a function whose loop variable is one that lay before (its cell is written by the assignment), and whose body is never left early. A range over a function whose body is never left early, and may rely on something of each value it is handed. A region that draws its order, walked by a plan within a round of a range over a function. -/
import Derived.Test.YtaiikekgckjdeaaGreatK04
import Derived.RangeFuncFrom
import Derived.RangeFuncBound
import Derived.RangeFuncCalls
import Derived.RangeFuncLeaves
import Derived.RangeFuncWrites
import Derived.Shelf.Abstract
import Derived.Shelf.RegionOpen
import Derived.OwnWalkIn
import Derived.TacticsInMore
import Derived.LoopNIn
import Derived.LoopIn
namespace Go.Proofs.YtaiikekgckjdeaaGreat
open Go.RowKit
open Calmly (Kept)

/-- The error of an element; the index and the error of a spring. -/
def elErr (x : El) : Int := unlessE (wIn x.1 1 1000 && wIn x.2.1 1 1000) 2
def sprH (n : Nat) : Int := firstE [unlessE (decide (0 < n)) 10, unlessE (decide ((n : Int) ≤ 4)) 8]
def sprE (l : List El) : Int × Int := if sprH l.length = 0 then eaF (fun i => elErr (l[i]?.getD el0)) 0 l.length else (0, sprH l.length)

set_option maxRecDepth 100000 in
set_option maxHeartbeats 400000 in
theorem elErr_any (i k y : Int) (b : Bool) (w : World) :
    Calls Tryz.prog 102 #[.int .i64 i, .agg #[.int .i64 k, .int .i64 y, .bool b]] w fun e w' => e = .returned (.int .i64 (elErr (k, y, b))) ∧ Below w.heap.size w w' := by
  have BW : Below w.heap.size w (w.alloc (.cells #[.int .i64 k, .int .i64 y, .bool b] 110)) := (Below.refl _ _).alloc (Nat.le_refl _) _
  have e0 : elErr (k, y, b) = unlessE (wIn k 1 1000 && wIn y 1 1000) 2 := rfl
  have HE := Lib.hid e0
  clear e0
  go_enter Tryz.func102, Tryz.ntmps102
  go_wp2_with fail
  refine (dWithin_any k 1 1000 _).mono ?_
  rintro e w1 ⟨rfl, rfl⟩
  cases hk : wIn k 1 1000
  · go_wp2_with fail
    refine (dUnless_any _ 2 _).mono ?_
    rintro e w1 ⟨rfl, rfl⟩
    go_wp2_with fail
    go_ret
    exact ⟨ret_int (by rw [HE.out, hk]; rfl), BW⟩
  · go_wp2_with fail
    refine (dWithin_any y 1 1000 _).mono ?_
    rintro e w1 ⟨rfl, rfl⟩
    go_wp2_with fail
    refine (dUnless_any _ 2 _).mono ?_
    rintro e w1 ⟨rfl, rfl⟩
    go_wp2_with fail
    go_ret
    exact ⟨ret_int (by rw [HE.out, hk]; rfl), BW⟩

set_option maxRecDepth 100000 in
set_option maxHeartbeats 400000 in
theorem CheckSpring_any (a : Option Addr) (n c : Nat) (l : List El) (w : World) (h1 : SEl w a n c l) :
    Calls Tryz.prog 90 #[.slice a n c] w fun e w' => e = .returned (.tuple #[.int .i64 (sprE l).1, .int .i64 (sprE l).2]) ∧ Below w.heap.size w w' := by
  obtain ⟨l1, l2⟩ : n ≤ l.length ∧ l.length ≤ n := by have := h1.len; omega
  have m1 := h1.max
  have c1 := h1.cap
  have hS : sprE l = if sprH n = 0 then eaF (fun i => elErr (l[i]?.getD el0)) 0 n else (0, sprH n) := by rw [sprE, show l.length = n by omega]
  have hH : sprH n = firstE [unlessE (decide (0 < n)) 10, unlessE (decide ((n : Int) ≤ 4)) 8] := rfl
  have HS := Lib.hid hS
  have HH := Lib.hid hH
  clear hS hH
  go_enter Tryz.func90, Tryz.ntmps90
  go_wp2_with fail
  refine (dUnless_any _ 10 _).mono ?_
  rintro e w1 ⟨rfl, rfl⟩
  go_wp2_with fail
  refine (dUnless_any _ 8 _).mono ?_
  rintro e w1 ⟨rfl, rfl⟩
  go_wp2_with fail
  refine (dFirst_any _ 2 2 _ _ (SI.two _ _ _ _ rfl)).mono ?_
  rintro e w1 ⟨rfl, rfl⟩
  rw [← HH.out]
  obtain ⟨H, hH⟩ : ∃ H, sprH n = H := ⟨_, rfl⟩
  rw [hH]
  have HK := Lib.hid hH
  clear hH
  have BW : Below w.heap.size w (w.alloc (.cells #[.int .i64 (unlessE (decide (0 < n)) 10), .int .i64 (unlessE (decide ((n : Int) ≤ 4)) 8)] 33)) := (Below.refl _ _).alloc (Nat.le_refl _) _
  generalize w.alloc _ = W at BW ⊢
  by_cases hz : H = 0
  · have b1 : (H != 0) = false := by rw [hz]; rfl
    have HZ := Lib.hid hz
    clear hz
    go_wp2_with fail
    refine (eachSpring_any a n c l W W (fun i => elErr (l[i]?.getD el0)) (fun _ _ => True) (h1.keep BW) (Below.refl _ _) trivial (fun _ _ _ _ _ => trivial) ?_).mono ?_
    · intro i V hi _ hV
      refine (elErr_any i _ _ _ V).mono ?_
      rintro e w1 ⟨rfl, hs⟩
      exact ⟨rfl, trivial, hs.mono hV.size⟩
    rintro e w1 ⟨rfl, hs⟩
    go_wp2_with fail
    refine bodyPost_ret (v := .tuple #[.int .i64 (eaF (fun i => elErr (l[i]?.getD el0)) 0 n).1, .int .i64 (eaF (fun i => elErr (l[i]?.getD el0)) 0 n).2]) (by simp [results, Tryz.results90]) rfl ⟨by rw [HS.out, if_pos (by rw [HK.out, HZ.out])], BW.trans (hs.mono BW.size)⟩
  · have b1 : (H != 0) = true := by simpa using hz
    have HZ := Lib.hid hz
    clear hz
    go_wp2_with fail
    refine bodyPost_ret (v := .tuple #[.int .i64 0, .int .i64 H]) (by simp [results, Tryz.results90]) rfl ⟨by rw [HS.out, if_neg (by rw [HK.out]; exact HZ.out), HK.out], BW⟩

/-- The error of a slip; the index and the error of a hold of a valid spring. -/
def slE (x : El) (at' : Int) (s : Sp) : Int :=
  if plc s.1 then firstE [unlessE (!((s.2 && !x.2.2) || (x.2.2 && (s.1 != 0)))) 3, unlessE (s.2 || szd (at' - s.1) x.2.1) 22] else 2
def hldH (at' : Int) (m n : Nat) : Int := firstE [unlessE (plc at') 2, unlessE ((m : Int) == (n : Int)) 10]
def hldE (l : List El) (at' : Int) (s : List Sp) : Int × Int := if hldH at' s.length l.length = 0 then eaF (fun i => slE (l[i]?.getD el0) at' (s[i]?.getD sp0)) 0 s.length else (0, hldH at' s.length l.length)
theorem elErr_ok {x : El} (h : elErr x = 0) : (1 ≤ x.1 ∧ x.1 ≤ 1000) ∧ (1 ≤ x.2.1 ∧ x.2.1 ≤ 1000) := by
  unfold elErr unlessE at h
  split at h
  · rename_i hb
    rw [Bool.and_eq_true] at hb
    exact ⟨wIn_iff.1 hb.1, wIn_iff.1 hb.2⟩
  · omega
theorem plc_ok {n : Int} (h : plc n = true) : -10000 ≤ n ∧ n ≤ 10000 := wIn_iff.1 h

set_option maxRecDepth 100000 in
set_option maxHeartbeats 2000000 in
theorem slErr_any (i : Nat) (s : Int) (br : Bool) (p1 p2 : Nat) (a a2 : Option Addr) (n c n2 c2 : Nat) (l : List El) (at' : Int) (w : World) (h1 : SEl w a n c l) (hi : i < n) (hb1 : w.heap[p1]? = some (.cells #[.slice a n c] 60)) (hb2 : w.heap[p2]? = some (.cells #[.int .i64 at', .slice a2 n2 c2] 57))
    (hat : plc at' = true) (hl : elErr (l[i]?.getD el0) = 0) :
    Calls Tryz.prog 104 #[.int .i64 (i : Int), .agg #[.int .i64 s, .bool br], .pointer (some ⟨p1, 0, none⟩), .pointer (some ⟨p2, 0, none⟩)] w fun e w' => e = .returned (.int .i64 (slE (l[i]?.getD el0) at' (s, br))) ∧ Below w.heap.size w w' := by
  have hba := plc_ok hat
  have hlb := elErr_ok hl
  obtain ⟨cb, co, rfl, hcc⟩ := h1.at_ (by omega)
  obtain ⟨y0, y1, y2⟩ := hcc i hi
  obtain ⟨rr, hrr⟩ : ∃ rr, l[i]?.getD el0 = rr := ⟨_, rfl⟩
  obtain ⟨k, y, b⟩ := rr
  rw [hrr] at y0 y1 y2 hlb ⊢
  have m1 := h1.max
  have cc1 := h1.cap
  have hi1 : (i : Int) < (n : Int) := by omega
  have hi0 : (0 : Int) ≤ (i : Int) := by omega
  clear hrr hcc hl h1
  dsimp only at y0 y1 y2 hlb
  obtain ⟨R, hR⟩ : ∃ R, slE (k, y, b) at' (s, br) = R := ⟨_, rfl⟩
  rw [hR]
  have HR := Lib.hid hR
  clear hR
  have BW : Below w.heap.size w (w.alloc (.cells #[.int .i64 s, .bool br] 75)) := (Below.refl _ _).alloc (Nat.le_refl _) _
  have x0 := alloc_new w (.cells #[.int .i64 s, .bool br] 75)
  go_enter Tryz.func104, Tryz.ntmps104
  go_wp2_with fail
  refine (dPlace_any s _).mono ?_
  rintro e w1 ⟨rfl, rfl⟩
  cases hps : plc s
  · go_wp2_with fail
    go_ret
    exact ⟨ret_int (by rw [← HR.out, slE, hps]; rfl), BW⟩
  · have hsb := plc_ok hps
    go_wp2_with fail
    replace y0 := cell_keep y0 BW
    replace y1 := cell_keep y1 BW
    replace y2 := cell_keep y2 BW
    replace hb1 := blk_keep hb1 BW
    replace hb2 := blk_keep hb2 BW
    have hp1 := blk_lt hb1
    have hbs : w.heap.size < (w.alloc (.cells #[.int .i64 s, .bool br] 75)).heap.size := by simp
    generalize w.alloc (.cells #[.int .i64 s, .bool br] 75) = W at *
    refine Calmly.wp_region_mix 9 (.fl 0 <| .fl 1 <| .fl 2 <| .fl 3 <| .fl 4 <| .fl 5 <| .fl 6 <| .fl 7 <| .eff 8 <| .tail [9]) (by kernel_rfl) (by kernel_rfl) ?_
    replace y0 := cell_keep y0 (Below.refl _ _).drew
    replace y1 := cell_keep y1 (Below.refl _ _).drew
    replace y2 := cell_keep y2 (Below.refl _ _).drew
    replace hb1 := blk_keep hb1 (Below.refl _ _).drew
    replace hb2 := blk_keep hb2 (Below.refl _ _).drew
    replace x0 := blk_keep x0 (Below.refl _ _).drew
    replace BW := BW.drew
    replace hbs : w.heap.size < W.drew.heap.size := by simpa using hbs
    generalize W.drew = V at *
    have f1 := cell_block hb1 0
    have f2 := cell_block hb2 0
    have f3 := cell_block hb2 1
    have f4 := cell_block x0 0
    have f5 := cell_block x0 1
    have hk := Below.refl V.heap.size V
    have z0 := alloc_new V (.cells #[.int .i64 k, .int .i64 y, .bool b, .int .i64 s, .bool br, .int .i64 at'] 138)
    have BV : Below V.heap.size V (V.alloc (.cells #[.int .i64 k, .int .i64 y, .bool b, .int .i64 s, .bool br, .int .i64 at'] 138)) := (Below.refl _ _).alloc (Nat.le_refl _) _
    have x1 := blk_keep x0 BV
    have g4 := cell_block x1 0
    have g5 := cell_block x1 1
    go_wp2_with (first | ((with_reducible refine Calmly.is_fl ?_); refine Calmly.mix_fl rfl ?_ (fun _ _ => ?_); (first | exact .move _ | exact .load _ _ | exact .fieldAddr _ _ _ (by kernel_rfl) | exact .assign _ | exact .binOp _ _ _ _ _ rfl | exact .indexAddr _ _ _ | exact .len _ _ (by kernel_rfl) | exact .field _ _ _ | exact .extract _ _ | exact .pick _ _ _ | exact .build _ _ | exact .slice _ _ _ _ _ | exact .unOp _ _ _ rfl | exact .index _ _ _ | exact .max _ _ _ rfl rfl | exact .min _ _ _ rfl rfl | exact .nilCheck _ _ rfl)) | ((with_reducible refine Calmly.is_gl ?_); refine Calmly.mix_gl rfl rfl rfl ?_; first | ((first | with_reducible refine Calmly.gl_tt ?_ (fun _ _ => ?_) | with_reducible refine Calmly.gl_ff ?_ (fun _ _ => ?_)); (first | exact .move _ | exact .load _ _ | exact .fieldAddr _ _ _ (by kernel_rfl) | exact .assign _ | exact .binOp _ _ _ _ _ rfl | exact .indexAddr _ _ _ | exact .len _ _ (by kernel_rfl) | exact .field _ _ _ | exact .extract _ _ | exact .pick _ _ _ | exact .build _ _ | exact .slice _ _ _ _ _ | exact .unOp _ _ _ rfl | exact .index _ _ _ | exact .max _ _ _ rfl rfl | exact .min _ _ _ rfl rfl | exact .nilCheck _ _ rfl)) | with_reducible refine Calmly.gl_tf (fun _ _ => ?_) | with_reducible refine Calmly.gl_ft (fun _ _ => ?_)) | ((with_reducible refine Calmly.is_eff ?_); refine Calmly.mix_eff rfl (fun _ _ => ?_)) | ((with_reducible refine Calmly.is_gf ?_); refine Calmly.mix_gf rfl rfl rfl ?_; first | with_reducible refine Calmly.gf_tt (fun _ _ => ?_) | with_reducible refine Calmly.gf_ff (fun _ _ => ?_) | with_reducible refine Calmly.gf_tf (kept_of hk) (fun _ _ => ?_) | with_reducible refine Calmly.gf_ft (kept_of hk) (fun _ _ => ?_)) | ((with_reducible refine Calmly.is_kept ?_); refine ⟨kept_of hk, ?_⟩) | (with_reducible refine Calmly.mix_alt ?_ ?_) | (refine kept_alloc hk (fun hk' hblk hge => ?_); replace hk := hk'; clear hk') | (refine kept_alloc hk (fun hk' => ?_); clear hk; have hk := hk'; clear hk'))
    have e0 : slE (k, y, b) at' (s, br) = firstE [unlessE (!((br && !b) || (b && (s != 0)))) 3, unlessE (br || szd (at' - s) y) 22] := by rw [slE, hps]; rfl
    have HE0 := Lib.hid (e0.symm.trans HR.out)
    have hEB := Lib.hid (show ElB k y s at' from ⟨by omega, by omega, by omega, by omega⟩)
    clear e0 HR hps hat y0 y1 y2 hb1 hb2 f1 f2 f3 f4 f5 x0 hk
    cases br <;> cases b
    all_goals
      go_wp2_with (first | ((with_reducible refine Calmly.is_fl ?_); refine Calmly.mix_fl rfl ?_ (fun _ _ => ?_); (first | exact .move _ | exact .load _ _ | exact .fieldAddr _ _ _ (by kernel_rfl) | exact .assign _ | exact .binOp _ _ _ _ _ rfl | exact .indexAddr _ _ _ | exact .len _ _ (by kernel_rfl) | exact .field _ _ _ | exact .extract _ _ | exact .pick _ _ _ | exact .build _ _ | exact .slice _ _ _ _ _ | exact .unOp _ _ _ rfl | exact .index _ _ _ | exact .max _ _ _ rfl rfl | exact .min _ _ _ rfl rfl | exact .nilCheck _ _ rfl)) | ((with_reducible refine Calmly.is_gl ?_); refine Calmly.mix_gl rfl rfl rfl ?_; first | ((first | with_reducible refine Calmly.gl_tt ?_ (fun _ _ => ?_) | with_reducible refine Calmly.gl_ff ?_ (fun _ _ => ?_)); (first | exact .move _ | exact .load _ _ | exact .fieldAddr _ _ _ (by kernel_rfl) | exact .assign _ | exact .binOp _ _ _ _ _ rfl | exact .indexAddr _ _ _ | exact .len _ _ (by kernel_rfl) | exact .field _ _ _ | exact .extract _ _ | exact .pick _ _ _ | exact .build _ _ | exact .slice _ _ _ _ _ | exact .unOp _ _ _ rfl | exact .index _ _ _ | exact .max _ _ _ rfl rfl | exact .min _ _ _ rfl rfl | exact .nilCheck _ _ rfl)) | with_reducible refine Calmly.gl_tf (fun _ _ => ?_) | with_reducible refine Calmly.gl_ft (fun _ _ => ?_)) | ((with_reducible refine Calmly.is_eff ?_); refine Calmly.mix_eff rfl (fun _ _ => ?_)) | ((with_reducible refine Calmly.is_gf ?_); refine Calmly.mix_gf rfl rfl rfl ?_; first | with_reducible refine Calmly.gf_tt (fun _ _ => ?_) | with_reducible refine Calmly.gf_ff (fun _ _ => ?_) | with_reducible refine Calmly.gf_tf (kept_of hk) (fun _ _ => ?_) | with_reducible refine Calmly.gf_ft (kept_of hk) (fun _ _ => ?_)) | ((with_reducible refine Calmly.is_tail ?_); first | refine Calmly.mix_tail_nil ?_ | refine Calmly.mix_tail rfl (fun _ _ => ?_)) | ((with_reducible refine Calmly.is_kept ?_); refine ⟨kept_of hk, ?_⟩) | (with_reducible refine Calmly.mix_alt ?_ ?_))
    all_goals
      refine Calmly.wp_region_mix 16 (.fl 0 <| .fl 1 <| .fl 3 <| .fl 4 <| .eff 2 <| .fl 5 <| .gl 6 <| .gl 8 <| .gl 9 <| .gl 10 <| .gf 7 <| .gf 11 <| .fl 12 <| .eff 13 <| .eff 14 <| .eff 15 <| .tail [16]) (by kernel_rfl) (by kernel_rfl) ?_
      have BX := (BW.trans (BV.mono BW.size)).drew
      replace z0 := blk_keep z0 (Below.refl _ _).drew
      replace x1 := blk_keep x1 (Below.refl _ _).drew
      clear BW BV g4 g5
      generalize World.drew _ = X at *
      have g4 := cell_block x1 0
      have g5 := cell_block x1 1
      have c0 := cell_block z0 0
      have c1 := cell_block z0 1
      have c2 := cell_block z0 2
      have c3 := cell_block z0 3
      have c4 := cell_block z0 4
      have c5 := cell_block z0 5
      have hk := Below.refl X.heap.size X
      go_wp2_with (first | ((with_reducible refine Calmly.is_fl ?_); refine Calmly.mix_fl rfl ?_ (fun _ _ => ?_); (first | exact .move _ | exact .load _ _ | exact .fieldAddr _ _ _ (by kernel_rfl) | exact .assign _ | exact .binOp _ _ _ _ _ rfl | exact .indexAddr _ _ _ | exact .len _ _ (by kernel_rfl) | exact .field _ _ _ | exact .extract _ _ | exact .pick _ _ _ | exact .build _ _ | exact .slice _ _ _ _ _ | exact .unOp _ _ _ rfl | exact .index _ _ _ | exact .max _ _ _ rfl rfl | exact .min _ _ _ rfl rfl | exact .nilCheck _ _ rfl)) | ((with_reducible refine Calmly.is_gl ?_); refine Calmly.mix_gl rfl rfl rfl ?_; first | ((first | with_reducible refine Calmly.gl_tt ?_ (fun _ _ => ?_) | with_reducible refine Calmly.gl_ff ?_ (fun _ _ => ?_)); (first | exact .move _ | exact .load _ _ | exact .fieldAddr _ _ _ (by kernel_rfl) | exact .assign _ | exact .binOp _ _ _ _ _ rfl | exact .indexAddr _ _ _ | exact .len _ _ (by kernel_rfl) | exact .field _ _ _ | exact .extract _ _ | exact .pick _ _ _ | exact .build _ _ | exact .slice _ _ _ _ _ | exact .unOp _ _ _ rfl | exact .index _ _ _ | exact .max _ _ _ rfl rfl | exact .min _ _ _ rfl rfl | exact .nilCheck _ _ rfl)) | with_reducible refine Calmly.gl_tf (fun _ _ => ?_) | with_reducible refine Calmly.gl_ft (fun _ _ => ?_)) | ((with_reducible refine Calmly.is_eff ?_); refine Calmly.mix_eff rfl (fun _ _ => ?_)) | ((with_reducible refine Calmly.is_gf ?_); refine Calmly.mix_gf rfl rfl rfl ?_; first | with_reducible refine Calmly.gf_tt (fun _ _ => ?_) | with_reducible refine Calmly.gf_ff (fun _ _ => ?_) | with_reducible refine Calmly.gf_tf (kept_of hk) (fun _ _ => ?_) | with_reducible refine Calmly.gf_ft (kept_of hk) (fun _ _ => ?_)) | ((with_reducible refine Calmly.is_kept ?_); refine ⟨kept_of hk, ?_⟩) | (with_reducible refine Calmly.mix_alt ?_ ?_) | (refine kept_alloc hk (fun hk' hblk hge => ?_); replace hk := hk'; clear hk') | (go_at_call 32; refine (dUnless_any _ _ _).mono ?_; rintro e w1 ⟨rfl, rfl⟩) | (go_at_call 93; refine (stretch_any k y _ s _ at' _ hEB.out).mono ?_; rintro e w1 ⟨rfl, hs⟩; replace hk := step_of hk hs; clear hs) | (go_at_call 37; refine (dSized_any _ y _ (by omega) (by omega)).mono ?_; rintro e w1 ⟨rfl, rfl⟩))
      refine (dFirst_any _ 2 2 _ _ (SI.two _ _ _ _ (by simp))).mono ?_
      rintro e w1 ⟨rfl, rfl⟩
      go_wp2_with (first | ((with_reducible refine Calmly.is_fl ?_); refine Calmly.mix_fl rfl ?_ (fun _ _ => ?_); (first | exact .move _ | exact .load _ _ | exact .fieldAddr _ _ _ (by kernel_rfl) | exact .assign _ | exact .binOp _ _ _ _ _ rfl | exact .indexAddr _ _ _ | exact .len _ _ (by kernel_rfl) | exact .field _ _ _ | exact .extract _ _ | exact .pick _ _ _ | exact .build _ _ | exact .slice _ _ _ _ _ | exact .unOp _ _ _ rfl | exact .index _ _ _ | exact .max _ _ _ rfl rfl | exact .min _ _ _ rfl rfl | exact .nilCheck _ _ rfl)) | ((with_reducible refine Calmly.is_gl ?_); refine Calmly.mix_gl rfl rfl rfl ?_; first | ((first | with_reducible refine Calmly.gl_tt ?_ (fun _ _ => ?_) | with_reducible refine Calmly.gl_ff ?_ (fun _ _ => ?_)); (first | exact .move _ | exact .load _ _ | exact .fieldAddr _ _ _ (by kernel_rfl) | exact .assign _ | exact .binOp _ _ _ _ _ rfl | exact .indexAddr _ _ _ | exact .len _ _ (by kernel_rfl) | exact .field _ _ _ | exact .extract _ _ | exact .pick _ _ _ | exact .build _ _ | exact .slice _ _ _ _ _ | exact .unOp _ _ _ rfl | exact .index _ _ _ | exact .max _ _ _ rfl rfl | exact .min _ _ _ rfl rfl | exact .nilCheck _ _ rfl)) | with_reducible refine Calmly.gl_tf (fun _ _ => ?_) | with_reducible refine Calmly.gl_ft (fun _ _ => ?_)) | ((with_reducible refine Calmly.is_eff ?_); refine Calmly.mix_eff rfl (fun _ _ => ?_)) | ((with_reducible refine Calmly.is_gf ?_); refine Calmly.mix_gf rfl rfl rfl ?_; first | with_reducible refine Calmly.gf_tt (fun _ _ => ?_) | with_reducible refine Calmly.gf_ff (fun _ _ => ?_) | with_reducible refine Calmly.gf_tf (kept_of hk) (fun _ _ => ?_) | with_reducible refine Calmly.gf_ft (kept_of hk) (fun _ _ => ?_)) | ((with_reducible refine Calmly.is_tail ?_); first | refine Calmly.mix_tail_nil ?_ | refine Calmly.mix_tail rfl (fun _ _ => ?_)) | ((with_reducible refine Calmly.is_kept ?_); refine ⟨kept_of hk, ?_⟩) | (with_reducible refine Calmly.mix_alt ?_ ?_))
      go_ret
      exact ⟨ret_int (by rw [← HE0.out]; simp), BX.trans (hk.mono BX.size)⟩

theorem hldH_ok {at' : Int} {m n : Nat} (h : hldH at' m n = 0) : plc at' = true := by
  cases hp : plc at'
  · rw [hldH, hp] at h
    simp [firstE, unlessE] at h
  · rfl
theorem hldH_len {at' : Int} {m n : Nat} (h : hldH at' m n = 0) : m = n := by
  cases hm : (m : Int) == (n : Int)
  · rw [hldH, hm] at h
    cases hp : plc at' <;> rw [hp] at h <;> simp [firstE, unlessE] at h
  · have : (m : Int) = (n : Int) := by simpa using hm
    omega
set_option maxRecDepth 100000 in
set_option maxHeartbeats 2000000 in
theorem holdErr_any (a a2 : Option Addr) (n c n2 c2 : Nat) (l : List El) (at' : Int) (sl : List Sp) (w : World) (h1 : SEl w a n c l) (h2 : SSp w a2 n2 c2 sl) (hl : ∀ j, j < n → elErr (l[j]?.getD el0) = 0) :
    Calls Tryz.prog 91 #[.slice a n c, .agg #[.int .i64 at', .slice a2 n2 c2]] w fun e w' => e = .returned (.tuple #[.int .i64 (hldE l at' sl).1, .int .i64 (hldE l at' sl).2]) ∧ Below w.heap.size w w' := by
  have l1 : n = l.length := h1.len
  have l2 : n2 = sl.length := h2.len
  have m1 := h1.max
  have cc1 := h1.cap
  have m2 := h2.max
  have cc2 := h2.cap
  have hS : hldE l at' sl = if hldH at' n2 n = 0 then eaF (fun i => slE (l[i]?.getD el0) at' (sl[i]?.getD sp0)) 0 n2 else (0, hldH at' n2 n) := by rw [hldE, l1, l2]
  have hH : hldH at' n2 n = firstE [unlessE (plc at') 2, unlessE ((n2 : Int) == (n : Int)) 10] := rfl
  have HS := Lib.hid hS
  have HH := Lib.hid hH
  have HL := Lib.hid hl
  clear hS hH l1 l2 hl
  have y1 := alloc_new (w.alloc (.cells #[.slice a n c] 60)) (.cells #[.int .i64 at', .slice a2 n2 c2] 57)
  have y0 := blk_keep (alloc_new w (.cells #[.slice a n c] 60)) ((Below.refl _ _).alloc (Nat.le_refl _) (.cells #[.int .i64 at', .slice a2 n2 c2] 57))
  have BW : Below w.heap.size w ((w.alloc (.cells #[.slice a n c] 60)).alloc (.cells #[.int .i64 at', .slice a2 n2 c2] 57)) := ((Below.refl _ _).alloc (Nat.le_refl _) _).alloc (by simp) _
  simp only [World.size_alloc] at y1
  go_enter Tryz.func91, Tryz.ntmps91
  go_wp2_with fail
  generalize (w.alloc (.cells #[.slice a n c] 60)).alloc (.cells #[.int .i64 at', .slice a2 n2 c2] 57) = W at *
  refine Calmly.wp_region_mix 13 (.fl 0 <| .fl 1 <| .fl 4 <| .fl 5 <| .fl 6 <| .fl 7 <| .fl 8 <| .fl 9 <| .eff 2 <| .eff 3 <| .eff 10 <| .eff 11 <| .eff 12 <| .tail [13]) (by kernel_rfl) (by kernel_rfl) ?_
  replace y0 := blk_keep y0 (Below.refl _ _).drew
  replace y1 := blk_keep y1 (Below.refl _ _).drew
  replace BW := BW.drew
  generalize W.drew = V at *
  have c0 := cell_block y0 0
  have c1 := cell_block y1 0
  have c2' := cell_block y1 1
  have hk := Below.refl V.heap.size V
  go_wp2_with (first | ((with_reducible refine Calmly.is_fl ?_); refine Calmly.mix_fl rfl ?_ (fun _ _ => ?_); (first | exact .move _ | exact .load _ _ | exact .fieldAddr _ _ _ (by kernel_rfl) | exact .assign _ | exact .binOp _ _ _ _ _ rfl | exact .indexAddr _ _ _ | exact .len _ _ (by kernel_rfl) | exact .field _ _ _ | exact .extract _ _ | exact .pick _ _ _ | exact .build _ _ | exact .slice _ _ _ _ _ | exact .unOp _ _ _ rfl | exact .index _ _ _ | exact .max _ _ _ rfl rfl | exact .min _ _ _ rfl rfl | exact .nilCheck _ _ rfl)) | ((with_reducible refine Calmly.is_gl ?_); refine Calmly.mix_gl rfl rfl rfl ?_; first | ((first | with_reducible refine Calmly.gl_tt ?_ (fun _ _ => ?_) | with_reducible refine Calmly.gl_ff ?_ (fun _ _ => ?_)); (first | exact .move _ | exact .load _ _ | exact .fieldAddr _ _ _ (by kernel_rfl) | exact .assign _ | exact .binOp _ _ _ _ _ rfl | exact .indexAddr _ _ _ | exact .len _ _ (by kernel_rfl) | exact .field _ _ _ | exact .extract _ _ | exact .pick _ _ _ | exact .build _ _ | exact .slice _ _ _ _ _ | exact .unOp _ _ _ rfl | exact .index _ _ _ | exact .max _ _ _ rfl rfl | exact .min _ _ _ rfl rfl | exact .nilCheck _ _ rfl)) | with_reducible refine Calmly.gl_tf (fun _ _ => ?_) | with_reducible refine Calmly.gl_ft (fun _ _ => ?_)) | ((with_reducible refine Calmly.is_eff ?_); refine Calmly.mix_eff rfl (fun _ _ => ?_)) | ((with_reducible refine Calmly.is_gf ?_); refine Calmly.mix_gf rfl rfl rfl ?_; first | with_reducible refine Calmly.gf_tt (fun _ _ => ?_) | with_reducible refine Calmly.gf_ff (fun _ _ => ?_) | with_reducible refine Calmly.gf_tf (kept_of hk) (fun _ _ => ?_) | with_reducible refine Calmly.gf_ft (kept_of hk) (fun _ _ => ?_)) | ((with_reducible refine Calmly.is_kept ?_); refine ⟨kept_of hk, ?_⟩) | (with_reducible refine Calmly.mix_alt ?_ ?_) | (refine kept_alloc hk (fun hk' hblk hge => ?_); replace hk := hk'; clear hk') | (go_at_call 32; refine (dUnless_any _ _ _).mono ?_; rintro e w1 ⟨rfl, rfl⟩) | (go_at_call 75; refine (dPlace_any _ _).mono ?_; rintro e w1 ⟨rfl, rfl⟩))
  refine (dFirst_any _ 2 2 _ _ (SI.two _ _ _ _ (by simp))).mono ?_
  rintro e w1 ⟨rfl, rfl⟩
  rw [← HH.out]
  obtain ⟨H, hH⟩ : ∃ H, hldH at' n2 n = H := ⟨_, rfl⟩
  rw [hH]
  have HK := Lib.hid hH
  clear hH
  replace y0 := blk_keep y0 hk
  replace y1 := blk_keep y1 hk
  replace c0 := cell_keep c0 hk
  replace c1 := cell_keep c1 hk
  replace c2' := cell_keep c2' hk
  generalize V.alloc _ = X at *
  by_cases hz : H = 0
  · have b1 : (H != 0) = false := by rw [hz]; rfl
    have hp : plc at' = true := hldH_ok (by rw [HK.out, hz])
    have HZ := Lib.hid hz
    have HP := Lib.hid hp
    clear hz hp
    go_wp2_with (first | ((with_reducible refine Calmly.is_fl ?_); refine Calmly.mix_fl rfl ?_ (fun _ _ => ?_); (first | exact .move _ | exact .load _ _ | exact .fieldAddr _ _ _ (by kernel_rfl) | exact .assign _ | exact .binOp _ _ _ _ _ rfl | exact .indexAddr _ _ _ | exact .len _ _ (by kernel_rfl) | exact .field _ _ _ | exact .extract _ _ | exact .pick _ _ _ | exact .build _ _ | exact .slice _ _ _ _ _ | exact .unOp _ _ _ rfl | exact .index _ _ _ | exact .max _ _ _ rfl rfl | exact .min _ _ _ rfl rfl | exact .nilCheck _ _ rfl)) | ((with_reducible refine Calmly.is_gl ?_); refine Calmly.mix_gl rfl rfl rfl ?_; first | ((first | with_reducible refine Calmly.gl_tt ?_ (fun _ _ => ?_) | with_reducible refine Calmly.gl_ff ?_ (fun _ _ => ?_)); (first | exact .move _ | exact .load _ _ | exact .fieldAddr _ _ _ (by kernel_rfl) | exact .assign _ | exact .binOp _ _ _ _ _ rfl | exact .indexAddr _ _ _ | exact .len _ _ (by kernel_rfl) | exact .field _ _ _ | exact .extract _ _ | exact .pick _ _ _ | exact .build _ _ | exact .slice _ _ _ _ _ | exact .unOp _ _ _ rfl | exact .index _ _ _ | exact .max _ _ _ rfl rfl | exact .min _ _ _ rfl rfl | exact .nilCheck _ _ rfl)) | with_reducible refine Calmly.gl_tf (fun _ _ => ?_) | with_reducible refine Calmly.gl_ft (fun _ _ => ?_)) | ((with_reducible refine Calmly.is_eff ?_); refine Calmly.mix_eff rfl (fun _ _ => ?_)) | ((with_reducible refine Calmly.is_gf ?_); refine Calmly.mix_gf rfl rfl rfl ?_; first | with_reducible refine Calmly.gf_tt (fun _ _ => ?_) | with_reducible refine Calmly.gf_ff (fun _ _ => ?_) | with_reducible refine Calmly.gf_tf (kept_of hk) (fun _ _ => ?_) | with_reducible refine Calmly.gf_ft (kept_of hk) (fun _ _ => ?_)) | ((with_reducible refine Calmly.is_tail ?_); first | refine Calmly.mix_tail_nil ?_ | refine Calmly.mix_tail rfl (fun _ _ => ?_)) | ((with_reducible refine Calmly.is_kept ?_); refine ⟨kept_of hk, ?_⟩) | (with_reducible refine Calmly.mix_alt ?_ ?_))
    refine (eachHold_any (w.heap.size) (w.heap.size + 1) a2 n2 c2 sl X X (fun i => slE (l[i]?.getD el0) at' (sl[i]?.getD sp0)) (fun _ W => W.heap[w.heap.size]? = some (.cells #[.slice a n c] 60) ∧ W.heap[w.heap.size + 1]? = some (.cells #[.int .i64 at', .slice a2 n2 c2] 57)) ((h2.keep BW).keep hk) (Below.refl _ _) ⟨y0, y1⟩ (fun _ _ _ h hb => ⟨blk_keep h.1 hb, blk_keep h.2 hb⟩) ?_).mono ?_
    · intro i V' hi hI hV
      have hin : n2 = n := hldH_len (by rw [HK.out, HZ.out])
      refine (slErr_any i _ _ w.heap.size (w.heap.size + 1) a a2 n c n2 c2 l at' V' (((h1.keep BW).keep hk).keep hV) (by omega) hI.1 hI.2 HP.out (HL.out i (by omega))).mono ?_
      rintro e w1 ⟨rfl, hs⟩
      exact ⟨rfl, ⟨blk_keep hI.1 hs, blk_keep hI.2 hs⟩, hs.mono hV.size⟩
    rintro e w1 ⟨rfl, hs⟩
    go_wp2_with (first | ((with_reducible refine Calmly.is_fl ?_); refine Calmly.mix_fl rfl ?_ (fun _ _ => ?_); (first | exact .move _ | exact .load _ _ | exact .fieldAddr _ _ _ (by kernel_rfl) | exact .assign _ | exact .binOp _ _ _ _ _ rfl | exact .indexAddr _ _ _ | exact .len _ _ (by kernel_rfl) | exact .field _ _ _ | exact .extract _ _ | exact .pick _ _ _ | exact .build _ _ | exact .slice _ _ _ _ _ | exact .unOp _ _ _ rfl | exact .index _ _ _ | exact .max _ _ _ rfl rfl | exact .min _ _ _ rfl rfl | exact .nilCheck _ _ rfl)) | ((with_reducible refine Calmly.is_gl ?_); refine Calmly.mix_gl rfl rfl rfl ?_; first | ((first | with_reducible refine Calmly.gl_tt ?_ (fun _ _ => ?_) | with_reducible refine Calmly.gl_ff ?_ (fun _ _ => ?_)); (first | exact .move _ | exact .load _ _ | exact .fieldAddr _ _ _ (by kernel_rfl) | exact .assign _ | exact .binOp _ _ _ _ _ rfl | exact .indexAddr _ _ _ | exact .len _ _ (by kernel_rfl) | exact .field _ _ _ | exact .extract _ _ | exact .pick _ _ _ | exact .build _ _ | exact .slice _ _ _ _ _ | exact .unOp _ _ _ rfl | exact .index _ _ _ | exact .max _ _ _ rfl rfl | exact .min _ _ _ rfl rfl | exact .nilCheck _ _ rfl)) | with_reducible refine Calmly.gl_tf (fun _ _ => ?_) | with_reducible refine Calmly.gl_ft (fun _ _ => ?_)) | ((with_reducible refine Calmly.is_eff ?_); refine Calmly.mix_eff rfl (fun _ _ => ?_)) | ((with_reducible refine Calmly.is_gf ?_); refine Calmly.mix_gf rfl rfl rfl ?_; first | with_reducible refine Calmly.gf_tt (fun _ _ => ?_) | with_reducible refine Calmly.gf_ff (fun _ _ => ?_) | with_reducible refine Calmly.gf_tf (kept_of hk) (fun _ _ => ?_) | with_reducible refine Calmly.gf_ft (kept_of hk) (fun _ _ => ?_)) | ((with_reducible refine Calmly.is_tail ?_); first | refine Calmly.mix_tail_nil ?_ | refine Calmly.mix_tail rfl (fun _ _ => ?_)) | ((with_reducible refine Calmly.is_kept ?_); refine ⟨kept_of hk, ?_⟩) | (with_reducible refine Calmly.mix_alt ?_ ?_))
    refine bodyPost_ret (v := .tuple #[.int .i64 (eaF (fun i => slE (l[i]?.getD el0) at' (sl[i]?.getD sp0)) 0 n2).1, .int .i64 (eaF (fun i => slE (l[i]?.getD el0) at' (sl[i]?.getD sp0)) 0 n2).2]) (by simp [results, Tryz.results91]) rfl ⟨by rw [HS.out, if_pos (by rw [HK.out, HZ.out])], (BW.trans (hk.mono BW.size)).trans (hs.mono (by have := BW.size; have := hk.size; omega))⟩
  · have b1 : (H != 0) = true := by simpa using hz
    have HZ := Lib.hid hz
    clear hz
    go_wp2_with (first | ((with_reducible refine Calmly.is_fl ?_); refine Calmly.mix_fl rfl ?_ (fun _ _ => ?_); (first | exact .move _ | exact .load _ _ | exact .fieldAddr _ _ _ (by kernel_rfl) | exact .assign _ | exact .binOp _ _ _ _ _ rfl | exact .indexAddr _ _ _ | exact .len _ _ (by kernel_rfl) | exact .field _ _ _ | exact .extract _ _ | exact .pick _ _ _ | exact .build _ _ | exact .slice _ _ _ _ _ | exact .unOp _ _ _ rfl | exact .index _ _ _ | exact .max _ _ _ rfl rfl | exact .min _ _ _ rfl rfl | exact .nilCheck _ _ rfl)) | ((with_reducible refine Calmly.is_gl ?_); refine Calmly.mix_gl rfl rfl rfl ?_; first | ((first | with_reducible refine Calmly.gl_tt ?_ (fun _ _ => ?_) | with_reducible refine Calmly.gl_ff ?_ (fun _ _ => ?_)); (first | exact .move _ | exact .load _ _ | exact .fieldAddr _ _ _ (by kernel_rfl) | exact .assign _ | exact .binOp _ _ _ _ _ rfl | exact .indexAddr _ _ _ | exact .len _ _ (by kernel_rfl) | exact .field _ _ _ | exact .extract _ _ | exact .pick _ _ _ | exact .build _ _ | exact .slice _ _ _ _ _ | exact .unOp _ _ _ rfl | exact .index _ _ _ | exact .max _ _ _ rfl rfl | exact .min _ _ _ rfl rfl | exact .nilCheck _ _ rfl)) | with_reducible refine Calmly.gl_tf (fun _ _ => ?_) | with_reducible refine Calmly.gl_ft (fun _ _ => ?_)) | ((with_reducible refine Calmly.is_eff ?_); refine Calmly.mix_eff rfl (fun _ _ => ?_)) | ((with_reducible refine Calmly.is_gf ?_); refine Calmly.mix_gf rfl rfl rfl ?_; first | with_reducible refine Calmly.gf_tt (fun _ _ => ?_) | with_reducible refine Calmly.gf_ff (fun _ _ => ?_) | with_reducible refine Calmly.gf_tf (kept_of hk) (fun _ _ => ?_) | with_reducible refine Calmly.gf_ft (kept_of hk) (fun _ _ => ?_)) | ((with_reducible refine Calmly.is_tail ?_); first | refine Calmly.mix_tail_nil ?_ | refine Calmly.mix_tail rfl (fun _ _ => ?_)) | ((with_reducible refine Calmly.is_kept ?_); refine ⟨kept_of hk, ?_⟩) | (with_reducible refine Calmly.mix_alt ?_ ?_))
    refine bodyPost_ret (v := .tuple #[.int .i64 0, .int .i64 H]) (by simp [results, Tryz.results91]) rfl ⟨by rw [HS.out, if_neg (by rw [HK.out]; exact HZ.out), HK.out], BW.trans (hk.mono BW.size)⟩

/-- Index and error of a spring and a hold. -/
def chkE (l : List El) (at' : Int) (sl : List Sp) : Int × Int := if (sprE l).2 = 0 then hldE l at' sl else sprE l
theorem eaF_all {err : Nat → Int} {n : Nat} : ∀ {k m : Nat}, k + m = n → (eaF err k m).2 = 0 → ∀ j, k ≤ j → j < n → err j = 0 := by
  intro k m
  induction m generalizing k with
  | zero => intro h _ j h1 h2; omega
  | succ m ih =>
    intro h he j h1 h2
    rw [eaF] at he
    split at he
    · rename_i h0
      by_cases hj : j = k
      · rw [hj]; exact h0
      · exact ih (by omega) he j (by omega) h2
    · rename_i h0
      exact absurd he h0
theorem sprE_ok {l : List El} (h : (sprE l).2 = 0) : (0 < l.length ∧ l.length ≤ 4) ∧ ∀ j, j < l.length → elErr (l[j]?.getD el0) = 0 := by
  unfold sprE at h
  split at h
  · rename_i hh
    refine ⟨?_, fun j hj => eaF_all (by omega) h j (by omega) hj⟩
    unfold sprH firstE unlessE at hh
    by_cases h0 : 0 < l.length <;> by_cases h4 : (l.length : Int) ≤ 4 <;> simp [h0, h4, firstE] at hh <;> omega
  · rename_i hh
    exact absurd h hh

set_option maxRecDepth 100000 in
set_option maxHeartbeats 1000000 in
theorem CheckHold_any (a a2 : Option Addr) (n c n2 c2 : Nat) (l : List El) (at' : Int) (sl : List Sp) (w : World) (h1 : SEl w a n c l) (h2 : SSp w a2 n2 c2 sl) :
    Calls Tryz.prog 74 #[.slice a n c, .agg #[.int .i64 at', .slice a2 n2 c2]] w fun e w' => e = .returned (.tuple #[.int .i64 (chkE l at' sl).1, .int .i64 (chkE l at' sl).2]) ∧ Below w.heap.size w w' := by
  have HS := Lib.hid (show chkE l at' sl = if (sprE l).2 = 0 then hldE l at' sl else sprE l from rfl)
  have hok := fun h => (sprE_ok (l := l) h).2
  have hln : n ≤ l.length ∧ l.length ≤ n := by have := h1.len; omega
  have HO := Lib.hid hok
  clear hok
  have y0 := alloc_new w (.cells #[.int .i64 at', .slice a2 n2 c2] 57)
  have BW : Below w.heap.size w (w.alloc (.cells #[.int .i64 at', .slice a2 n2 c2] 57)) := (Below.refl _ _).alloc (Nat.le_refl _) _
  go_enter Tryz.func74, Tryz.ntmps74
  go_wp2_with fail
  generalize w.alloc (.cells #[.int .i64 at', .slice a2 n2 c2] 57) = W at *
  refine (CheckSpring_any a n c l W (h1.keep BW)).mono ?_
  rintro e w1 ⟨rfl, hs⟩
  obtain ⟨I, E, hR⟩ : ∃ I E, sprE l = (I, E) := ⟨_, _, rfl⟩
  rw [hR]
  dsimp only
  have HR := Lib.hid hR
  clear hR
  have c0 := cell_block (blk_keep y0 hs) 0
  have c1 := cell_block (blk_keep y0 hs) 1
  by_cases hz : E = 0
  · have b1 : (E != 0) = false := by rw [hz]; rfl
    have HZ := Lib.hid hz
    clear hz
    go_wp2_with fail
    refine (holdErr_any a a2 n c n2 c2 l at' sl w1 ((h1.keep BW).keep hs) ((h2.keep BW).keep hs) (fun j hj => HO.out (by rw [HR.out]; exact HZ.out) j (by omega))).mono ?_
    rintro e w2 ⟨rfl, hs2⟩
    go_wp2_with fail
    refine bodyPost_ret (v := .tuple #[.int .i64 (hldE l at' sl).1, .int .i64 (hldE l at' sl).2]) (by simp [results, Tryz.results74]) rfl ⟨by rw [HS.out, if_pos (by rw [HR.out]; exact HZ.out)], (BW.trans (hs.mono BW.size)).trans (hs2.mono (by have := BW.size; have := hs.size; omega))⟩
  · have b1 : (E != 0) = true := by simpa using hz
    have HZ := Lib.hid hz
    clear hz
    go_wp2_with fail
    refine bodyPost_ret (v := .tuple #[.int .i64 I, .int .i64 E]) (by simp [results, Tryz.results74]) rfl ⟨by rw [HS.out, if_neg (by rw [HR.out]; exact HZ.out), HR.out], BW.trans (hs.mono BW.size)⟩
end Go.Proofs.YtaiikekgckjdeaaGreat

namespace Go
open Go.RowKit Go.Shelf

/-- Every round goes on. -/
def OnOn {α : Type} (P : Program) (gf : Nat) (lb : Array Value) (enc : α → Array Value) (Kp : World → World → Prop) (S : List α → Prop) (N m : Nat) (w : World) : Prop :=
  ∀ (l : Nat) (J : List α → World → Prop) (W : World), Below w.heap.size w W → AbidesFrom W.heap.size J →
    (∀ pre x W1, J pre W1 → pre.length < N → YieldAt Fence.wide m P l (enc x) W1 fun e W' => e = .returned (.bool true) ∧ J (pre ++ [x]) W' ∧ Kp W1 W') →
    J [] W → Calls P gf (#[.func (.yield l) #[] #[]] ++ lb) W fun e W' => (∃ v, e = .returned v) ∧ ∃ xs, S xs ∧ J xs W'

theorem range_mid {P : Program} {n : Nat} {α : Type} {g : Operand} {ps : Array Tmp} {assign body : Code} {Q : Exit → Act → World → Prop} {a : Act} {w : World} {gf : Nat} {lb : Array Value}
    (hg : a.eval g = .func (.func gf) #[] lb) (eg : ∀ args w, (callFunc gf args).run P w = .ok (.enter gf args) w)
    {enc : α → Array Value} {Kp : World → World → Prop} {S : List α → Prop} {N m : Nat} (hseq : OnOn P gf lb enc Kp S N m w)
    (hKt : ∀ {A B C : World}, Kp A B → Kp B C → Kp A C) (hKb : ∀ (W : World) (l : Nat) (o o' : Obj), w.heap.size ≤ l → W.heap[l]? = some o → o.isCells = false → Kp W (W.putObj l o')) (hps : ∀ x, (enc x).size = ps.size)
    (I : List α → World → Prop) (hI : OwnFrom w.heap.size I) (h0 : I [] w) (Mid : List α → α → Act → World → Prop) (hM : ∀ pre x a', OwnFrom w.heap.size (fun (_ : Unit) W => Mid pre x a' W))
    (hassign : ∀ (l : Nat) (pre : List α) (x : α) (W : World) (K : Act → World → Prop), I pre W → pre.length < N → (∀ a' W', KeepsOthers W W' → Kp W W' → Mid pre x a' W' → K a' W') →
      assign.wpIn (Fence.wide.inRound l) m P (Exit.then K (fun _ _ _ => False)) { tmps := (ps.zip (enc x)).foldl (fun t (p, v) => t.setIfInBounds p v) a.tmps, defers := [] } W)
    (hbody : ∀ (l : Nat) (pre : List α) (x : α) (a' : Act) (W : World), Mid pre x a' W → body.wpIn (Fence.wide.inRound l) m P (fun e _ W' => e = .normal ∧ KeepsOthers W W' ∧ Kp W W' ∧ I (pre ++ [x]) W') a' W)
    (hdone : ∀ (D : Nat) (xs : List α) (W : World), w.heap.size ≤ D → S xs → I xs W → W.heap[D]? = some (.deferred (some [])) → Q .normal { a with defers := { target := .collected D, args := #[] } :: a.defers } W) :
    (Code.rangeFunc g ps assign body).wpIn Fence.wide n P Q a w := by
  refine wpIn_rangeFunc fun fn hfn => ?_
  obtain ⟨rec, hrec⟩ : ∃ rec : LoopState → Loop, rec = fun st => { state := st, pending := none, fn, tmps := a.tmps, params := ps, assign, body, defers := w.heap.size } := ⟨_, rfl⟩
  obtain ⟨W1, hW1⟩ : ∃ W1, (w.alloc (.deferred (some []))).alloc (.loop (rec .ready)) = W1 := ⟨_, rfl⟩
  have hL : W1.heap[w.heap.size + 1]? = some (.loop (rec .ready)) := by
    have := Go.Proofs.YtaiikekgckjdeaaGreat.alloc_new (w.alloc (.deferred (some []))) (.loop (rec .ready))
    rw [← hW1]
    simpa using this
  have hD : W1.heap[w.heap.size]? = some (.deferred (some [])) := by
    rw [← hW1, Below.heap_alloc _ _ _ (by simp)]
    exact Go.Proofs.YtaiikekgckjdeaaGreat.alloc_new w _
  have hb1 : Below w.heap.size w W1 := by
    rw [← hW1]
    exact ((Below.refl _ w).alloc (Nat.le_refl _) _).alloc (by simp) _
  have hI1 : I [] W1 := by
    rw [← hW1]
    exact hI.alloc _ (hI.alloc _ h0)
  have hs1 : W1.heap.size = w.heap.size + 2 := by rw [← hW1]; simp
  refine ⟨w.heap.size + 1, [{ target := .collected w.heap.size, args := #[] }], W1, { target := .fn (.func gf) lb, args := #[.func (.yield (w.heap.size + 1)) #[] #[]] }, W1, gf, #[.func (.yield (w.heap.size + 1)) #[] #[]] ++ lb, W1, ?_, ?_, fun _ _ => trivial, ?_, fun h => absurd h (by simp [Fence.wide]), ?_⟩
  · rw [← hW1, hrec]
    exact run_enterLoop_outer _ _ _ _ _
  · simp only [resolve, hg]
    simp [go_sem]
  · simp [invoke, go_sem, eg]
  · refine callsIn_wide.2 ?_
    refine (hseq (w.heap.size + 1) (fun pre W => (I pre W ∧ W.heap[w.heap.size + 1]? = some (.loop (rec .ready))) ∧ W.heap[w.heap.size]? = some (.deferred (some []))) W1 hb1 ?_ ?_ ⟨⟨hI1, hL⟩, hD⟩).mono ?_
    · -- what the iterator does of its own
      rintro s A B row ⟨⟨hs, hl⟩, hk⟩ hg' hr
      have hne : ∀ j, j < w.heap.size + 2 → some j ≠ row := fun j hj e => by
        have := (hr j e.symm).1
        omega
      refine ⟨⟨hI s A B row hs hg' fun r e => ?_, ?_⟩, ?_⟩
      · obtain ⟨h1, o, h2, h3⟩ := hr r e
        exact ⟨by omega, o, h2, Obj.not_cells_of_walk h3⟩
      · exact (hg'.block _ (Array.getElem?_eq_some_iff.1 hl).1 (hne _ (by omega))).trans hl
      · exact (hg'.block _ (Array.getElem?_eq_some_iff.1 hk).1 (hne _ (by omega))).trans hk
    · -- one round
      rintro pre x W ⟨⟨hi, hl⟩, hk⟩ hlen
      have hy := run_yield (P := P) (args := enc x) hl (by rw [hrec]; exact hps x)
      rw [hrec] at hy
      refine ⟨fn, _, assign, body, hy, roundIn_of_wpIn hfn (hassign _ pre x W _ hi hlen ?_)⟩
      intro a' Wa ha1 ha2 ha3
      have hl1 := ha1.same _ _ hl rfl
      have hk1 := ha1.same _ _ hk rfl
      have hlt : w.heap.size + 1 < Wa.heap.size := (Array.getElem?_eq_some_iff.1 hl1).1
      refine ⟨_, run_beginRound hl1 (by rw [hrec]), ?_⟩
      have hl2 : (Wa.putObj (w.heap.size + 1) (.loop { rec .ready with state := .busy })).heap[w.heap.size + 1]? = some (.loop { rec .ready with state := .busy }) := World.putObj_heap_same hlt
      have hk2 : (Wa.putObj (w.heap.size + 1) (.loop { rec .ready with state := .busy })).heap[w.heap.size]? = some (.deferred (some [])) := (World.putObj_heap_other (by omega)).trans hk1
      refine wpIn_mono (hbody _ pre x a' _ ((hM pre x a').putObj (s := ()) _ ha3 (by omega) hl1 rfl)) ?_
      rintro e a3 W3 ⟨rfl, hb3, hk3, hi3⟩
      have hl3 := hb3.same _ _ hl2 rfl
      have hr := run_endRound (P := P) none hl3
      rw [hrec] at hr hl3
      refine ⟨_, _, hr, rfl, ⟨⟨hI.putObj _ hi3 (by omega) hl3 rfl, ?_⟩, ?_⟩, ?_⟩
      · rw [hrec]
        exact World.putObj_heap_same (Array.getElem?_eq_some_iff.1 hl3).1
      · exact (World.putObj_heap_other (by omega)).trans (hb3.same _ _ hk2 rfl)
      · exact hKt ha2 (hKt (hKt (hKb _ _ _ _ (by omega) hl1 rfl) hk3) (hKb _ _ _ _ (by omega) hl3 rfl))
    · -- at the end
      rintro e W2 ⟨⟨v, rfl⟩, xs, hS, ⟨hi, hl⟩, hk⟩
      have hr := run_endLoop (P := P) hl (by rw [hrec]; simp)
      rw [hrec] at hr
      exact ⟨none, _, hr, hdone _ xs _ (Nat.le_refl _) hS (hI.putObj _ hi (by omega) hl rfl) ((World.putObj_heap_other (by omega)).trans hk)⟩
end Go

namespace Go
open Go.RowKit Go.Shelf

/-- Every round goes on. -/
def OnOnP {α : Type} (P : Program) (gf : Nat) (lb : Array Value) (enc : α → Array Value) (Kp : World → World → Prop) (Px : α → World → Prop) (S : List α → Prop) (m : Nat) (w : World) : Prop :=
  ∀ (l : Nat) (J : List α → World → Prop) (W : World), Below w.heap.size w W → AbidesFrom W.heap.size J →
    (∀ pre x W1, J pre W1 → Px x W1 → YieldAt Fence.wide m P l (enc x) W1 fun e W' => e = .returned (.bool true) ∧ J (pre ++ [x]) W' ∧ Kp W1 W') →
    J [] W → Calls P gf (#[.func (.yield l) #[] #[]] ++ lb) W fun e W' => (∃ v, e = .returned v) ∧ ∃ xs, S xs ∧ J xs W'

theorem range_midP {P : Program} {n : Nat} {α : Type} {g : Operand} {ps : Array Tmp} {assign body : Code} {Q : Exit → Act → World → Prop} {a : Act} {w : World} {gf : Nat} {lb : Array Value}
    (hg : a.eval g = .func (.func gf) #[] lb) (eg : ∀ args w, (callFunc gf args).run P w = .ok (.enter gf args) w)
    {enc : α → Array Value} {Kp : World → World → Prop} {Px : α → World → Prop} {S : List α → Prop} {m : Nat} (hseq : OnOnP P gf lb enc Kp Px S m w)
    (hKt : ∀ {A B C : World}, Kp A B → Kp B C → Kp A C) (hKb : ∀ (W : World) (l : Nat) (o o' : Obj), w.heap.size ≤ l → W.heap[l]? = some o → o.isCells = false → Kp W (W.putObj l o')) (hps : ∀ x, (enc x).size = ps.size)
    (I : List α → World → Prop) (hI : OwnFrom w.heap.size I) (h0 : I [] w) (Mid : List α → α → Act → World → Prop) (hM : ∀ pre x a', OwnFrom w.heap.size (fun (_ : Unit) W => Mid pre x a' W))
    (hassign : ∀ (l : Nat) (pre : List α) (x : α) (W : World) (K : Act → World → Prop), I pre W → Px x W → (∀ a' W', KeepsOthers W W' → Kp W W' → Mid pre x a' W' → K a' W') →
      assign.wpIn (Fence.wide.inRound l) m P (Exit.then K (fun _ _ _ => False)) { tmps := (ps.zip (enc x)).foldl (fun t (p, v) => t.setIfInBounds p v) a.tmps, defers := [] } W)
    (hbody : ∀ (l : Nat) (pre : List α) (x : α) (a' : Act) (W : World), Mid pre x a' W → body.wpIn (Fence.wide.inRound l) m P (fun e _ W' => e = .normal ∧ KeepsOthers W W' ∧ Kp W W' ∧ I (pre ++ [x]) W') a' W)
    (hdone : ∀ (D : Nat) (xs : List α) (W : World), w.heap.size ≤ D → S xs → I xs W → W.heap[D]? = some (.deferred (some [])) → Q .normal { a with defers := { target := .collected D, args := #[] } :: a.defers } W) :
    (Code.rangeFunc g ps assign body).wpIn Fence.wide n P Q a w := by
  refine wpIn_rangeFunc fun fn hfn => ?_
  obtain ⟨rec, hrec⟩ : ∃ rec : LoopState → Loop, rec = fun st => { state := st, pending := none, fn, tmps := a.tmps, params := ps, assign, body, defers := w.heap.size } := ⟨_, rfl⟩
  obtain ⟨W1, hW1⟩ : ∃ W1, (w.alloc (.deferred (some []))).alloc (.loop (rec .ready)) = W1 := ⟨_, rfl⟩
  have hL : W1.heap[w.heap.size + 1]? = some (.loop (rec .ready)) := by
    have := Go.Proofs.YtaiikekgckjdeaaGreat.alloc_new (w.alloc (.deferred (some []))) (.loop (rec .ready))
    rw [← hW1]
    simpa using this
  have hD : W1.heap[w.heap.size]? = some (.deferred (some [])) := by
    rw [← hW1, Below.heap_alloc _ _ _ (by simp)]
    exact Go.Proofs.YtaiikekgckjdeaaGreat.alloc_new w _
  have hb1 : Below w.heap.size w W1 := by
    rw [← hW1]
    exact ((Below.refl _ w).alloc (Nat.le_refl _) _).alloc (by simp) _
  have hI1 : I [] W1 := by
    rw [← hW1]
    exact hI.alloc _ (hI.alloc _ h0)
  have hs1 : W1.heap.size = w.heap.size + 2 := by rw [← hW1]; simp
  refine ⟨w.heap.size + 1, [{ target := .collected w.heap.size, args := #[] }], W1, { target := .fn (.func gf) lb, args := #[.func (.yield (w.heap.size + 1)) #[] #[]] }, W1, gf, #[.func (.yield (w.heap.size + 1)) #[] #[]] ++ lb, W1, ?_, ?_, fun _ _ => trivial, ?_, fun h => absurd h (by simp [Fence.wide]), ?_⟩
  · rw [← hW1, hrec]
    exact run_enterLoop_outer _ _ _ _ _
  · simp only [resolve, hg]
    simp [go_sem]
  · simp [invoke, go_sem, eg]
  · refine callsIn_wide.2 ?_
    refine (hseq (w.heap.size + 1) (fun pre W => (I pre W ∧ W.heap[w.heap.size + 1]? = some (.loop (rec .ready))) ∧ W.heap[w.heap.size]? = some (.deferred (some []))) W1 hb1 ?_ ?_ ⟨⟨hI1, hL⟩, hD⟩).mono ?_
    · -- what the iterator does of its own
      rintro s A B row ⟨⟨hs, hl⟩, hk⟩ hg' hr
      have hne : ∀ j, j < w.heap.size + 2 → some j ≠ row := fun j hj e => by
        have := (hr j e.symm).1
        omega
      refine ⟨⟨hI s A B row hs hg' fun r e => ?_, ?_⟩, ?_⟩
      · obtain ⟨h1, o, h2, h3⟩ := hr r e
        exact ⟨by omega, o, h2, Obj.not_cells_of_walk h3⟩
      · exact (hg'.block _ (Array.getElem?_eq_some_iff.1 hl).1 (hne _ (by omega))).trans hl
      · exact (hg'.block _ (Array.getElem?_eq_some_iff.1 hk).1 (hne _ (by omega))).trans hk
    · -- one round
      rintro pre x W ⟨⟨hi, hl⟩, hk⟩ hpx
      have hy := run_yield (P := P) (args := enc x) hl (by rw [hrec]; exact hps x)
      rw [hrec] at hy
      refine ⟨fn, _, assign, body, hy, roundIn_of_wpIn hfn (hassign _ pre x W _ hi hpx ?_)⟩
      intro a' Wa ha1 ha2 ha3
      have hl1 := ha1.same _ _ hl rfl
      have hk1 := ha1.same _ _ hk rfl
      have hlt : w.heap.size + 1 < Wa.heap.size := (Array.getElem?_eq_some_iff.1 hl1).1
      refine ⟨_, run_beginRound hl1 (by rw [hrec]), ?_⟩
      have hl2 : (Wa.putObj (w.heap.size + 1) (.loop { rec .ready with state := .busy })).heap[w.heap.size + 1]? = some (.loop { rec .ready with state := .busy }) := World.putObj_heap_same hlt
      have hk2 : (Wa.putObj (w.heap.size + 1) (.loop { rec .ready with state := .busy })).heap[w.heap.size]? = some (.deferred (some [])) := (World.putObj_heap_other (by omega)).trans hk1
      refine wpIn_mono (hbody _ pre x a' _ ((hM pre x a').putObj (s := ()) _ ha3 (by omega) hl1 rfl)) ?_
      rintro e a3 W3 ⟨rfl, hb3, hk3, hi3⟩
      have hl3 := hb3.same _ _ hl2 rfl
      have hr := run_endRound (P := P) none hl3
      rw [hrec] at hr hl3
      refine ⟨_, _, hr, rfl, ⟨⟨hI.putObj _ hi3 (by omega) hl3 rfl, ?_⟩, ?_⟩, ?_⟩
      · rw [hrec]
        exact World.putObj_heap_same (Array.getElem?_eq_some_iff.1 hl3).1
      · exact (World.putObj_heap_other (by omega)).trans (hb3.same _ _ hk2 rfl)
      · exact hKt ha2 (hKt (hKt (hKb _ _ _ _ (by omega) hl1 rfl) hk3) (hKb _ _ _ _ (by omega) hl3 rfl))
    · -- at the end
      rintro e W2 ⟨⟨v, rfl⟩, xs, hS, ⟨hi, hl⟩, hk⟩
      have hr := run_endLoop (P := P) hl (by rw [hrec]; simp)
      rw [hrec] at hr
      exact ⟨none, _, hr, hdone _ xs _ (Nat.le_refl _) hS (hI.putObj _ hi (by omega) hl rfl) ((World.putObj_heap_other (by omega)).trans hk)⟩
end Go

namespace Go.Calmly
open Go
section
variable {P : Program} {ops : Array Oper} {Q : Exit → Act → World → Prop} {r m : Nat}

theorem rowsIn_wide {row : String} {args : Array Value} {w : World} {R : Value → World → Prop} (h : Rows P row args w R) : RowsIn (Fence.wide.inRound r) m P row args w R := fun c cs _ => by
  obtain ⟨v, w', h1, h2⟩ := h c cs
  exact ⟨v, w', h1, stepsIn_wide.2 h2⟩
theorem opIn {o : Oper} {a : Act} {w : World} {K : Act → World → Prop} (hd : ∀ c, o.op ≠ .defer c) (h : o.wp P a w K Q) : o.wpIn (Fence.wide.inRound r) m P a w K Q := by
  refine ⟨fun _ _ => trivial, ?_⟩
  rw [show (Fence.wide.inRound r).round = some r from rfl, Oper.semAt_some r _ _ hd]
  unfold Oper.wp at h
  generalize (execOp a.eval o).run P w = res at *
  cases res with
  | ok x w' =>
    cases x with
    | enter f args =>
      refine ⟨fun hh => absurd hh (by simp [Fence.wide]), CallsIn.inRound r (callsIn_wide.2 (Calls.mono h fun e w'' he => ?_))⟩
      cases e <;> exact he
    | row s args => exact ⟨fun hh => absurd hh (by simp [Fence.wide]), rowsIn_wide h⟩
    | _ => first | exact h | exact h.elim
  | halt x w' => cases x <;> exact h
theorem wpOpIn_of {i : Nat} {a : Act} {w : World} {K : Act → World → Prop} (hd : ∀ (i : Nat) (o : Oper), ops[i]? = some o → ∀ c, o.op ≠ .defer c) (hQ : ∀ a w, ¬ Q .outgrown a w) (h : wpOp P ops Q i K a w) : wpOpIn (Fence.wide.inRound r) m P ops Q i K a w := by
  unfold wpOp at h
  unfold wpOpIn
  cases ho : ops[i]? with
  | none => simp only [ho] at h ⊢; exact h
  | some o =>
    simp only [ho] at h ⊢
    split
    · rename_i hw
      simp only [hw, if_true] at h
      rcases h with h | ⟨_, a', w', h⟩
      · exact opIn (hd i o ho) h
      · exact absurd h (hQ a' w')
    · rename_i hw
      simp only [hw] at h
      exact ⟨fun _ _ => trivial, h⟩
theorem anyIn {md : Region.Mode} (hd : ∀ (i : Nat) (o : Oper), ops[i]? = some o → ∀ c, o.op ≠ .defer c) (hQ : ∀ a w, ¬ Q .outgrown a w) : ∀ (fuel : Nat) (L : Array Bool) (a : Act) (w : World), wpAny P md ops Q fuel L a w → wpAnyIn (Fence.wide.inRound r) m P md ops Q fuel L a w
  | 0, _, _, _, h => h
  | fuel + 1, _, _, _, h => ⟨h.1, fun i hi => wpOpIn_of hd hQ (wpOp_mono (fun a w hk => anyIn hd hQ fuel _ a w hk) (h.2 i hi))⟩
def noDefer (l : List Oper) : Bool := l.all fun o => match o.op with | .defer _ => false | _ => true
theorem noDefer_ops {l : List Oper} (h : noDefer l = true) : ∀ (i : Nat) (o : Oper), l.toArray[i]? = some o → ∀ c, o.op ≠ .defer c := by
  intro i o ho c hc
  have hm : o ∈ l := List.mem_of_getElem? (by simpa using ho)
  have h1 := (List.all_eq_true.1 h) o hm
  rw [hc] at h1
  cases h1
theorem wpIn_region_mix {id : Nat} {a : Act} {w : World} {l : List Oper} (n : Nat) (p : Plan) (hm : P.follows .mixedOrders = true)
    (hB : (noDefer l && (Region.noSelect l.toArray && tailOk l.toArray .any n && planOk l.toArray .any n p l.toArray.size (Array.replicate l.toArray.size false) [])) = true) (hQ : ∀ a w, ¬ Q .outgrown a w)
    (h : WpMix P l.toArray Q w.drew p a w.drew) : (Code.region id l.toArray true).wpIn (Fence.wide.inRound r) m P Q a w := by
  simp only [Bool.and_eq_true] at hB
  obtain ⟨h0, ⟨h1, h2⟩, h3⟩ := hB
  exact wpIn_region_any hm (anyIn (noDefer_ops h0) hQ _ _ _ _ (any_of_anyT _ _ _ _ ((mix_sound h1 h2 p _ _ [] a _ (closed_start _) h3 (Kept.refl _) h.out).1 rfl)))
end
end Go.Calmly
