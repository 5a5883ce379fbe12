/- Plain law of chapter 2: the errors of oscillators, bands, waves and times; where samples are outside of a band. Contracts of chapter 2: the first error of items, and the errors of oscillators, bands, waves and times. Plain law of chapter 2: prices and rests. Contracts of chapter 2: greater sums; parts and denominators. A range over a function whose loop variable is one that lay before (its cell is written by the assignment), and whose body is never left early. -/
import Derived.Test.YtfjcfbmfpefabaaGreatK13
import Derived.RangeFuncFrom
import Derived.RangeFuncBound
import Derived.RangeFuncCalls
import Derived.RangeFuncLeaves
import Derived.RangeFuncWrites
import Derived.Shelf.Abstract
import Derived.Shelf.RegionOpen
import Derived.OwnWalkIn
import Derived.TacticsInMore
import Derived.LoopNIn
import Derived.LoopIn
namespace Go.Proofs.YtfjcfbmfpefabaaGreat

theorem eachE_drop {α : Type} (f : α → Int) (l : List α) (d : α) (k : Nat) (h : k < l.length) : firstE ((l.drop k).map f) = if f (l[k]?.getD d) = 0 then firstE ((l.drop (k + 1)).map f) else f (l[k]?.getD d) := by
  rw [List.drop_eq_getElem_cons h, List.map_cons, firstE, List.getElem?_eq_getElem h]
  rfl
theorem firstE_all {l : List Int} (h : firstE l = 0) : ∀ x ∈ l, x = 0 := by
  induction l with
  | nil => simp
  | cons y l ih =>
    rw [firstE] at h
    split at h
    · rename_i hy
      intro x hx
      rcases List.mem_cons.1 hx with rfl | hx
      · exact hy
      · exact ih h x hx
    · exact absurd h (by assumption)
theorem unlessE_zero {b : Bool} {x : Int} (h : unlessE b x = 0) (hx : x ≠ 0) : b = true := by
  cases b
  · exact absurd h hx
  · rfl

/-- The error of an oscillator, of a row of a band, of a band. -/
def oscE (o : Int × Int) : Int := unlessE (wIn o.1 0 3000 && wIn o.2 0 500) 2
theorem oscE_ok {o : Int × Int} (h : oscE o = 0) : (0 ≤ o.1 ∧ o.1 ≤ 3000) ∧ (0 ≤ o.2 ∧ o.2 ≤ 500) := by
  have := unlessE_zero h (by decide)
  rw [Bool.and_eq_true, wIn_iff, wIn_iff] at this
  exact this
def bndE (b : Four) : Int := firstE [oscE b.1, unlessE (wIn b.2.1 0 1000000 && wIn b.2.2 0 1000000) 2, unlessE (decide (b.2.1 ≤ b.2.2)) 9]
theorem bndE_ok {b : Four} (h : bndE b = 0) : oscE b.1 = 0 ∧ (0 ≤ b.2.1 ∧ b.2.1 ≤ 1000000) ∧ (0 ≤ b.2.2 ∧ b.2.2 ≤ 1000000) ∧ b.2.1 ≤ b.2.2 := by
  have h1 := firstE_all h _ (List.mem_cons_self)
  have h2 := unlessE_zero (firstE_all h _ (List.mem_cons_of_mem _ (List.mem_cons_self))) (by decide)
  have h3 := unlessE_zero (firstE_all h _ (List.mem_cons_of_mem _ (List.mem_cons_of_mem _ (List.mem_cons_self)))) (by decide)
  rw [Bool.and_eq_true, wIn_iff, wIn_iff] at h2
  exact ⟨h1, h2.1, h2.2, of_decide_eq_true h3⟩
def bandE (l : List Four) : Int := firstE [unlessE (decide (0 < l.length)) 10, unlessE (decide (l.length ≤ 6)) 8, firstE (l.map bndE)]
theorem bandE_ok {l : List Four} (h : bandE l = 0) : 0 < l.length ∧ l.length ≤ 6 ∧ ∀ k, k < l.length → bndE (l[k]?.getD four0) = 0 := by
  have h1 := unlessE_zero (firstE_all h _ (List.mem_cons_self)) (by decide)
  have h2 := unlessE_zero (firstE_all h _ (List.mem_cons_of_mem _ (List.mem_cons_self))) (by decide)
  have h3 := firstE_all h _ (List.mem_cons_of_mem _ (List.mem_cons_of_mem _ (List.mem_cons_self)))
  refine ⟨of_decide_eq_true h1, of_decide_eq_true h2, fun k hk => ?_⟩
  refine firstE_all h3 _ ?_
  rw [List.getElem?_eq_getElem hk]
  exact List.mem_map_of_mem (List.getElem_mem hk)
/-- The error of a wave for so many samples, of waves, of times. -/
def wavE (n : Nat) (x : List Int) : Int := if x.length = n then (if badS x 0 = none then unlessE (decide (sumT x n = 0 ∧ sumT (sumsF x) n = 0)) 21 else 2) else 10
theorem wavE_ok {n : Nat} {x : List Int} (h : wavE n x = 0) : x.length = n ∧ badS x 0 = none ∧ sumT x n = 0 ∧ sumT (sumsF x) n = 0 := by
  unfold wavE at h
  split at h
  · split at h
    · have := of_decide_eq_true (unlessE_zero h (by decide))
      exact ⟨by assumption, by assumption, this.1, this.2⟩
    · cases h
  · cases h
def wavesE (n : Nat) (ws : List (List Int)) : Int := firstE [unlessE (decide (ws.length ≤ 3)) 8, firstE (ws.map (wavE n))]
theorem wavesE_ok {n : Nat} {ws : List (List Int)} (h : wavesE n ws = 0) : ws.length ≤ 3 ∧ ∀ k, k < ws.length → wavE n (ws[k]?.getD []) = 0 := by
  have h1 := unlessE_zero (firstE_all h _ (List.mem_cons_self)) (by decide)
  have h3 := firstE_all h _ (List.mem_cons_of_mem _ (List.mem_cons_self))
  refine ⟨of_decide_eq_true h1, fun k hk => ?_⟩
  refine firstE_all h3 _ ?_
  rw [List.getElem?_eq_getElem hk]
  exact List.mem_map_of_mem (List.getElem_mem hk)
def timE (t : Int) : Int := unlessE (wIn t (-2) 2) 2
def timesE (m : Nat) (ts : List Int) : Int := firstE [unlessE (decide (ts.length = m)) 10, firstE (ts.map timE)]
theorem timesE_ok {m : Nat} {ts : List Int} (h : timesE m ts = 0) : ts.length = m ∧ ∀ j : Nat, -2 ≤ ts[j]?.getD 0 ∧ ts[j]?.getD 0 ≤ 2 := by
  have h1 := unlessE_zero (firstE_all h _ (List.mem_cons_self)) (by decide)
  have h3 := firstE_all h _ (List.mem_cons_of_mem _ (List.mem_cons_self))
  refine ⟨of_decide_eq_true h1, fun j => ?_⟩
  rcases Nat.lt_or_ge j ts.length with hj | hj
  · have := firstE_all h3 (timE (ts[j]?.getD 0)) (by rw [List.getElem?_eq_getElem hj]; exact List.mem_map_of_mem (List.getElem_mem hj))
    exact wIn_iff.1 (unlessE_zero this (by decide))
  · rw [List.getElem?_eq_none hj]
    simp

/-- Where samples are outside of a band. -/
def pkO (xs : List Int) (o : Int × Int) : Int := gsT (rspTo xs o.1 o.2 xs.length) xs.length
def outB (xs : List Int) (b : Four) : Bool := !(wIn (pkO xs b.1) b.2.1 b.2.2)
def outT (xs : List Int) (l : List Four) (k : Nat) : List Int := ((List.range k).filter (fun i => outB xs (l[i]?.getD four0))).map (fun i => ((i : Nat) : Int))
theorem outT_succ (xs : List Int) (l : List Four) (k : Nat) : outT xs l (k + 1) = if outB xs (l[k]?.getD four0) = true then outT xs l k ++ [(k : Int)] else outT xs l k := by
  unfold outT
  rw [List.range_succ, List.filter_append, List.map_append]
  simp only [List.filter_cons, List.filter_nil]
  split <;> simp
theorem outT_len (xs : List Int) (l : List Four) (k : Nat) : (outT xs l k).length ≤ k := by
  unfold outT
  rw [List.length_map]
  exact Nat.le_trans (List.length_filter_le _ _) (by simp)
/-- Times with which samples are in the band. -/
def goodM (xs : List Int) (ws : List (List Int)) (l : List Four) (ts : List Int) : Bool := decide (gsT (adTo xs ws ts ws.length) xs.length ≤ 1000) && (outT (adTo xs ws ts ws.length) l l.length).isEmpty
theorem rspTo_len (xs : List Int) (st dm : Int) (k : Nat) : (rspTo xs st dm k).length = k := by simp [rspTo]
theorem rspTo_get (xs : List Int) (st dm : Int) (n k : Nat) (h : k < n) : (rspTo xs st dm n)[k]?.getD 0 = (rspT xs st dm (k + 1)).1 := by
  unfold rspTo
  rw [List.getElem?_map, List.getElem?_range h]
  rfl
/-- How great the added samples are. -/
theorem adS_bd {ws : List (List Int)} {ts : List Int} (hw : ∀ i t : Nat, -1000 ≤ (ws[i]?.getD [])[t]?.getD 0 ∧ (ws[i]?.getD [])[t]?.getD 0 ≤ 1000) (ht : ∀ j : Nat, -2 ≤ ts[j]?.getD 0 ∧ ts[j]?.getD 0 ≤ 2) (t i : Nat) :
    -(2000 * (i : Int)) ≤ adS ws ts t i ∧ adS ws ts t i ≤ 2000 * (i : Int) := by
  induction i with
  | zero => simp [adS]
  | succ i ih =>
    rw [adS]
    have h1 := hw i t
    have h2 := ht i
    have := pr_bd (c := ts[i]?.getD 0) (a := (ws[i]?.getD [])[t]?.getD 0) (C := 2) (A := 1000) h2.1 h2.2 h1.1 h1.2
    omega
theorem wavesE_bd {n : Nat} {ws : List (List Int)} (h : wavesE n ws = 0) : ∀ i t : Nat, -1000 ≤ (ws[i]?.getD [])[t]?.getD 0 ∧ (ws[i]?.getD [])[t]?.getD 0 ≤ 1000 := by
  intro i t
  rcases Nat.lt_or_ge i ws.length with hi | hi
  · exact badS_none (wavE_ok ((wavesE_ok h).2 i hi)).2.1 t
  · rw [List.getElem?_eq_none hi]
    simp
end Go.Proofs.YtfjcfbmfpefabaaGreat

namespace Go.Proofs.YtfjcfbmfpefabaaGreat
open Go.RowKit
open Calmly (Kept)

theorem store_fn (P : Program) (w : World) (a : Addr) (m : Mode) (fn : Fn) (first captured : Array Value) : (store a (.func fn first captured) m).run P w = stored P w a (.func fn first captured) m := run_store P w a _ m rfl
attribute [local go_sem] store_fn

set_option maxHeartbeats 400000 in
theorem oscillatorErr_any (st dm : Int) (w : World) : Calls Tryz.prog 50 #[.agg #[.int .i64 st, .int .i64 dm]] w fun e w' => e = .returned (.int .i64 (oscE (st, dm))) ∧ Below w.heap.size w w' := by
  have BW : Below w.heap.size w (w.alloc (.cells #[.int .i64 st, .int .i64 dm] 52)) := (Below.refl _ _).alloc (Nat.le_refl _) _
  cases hs : wIn st 0 3000
  · have hE : oscE (st, dm) = unlessE false 2 := by simp [oscE, hs]
    rw [hE]
    go_enter Tryz.func50, Tryz.ntmps50
    go_wp2_with fail
    refine (nWithin_any _ _ _ _).mono ?_
    rintro e w1 ⟨rfl, rfl⟩
    go_wp2_with fail
    refine (nUnless_any _ _ _).mono ?_
    rintro e w1 ⟨rfl, rfl⟩
    go_wp2_with fail
    go_ret
    exact ⟨rfl, BW⟩
  · have hE : oscE (st, dm) = unlessE (wIn dm 0 500) 2 := by simp [oscE, hs]
    rw [hE]
    go_enter Tryz.func50, Tryz.ntmps50
    go_wp2_with fail
    refine (nWithin_any _ _ _ _).mono ?_
    rintro e w1 ⟨rfl, rfl⟩
    go_wp2_with fail
    refine (nWithin_any _ _ _ _).mono ?_
    rintro e w1 ⟨rfl, rfl⟩
    go_wp2_with fail
    refine (nUnless_any _ _ _).mono ?_
    rintro e w1 ⟨rfl, rfl⟩
    go_wp2_with fail
    go_ret
    exact ⟨rfl, BW⟩

set_option maxHeartbeats 400000 in
theorem isPeak_any (x : Int) (w : World) : Calls Tryz.prog 78 #[.int .i64 x] w fun e w' => e = .returned (.bool (wIn x 0 1000000)) ∧ w = w' := by
  go_enter Tryz.func78, Tryz.ntmps78
  go_wp2_with fail
  refine (nWithin_any _ _ _ _).mono ?_
  rintro e w1 ⟨rfl, rfl⟩
  go_wp2_with fail
  go_ret
  exact ⟨rfl, rfl⟩

set_option maxRecDepth 100000 in
set_option maxHeartbeats 1000000 in
theorem bndErr_any (st dm lo hi : Int) (pb : Nat) (w : World) (h1 : w.heap[pb]? = some (.cells #[.func (.func 78) #[] #[]] 66)) :
    Calls Tryz.prog 80 #[.agg #[.int .i64 st, .int .i64 dm, .int .i64 lo, .int .i64 hi], .pointer (some ⟨pb, 0, none⟩)] w fun e w' => e = .returned (.int .i64 (bndE ((st, dm), (lo, hi)))) ∧ Below w.heap.size w w' := by
  have hb : ∀ o, Below w.heap.size w (w.alloc o) := fun o => (Below.refl _ _).alloc (Nat.le_refl _) _
  obtain ⟨E, hE⟩ : ∃ E, bndE ((st, dm), (lo, hi)) = E := ⟨_, rfl⟩
  rw [hE]
  have HE := Lib.hid hE
  clear hE
  have x1 := alloc_new w (.cells #[.int .i64 st, .int .i64 dm, .int .i64 lo, .int .i64 hi] 105)
  have x2 := blk_keep h1 (hb (.cells #[.int .i64 st, .int .i64 dm, .int .i64 lo, .int .i64 hi] 105))
  go_enter Tryz.func80, Tryz.ntmps80
  go_wp2_with fail
  refine Calmly.wp_region_mix 26 (.fl 0 <| .fl 1 <| .fl 3 <| .fl 4 <| .fl 5 <| .fl 6 <| .fl 16 <| .fl 17 <| .fl 18 <| .fl 19 <| .fl 20 <| .fl 21 <| .fl 22 <| .eff 2 <| .eff 7 <| .fl 8 <| .gl 9 <| .gl 10 <| .gl 11 <| .gl 12 <| .gf 13 <| .fl 14 <| .eff 15 <| .eff 23 <| .eff 24 <| .eff 25 <| .tail [26]) (by kernel_rfl) (by kernel_rfl) ?_
  have BW := (hb (.cells #[.int .i64 st, .int .i64 dm, .int .i64 lo, .int .i64 hi] 105)).drew
  replace x1 := blk_keep x1 (Below.refl _ _).drew
  replace x2 := blk_keep x2 (Below.refl _ _).drew
  generalize World.drew _ = V at x1 x2 BW ⊢
  have f0 := cell_block x1 0
  have f1 := cell_block x1 1
  have f2 := cell_block x1 2
  have f3 := cell_block x1 3
  have f4 := cell_block x2 0
  have hk := Below.refl V.heap.size V
  cases hlo : wIn lo 0 1000000
  all_goals
    go_wp2_with (first | ((with_reducible refine Calmly.is_fl ?_); refine Calmly.mix_fl rfl ?_ (fun _ _ => ?_); (first | exact .move _ | exact .load _ _ | exact .fieldAddr _ _ _ (by kernel_rfl) | exact .assign _ | exact .binOp _ _ _ _ _ rfl | exact .indexAddr _ _ _ | exact .len _ _ (by kernel_rfl) | exact .field _ _ _ | exact .extract _ _ | exact .pick _ _ _ | exact .build _ _ | exact .slice _ _ _ _ _ | exact .unOp _ _ _ rfl | exact .index _ _ _ | exact .max _ _ _ rfl rfl | exact .min _ _ _ rfl rfl)) | ((with_reducible refine Calmly.is_gl ?_); refine Calmly.mix_gl rfl rfl rfl ?_; first | ((first | with_reducible refine Calmly.gl_tt ?_ (fun _ _ => ?_) | with_reducible refine Calmly.gl_ff ?_ (fun _ _ => ?_)); (first | exact .move _ | exact .load _ _ | exact .fieldAddr _ _ _ (by kernel_rfl) | exact .assign _ | exact .binOp _ _ _ _ _ rfl | exact .indexAddr _ _ _ | exact .len _ _ (by kernel_rfl) | exact .field _ _ _ | exact .extract _ _ | exact .pick _ _ _ | exact .build _ _ | exact .slice _ _ _ _ _ | exact .unOp _ _ _ rfl | exact .index _ _ _ | exact .max _ _ _ rfl rfl | exact .min _ _ _ rfl rfl)) | with_reducible refine Calmly.gl_tf (fun _ _ => ?_) | with_reducible refine Calmly.gl_ft (fun _ _ => ?_)) | ((with_reducible refine Calmly.is_eff ?_); refine Calmly.mix_eff rfl (fun _ _ => ?_)) | ((with_reducible refine Calmly.is_gf ?_); refine Calmly.mix_gf rfl rfl rfl ?_; first | with_reducible refine Calmly.gf_tt (fun _ _ => ?_) | with_reducible refine Calmly.gf_ff (fun _ _ => ?_) | with_reducible refine Calmly.gf_tf (kept_of hk) (fun _ _ => ?_) | with_reducible refine Calmly.gf_ft (kept_of hk) (fun _ _ => ?_)) | ((with_reducible refine Calmly.is_kept ?_); refine ⟨kept_of hk, ?_⟩) | (with_reducible refine Calmly.mix_alt ?_ ?_) | (refine kept_alloc hk (fun hk' hblk hge => ?_); replace hk := hk'; clear hk') | (go_at_call 50; refine (oscillatorErr_any st dm _).mono ?_; rintro e w1 ⟨rfl, hs⟩; replace hk := step_of hk hs) | (go_at_call 78; refine (isPeak_any _ _).mono ?_; rintro e w1 ⟨rfl, rfl⟩) | (go_at_call 27; refine (nUnless_any _ _ _).mono ?_; rintro e w1 ⟨rfl, rfl⟩))
    refine (nFirst_any _ 3 3 _ _ (SI.three _ _ _ _ _ (by simp))).mono ?_
    rintro e w1 ⟨rfl, rfl⟩
    go_wp2_with (first | ((with_reducible refine Calmly.is_fl ?_); refine Calmly.mix_fl rfl ?_ (fun _ _ => ?_); (first | exact .move _ | exact .load _ _ | exact .fieldAddr _ _ _ (by kernel_rfl) | exact .assign _ | exact .binOp _ _ _ _ _ rfl | exact .indexAddr _ _ _ | exact .len _ _ (by kernel_rfl) | exact .field _ _ _ | exact .extract _ _ | exact .pick _ _ _ | exact .build _ _ | exact .slice _ _ _ _ _ | exact .unOp _ _ _ rfl | exact .index _ _ _ | exact .max _ _ _ rfl rfl | exact .min _ _ _ rfl rfl)) | ((with_reducible refine Calmly.is_gl ?_); refine Calmly.mix_gl rfl rfl rfl ?_; first | ((first | with_reducible refine Calmly.gl_tt ?_ (fun _ _ => ?_) | with_reducible refine Calmly.gl_ff ?_ (fun _ _ => ?_)); (first | exact .move _ | exact .load _ _ | exact .fieldAddr _ _ _ (by kernel_rfl) | exact .assign _ | exact .binOp _ _ _ _ _ rfl | exact .indexAddr _ _ _ | exact .len _ _ (by kernel_rfl) | exact .field _ _ _ | exact .extract _ _ | exact .pick _ _ _ | exact .build _ _ | exact .slice _ _ _ _ _ | exact .unOp _ _ _ rfl | exact .index _ _ _ | exact .max _ _ _ rfl rfl | exact .min _ _ _ rfl rfl)) | with_reducible refine Calmly.gl_tf (fun _ _ => ?_) | with_reducible refine Calmly.gl_ft (fun _ _ => ?_)) | ((with_reducible refine Calmly.is_eff ?_); refine Calmly.mix_eff rfl (fun _ _ => ?_)) | ((with_reducible refine Calmly.is_gf ?_); refine Calmly.mix_gf rfl rfl rfl ?_; first | with_reducible refine Calmly.gf_tt (fun _ _ => ?_) | with_reducible refine Calmly.gf_ff (fun _ _ => ?_) | with_reducible refine Calmly.gf_tf (kept_of hk) (fun _ _ => ?_) | with_reducible refine Calmly.gf_ft (kept_of hk) (fun _ _ => ?_)) | ((with_reducible refine Calmly.is_tail ?_); first | refine Calmly.mix_tail_nil ?_ | refine Calmly.mix_tail rfl (fun _ _ => ?_)) | ((with_reducible refine Calmly.is_kept ?_); refine ⟨kept_of hk, ?_⟩) | (with_reducible refine Calmly.mix_alt ?_ ?_))
    go_ret
    refine ⟨ret_int ?_, BW.trans (hk.mono BW.size)⟩
    rw [← HE.out, bndE]
    simp [hlo]

set_option maxRecDepth 100000 in
set_option maxHeartbeats 1000000 in
theorem eachBnd_any (a : Option Addr) (n c : Nat) (l : List Four) (w : World) (h1 : SB w a n c l) (pb : Nat) (h2 : w.heap[pb]? = some (.cells #[.func (.func 78) #[] #[]] 66)) :
    Calls Tryz.prog 79 #[.slice a n c, .func (.func 80) #[] #[.pointer (some ⟨pb, 0, none⟩)]] w fun e w' => e = .returned (.int .i64 (firstE (l.map bndE))) ∧ Below w.heap.size w w' := by
  obtain ⟨l1, l2⟩ : n ≤ l.length ∧ l.length ≤ n := by have := h1.len; omega
  have m1 := h1.max
  have c1 := h1.cap
  obtain ⟨R, hR⟩ : ∃ R, firstE (l.map bndE) = R := ⟨_, rfl⟩
  rw [hR]
  have HR := Lib.hid hR
  clear hR
  go_enter Tryz.func79, Tryz.ntmps79
  go_wp2_with fail
  go_loopw [10] (fun i wr => ∃ k : Nat, k ≤ n ∧ i = .int .i64 k ∧ firstE ((l.drop k).map bndE) = R ∧ Below w.heap.size w wr) (fun i _ => n - (intOf i).toNat)
  case atStart => exact ⟨0, by omega, rfl, HR.out, Below.refl _ _⟩
  case round =>
    obtain ⟨k, hk, rfl, ht, hbr⟩ := hrel
    have HT := Lib.hid ht
    clear ht
    have hrs := hbr.size
    by_cases hlt : k < n
    · obtain ⟨cb, co, rfl, hcc⟩ := h1.at_ (by omega)
      obtain ⟨y0, y1, y2, y3⟩ := hcc k hlt
      replace y0 := cell_keep y0 hbr
      replace y1 := cell_keep y1 hbr
      replace y2 := cell_keep y2 hbr
      replace y3 := cell_keep y3 hbr
      clear hcc
      have hd := eachE_drop bndE l four0 k (by omega)
      rw [HT.out] at hd
      obtain ⟨rr, hrr⟩ : ∃ rr, l[k]?.getD four0 = rr := ⟨_, rfl⟩
      obtain ⟨⟨st, dm⟩, ⟨lo, hi⟩⟩ := rr
      rw [hrr] at y0 y1 y2 y3 hd
      clear hrr
      dsimp only at y0 y1 y2 y3
      obtain ⟨E, hE⟩ : ∃ E, bndE ((st, dm), (lo, hi)) = E := ⟨_, rfl⟩
      rw [hE] at hd
      have HD := Lib.hid hd
      have HE := Lib.hid hE
      clear hd hE
      have hi1 : (k : Int) < (n : Int) := by omega
      have hi0 : (0 : Int) ≤ (k : Int) := by omega
      go_wp2_with fail
      refine (bndErr_any st dm lo hi pb _ (blk_keep (blk_keep h2 hbr) ((Below.refl _ _).alloc (Nat.le_refl _) _))).mono ?_
      rintro e w1 ⟨rfl, hs⟩
      rw [HE.out]
      have hbn := hbr.trans (((Below.refl wr.heap.size wr).alloc (Nat.le_refl _) (.cells #[.int .i64 st, .int .i64 dm, .int .i64 lo, .int .i64 hi] 105)).trans (hs.mono (by simp)) |>.mono hrs)
      by_cases hz : E = 0
      · subst hz
        have hE0 : ((0 : Int) != 0) = false := rfl
        go_wp2_with fail
        go_roundw
        case rel => exact ⟨k + 1, by omega, by go_num, by rw [HD.out]; simp, hbn⟩
        case measure => simp [intOf]; omega
      · have b1 : (E != 0) = true := by simpa using hz
        have hRE : R = E := by rw [HD.out, if_neg hz]
        clear hz
        go_wp2_with fail
        go_ret
        exact ⟨ret_int hRE.symm, hbn⟩
    · have hle : (n : Int) ≤ (k : Int) := by omega
      have hR0 : R = 0 := by rw [← HT.out, List.drop_eq_nil_of_le (by omega)]; rfl
      go_wp2_with fail
      go_ret
      exact ⟨ret_int hR0.symm, hbr⟩

set_option maxHeartbeats 400000 in
theorem noSampleW_any (x : Int) (w : World) : Calls Tryz.prog 101 #[.int .i64 x] w fun e w' => e = .returned (.bool (!smp x)) ∧ w = w' := by
  go_enter Tryz.func101, Tryz.ntmps101
  go_wp2_with fail
  refine (isSample_any x _).mono ?_
  rintro e w1 ⟨rfl, rfl⟩
  go_wp2_with fail
  go_ret
  exact ⟨rfl, rfl⟩

set_option maxRecDepth 100000 in
set_option maxHeartbeats 1000000 in
theorem indexBadW_any (a : Option Addr) (n c : Nat) (xs : List Int) (w : World) (h1 : SI w a n c xs) :
    Calls Tryz.prog 61 #[.slice a n c, .func (.func 101) #[] #[]] w fun e w' => e = .returned (.int .i64 (badI xs)) ∧ w = w' := by
  obtain ⟨l1, l2⟩ : n ≤ xs.length ∧ xs.length ≤ n := by have := h1.len; omega
  have m1 := h1.max
  have c1 := h1.cap
  obtain ⟨R, hR⟩ : ∃ R, badI xs = R := ⟨_, rfl⟩
  rw [hR]
  have HR := Lib.hid hR
  clear hR
  go_enter Tryz.func61, Tryz.ntmps61
  go_wp2_with fail
  go_loop [8] (fun i => ∃ k : Nat, k ≤ n ∧ i = .int .i64 k ∧ badS xs 0 = badS (xs.drop k) k) (fun i => n - (intOf i).toNat)
  case atStart => exact ⟨0, by omega, rfl, rfl⟩
  case round =>
    obtain ⟨k, hk, rfl, ht⟩ := hrel
    have HT := Lib.hid ht
    clear ht
    by_cases hlt : k < n
    · obtain ⟨b1, o1, rfl, hc1⟩ := h1.at_ (by omega)
      have e1 := hc1 k hlt
      clear hc1
      have hi : (k : Int) < (n : Int) := by omega
      have hi0 : (0 : Int) ≤ (k : Int) := by omega
      have hd := badS_drop xs k (by omega)
      obtain ⟨x, hxx⟩ : ∃ x, xs[k]?.getD 0 = x := ⟨_, rfl⟩
      rw [hxx] at e1 hd
      have HD := Lib.hid hd
      clear hxx hd
      go_wp2_with fail
      refine (noSampleW_any _ _).mono ?_
      rintro e w1 ⟨rfl, rfl⟩
      cases ho : smp x
      · go_wp2_with fail
        go_ret
        refine ⟨ret_int ?_, rfl⟩
        rw [← HR.out, badI, HT.out, HD.out, ho]
        rfl
      · go_wp2_with fail
        go_round
        case rel => exact ⟨k + 1, by omega, by go_num, by rw [HT.out, HD.out, ho]; rfl⟩
        case measure => simp [intOf]; omega
    · have hle : (n : Int) ≤ (k : Int) := by omega
      go_wp2_with fail
      go_ret
      refine ⟨ret_int ?_, rfl⟩
      rw [← HR.out, badI, HT.out, List.drop_eq_nil_of_le (by omega)]
      rfl

set_option maxHeartbeats 400000 in
theorem containsBadW_any (a : Option Addr) (n c : Nat) (xs : List Int) (w : World) (h1 : SI w a n c xs) :
    Calls Tryz.prog 29 #[.slice a n c, .func (.func 101) #[] #[]] w fun e w' => e = .returned (.bool (badS xs 0).isSome) ∧ w = w' := by
  have hI : decide (badI xs ≥ 0) = (badS xs 0).isSome := by
    unfold badI
    cases badS xs 0 with
    | none => rfl
    | some i => simp
  have HI := Lib.hid hI
  clear hI
  go_enter Tryz.func29, Tryz.ntmps29
  go_wp2_with fail
  refine (indexBadW_any a n c xs _ h1).mono ?_
  rintro e w1 ⟨rfl, rfl⟩
  go_wp2_with fail
  go_ret
  exact ⟨ret_bool HI.out, rfl⟩

set_option maxRecDepth 100000 in
set_option maxHeartbeats 1000000 in
theorem wavErr_any (a : Option Addr) (n c : Nat) (xs : List Int) (step : Int) (ra : Option Addr) (rn rc pb : Nat) (w : World) (h1 : SI w a n c xs) (hn : rn ≤ 24) (hn2 : 0 < rn) (h2 : w.heap[pb]? = some (.cells #[.int .i64 step, .slice ra rn rc] 24)) :
    Calls Tryz.prog 100 #[.slice a n c, .pointer (some ⟨pb, 0, none⟩)] w fun e w' => e = .returned (.int .i64 (wavE rn xs)) ∧ Below w.heap.size w w' := by
  obtain ⟨l1, l2⟩ : n ≤ xs.length ∧ xs.length ≤ n := by have := h1.len; omega
  obtain ⟨E, hE⟩ : ∃ E, wavE rn xs = E := ⟨_, rfl⟩
  rw [hE]
  have HE := Lib.hid hE
  clear hE
  have f0 := cell_block h2 0
  have f1 := cell_block h2 1
  by_cases hl : n = rn
  case neg =>
    have b1 : ((n : Int) != (rn : Int)) = true := by simp; omega
    have hE1 : E = 10 := by rw [← HE.out, wavE, if_neg (by omega)]
    clear hl
    go_enter Tryz.func100, Tryz.ntmps100
    go_wp2_with fail
    go_ret
    exact ⟨ret_int hE1.symm, Below.refl _ _⟩
  subst hl
  have b1 : ((n : Int) != (n : Int)) = false := by simp
  cases hbs : badS xs 0 with
  | some i =>
    have hE1 : E = 2 := by rw [← HE.out, wavE, if_pos (by omega), hbs]; rfl
    have HB : Hid ((badS xs 0).isSome = true) := Lib.hid (by rw [hbs]; rfl)
    clear hbs
    go_enter Tryz.func100, Tryz.ntmps100
    go_wp2_with fail
    refine (containsBadW_any a n c xs _ h1).mono ?_
    rintro e w1 ⟨rfl, rfl⟩
    rw [HB.out]
    go_wp2_with fail
    go_ret
    exact ⟨ret_int hE1.symm, Below.refl _ _⟩
  | none =>
    have hq := badS_none hbs
    have HQ := Lib.hid hq
    obtain ⟨V, hV⟩ : ∃ V, sumT xs n = V := ⟨_, rfl⟩
    obtain ⟨D, hD⟩ : ∃ D, sumT (sumsF xs) n = D := ⟨_, rfl⟩
    have hE1 : E = unlessE (decide (V = 0 ∧ D = 0)) 21 := by rw [← HE.out, wavE, if_pos (by omega), if_pos hbs, hV, hD]
    have HE1 := Lib.hid hE1
    have HV := Lib.hid hV
    have HD := Lib.hid hD
    have HB : Hid ((badS xs 0).isSome = false) := Lib.hid (by rw [hbs]; rfl)
    clear hbs hq hE1 hV hD HE
    go_enter Tryz.func100, Tryz.ntmps100
    go_wp2_with fail
    refine (containsBadW_any a n c xs _ h1).mono ?_
    rintro e w1 ⟨rfl, rfl⟩
    rw [HB.out]
    go_wp2_with fail
    refine (end_any a n c xs _ h1 (by omega) (by omega) HQ.out V D HV.out HD.out).mono ?_
    rintro e w1 ⟨rfl, hs⟩
    go_wp2_with fail
    all_goals
      refine (nUnless_any _ _ _).mono ?_
      rintro e w2 ⟨rfl, rfl⟩
      go_wp2_with fail
      go_ret
      refine ⟨ret_int ?_, hs⟩
      rw [HE1.out]
      congr 1
      simp
      try omega

set_option maxRecDepth 100000 in
set_option maxHeartbeats 1000000 in
theorem eachWav_any (a : Option Addr) (n c : Nat) (l : List (List Int)) (w : World) (h1 : SW w a n c l) (step : Int) (ra : Option Addr) (rn rc pb : Nat) (hn : rn ≤ 24) (hn2 : 0 < rn) (h2 : w.heap[pb]? = some (.cells #[.int .i64 step, .slice ra rn rc] 24)) :
    Calls Tryz.prog 99 #[.slice a n c, .func (.func 100) #[] #[.pointer (some ⟨pb, 0, none⟩)]] w fun e w' => e = .returned (.int .i64 (firstE (l.map (wavE rn)))) ∧ Below w.heap.size w w' := by
  obtain ⟨l1, l2⟩ : n ≤ l.length ∧ l.length ≤ n := by have := h1.len; omega
  have m1 := h1.max
  have c1 := h1.cap
  obtain ⟨R, hR⟩ : ∃ R, firstE (l.map (wavE rn)) = R := ⟨_, rfl⟩
  rw [hR]
  have HR := Lib.hid hR
  clear hR
  go_enter Tryz.func99, Tryz.ntmps99
  go_wp2_with fail
  go_loopw [10] (fun i wr => ∃ k : Nat, k ≤ n ∧ i = .int .i64 k ∧ firstE ((l.drop k).map (wavE rn)) = R ∧ Below w.heap.size w wr) (fun i _ => n - (intOf i).toNat)
  case atStart => exact ⟨0, by omega, rfl, HR.out, Below.refl _ _⟩
  case round =>
    obtain ⟨k, hk, rfl, ht, hbr⟩ := hrel
    have HT := Lib.hid ht
    clear ht
    have hrs := hbr.size
    by_cases hlt : k < n
    · obtain ⟨cb, co, rfl, hcc⟩ := h1.at_ (by omega)
      obtain ⟨ya, yn, yc, y0, y1⟩ := hcc k hlt
      replace y0 := cell_keep y0 hbr
      replace y1 := y1.keep hbr
      clear hcc
      have hd := eachE_drop (wavE rn) l [] k (by omega)
      rw [HT.out] at hd
      obtain ⟨x, hxx⟩ : ∃ x, l[k]?.getD [] = x := ⟨_, rfl⟩
      rw [hxx] at y1 hd
      clear hxx
      obtain ⟨E, hE⟩ : ∃ E, (wavE rn) x = E := ⟨_, rfl⟩
      rw [hE] at hd
      have HD := Lib.hid hd
      have HE := Lib.hid hE
      clear hd hE
      have hi1 : (k : Int) < (n : Int) := by omega
      have hi0 : (0 : Int) ≤ (k : Int) := by omega
      go_wp2_with fail
      refine (wavErr_any ya yn yc x step ra rn rc pb _ y1 hn hn2 (blk_keep h2 hbr)).mono ?_
      rintro e w1 ⟨rfl, hs⟩
      rw [HE.out]
      have hbn := hbr.trans (hs.mono hrs)
      by_cases hz : E = 0
      · subst hz
        have hE0 : ((0 : Int) != 0) = false := rfl
        go_wp2_with fail
        go_roundw
        case rel => exact ⟨k + 1, by omega, by go_num, by rw [HD.out]; simp, hbn⟩
        case measure => simp [intOf]; omega
      · have b1 : (E != 0) = true := by simpa using hz
        have hRE : R = E := by rw [HD.out, if_neg hz]
        clear hz
        go_wp2_with fail
        go_ret
        exact ⟨ret_int hRE.symm, hbn⟩
    · have hle : (n : Int) ≤ (k : Int) := by omega
      have hR0 : R = 0 := by rw [← HT.out, List.drop_eq_nil_of_le (by omega)]; rfl
      go_wp2_with fail
      go_ret
      exact ⟨ret_int hR0.symm, hbr⟩

set_option maxRecDepth 100000 in
set_option maxHeartbeats 1000000 in
theorem bandErr_any (a : Option Addr) (n c : Nat) (l : List Four) (w : World) (h1 : SB w a n c l) (E : Int) (hE : bandE l = E) :
    Calls Tryz.prog 53 #[.slice a n c] w fun e w' => e = .returned (.int .i64 E) ∧ Below w.heap.size w w' := by
  obtain ⟨l1, l2⟩ : n ≤ l.length ∧ l.length ≤ n := by have := h1.len; omega
  have m1 := h1.max
  have c1 := h1.cap
  have e1 : decide (0 < l.length) = decide (0 < n) := by congr 1; rw [eq_iff_iff]; omega
  have e2 : decide (l.length ≤ 6) = decide ((n : Int) ≤ 6) := by congr 1; rw [eq_iff_iff]; omega
  unfold bandE at hE
  rw [e1, e2] at hE
  have HE := Lib.hid hE
  clear hE e1 e2
  have BW : Below w.heap.size w (w.alloc (.cells #[.func (.func 78) #[] #[]] 66)) := (Below.refl _ _).alloc (Nat.le_refl _) _
  have x1 := alloc_new w (.cells #[.func (.func 78) #[] #[]] 66)
  go_enter Tryz.func53, Tryz.ntmps53
  go_wp2_with fail
  refine (nUnless_any _ _ _).mono ?_
  rintro e w1 ⟨rfl, rfl⟩
  go_wp2_with fail
  refine (nUnless_any _ _ _).mono ?_
  rintro e w1 ⟨rfl, rfl⟩
  go_wp2_with fail
  refine (eachBnd_any a n c l _ (h1.keep BW) w.heap.size x1).mono ?_
  rintro e w1 ⟨rfl, hs⟩
  go_wp2_with fail
  refine (nFirst_any _ 3 3 _ _ (SI.three _ _ _ _ _ rfl)).mono ?_
  rintro e w2 ⟨rfl, rfl⟩
  go_wp2_with fail
  go_ret
  have B2 := BW.trans (hs.mono BW.size)
  exact ⟨ret_int HE.out, B2.alloc B2.size _⟩

set_option maxRecDepth 100000 in
set_option maxHeartbeats 1000000 in
theorem wavesErr_any (step : Int) (ra : Option Addr) (rn rc : Nat) (a : Option Addr) (n c : Nat) (l : List (List Int)) (w : World) (h1 : SW w a n c l) (hn : rn ≤ 24) (hn2 : 0 < rn) (E : Int) (hE : wavesE rn l = E) :
    Calls Tryz.prog 77 #[.agg #[.int .i64 step, .slice ra rn rc], .slice a n c] w fun e w' => e = .returned (.int .i64 E) ∧ Below w.heap.size w w' := by
  obtain ⟨l1, l2⟩ : n ≤ l.length ∧ l.length ≤ n := by have := h1.len; omega
  have m1 := h1.max
  have c1 := h1.cap
  have e2 : decide (l.length ≤ 3) = decide ((n : Int) ≤ 3) := by congr 1; rw [eq_iff_iff]; omega
  unfold wavesE at hE
  rw [e2] at hE
  have HE := Lib.hid hE
  clear hE e2
  have BW : Below w.heap.size w (w.alloc (.cells #[.int .i64 step, .slice ra rn rc] 24)) := (Below.refl _ _).alloc (Nat.le_refl _) _
  have x1 := alloc_new w (.cells #[.int .i64 step, .slice ra rn rc] 24)
  go_enter Tryz.func77, Tryz.ntmps77
  go_wp2_with fail
  refine (nUnless_any _ _ _).mono ?_
  rintro e w1 ⟨rfl, rfl⟩
  go_wp2_with fail
  refine (eachWav_any a n c l _ (h1.keep BW) step ra rn rc w.heap.size hn hn2 x1).mono ?_
  rintro e w1 ⟨rfl, hs⟩
  go_wp2_with fail
  refine (nFirst_any _ 2 2 _ _ (SI.two _ _ _ _ rfl)).mono ?_
  rintro e w2 ⟨rfl, rfl⟩
  go_wp2_with fail
  go_ret
  have B2 := BW.trans (hs.mono BW.size)
  exact ⟨ret_int HE.out, B2.alloc B2.size _⟩

/-- The error of a record, then that of waves. -/
def openE (step : Int) (xs : List Int) (ws : List (List Int)) : Int := if (recF step xs).2 = 0 then wavesE xs.length ws else (recF step xs).2
set_option maxRecDepth 100000 in
set_option maxHeartbeats 1000000 in
theorem openWaves_any (step : Int) (ra : Option Addr) (rn rc : Nat) (xs : List Int) (a : Option Addr) (n c : Nat) (l : List (List Int)) (w : World) (h0 : SI w ra rn rc xs) (h1 : SW w a n c l) (E : Int) (hE : openE step xs l = E) :
    Calls Tryz.prog 52 #[.agg #[.int .i64 step, .slice ra rn rc], .slice a n c] w fun e w' => e = .returned (.int .i64 E) ∧ Below w.heap.size w w' := by
  obtain ⟨l1, l2⟩ : rn ≤ xs.length ∧ xs.length ≤ rn := by have := h0.len; omega
  have m1 := h1.max
  have c1 := h1.cap
  obtain ⟨F, hF⟩ : ∃ F, (recF step xs).2 = F := ⟨_, rfl⟩
  unfold openE at hE
  rw [hF] at hE
  have HE := Lib.hid hE
  have HF := Lib.hid hF
  clear hE hF
  have BW : Below w.heap.size w (w.alloc (.cells #[.int .i64 step, .slice ra rn rc] 24)) := (Below.refl _ _).alloc (Nat.le_refl _) _
  go_enter Tryz.func52, Tryz.ntmps52
  go_wp2_with fail
  refine (recordErr_any step ra rn rc xs _ (h0.keep BW) F HF.out).mono ?_
  rintro e w1 ⟨rfl, hs⟩
  have x1 := box1 (w := w) (o := .cells #[.int .i64 step, .slice ra rn rc] 24) hs
  replace BW := BW.trans (hs.mono BW.size)
  have f0 := cell_block x1 0
  have f1 := cell_block x1 1
  clear hs
  by_cases hz : F = 0
  case neg =>
    have b1 : (F != 0) = true := by simpa using hz
    have hE1 : E = F := by rw [← HE.out, if_neg hz]
    clear hz
    go_wp2_with fail
    go_ret
    exact ⟨ret_int hE1.symm, BW⟩
  subst hz
  obtain ⟨q1, q2, q3, q4, q5⟩ := recF_ok HF.out
  have hq : rn ≤ 24 ∧ 0 < rn := by omega
  obtain ⟨hq1, hq2⟩ := hq
  clear q1 q2 q3 q4 q5
  go_wp2_with fail
  refine (wavesErr_any step ra rn rc a n c l _ (h1.keep BW) hq1 hq2 E (by rw [← HE.out]; simp; congr 1; omega)).mono ?_
  rintro e w2 ⟨rfl, hs⟩
  go_wp2_with fail
  go_ret
  exact ⟨rfl, BW.trans (hs.mono BW.size)⟩
end Go.Proofs.YtfjcfbmfpefabaaGreat

namespace Go.Proofs.YtfjcfbmfpefabaaGreat

/-- The sums of the first numbers, and of their squares. -/
def momT : Nat → Int
  | 0 => 0
  | k + 1 => momT k + ((k : Int) + 1)
def sqrT : Nat → Int
  | 0 => 0
  | k + 1 => sqrT k + ((k : Int) + 1) * ((k : Int) + 1)
theorem mom_bd (k : Nat) (h : k ≤ 24) : 0 ≤ momT k ∧ momT k ≤ 300 ∧ 0 ≤ sqrT k ∧ sqrT k ≤ 4900 := by
  have key : ∀ k : Fin 25, 0 ≤ momT k ∧ momT k ≤ 300 ∧ 0 ≤ sqrT k ∧ sqrT k ≤ 4900 := by decide
  exact key ⟨k, by omega⟩
def denR (n : Nat) : Int := (n : Int) * sqrT n - momT n * momT n
theorem denR_bd (n : Nat) (h1 : 2 ≤ n) (h2 : n ≤ 24) : 1 ≤ denR n ∧ denR n ≤ 27600 := by
  have key : ∀ k : Fin 25, 2 ≤ (k : Nat) → 1 ≤ denR k ∧ denR k ≤ 27600 := by decide
  exact key ⟨n, by omega⟩ h1
/-- The two prices times a number, and this number. -/
def prV (xs : List Int) : Int := sumT (sumsF xs) xs.length * momT xs.length - sumT xs xs.length * sqrT xs.length
def prD (xs : List Int) : Int := sumT xs xs.length * momT xs.length - sumT (sumsF xs) xs.length * (xs.length : Int)
def prG (xs : List Int) : Int := (gcds [denR xs.length, prV xs, prD xs] : Nat)
/-- They solve the equations: the changes end with the opposite velocity and displacement. -/
theorem pr_solve (xs : List Int) : prV xs * (xs.length : Int) + prD xs * momT xs.length = -(sumT xs xs.length * denR xs.length) ∧ prV xs * momT xs.length + prD xs * sqrT xs.length = -(sumT (sumsF xs) xs.length * denR xs.length) := by
  unfold prV prD denR
  constructor <;> grind
/-- Prices in lowest terms. -/
def prDen (xs : List Int) : Int := (denR xs.length).tdiv (prG xs)
def prVel (xs : List Int) : Int := (prV xs).tdiv (prG xs)
def prDis (xs : List Int) : Int := (prD xs).tdiv (prG xs)
/-- The parts before they are put in lowest terms. -/
def rsT (xs : List Int) (t : Nat) : Int := xs[t]?.getD 0 * prDen xs + (prVel xs + prDis xs * ((xs.length : Int) - (t : Int)))
def rsTo (xs : List Int) (k : Nat) : List Int := (List.range k).map (rsT xs)
theorem rsTo_succ (xs : List Int) (k : Nat) : rsTo xs (k + 1) = rsTo xs k ++ [rsT xs k] := by
  unfold rsTo
  rw [List.range_succ, List.map_append]
  rfl
def rdG (den : Int) (ps : List Int) : Int := (gcds (den :: ps) : Nat)
/-- The rest: its denominator and its parts. -/
def restD (xs : List Int) : Int := (prDen xs).tdiv (rdG (prDen xs) (rsTo xs xs.length))
def restP (xs : List Int) : List Int := (rsTo xs xs.length).map (fun p => p.tdiv (rdG (prDen xs) (rsTo xs xs.length)))

theorem ex_restD : restD [1, 0, -1, 2] = 5 := by decide
theorem ex_restP : restP [1, 0, -1, 2] = [4, -2, -8, 6] := by decide
theorem ex_sums : sumsF (sumsF [1, 0, -1, 2]) = [1, 2, 2, 4] := by decide
theorem ex_resp : rspTo [1, 0, -1, 2] 500 0 4 = [-1, -2, -1, -2] := by decide
end Go.Proofs.YtfjcfbmfpefabaaGreat

namespace Go.Proofs.YtfjcfbmfpefabaaGreat
open Go.RowKit
open Calmly (Kept)

set_option maxRecDepth 100000 in
set_option maxHeartbeats 1000000 in
theorem sumsB_any (a : Option Addr) (n c : Nat) (xs : List Int) (w : World) (h1 : SI w a n c xs) (hn : n ≤ 26) (hb : ∀ j : Nat, -100000000000000 ≤ xs[j]?.getD 0 ∧ xs[j]?.getD 0 ≤ 100000000000000) :
    Calls Tryz.prog 87 #[.slice a n c] w fun e w' => ∃ a' c', e = .returned (.slice a' n c') ∧ OwI w' w.heap.size a' n c' (sumsF xs) ∧ Below w.heap.size w w' := by
  obtain ⟨l1, l2⟩ : n ≤ xs.length ∧ xs.length ≤ n := by have := h1.len; omega
  have m1 := h1.max
  have c1 := h1.cap
  have HB := Lib.hid hb
  clear hb
  go_enter Tryz.func87, Tryz.ntmps87
  go_wp2_with fail
  go_loopw [4, 3, 9] (fun s v i wr => ∃ (k c' : Nat) (a' : Option Addr), i = .int .i64 (k : Int) ∧ k ≤ n ∧ s = .int .i64 (sumT xs k) ∧ v = .slice a' k c' ∧ OwI wr w.heap.size a' k c' (sumsTo xs k) ∧ Below w.heap.size w wr) (fun _ _ i _ => n - (intOf i).toNat)
  case atStart => exact ⟨0, 0, none, rfl, by omega, rfl, rfl, OwI.nil _ _, Below.refl _ _⟩
  case round =>
    obtain ⟨k, c', a', rfl, hk, rfl, rfl, hown, hbr⟩ := hrel
    have hs := hbr.size
    obtain ⟨b1, b2⟩ := sumT_bd HB.out k
    by_cases hlt : k < n
    · obtain ⟨ba, oa, rfl, hca⟩ := (h1.keep hbr).at_ (by omega)
      have ea := hca k hlt
      have hx := HB.out k
      have hn1 : sumT xs (k + 1) = sumT xs k + xs[k]?.getD 0 := rfl
      have hn2 := sumsTo_succ xs k
      rw [hn1] at hn2
      obtain ⟨x, hxx⟩ : ∃ x, xs[k]?.getD 0 = x := ⟨_, rfl⟩
      obtain ⟨s, hss⟩ : ∃ s, sumT xs k = s := ⟨_, rfl⟩
      rw [hxx] at ea hx hn1 hn2
      rw [hss] at b1 b2 hn1 hn2 ⊢
      have HN1 := Lib.hid hn1
      have HN2 := Lib.hid hn2
      clear hca hn1 hn2 hxx hss
      have hi : (k : Int) < (n : Int) := by omega
      have hi0 : (0 : Int) ≤ (k : Int) := by omega
      go_wp2_with (first | (at_builtin; refine appI rfl _ _ rfl hown rfl rfl (by omega) (by omega) ?_; intro a2' c2' w5 ho5 hb5 hs5))
      go_roundw
      case rel => exact ⟨k + 1, c2', a2', by go_num, by omega, by rw [HN1.out], rfl, by rw [HN2.out]; exact ho5, hbr.trans hb5⟩
      case measure => simp [intOf]; omega
    · have hle : (n : Int) ≤ (k : Int) := by omega
      obtain rfl : n = k := by omega
      go_wp2_with fail
      go_ret
      refine ⟨a', c', rfl, ?_, hbr⟩
      have e : sumsF xs = sumsTo xs n := by unfold sumsF sumsTo; rw [show xs.length = n by omega]
      rw [e]
      exact hown

set_option maxRecDepth 100000 in
set_option maxHeartbeats 1000000 in
theorem ofB_any (a : Option Addr) (n c : Nat) (xs : List Int) (w : World) (h1 : SI w a n c xs) (hn : n ≤ 26) (hb : ∀ j : Nat, -1000000000000 ≤ xs[j]?.getD 0 ∧ xs[j]?.getD 0 ≤ 1000000000000) :
    Calls Tryz.prog 64 #[.slice a n c] w fun e w' => ∃ av cv ad cd Bd, e = .returned (.agg #[.slice a n c, .slice av n cv, .slice ad n cd]) ∧ OwI w' (w.heap.size + 1) av n cv (sumsF xs) ∧ OwI w' Bd ad n cd (sumsF (sumsF xs)) ∧ w.heap.size + 1 ≤ Bd ∧ Below w.heap.size w w' := by
  have hA : ∀ o, Below w.heap.size w (w.alloc o) := fun o => (Below.refl _ _).alloc (Nat.le_refl _) _
  have m1 := h1.max
  have c1 := h1.cap
  obtain ⟨l1, l2⟩ : n ≤ xs.length ∧ xs.length ≤ n := by have := h1.len; omega
  have HB := Lib.hid hb
  have hb2 : Hid (∀ j : Nat, -100000000000000 ≤ (sumsF xs)[j]?.getD 0 ∧ (sumsF xs)[j]?.getD 0 ≤ 100000000000000) := Lib.hid (fun j => by
    rcases Nat.lt_or_ge j xs.length with h | h
    · rw [sumsF_get xs j h]
      have := sumT_bd hb (j + 1)
      omega
    · rw [List.getElem?_eq_none (by rw [sumsF_len]; exact h)]
      simp)
  clear hb
  go_enter Tryz.func64, Tryz.ntmps64
  go_wp2_with fail
  refine (sumsB_any a n c xs _ (h1.keep (hA _)) (by omega) (fun j => by have := HB.out j; omega)).mono ?_
  rintro e w1 ⟨av, cv, rfl, ov, hs⟩
  have x1 := box1 (w := w) (o := .cells #[.slice none 0 0, .slice none 0 0, .slice none 0 0] 112) hs
  have BW := (hA (.cells #[.slice none 0 0, .slice none 0 0, .slice none 0 0] 112)).trans (hs.mono (by simp))
  replace ov : OwI w1 (w.heap.size + 1) av n cv (sumsF xs) := by simpa using ov
  clear hs
  go_wp2_with fail
  refine (sumsB_any av n cv (sumsF xs) _ ov.si (by omega) hb2.out).mono ?_
  rintro e w2 ⟨ad, cd, rfl, od, hs⟩
  have x2 := blk_keep x1 hs
  have BW2 := BW.trans (hs.mono BW.size)
  have ov2 := ov.keep hs
  have hlt := blk_lt x1
  have f0 := cell_block x2 0
  have f1 := cell_block x2 1
  have f2 := cell_block x2 2
  have f3 := frozen_block x2 0
  have f4 := frozen_block x2 1
  have f5 := frozen_block x2 2
  clear hs ov BW x1
  go_wp2_with fail
  obtain ⟨s1, s2, s3⟩ := set3 (x := .slice a n c) (y := .slice av n cv) (z := .slice ad n cd) x2
  refine bodyPost_ret (v := .agg #[.slice a n c, .slice av n cv, .slice ad n cd]) (by simp [results, Tryz.results64, go_sem, s1, s2, s3]) rfl ⟨av, cv, ad, cd, w1.heap.size, rfl, ?_, ?_, by omega, ?_⟩
  · exact (ov2.under2 (by omega) _ _).under (by omega) _
  · exact (od.under2 (by omega) _ _).under (by omega) _
  · exact ((BW2.setCell (by simp) _).setCell (by simp) _).setCell (by simp) _

set_option maxRecDepth 100000 in
set_option maxHeartbeats 1000000 in
theorem endB_any (a : Option Addr) (n c : Nat) (xs : List Int) (w : World) (h1 : SI w a n c xs) (hn0 : 0 < n) (hn : n ≤ 26) (hb : ∀ j : Nat, -1000000000000 ≤ xs[j]?.getD 0 ∧ xs[j]?.getD 0 ≤ 1000000000000) (V D : Int) (hV : sumT xs n = V) (hD : sumT (sumsF xs) n = D) :
    Calls Tryz.prog 34 #[.slice a n c] w fun e w' => e = .returned (.agg #[.int .i64 V, .int .i64 D]) ∧ Below w.heap.size w w' := by
  have hA : ∀ (A : World) (o : Obj), Below A.heap.size A (A.alloc o) := fun A o => (Below.refl _ _).alloc (Nat.le_refl _) _
  obtain ⟨l1, l2⟩ : n ≤ xs.length ∧ xs.length ≤ n := by have := h1.len; omega
  have m1 := h1.max
  have c1 := h1.cap
  have HB := Lib.hid hb
  have e1 : (sumsF xs)[n - 1]?.getD 0 = V := by rw [sumsF_get xs (n - 1) (by omega), ← hV]; congr 1; omega
  have e2 : (sumsF (sumsF xs))[n - 1]?.getD 0 = D := by rw [sumsF_get (sumsF xs) (n - 1) (by rw [sumsF_len]; omega), ← hD]; congr 1; omega
  have HE1 := Lib.hid e1
  have HE2 := Lib.hid e2
  clear hb e1 e2 hV hD
  have hn1 : ((n : Int) - 1).toNat = n - 1 := by omega
  have hn2 : (0 : Int) ≤ (n : Int) - 1 := by omega
  have hn3 : (n : Int) - 1 < (n : Int) := by omega
  go_enter Tryz.func34, Tryz.ntmps34
  go_wp2_with fail
  refine (ofB_any a n c xs _ (h1.keep (hA _ _)) hn HB.out).mono ?_
  rintro e w1 ⟨av, cv, ad, cd, Bd, rfl, ov, od, hBd, hs⟩
  have x1 := box1 (w := w) (o := .cells #[.int .i64 0, .int .i64 0] 71) hs
  have BW := (hA w (.cells #[.int .i64 0, .int .i64 0] 71)).trans (hs.mono (by simp))
  have hk3 := hA w1 (.cells #[.slice a n c, .slice av n cv, .slice ad n cd] 112)
  have x3 := alloc_new w1 (.cells #[.slice a n c, .slice av n cv, .slice ad n cd] 112)
  have sv := ov.si.keep hk3
  have sd := od.si.keep hk3
  replace x1 := blk_keep x1 hk3
  replace BW := BW.trans (hk3.mono BW.size)
  obtain ⟨bv, oV, rfl, hcv⟩ := sv.at_ hn0
  obtain ⟨bd, oD, rfl, hcd⟩ := sd.at_ hn0
  have ev := hcv (n - 1) (by omega)
  have ed := hcd (n - 1) (by omega)
  rw [HE1.out] at ev
  rw [HE2.out] at ed
  clear hs hk3 hcv hcd ov od
  go_wp2_with fail
  refine Calmly.wp_region_mix 10 (.fl 0 <| .fl 1 <| .fl 2 <| .fl 3 <| .fl 4 <| .fl 5 <| .fl 6 <| .fl 7 <| .fl 8 <| .fl 9 <| .tail [10, 11]) (by kernel_rfl) (by kernel_rfl) ?_
  replace x3 := blk_keep x3 (Below.refl _ _).drew
  replace x1 := blk_keep x1 (Below.refl _ _).drew
  replace ev := cell_keep ev (Below.refl _ _).drew
  replace ed := cell_keep ed (Below.refl _ _).drew
  replace BW := BW.drew
  clear sv sd
  generalize World.drew _ = U at x1 x3 ev ed BW ⊢
  have f0 := cell_block x3 0
  have f1 := cell_block x3 1
  have f2 := cell_block x3 2
  have g0 := cell_block x1 0
  have g1 := cell_block x1 1
  have g2 := frozen_block x1 0
  have g3 := frozen_block x1 1
  have hk := Below.refl U.heap.size U
  go_wp2_with (first | ((with_reducible refine Calmly.is_fl ?_); refine Calmly.mix_fl rfl ?_ (fun _ _ => ?_); (first | exact .move _ | exact .load _ _ | exact .fieldAddr _ _ _ (by kernel_rfl) | exact .assign _ | exact .binOp _ _ _ _ _ rfl | exact .indexAddr _ _ _ | exact .len _ _ (by kernel_rfl) | exact .field _ _ _ | exact .extract _ _ | exact .pick _ _ _ | exact .build _ _ | exact .slice _ _ _ _ _ | exact .unOp _ _ _ rfl | exact .index _ _ _ | exact .max _ _ _ rfl rfl | exact .min _ _ _ rfl rfl)) | ((with_reducible refine Calmly.is_gl ?_); refine Calmly.mix_gl rfl rfl rfl ?_; first | ((first | with_reducible refine Calmly.gl_tt ?_ (fun _ _ => ?_) | with_reducible refine Calmly.gl_ff ?_ (fun _ _ => ?_)); (first | exact .move _ | exact .load _ _ | exact .fieldAddr _ _ _ (by kernel_rfl) | exact .assign _ | exact .binOp _ _ _ _ _ rfl | exact .indexAddr _ _ _ | exact .len _ _ (by kernel_rfl) | exact .field _ _ _ | exact .extract _ _ | exact .pick _ _ _ | exact .build _ _ | exact .slice _ _ _ _ _ | exact .unOp _ _ _ rfl | exact .index _ _ _ | exact .max _ _ _ rfl rfl | exact .min _ _ _ rfl rfl)) | with_reducible refine Calmly.gl_tf (fun _ _ => ?_) | with_reducible refine Calmly.gl_ft (fun _ _ => ?_)) | ((with_reducible refine Calmly.is_eff ?_); refine Calmly.mix_eff rfl (fun _ _ => ?_)) | ((with_reducible refine Calmly.is_gf ?_); refine Calmly.mix_gf rfl rfl rfl ?_; first | with_reducible refine Calmly.gf_tt (fun _ _ => ?_) | with_reducible refine Calmly.gf_ff (fun _ _ => ?_) | with_reducible refine Calmly.gf_tf (kept_of hk) (fun _ _ => ?_) | with_reducible refine Calmly.gf_ft (kept_of hk) (fun _ _ => ?_)) | ((with_reducible refine Calmly.is_tail ?_); first | refine Calmly.mix_tail_nil ?_ | refine Calmly.mix_tail rfl (fun _ _ => ?_)) | ((with_reducible refine Calmly.is_kept ?_); refine ⟨kept_of hk, ?_⟩) | (with_reducible refine Calmly.mix_alt ?_ ?_))
  obtain ⟨s1, s2, s3, s4⟩ := set2 (x := .int .i64 V) (y := .int .i64 D) g0 g1
  refine bodyPost_ret (v := .agg #[.int .i64 V, .int .i64 D]) (by simp [results, Tryz.results34, go_sem, s1, s2]) rfl ⟨rfl, ?_⟩
  exact (BW.setCell (by simp) _).setCell (by simp) _

/-- A part, and a denominator. -/
def prt (x : Int) : Bool := wIn x (-1000000000000) 1000000000000
def dnm (x : Int) : Bool := wIn x 1 1000000000
set_option maxHeartbeats 400000 in
theorem isPart_any (x : Int) (w : World) : Calls Tryz.prog 31 #[.int .i64 x] w fun e w' => e = .returned (.bool (prt x)) ∧ w = w' := by
  go_enter Tryz.func31, Tryz.ntmps31
  go_wp2_with fail
  refine (nSized_any x 1000000000000 _ (by omega) (by omega)).mono ?_
  rintro e w1 ⟨rfl, rfl⟩
  go_wp2_with fail
  go_ret
  exact ⟨rfl, rfl⟩
set_option maxHeartbeats 400000 in
theorem isDen_any (x : Int) (w : World) : Calls Tryz.prog 28 #[.int .i64 x] w fun e w' => e = .returned (.bool (dnm x)) ∧ w = w' := by
  go_enter Tryz.func28, Tryz.ntmps28
  go_wp2_with fail
  refine (nWithin_any x 1 1000000000 _).mono ?_
  rintro e w1 ⟨rfl, rfl⟩
  go_wp2_with fail
  go_ret
  exact ⟨rfl, rfl⟩
set_option maxHeartbeats 400000 in
theorem noPart_any (x : Int) (w : World) : Calls Tryz.prog 30 #[.int .i64 x] w fun e w' => e = .returned (.bool (!prt x)) ∧ w = w' := by
  go_enter Tryz.func30, Tryz.ntmps30
  go_wp2_with fail
  refine (isPart_any x _).mono ?_
  rintro e w1 ⟨rfl, rfl⟩
  go_wp2_with fail
  go_ret
  exact ⟨rfl, rfl⟩
/-- All of the first numbers are parts. -/
def prtB (xs : List Int) : Nat → Bool
  | 0 => true
  | k + 1 => prtB xs k && prt (xs[k]?.getD 0)
theorem prtB_all {xs : List Int} {k : Nat} (h : prtB xs k = true) : ∀ t, t < k → prt (xs[t]?.getD 0) = true := by
  induction k with
  | zero => intro t ht; omega
  | succ k ih =>
    unfold prtB at h
    rw [Bool.and_eq_true] at h
    intro t ht
    rcases Nat.lt_or_ge t k with h' | h'
    · exact ih h.1 t h'
    · obtain rfl : t = k := by omega
      exact h.2
theorem prtB_no {xs : List Int} {k n : Nat} (hk : k < n) (h : prt (xs[k]?.getD 0) = false) : prtB xs n = false := by
  rcases hb : prtB xs n with _ | _
  · rfl
  · have := prtB_all hb k hk
    rw [h] at this
    cases this

set_option maxRecDepth 100000 in
set_option maxHeartbeats 1000000 in
theorem indexPart_any (a : Option Addr) (n c : Nat) (xs : List Int) (w : World) (h1 : SI w a n c xs) :
    Calls Tryz.prog 61 #[.slice a n c, .func (.func 30) #[] #[]] w fun e w' => (∃ i : Int, e = .returned (.int .i64 i) ∧ decide (i ≥ 0) = !prtB xs n) ∧ w = w' := by
  obtain ⟨l1, l2⟩ : n ≤ xs.length ∧ xs.length ≤ n := by have := h1.len; omega
  have m1 := h1.max
  have c1 := h1.cap
  obtain ⟨R, hR⟩ : ∃ R, prtB xs n = R := ⟨_, rfl⟩
  rw [hR]
  have HR := Lib.hid hR
  clear hR
  go_enter Tryz.func61, Tryz.ntmps61
  go_wp2_with fail
  go_loop [8] (fun i => ∃ k : Nat, k ≤ n ∧ i = .int .i64 k ∧ prtB xs k = true) (fun i => n - (intOf i).toNat)
  case atStart => exact ⟨0, by omega, rfl, rfl⟩
  case round =>
    obtain ⟨k, hk, rfl, ht⟩ := hrel
    have HT := Lib.hid ht
    clear ht
    by_cases hlt : k < n
    · obtain ⟨b1, o1, rfl, hc1⟩ := h1.at_ (by omega)
      have e1 := hc1 k hlt
      clear hc1
      have hi : (k : Int) < (n : Int) := by omega
      have hi0 : (0 : Int) ≤ (k : Int) := by omega
      obtain ⟨x, hxx⟩ : ∃ x, xs[k]?.getD 0 = x := ⟨_, rfl⟩
      rw [hxx] at e1
      have HX := Lib.hid hxx
      clear hxx
      go_wp2_with fail
      refine (noPart_any _ _).mono ?_
      rintro e w1 ⟨rfl, rfl⟩
      cases ho : prt x
      · have hR0 : R = false := by rw [← HR.out]; exact prtB_no hlt (by rw [HX.out]; exact ho)
        go_wp2_with fail
        go_ret
        exact ⟨⟨_, rfl, by rw [hR0]; simp⟩, rfl⟩
      · go_wp2_with fail
        go_round
        case rel => exact ⟨k + 1, by omega, by go_num, by rw [prtB, HT.out, HX.out, ho]; rfl⟩
        case measure => simp [intOf]; omega
    · have hle : (n : Int) ≤ (k : Int) := by omega
      obtain rfl : k = n := by omega
      have hR0 : R = true := by rw [← HR.out]; exact HT.out
      go_wp2_with fail
      go_ret
      exact ⟨⟨_, rfl, by first | (rw [hR0]; rfl) | (subst hR0; simp)⟩, rfl⟩
set_option maxHeartbeats 400000 in
theorem containsPart_any (a : Option Addr) (n c : Nat) (xs : List Int) (w : World) (h1 : SI w a n c xs) :
    Calls Tryz.prog 29 #[.slice a n c, .func (.func 30) #[] #[]] w fun e w' => e = .returned (.bool (!prtB xs n)) ∧ w = w' := by
  go_enter Tryz.func29, Tryz.ntmps29
  go_wp2_with fail
  refine (indexPart_any a n c xs _ h1).mono ?_
  rintro e w1 ⟨⟨i, rfl, hi⟩, rfl⟩
  have HI := Lib.hid hi
  clear hi
  go_wp2_with fail
  go_ret
  exact ⟨ret_bool HI.out, rfl⟩
end Go.Proofs.YtfjcfbmfpefabaaGreat

namespace Go
open Go.RowKit Go.Shelf

/-- Every round goes on. -/
def OnOn {α : Type} (P : Program) (gf : Nat) (lb : Array Value) (enc : α → Array Value) (Kp : World → World → Prop) (S : List α → Prop) (N m : Nat) (w : World) : Prop :=
  ∀ (l : Nat) (J : List α → World → Prop) (W : World), Below w.heap.size w W → AbidesFrom W.heap.size J →
    (∀ pre x W1, J pre W1 → pre.length < N → YieldAt Fence.wide m P l (enc x) W1 fun e W' => e = .returned (.bool true) ∧ J (pre ++ [x]) W' ∧ Kp W1 W') →
    J [] W → Calls P gf (#[.func (.yield l) #[] #[]] ++ lb) W fun e W' => (∃ v, e = .returned v) ∧ ∃ xs, S xs ∧ J xs W'

theorem range_mid {P : Program} {n : Nat} {α : Type} {g : Operand} {ps : Array Tmp} {assign body : Code} {Q : Exit → Act → World → Prop} {a : Act} {w : World} {gf : Nat} {lb : Array Value}
    (hg : a.eval g = .func (.func gf) #[] lb) (eg : ∀ args w, (callFunc gf args).run P w = .ok (.enter gf args) w)
    {enc : α → Array Value} {Kp : World → World → Prop} {S : List α → Prop} {N m : Nat} (hseq : OnOn P gf lb enc Kp S N m w)
    (hKt : ∀ {A B C : World}, Kp A B → Kp B C → Kp A C) (hKb : ∀ (W : World) (l : Nat) (o o' : Obj), w.heap.size ≤ l → W.heap[l]? = some o → o.isCells = false → Kp W (W.putObj l o')) (hps : ∀ x, (enc x).size = ps.size)
    (I : List α → World → Prop) (hI : OwnFrom w.heap.size I) (h0 : I [] w) (Mid : List α → α → Act → World → Prop) (hM : ∀ pre x a', OwnFrom w.heap.size (fun (_ : Unit) W => Mid pre x a' W))
    (hassign : ∀ (l : Nat) (pre : List α) (x : α) (W : World) (K : Act → World → Prop), I pre W → pre.length < N → (∀ a' W', KeepsOthers W W' → Kp W W' → Mid pre x a' W' → K a' W') →
      assign.wpIn (Fence.wide.inRound l) m P (Exit.then K (fun _ _ _ => False)) { tmps := (ps.zip (enc x)).foldl (fun t (p, v) => t.setIfInBounds p v) a.tmps, defers := [] } W)
    (hbody : ∀ (l : Nat) (pre : List α) (x : α) (a' : Act) (W : World), Mid pre x a' W → body.wpIn (Fence.wide.inRound l) m P (fun e _ W' => e = .normal ∧ KeepsOthers W W' ∧ Kp W W' ∧ I (pre ++ [x]) W') a' W)
    (hdone : ∀ (D : Nat) (xs : List α) (W : World), w.heap.size ≤ D → S xs → I xs W → W.heap[D]? = some (.deferred (some [])) → Q .normal { a with defers := { target := .collected D, args := #[] } :: a.defers } W) :
    (Code.rangeFunc g ps assign body).wpIn Fence.wide n P Q a w := by
  refine wpIn_rangeFunc fun fn hfn => ?_
  obtain ⟨rec, hrec⟩ : ∃ rec : LoopState → Loop, rec = fun st => { state := st, pending := none, fn, tmps := a.tmps, params := ps, assign, body, defers := w.heap.size } := ⟨_, rfl⟩
  obtain ⟨W1, hW1⟩ : ∃ W1, (w.alloc (.deferred (some []))).alloc (.loop (rec .ready)) = W1 := ⟨_, rfl⟩
  have hL : W1.heap[w.heap.size + 1]? = some (.loop (rec .ready)) := by
    have := Go.Proofs.YtfjcfbmfpefabaaGreat.alloc_new (w.alloc (.deferred (some []))) (.loop (rec .ready))
    rw [← hW1]
    simpa using this
  have hD : W1.heap[w.heap.size]? = some (.deferred (some [])) := by
    rw [← hW1, Below.heap_alloc _ _ _ (by simp)]
    exact Go.Proofs.YtfjcfbmfpefabaaGreat.alloc_new w _
  have hb1 : Below w.heap.size w W1 := by
    rw [← hW1]
    exact ((Below.refl _ w).alloc (Nat.le_refl _) _).alloc (by simp) _
  have hI1 : I [] W1 := by
    rw [← hW1]
    exact hI.alloc _ (hI.alloc _ h0)
  have hs1 : W1.heap.size = w.heap.size + 2 := by rw [← hW1]; simp
  refine ⟨w.heap.size + 1, [{ target := .collected w.heap.size, args := #[] }], W1, { target := .fn (.func gf) lb, args := #[.func (.yield (w.heap.size + 1)) #[] #[]] }, W1, gf, #[.func (.yield (w.heap.size + 1)) #[] #[]] ++ lb, W1, ?_, ?_, fun _ _ => trivial, ?_, fun h => absurd h (by simp [Fence.wide]), ?_⟩
  · rw [← hW1, hrec]
    exact run_enterLoop_outer _ _ _ _ _
  · simp only [resolve, hg]
    simp [go_sem]
  · simp [invoke, go_sem, eg]
  · refine callsIn_wide.2 ?_
    refine (hseq (w.heap.size + 1) (fun pre W => (I pre W ∧ W.heap[w.heap.size + 1]? = some (.loop (rec .ready))) ∧ W.heap[w.heap.size]? = some (.deferred (some []))) W1 hb1 ?_ ?_ ⟨⟨hI1, hL⟩, hD⟩).mono ?_
    · -- what the iterator does of its own
      rintro s A B row ⟨⟨hs, hl⟩, hk⟩ hg' hr
      have hne : ∀ j, j < w.heap.size + 2 → some j ≠ row := fun j hj e => by
        have := (hr j e.symm).1
        omega
      refine ⟨⟨hI s A B row hs hg' fun r e => ?_, ?_⟩, ?_⟩
      · obtain ⟨h1, o, h2, h3⟩ := hr r e
        exact ⟨by omega, o, h2, Obj.not_cells_of_walk h3⟩
      · exact (hg'.block _ (Array.getElem?_eq_some_iff.1 hl).1 (hne _ (by omega))).trans hl
      · exact (hg'.block _ (Array.getElem?_eq_some_iff.1 hk).1 (hne _ (by omega))).trans hk
    · -- one round
      rintro pre x W ⟨⟨hi, hl⟩, hk⟩ hlen
      have hy := run_yield (P := P) (args := enc x) hl (by rw [hrec]; exact hps x)
      rw [hrec] at hy
      refine ⟨fn, _, assign, body, hy, roundIn_of_wpIn hfn (hassign _ pre x W _ hi hlen ?_)⟩
      intro a' Wa ha1 ha2 ha3
      have hl1 := ha1.same _ _ hl rfl
      have hk1 := ha1.same _ _ hk rfl
      have hlt : w.heap.size + 1 < Wa.heap.size := (Array.getElem?_eq_some_iff.1 hl1).1
      refine ⟨_, run_beginRound hl1 (by rw [hrec]), ?_⟩
      have hl2 : (Wa.putObj (w.heap.size + 1) (.loop { rec .ready with state := .busy })).heap[w.heap.size + 1]? = some (.loop { rec .ready with state := .busy }) := World.putObj_heap_same hlt
      have hk2 : (Wa.putObj (w.heap.size + 1) (.loop { rec .ready with state := .busy })).heap[w.heap.size]? = some (.deferred (some [])) := (World.putObj_heap_other (by omega)).trans hk1
      refine wpIn_mono (hbody _ pre x a' _ ((hM pre x a').putObj (s := ()) _ ha3 (by omega) hl1 rfl)) ?_
      rintro e a3 W3 ⟨rfl, hb3, hk3, hi3⟩
      have hl3 := hb3.same _ _ hl2 rfl
      have hr := run_endRound (P := P) none hl3
      rw [hrec] at hr hl3
      refine ⟨_, _, hr, rfl, ⟨⟨hI.putObj _ hi3 (by omega) hl3 rfl, ?_⟩, ?_⟩, ?_⟩
      · rw [hrec]
        exact World.putObj_heap_same (Array.getElem?_eq_some_iff.1 hl3).1
      · exact (World.putObj_heap_other (by omega)).trans (hb3.same _ _ hk2 rfl)
      · exact hKt ha2 (hKt (hKt (hKb _ _ _ _ (by omega) hl1 rfl) hk3) (hKb _ _ _ _ (by omega) hl3 rfl))
    · -- at the end
      rintro e W2 ⟨⟨v, rfl⟩, xs, hS, ⟨hi, hl⟩, hk⟩
      have hr := run_endLoop (P := P) hl (by rw [hrec]; simp)
      rw [hrec] at hr
      exact ⟨none, _, hr, hdone _ xs _ (Nat.le_refl _) hS (hI.putObj _ hi (by omega) hl rfl) ((World.putObj_heap_other (by omega)).trans hk)⟩
end Go
