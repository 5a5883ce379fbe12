/- Contracts of chapter 2: responses, spectra, and where samples are outside of a band. Contracts of chapter 2: samples with waves added, and sums of sizes. Contracts of chapter 2: all lists of times, yielded one after the other. A region that draws its order, walked by a plan within a round of a range over a function. -/
import Derived.Test.YtiibdndchkbefaaK06
namespace Go.Proofs.Ytiibdndchkbefaa
open Go.RowKit
open Calmly (Kept)

theorem tdiv_bd {X C : Int} (h1 : -C ≤ X) (h2 : X ≤ C) : -C ≤ X.tdiv 1000 ∧ X.tdiv 1000 ≤ C := by
  have h : (X.tdiv 1000).natAbs ≤ X.natAbs := by
    rw [Int.natAbs_tdiv]
    exact Nat.div_le_self _ _
  omega
/-- How great the numbers of a response are. -/
theorem rspT_num {xs : List Int} {st dm : Int} (ho : oscE (st, dm) = 0) (hx : ∀ j : Nat, -1000 ≤ xs[j]?.getD 0 ∧ xs[j]?.getD 0 ≤ 1000) (k : Nat) (hk : k ≤ 26) :
    (-10000000000000 ≤ (rspT xs st dm k).1 ∧ (rspT xs st dm k).1 ≤ 10000000000000) ∧ (-10000000000000 ≤ (rspT xs st dm k).2 ∧ (rspT xs st dm k).2 ≤ 10000000000000) := by
  obtain ⟨h1, h2⟩ := oscE_ok ho
  have h3 := rspT_bd (xs := xs) (st := st) (dm := dm) h1 h2 hx k
  have h4 := rspB_mono (j := k) (k := 26) hk
  have h5 := rspB_pos k
  have h6 := rspB_num.2
  omega
theorem rsp_nums {st dm u v x : Int} (ho : oscE (st, dm) = 0) (hu : -10000000000000 ≤ u ∧ u ≤ 10000000000000) (hv : -10000000000000 ≤ v ∧ v ≤ 10000000000000) (hx : -1000 ≤ x ∧ x ≤ 1000) :
    (-30000000000000000 ≤ st * u ∧ st * u ≤ 30000000000000000) ∧ (-10000000000000000 ≤ dm * (u - v) ∧ dm * (u - v) ≤ 10000000000000000) ∧ (-40000000000000000 ≤ (st * u + dm * (u - v)).tdiv 1000 ∧ (st * u + dm * (u - v)).tdiv 1000 ≤ 40000000000000000) := by
  obtain ⟨h1, h2⟩ := oscE_ok ho
  obtain ⟨p1, p2, _⟩ := rsp_step (st := st) (dm := dm) (a := u) (b := v) (x := x) (A := 10000000000000) (B := 10000000000000) h1 h2 hx hu hv
  have p3 := tdiv_bd (X := st * u + dm * (u - v)) (C := 40000000000000000) (by omega) (by omega)
  exact ⟨by omega, by omega, p3⟩

set_option maxRecDepth 100000 in
set_option maxHeartbeats 1000000 in
theorem response_any (a : Option Addr) (n c : Nat) (xs : List Int) (st dm : Int) (w : World) (h1 : SI w a n c xs) (hn : n ≤ 26) (ho : oscE (st, dm) = 0) (hb : ∀ j : Nat, -1000 ≤ xs[j]?.getD 0 ∧ xs[j]?.getD 0 ≤ 1000) :
    Calls Try.prog 102 #[.slice a n c, .agg #[.int .i64 st, .int .i64 dm]] w fun e w' => ∃ a' c', e = .returned (.slice a' n c') ∧ OwI w' (w.heap.size + 1) a' n c' (rspTo xs st dm n) ∧ Below w.heap.size w w' := by
  have m1 := h1.max
  have c1 := h1.cap
  have HO := Lib.hid ho
  have HB := Lib.hid hb
  clear ho hb
  have hA : Below w.heap.size w (w.alloc (.cells #[.int .i64 st, .int .i64 dm] 49)) := (Below.refl _ _).alloc (Nat.le_refl _) _
  have x1 := alloc_new w (.cells #[.int .i64 st, .int .i64 dm] 49)
  go_enter Try.func102, Try.ntmps102
  go_wp2_with fail
  obtain ⟨V, hV⟩ : ∃ V, w.alloc (.cells #[.int .i64 st, .int .i64 dm] 49) = V := ⟨_, rfl⟩
  have hVs : V.heap.size = w.heap.size + 1 := by rw [← hV]; simp
  rw [hV] at hA x1 ⊢
  clear hV
  go_loopw [5, 6, 7, 13] (fun o l s i wr => ∃ (k c' : Nat) (a' : Option Addr), i = .int .i64 (k : Int) ∧ k ≤ n ∧ l = .int .i64 (rspT xs st dm k).1 ∧ s = .int .i64 (rspT xs st dm k).2 ∧ o = .slice a' k c' ∧ OwI wr (w.heap.size + 1) a' k c' (rspTo xs st dm k) ∧ Below V.heap.size V wr) (fun _ _ _ i _ => n - (intOf i).toNat)
  case atStart => exact ⟨0, 0, none, rfl, by omega, rfl, rfl, rfl, OwI.nil _ _, Below.refl _ _⟩
  case round =>
    obtain ⟨k, c', a', rfl, hk, rfl, rfl, rfl, hown, hbr⟩ := hrel
    have hs := hbr.size
    have hbw := hA.trans (hbr.mono hA.size)
    have x2 := blk_keep x1 hbr
    have f0 := cell_block x2 0
    have f1 := cell_block x2 1
    by_cases hlt : k < n
    · obtain ⟨ba, oa, rfl, hca⟩ := (h1.keep hbw).at_ (by omega)
      have ea := hca k hlt
      have hx := HB.out k
      obtain ⟨b1, b2⟩ := rspT_num HO.out HB.out k (by omega)
      have hn1 : rspT xs st dm (k + 1) = (2 * (rspT xs st dm k).1 - (rspT xs st dm k).2 - (st * (rspT xs st dm k).1 + dm * ((rspT xs st dm k).1 - (rspT xs st dm k).2)).tdiv 1000 - xs[k]?.getD 0, (rspT xs st dm k).1) := rfl
      have hn2 := rspTo_succ xs st dm k
      obtain ⟨x, hxx⟩ : ∃ x, xs[k]?.getD 0 = x := ⟨_, rfl⟩
      obtain ⟨p, hpp⟩ : ∃ p, rspT xs st dm k = p := ⟨_, rfl⟩
      obtain ⟨u, v⟩ := p
      rw [hxx] at ea hx hn1
      rw [hpp] at b1 b2 hn1 ⊢
      dsimp only at b1 b2 hn1 ⊢
      obtain ⟨⟨g1, g2⟩, ⟨g3, g4⟩, g5, g6⟩ := rsp_nums HO.out b1 b2 hx
      rw [hn1] at hn2
      have HN1 := Lib.hid hn1
      have HN2 := Lib.hid hn2
      clear hca hn1 hn2 hxx hpp
      obtain ⟨hx1, hx2⟩ := hx
      obtain ⟨b1, b1'⟩ := b1
      obtain ⟨b2, b2'⟩ := b2
      have hi : (k : Int) < (n : Int) := by omega
      have hi0 : (0 : Int) ≤ (k : Int) := by omega
      go_wp2_with (first | (at_builtin; refine appI rfl _ _ rfl hown rfl rfl (by omega) (by omega) ?_; intro a2' c2' w5 ho5 hb5 hs5))
      go_roundw
      case rel => exact ⟨k + 1, c2', a2', by go_num, by omega, by rw [HN1.out], by rw [HN1.out], rfl, by rw [HN2.out]; exact ho5, hbr.trans (hb5.mono (by omega))⟩
      case measure => simp [intOf]; omega
    · have hle : (n : Int) ≤ (k : Int) := by omega
      obtain rfl : n = k := by omega
      go_wp2_with fail
      go_ret
      exact ⟨a', c', rfl, hown, hbw⟩

set_option maxRecDepth 100000 in
set_option maxHeartbeats 1000000 in
theorem ResponseOf_any (step st dm : Int) (a : Option Addr) (n c : Nat) (xs : List Int) (w : World) (h1 : SI w a n c xs) (E : Int) (X : List Int) (hE : firstE [(recF step xs).2, oscE (st, dm)] = E) (hno : E ≠ 0 → X = []) (hok : E = 0 → X = rspTo xs st dm n) :
    Calls Try.prog 38 #[.agg #[.int .i64 step, .slice a n c], .agg #[.int .i64 st, .int .i64 dm]] w fun e w' => ∃ a' n' c', e = .returned (.tuple #[.slice a' n' c', .int .i64 E]) ∧ SI w' a' n' c' X ∧ Below w.heap.size w w' := by
  have hb2 : Below w.heap.size w ((w.alloc (.cells #[.int .i64 step, .slice a n c] 24)).alloc (.cells #[.int .i64 st, .int .i64 dm] 49)) := ((Below.refl _ _).alloc (Nat.le_refl _) _).alloc (by simp) _
  obtain ⟨l1, l2⟩ : n ≤ xs.length ∧ xs.length ≤ n := by have := h1.len; omega
  have m1 := h1.max
  have c1 := h1.cap
  obtain ⟨F, hF⟩ : ∃ F, (recF step xs).2 = F := ⟨_, rfl⟩
  rw [hF] at hE
  have HE := Lib.hid hE
  have HF := Lib.hid hF
  have HNO := Lib.hid hno
  have HOK := Lib.hid hok
  clear hE hF hno hok
  have x1 := box1 (w := w) (o := .cells #[.int .i64 step, .slice a n c] 24) (W := w.alloc (.cells #[.int .i64 step, .slice a n c] 24)) (Below.alloc (Below.refl _ _) (Nat.le_refl _) (.cells #[.int .i64 st, .int .i64 dm] 49))
  have x2 := alloc_new (w.alloc (.cells #[.int .i64 step, .slice a n c] 24)) (.cells #[.int .i64 st, .int .i64 dm] 49)
  simp only [World.size_alloc] at x2
  go_enter Try.func38, Try.ntmps38
  go_wp2_with fail
  refine Calmly.wp_region_mix 6 (.fl 0 <| .fl 2 <| .eff 1 <| .eff 3 <| .eff 4 <| .eff 5 <| .tail [6]) (by kernel_rfl) (by kernel_rfl) ?_
  have BW := hb2.drew
  replace x1 := blk_keep x1 (Below.refl _ _).drew
  replace x2 := blk_keep x2 (Below.refl _ _).drew
  generalize World.drew _ = V at x1 x2 BW ⊢
  have f0 := cell_block x1 0
  have f1 := cell_block x1 1
  have f2 := cell_block x2 0
  have f3 := cell_block x2 1
  have hk := Below.refl V.heap.size V
  go_wp2_with (first | ((with_reducible refine Calmly.is_fl ?_); refine Calmly.mix_fl rfl ?_ (fun _ _ => ?_); (first | exact .move _ | exact .load _ _ | exact .fieldAddr _ _ _ (by kernel_rfl) | exact .assign _ | exact .binOp _ _ _ _ _ rfl | exact .indexAddr _ _ _ | exact .len _ _ (by kernel_rfl) | exact .field _ _ _ | exact .extract _ _ | exact .pick _ _ _ | exact .build _ _ | exact .slice _ _ _ _ _ | exact .unOp _ _ _ rfl | exact .index _ _ _ | exact .max _ _ _ rfl rfl | exact .min _ _ _ rfl rfl)) | ((with_reducible refine Calmly.is_gl ?_); refine Calmly.mix_gl rfl rfl rfl ?_; first | ((first | with_reducible refine Calmly.gl_tt ?_ (fun _ _ => ?_) | with_reducible refine Calmly.gl_ff ?_ (fun _ _ => ?_)); (first | exact .move _ | exact .load _ _ | exact .fieldAddr _ _ _ (by kernel_rfl) | exact .assign _ | exact .binOp _ _ _ _ _ rfl | exact .indexAddr _ _ _ | exact .len _ _ (by kernel_rfl) | exact .field _ _ _ | exact .extract _ _ | exact .pick _ _ _ | exact .build _ _ | exact .slice _ _ _ _ _ | exact .unOp _ _ _ rfl | exact .index _ _ _ | exact .max _ _ _ rfl rfl | exact .min _ _ _ rfl rfl)) | with_reducible refine Calmly.gl_tf (fun _ _ => ?_) | with_reducible refine Calmly.gl_ft (fun _ _ => ?_)) | ((with_reducible refine Calmly.is_eff ?_); refine Calmly.mix_eff rfl (fun _ _ => ?_)) | ((with_reducible refine Calmly.is_gf ?_); refine Calmly.mix_gf rfl rfl rfl ?_; first | with_reducible refine Calmly.gf_tt (fun _ _ => ?_) | with_reducible refine Calmly.gf_ff (fun _ _ => ?_) | with_reducible refine Calmly.gf_tf (kept_of hk) (fun _ _ => ?_) | with_reducible refine Calmly.gf_ft (kept_of hk) (fun _ _ => ?_)) | ((with_reducible refine Calmly.is_kept ?_); refine ⟨kept_of hk, ?_⟩) | (with_reducible refine Calmly.mix_alt ?_ ?_) | (refine kept_alloc hk (fun hk' hblk hge => ?_); replace hk := hk'; clear hk') | (go_at_call 92; refine (recordErr_any step a n c xs _ (h1.keep BW) F HF.out).mono ?_; rintro e w1 ⟨rfl, hs⟩; replace hk := step_of hk hs) | (go_at_call 101; refine (oscillatorErr_any st dm _).mono ?_; rintro e w1 ⟨rfl, hs⟩; replace hk := step_of hk hs))
  refine (nFirst_any _ 2 2 _ _ (SI.two _ _ _ _ (by simp))).mono ?_
  rintro e w2 ⟨rfl, rfl⟩
  rw [HE.out]
  replace BW := BW.trans (hk.mono BW.size)
  replace x1 := blk_keep x1 hk
  replace x2 := blk_keep x2 hk
  clear f0 f1 f2 f3
  have f0 := cell_block x1 0
  have f1 := cell_block x1 1
  have f2 := cell_block x2 0
  have f3 := cell_block x2 1
  by_cases hz : E = 0
  case neg =>
    obtain rfl := HNO.out hz
    have b1 : (E != 0) = true := by simpa using hz
    clear hz
    go_wp2_with (first | ((with_reducible refine Calmly.is_fl ?_); refine Calmly.mix_fl rfl ?_ (fun _ _ => ?_); (first | exact .move _ | exact .load _ _ | exact .fieldAddr _ _ _ (by kernel_rfl) | exact .assign _ | exact .binOp _ _ _ _ _ rfl | exact .indexAddr _ _ _ | exact .len _ _ (by kernel_rfl) | exact .field _ _ _ | exact .extract _ _ | exact .pick _ _ _ | exact .build _ _ | exact .slice _ _ _ _ _ | exact .unOp _ _ _ rfl | exact .index _ _ _ | exact .max _ _ _ rfl rfl | exact .min _ _ _ rfl rfl)) | ((with_reducible refine Calmly.is_gl ?_); refine Calmly.mix_gl rfl rfl rfl ?_; first | ((first | with_reducible refine Calmly.gl_tt ?_ (fun _ _ => ?_) | with_reducible refine Calmly.gl_ff ?_ (fun _ _ => ?_)); (first | exact .move _ | exact .load _ _ | exact .fieldAddr _ _ _ (by kernel_rfl) | exact .assign _ | exact .binOp _ _ _ _ _ rfl | exact .indexAddr _ _ _ | exact .len _ _ (by kernel_rfl) | exact .field _ _ _ | exact .extract _ _ | exact .pick _ _ _ | exact .build _ _ | exact .slice _ _ _ _ _ | exact .unOp _ _ _ rfl | exact .index _ _ _ | exact .max _ _ _ rfl rfl | exact .min _ _ _ rfl rfl)) | with_reducible refine Calmly.gl_tf (fun _ _ => ?_) | with_reducible refine Calmly.gl_ft (fun _ _ => ?_)) | ((with_reducible refine Calmly.is_eff ?_); refine Calmly.mix_eff rfl (fun _ _ => ?_)) | ((with_reducible refine Calmly.is_gf ?_); refine Calmly.mix_gf rfl rfl rfl ?_; first | with_reducible refine Calmly.gf_tt (fun _ _ => ?_) | with_reducible refine Calmly.gf_ff (fun _ _ => ?_) | with_reducible refine Calmly.gf_tf (kept_of hk) (fun _ _ => ?_) | with_reducible refine Calmly.gf_ft (kept_of hk) (fun _ _ => ?_)) | ((with_reducible refine Calmly.is_tail ?_); first | refine Calmly.mix_tail_nil ?_ | refine Calmly.mix_tail rfl (fun _ _ => ?_)) | ((with_reducible refine Calmly.is_kept ?_); refine ⟨kept_of hk, ?_⟩) | (with_reducible refine Calmly.mix_alt ?_ ?_))
    go_ret2
    exact ⟨none, 0, 0, rfl, Sl.nil _ 1, BW⟩
  subst hz
  obtain rfl := HOK.out rfl
  have hz2 : F = 0 ∧ oscE (st, dm) = 0 := ⟨firstE_all HE.out _ (by simp), firstE_all HE.out _ (by simp)⟩
  obtain ⟨rfl, ho⟩ := hz2
  obtain ⟨q1, q2, q3, q4, q5⟩ := recF_ok HF.out
  have hq : n ≤ 26 := by omega
  have H5 := Lib.hid q5
  have HO := Lib.hid ho
  clear q1 q2 q3 q4 q5 ho
  go_wp2_with (first | ((with_reducible refine Calmly.is_fl ?_); refine Calmly.mix_fl rfl ?_ (fun _ _ => ?_); (first | exact .move _ | exact .load _ _ | exact .fieldAddr _ _ _ (by kernel_rfl) | exact .assign _ | exact .binOp _ _ _ _ _ rfl | exact .indexAddr _ _ _ | exact .len _ _ (by kernel_rfl) | exact .field _ _ _ | exact .extract _ _ | exact .pick _ _ _ | exact .build _ _ | exact .slice _ _ _ _ _ | exact .unOp _ _ _ rfl | exact .index _ _ _ | exact .max _ _ _ rfl rfl | exact .min _ _ _ rfl rfl)) | ((with_reducible refine Calmly.is_gl ?_); refine Calmly.mix_gl rfl rfl rfl ?_; first | ((first | with_reducible refine Calmly.gl_tt ?_ (fun _ _ => ?_) | with_reducible refine Calmly.gl_ff ?_ (fun _ _ => ?_)); (first | exact .move _ | exact .load _ _ | exact .fieldAddr _ _ _ (by kernel_rfl) | exact .assign _ | exact .binOp _ _ _ _ _ rfl | exact .indexAddr _ _ _ | exact .len _ _ (by kernel_rfl) | exact .field _ _ _ | exact .extract _ _ | exact .pick _ _ _ | exact .build _ _ | exact .slice _ _ _ _ _ | exact .unOp _ _ _ rfl | exact .index _ _ _ | exact .max _ _ _ rfl rfl | exact .min _ _ _ rfl rfl)) | with_reducible refine Calmly.gl_tf (fun _ _ => ?_) | with_reducible refine Calmly.gl_ft (fun _ _ => ?_)) | ((with_reducible refine Calmly.is_eff ?_); refine Calmly.mix_eff rfl (fun _ _ => ?_)) | ((with_reducible refine Calmly.is_gf ?_); refine Calmly.mix_gf rfl rfl rfl ?_; first | with_reducible refine Calmly.gf_tt (fun _ _ => ?_) | with_reducible refine Calmly.gf_ff (fun _ _ => ?_) | with_reducible refine Calmly.gf_tf (kept_of hk) (fun _ _ => ?_) | with_reducible refine Calmly.gf_ft (kept_of hk) (fun _ _ => ?_)) | ((with_reducible refine Calmly.is_tail ?_); first | refine Calmly.mix_tail_nil ?_ | refine Calmly.mix_tail rfl (fun _ _ => ?_)) | ((with_reducible refine Calmly.is_kept ?_); refine ⟨kept_of hk, ?_⟩) | (with_reducible refine Calmly.mix_alt ?_ ?_))
  refine (response_any a n c xs st dm _ (h1.keep BW) hq HO.out H5.out).mono ?_
  rintro e w3 ⟨a', c', rfl, o3, hs⟩
  go_wp2_with fail
  go_ret2
  exact ⟨a', n, c', rfl, o3.si, BW.trans (hs.mono BW.size)⟩

set_option maxRecDepth 100000 in
set_option maxHeartbeats 1000000 in
theorem outside_any (a : Option Addr) (n c : Nat) (xs : List Int) (b : Option Addr) (m d : Nat) (l : List Four) (w : World) (h1 : SI w a n c xs) (h2 : SB w b m d l) (hn0 : 0 < n) (hn : n ≤ 26) (hb : ∀ j : Nat, -1000 ≤ xs[j]?.getD 0 ∧ xs[j]?.getD 0 ≤ 1000) (hm : m ≤ 1000) (ho : ∀ k, k < l.length → oscE (l[k]?.getD four0).1 = 0) :
    Calls Try.prog 88 #[.slice a n c, .slice b m d] w fun e w' => ∃ a' n' c', e = .returned (.slice a' n' c') ∧ OwI w' w.heap.size a' n' c' (outT xs l m) ∧ Below w.heap.size w w' := by
  obtain ⟨l1, l2⟩ : n ≤ xs.length ∧ xs.length ≤ n := by have := h1.len; omega
  obtain ⟨k1, k2⟩ : m ≤ l.length ∧ l.length ≤ m := by have := h2.len; omega
  have m1 := h1.max
  have c1 := h1.cap
  have m2 := h2.max
  have c2 := h2.cap
  have HB := Lib.hid hb
  have HO := Lib.hid ho
  clear hb ho
  go_enter Try.func88, Try.ntmps88
  go_wp2_with fail
  go_loopw [5, 10] (fun o i wr => ∃ (k n' c' : Nat) (a' : Option Addr), i = .int .i64 (k : Int) ∧ k ≤ m ∧ o = .slice a' n' c' ∧ n' ≤ k ∧ OwI wr w.heap.size a' n' c' (outT xs l k) ∧ Below w.heap.size w wr) (fun _ i _ => m - (intOf i).toNat)
  case atStart => exact ⟨0, 0, 0, none, rfl, by omega, rfl, by omega, OwI.nil _ _, Below.refl _ _⟩
  case round =>
    obtain ⟨k, n', c', a', rfl, hk, rfl, hnk, hown, hbr⟩ := hrel
    have hrs := hbr.size
    by_cases hlt : k < m
    · obtain ⟨cb, co, rfl, hcc⟩ := (h2.keep hbr).at_ (by omega)
      obtain ⟨y0, y1, y2, y3⟩ := hcc k hlt
      have hoo := HO.out k (by omega)
      have hns := outT_succ xs l k
      obtain ⟨rr, hrr⟩ : ∃ rr, l[k]?.getD four0 = rr := ⟨_, rfl⟩
      obtain ⟨⟨st, dm⟩, ⟨lo, hi⟩⟩ := rr
      rw [hrr] at y0 y1 y2 y3 hoo hns
      dsimp only at y0 y1 y2 y3 hoo
      clear hrr hcc
      obtain ⟨P, hP⟩ : ∃ P, gsT (rspTo xs st dm n) n = P := ⟨_, rfl⟩
      have hob : outB xs ((st, dm), (lo, hi)) = !(wIn P lo hi) := by
        unfold outB pkO
        rw [show xs.length = n by omega, hP]
      rw [hob] at hns
      have hPb : ∀ j : Nat, -9000000000000000000 ≤ (rspTo xs st dm n)[j]?.getD 0 ∧ (rspTo xs st dm n)[j]?.getD 0 ≤ 9000000000000000000 := by
        intro j
        rcases Nat.lt_or_ge j n with hj | hj
        · rw [rspTo_get xs st dm n j hj]
          have := rspT_num hoo HB.out (j + 1) (by omega)
          omega
        · rw [List.getElem?_eq_none (by rw [rspTo_len]; exact hj)]
          simp
      have HP := Lib.hid hP
      have HPB := Lib.hid hPb
      have HOO := Lib.hid hoo
      clear hP hPb hob hoo
      have hi1 : (k : Int) < (m : Int) := by omega
      have hi0 : (0 : Int) ≤ (k : Int) := by omega
      cases hwb : wIn P lo hi
      · have hns2 : outT xs l (k + 1) = outT xs l k ++ [(k : Int)] := by rw [hns, hwb]; rfl
        have HNS := Lib.hid hns2
        have HWB := Lib.hid hwb
        clear hns hns2 hwb
        go_wp2_with fail
        refine Calmly.wp_region_mix 12 (.fl 0 <| .fl 1 <| .fl 2 <| .fl 5 <| .fl 6 <| .fl 7 <| .fl 8 <| .fl 9 <| .fl 10 <| .eff 3 <| .eff 4 <| .eff 11 <| .tail [12]) (by kernel_rfl) (by kernel_rfl) ?_
        have x1 := blk_keep (alloc_new wr (.cells #[.int .i64 st, .int .i64 dm, .int .i64 lo, .int .i64 hi] 51)) (Below.refl _ _).drew
        have BV : Below wr.heap.size wr (wr.alloc (.cells #[.int .i64 st, .int .i64 dm, .int .i64 lo, .int .i64 hi] 51)).drew := ((Below.refl _ _).alloc (Nat.le_refl _) _).drew
        generalize World.drew _ = V at x1 BV ⊢
        have f0 := cell_block x1 0
        have f1 := cell_block x1 1
        have f2 := cell_block x1 2
        have f3 := cell_block x1 3
        have hk := Below.refl V.heap.size V
        go_wp2_with (first | ((with_reducible refine Calmly.is_fl ?_); refine Calmly.mix_fl rfl ?_ (fun _ _ => ?_); (first | exact .move _ | exact .load _ _ | exact .fieldAddr _ _ _ (by kernel_rfl) | exact .assign _ | exact .binOp _ _ _ _ _ rfl | exact .indexAddr _ _ _ | exact .len _ _ (by kernel_rfl) | exact .field _ _ _ | exact .extract _ _ | exact .pick _ _ _ | exact .build _ _ | exact .slice _ _ _ _ _ | exact .unOp _ _ _ rfl | exact .index _ _ _ | exact .max _ _ _ rfl rfl | exact .min _ _ _ rfl rfl)) | ((with_reducible refine Calmly.is_gl ?_); refine Calmly.mix_gl rfl rfl rfl ?_; first | ((first | with_reducible refine Calmly.gl_tt ?_ (fun _ _ => ?_) | with_reducible refine Calmly.gl_ff ?_ (fun _ _ => ?_)); (first | exact .move _ | exact .load _ _ | exact .fieldAddr _ _ _ (by kernel_rfl) | exact .assign _ | exact .binOp _ _ _ _ _ rfl | exact .indexAddr _ _ _ | exact .len _ _ (by kernel_rfl) | exact .field _ _ _ | exact .extract _ _ | exact .pick _ _ _ | exact .build _ _ | exact .slice _ _ _ _ _ | exact .unOp _ _ _ rfl | exact .index _ _ _ | exact .max _ _ _ rfl rfl | exact .min _ _ _ rfl rfl)) | with_reducible refine Calmly.gl_tf (fun _ _ => ?_) | with_reducible refine Calmly.gl_ft (fun _ _ => ?_)) | ((with_reducible refine Calmly.is_eff ?_); refine Calmly.mix_eff rfl (fun _ _ => ?_)) | ((with_reducible refine Calmly.is_gf ?_); refine Calmly.mix_gf rfl rfl rfl ?_; first | with_reducible refine Calmly.gf_tt (fun _ _ => ?_) | with_reducible refine Calmly.gf_ff (fun _ _ => ?_) | with_reducible refine Calmly.gf_tf (kept_of hk) (fun _ _ => ?_) | with_reducible refine Calmly.gf_ft (kept_of hk) (fun _ _ => ?_)) | ((with_reducible refine Calmly.is_tail ?_); first | refine Calmly.mix_tail_nil ?_ | refine Calmly.mix_tail rfl (fun _ _ => ?_)) | ((with_reducible refine Calmly.is_kept ?_); refine ⟨kept_of hk, ?_⟩) | (with_reducible refine Calmly.mix_alt ?_ ?_) | (go_at_call 102; refine (response_any a n c xs st dm _ ((h1.keep hbr).keep BV) hn HOO.out HB.out).mono ?_; rintro e w3 ⟨a3, c3, rfl, o3, hs3⟩; replace hk := step_of hk hs3) | (go_at_call 104; refine (peak_any a3 n c3 _ _ o3.si hn0 HPB.out).mono ?_; rintro e w4 ⟨rfl, rfl⟩; rw [HP.out]) | (go_at_call 94; refine (nWithin_any _ _ _ _).mono ?_; rintro e w5 ⟨rfl, rfl⟩; rw [HWB.out]) | (at_builtin; refine appI rfl _ _ rfl (hown.keep (BV.trans (hk.mono BV.size))) rfl rfl (by omega) (by have := BV.size; have := hk.size; omega) ?_; intro a2' c2' w6 ho6 hb6 hs6))
        go_roundw
        case rel => exact ⟨k + 1, n' + 1, c2', a2', by go_num, by omega, rfl, by omega, by rw [HNS.out]; exact ho6, hbr.trans ((BV.trans (hk.mono BV.size)).mono hrs |>.trans (hb6.mono (by omega)))⟩
        case measure => simp [intOf]; omega
      · have hns2 : outT xs l (k + 1) = outT xs l k := by rw [hns, hwb]; rfl
        have HNS := Lib.hid hns2
        have HWB := Lib.hid hwb
        clear hns hns2 hwb
        go_wp2_with fail
        refine Calmly.wp_region_mix 12 (.fl 0 <| .fl 1 <| .fl 2 <| .fl 5 <| .fl 6 <| .fl 7 <| .fl 8 <| .fl 9 <| .fl 10 <| .eff 3 <| .eff 4 <| .eff 11 <| .tail [12]) (by kernel_rfl) (by kernel_rfl) ?_
        have x1 := blk_keep (alloc_new wr (.cells #[.int .i64 st, .int .i64 dm, .int .i64 lo, .int .i64 hi] 51)) (Below.refl _ _).drew
        have BV : Below wr.heap.size wr (wr.alloc (.cells #[.int .i64 st, .int .i64 dm, .int .i64 lo, .int .i64 hi] 51)).drew := ((Below.refl _ _).alloc (Nat.le_refl _) _).drew
        generalize World.drew _ = V at x1 BV ⊢
        have f0 := cell_block x1 0
        have f1 := cell_block x1 1
        have f2 := cell_block x1 2
        have f3 := cell_block x1 3
        have hk := Below.refl V.heap.size V
        go_wp2_with (first | ((with_reducible refine Calmly.is_fl ?_); refine Calmly.mix_fl rfl ?_ (fun _ _ => ?_); (first | exact .move _ | exact .load _ _ | exact .fieldAddr _ _ _ (by kernel_rfl) | exact .assign _ | exact .binOp _ _ _ _ _ rfl | exact .indexAddr _ _ _ | exact .len _ _ (by kernel_rfl) | exact .field _ _ _ | exact .extract _ _ | exact .pick _ _ _ | exact .build _ _ | exact .slice _ _ _ _ _ | exact .unOp _ _ _ rfl | exact .index _ _ _ | exact .max _ _ _ rfl rfl | exact .min _ _ _ rfl rfl)) | ((with_reducible refine Calmly.is_gl ?_); refine Calmly.mix_gl rfl rfl rfl ?_; first | ((first | with_reducible refine Calmly.gl_tt ?_ (fun _ _ => ?_) | with_reducible refine Calmly.gl_ff ?_ (fun _ _ => ?_)); (first | exact .move _ | exact .load _ _ | exact .fieldAddr _ _ _ (by kernel_rfl) | exact .assign _ | exact .binOp _ _ _ _ _ rfl | exact .indexAddr _ _ _ | exact .len _ _ (by kernel_rfl) | exact .field _ _ _ | exact .extract _ _ | exact .pick _ _ _ | exact .build _ _ | exact .slice _ _ _ _ _ | exact .unOp _ _ _ rfl | exact .index _ _ _ | exact .max _ _ _ rfl rfl | exact .min _ _ _ rfl rfl)) | with_reducible refine Calmly.gl_tf (fun _ _ => ?_) | with_reducible refine Calmly.gl_ft (fun _ _ => ?_)) | ((with_reducible refine Calmly.is_eff ?_); refine Calmly.mix_eff rfl (fun _ _ => ?_)) | ((with_reducible refine Calmly.is_gf ?_); refine Calmly.mix_gf rfl rfl rfl ?_; first | with_reducible refine Calmly.gf_tt (fun _ _ => ?_) | with_reducible refine Calmly.gf_ff (fun _ _ => ?_) | with_reducible refine Calmly.gf_tf (kept_of hk) (fun _ _ => ?_) | with_reducible refine Calmly.gf_ft (kept_of hk) (fun _ _ => ?_)) | ((with_reducible refine Calmly.is_tail ?_); first | refine Calmly.mix_tail_nil ?_ | refine Calmly.mix_tail rfl (fun _ _ => ?_)) | ((with_reducible refine Calmly.is_kept ?_); refine ⟨kept_of hk, ?_⟩) | (with_reducible refine Calmly.mix_alt ?_ ?_) | (go_at_call 102; refine (response_any a n c xs st dm _ ((h1.keep hbr).keep BV) hn HOO.out HB.out).mono ?_; rintro e w3 ⟨a3, c3, rfl, o3, hs3⟩; replace hk := step_of hk hs3) | (go_at_call 104; refine (peak_any a3 n c3 _ _ o3.si hn0 HPB.out).mono ?_; rintro e w4 ⟨rfl, rfl⟩; rw [HP.out]) | (go_at_call 94; refine (nWithin_any _ _ _ _).mono ?_; rintro e w5 ⟨rfl, rfl⟩; rw [HWB.out]))
        go_roundw
        case rel => exact ⟨k + 1, n', c', a', by go_num, by omega, rfl, by omega, by rw [HNS.out]; exact hown.keep (BV.trans (hk.mono BV.size)), hbr.trans ((BV.trans (hk.mono BV.size)).mono hrs)⟩
        case measure => simp [intOf]; omega
    · have hle : (m : Int) ≤ (k : Int) := by omega
      obtain rfl : m = k := by omega
      go_wp2_with fail
      go_ret
      exact ⟨a', n', c', rfl, hown, hbr⟩
end Go.Proofs.Ytiibdndchkbefaa

namespace Go.Proofs.Ytiibdndchkbefaa
open Go.RowKit
open Calmly (Kept)

theorem eqnil_none (w : World) : Sem.run Try.prog (binOp .eql 22 (.slice none 0 0) (.slice none 0 0)) w = .ok (.bool true) w := by kernel_rfl
theorem eqnil_some (x : Addr) (n c : Nat) (w : World) : Sem.run Try.prog (binOp .eql 22 (.slice (some x) n c) (.slice none 0 0)) w = .ok (.bool false) w := by kernel_rfl
set_option maxRecDepth 100000 in
set_option maxHeartbeats 400000 in
theorem clone_any (a : Option Addr) (n c : Nat) (xs : List Int) (w : World) (h1 : SI w a n c xs) (hn : n ≤ 1099511627776) :
    Calls Try.prog 89 #[.slice a n c] w fun e w' => ∃ a' c', e = .returned (.slice a' n c') ∧ OwI w' w.heap.size a' n c' xs ∧ Below w.heap.size w w' := by
  have hc := h1.cap
  have hm := h1.max
  rcases a with _ | p
  · obtain ⟨rfl, rfl, rfl⟩ := h1.none_
    go_enter Try.func89, Try.ntmps89
    have hq := eqnil_none w
    go_wp2_with fail
    go_ret
    exact ⟨none, 0, rfl, OwI.nil _ _, Below.refl _ _⟩
  · have hb : Below w.heap.size w (w.alloc (.cells #[] 3)) := (Below.refl _ _).alloc (Nat.le_refl _) _
    go_enter Try.func89, Try.ntmps89
    have hq := eqnil_some p n c w
    go_wp2_with (at_builtin; refine appL rfl _ _ rfl (OwI.empty w (Nat.le_refl _)) (h1.keep hb) rfl rfl (by omega) (by simp) ?_; intro a' c' w1 ho hb1)
    go_ret
    exact ⟨a', c', rfl, by simpa using ho, hb.trans hb1⟩

set_option maxHeartbeats 400000 in
theorem clip_any (a : Option Addr) (n c : Nat) (xs : List Int) (w : World) (h1 : SI w a n c xs) :
    Calls Try.prog 145 #[.slice a n c] w fun e w' => e = .returned (.slice a n n) ∧ w = w' := by
  have hc := h1.cap
  have hm := h1.max
  rcases a with _ | p
  · obtain ⟨rfl, rfl, rfl⟩ := h1.none_
    go_enter Try.func145, Try.ntmps145
    go_wp2_with fail
    go_ret
    exact ⟨rfl, rfl⟩
  · have hc1 : (n : Int) ≤ (c : Int) := by omega
    go_enter Try.func145, Try.ntmps145
    go_wp2_with fail
    go_ret
    exact ⟨rfl, rfl⟩

set_option maxRecDepth 100000 in
set_option maxHeartbeats 1000000 in
theorem sizes_any (a : Option Addr) (n c : Nat) (xs : List Int) (w : World) (h1 : SI w a n c xs) (hn : n ≤ 1000000) (hb : ∀ j : Nat, -1000000000 ≤ xs[j]?.getD 0 ∧ xs[j]?.getD 0 ≤ 1000000000) :
    Calls Try.prog 86 #[.slice a n c] w fun e w' => e = .returned (.int .i64 (szT xs n)) ∧ w = w' := by
  have m1 := h1.max
  have c1 := h1.cap
  have hsb : ∀ k : Nat, 0 ≤ szT xs k ∧ szT xs k ≤ 1000000000 * (k : Int) := by
    intro k
    induction k with
    | zero => simp [szT]
    | succ k ih =>
      have := hb k
      rw [szT, sizeOf_abs]
      omega
  have HB := Lib.hid hb
  have HS := Lib.hid hsb
  clear hb hsb
  go_enter Try.func86, Try.ntmps86
  go_wp2_with fail
  go_loop [3, 8] (fun s i => ∃ k : Nat, k ≤ n ∧ i = .int .i64 k ∧ s = .int .i64 (szT xs k)) (fun _ i => n - (intOf i).toNat)
  case atStart => exact ⟨0, by omega, rfl, rfl⟩
  case round =>
    obtain ⟨k, hk, rfl, rfl⟩ := hrel
    obtain ⟨s1, s2⟩ := HS.out k
    by_cases hlt : k < n
    · obtain ⟨b1, o1, rfl, hc1⟩ := h1.at_ (by omega)
      have e1 := hc1 k hlt
      clear hc1
      have hd : szT xs (k + 1) = szT xs k + ((xs[k]?.getD 0).natAbs : Nat) := by rw [szT, sizeOf_abs]
      have hx := HB.out k
      obtain ⟨x, hxx⟩ : ∃ x, xs[k]?.getD 0 = x := ⟨_, rfl⟩
      obtain ⟨m, hm⟩ : ∃ m, szT xs k = m := ⟨_, rfl⟩
      rw [hxx] at e1 hx hd
      rw [hm] at hd s1 s2 ⊢
      have HD := Lib.hid hd
      clear hxx hm hd
      obtain ⟨hx1, hx2⟩ := hx
      have hxa : ((x.natAbs : Nat) : Int) ≤ 1000000000 := by omega
      have hi : (k : Int) < (n : Int) := by omega
      have hi0 : (0 : Int) ≤ (k : Int) := by omega
      go_wp2_with fail
      refine (nSize_any _ _ (by omega) (by omega)).mono ?_
      rintro e w1 ⟨rfl, rfl⟩
      go_wp2_with fail
      go_round
      case rel => exact ⟨k + 1, by omega, by go_num, by rw [HD.out]⟩
      case measure => simp [intOf]; omega
    · have hle : (n : Int) ≤ (k : Int) := by omega
      obtain rfl : k = n := by omega
      go_wp2_with fail
      go_ret
      exact ⟨rfl, rfl⟩

/-- How great samples with waves are. -/
theorem ad_nums {xs : List Int} {ws : List (List Int)} {ts : List Int} (hx : ∀ j : Nat, -1000 ≤ xs[j]?.getD 0 ∧ xs[j]?.getD 0 ≤ 1000) (hw : ∀ i t : Nat, -1000 ≤ (ws[i]?.getD [])[t]?.getD 0 ∧ (ws[i]?.getD [])[t]?.getD 0 ≤ 1000) (ht : ∀ j : Nat, -2 ≤ ts[j]?.getD 0 ∧ ts[j]?.getD 0 ≤ 2) (p i : Nat) (hi : i ≤ 5) :
    (-11000 ≤ xs[p]?.getD 0 + adS ws ts p i ∧ xs[p]?.getD 0 + adS ws ts p i ≤ 11000) ∧ (-2000 ≤ ts[i]?.getD 0 * (ws[i]?.getD [])[p]?.getD 0 ∧ ts[i]?.getD 0 * (ws[i]?.getD [])[p]?.getD 0 ≤ 2000) := by
  have h1 := hx p
  have h2 := adS_bd hw ht p i
  have h3 := hw i p
  have h4 := ht i
  have := pr_bd (c := ts[i]?.getD 0) (a := (ws[i]?.getD [])[p]?.getD 0) (C := 2) (A := 1000) h4.1 h4.2 h3.1 h3.2
  omega

set_option maxRecDepth 100000 in
set_option maxHeartbeats 2000000 in
theorem added_any (a : Option Addr) (n c : Nat) (xs : List Int) (b : Option Addr) (m d : Nat) (ws : List (List Int)) (t : Option Addr) (e : Nat) (ts : List Int) (w : World) (h1 : SI w a n c xs) (h2 : SW w b m d ws) (h3 : SI w t m e ts) (hn0 : 0 < n) (hn : n ≤ 26) (hm : m ≤ 5)
    (hx : ∀ j : Nat, -1000 ≤ xs[j]?.getD 0 ∧ xs[j]?.getD 0 ≤ 1000) (hl : ∀ i, i < ws.length → (ws[i]?.getD []).length = n) (hw : ∀ i t : Nat, -1000 ≤ (ws[i]?.getD [])[t]?.getD 0 ∧ (ws[i]?.getD [])[t]?.getD 0 ≤ 1000) (ht : ∀ j : Nat, -2 ≤ ts[j]?.getD 0 ∧ ts[j]?.getD 0 ≤ 2) :
    Calls Try.prog 87 #[.slice a n c, .slice b m d, .slice t m e] w fun r w' => ∃ a' c', r = .returned (.tuple #[.slice a' n c', .bool (decide (gsT (adTo xs ws ts m) n ≤ 1000))]) ∧ OwI w' w.heap.size a' n c' (adTo xs ws ts m) ∧ Below w.heap.size w w' := by
  obtain ⟨l1, l2⟩ : n ≤ xs.length ∧ xs.length ≤ n := by have := h1.len; omega
  obtain ⟨k1, k2⟩ : m ≤ ws.length ∧ ws.length ≤ m := by have := h2.len; omega
  have m1 := h1.max
  have c1 := h1.cap
  have m2 := h2.max
  have c2 := h2.cap
  have m3 := h3.max
  have c3 := h3.cap
  have HX := Lib.hid hx
  have HL := Lib.hid hl
  have HW := Lib.hid hw
  have HT := Lib.hid ht
  clear hx hl hw ht
  go_enter Try.func87, Try.ntmps87
  go_wp2_with fail
  refine (clone_any a n c xs _ h1 (by omega)).mono ?_
  rintro r w1 ⟨a1, c1', rfl, o1, hb1⟩
  obtain ⟨g, rfl, hg1, hg2⟩ := o1.at_ hn0
  have o0 : OwI w1 w.heap.size (some ⟨g, 0, none⟩) n c1' (adTo xs ws ts 0) := by rw [adTo_zero]; exact o1
  have m4 := o1.si.max
  have c4 := o1.si.cap
  clear o1
  go_wp2_with fail
  go_loopw [17] (fun i wr => ∃ k : Nat, k ≤ m ∧ i = .int .i64 k ∧ OwI wr w.heap.size (some ⟨g, 0, none⟩) n c1' (adTo xs ws ts k) ∧ Below w.heap.size w wr) (fun i _ => m - (intOf i).toNat)
  case atStart => exact ⟨0, by omega, rfl, o0, hb1⟩
  case round =>
    clear o0 hb1
    obtain ⟨k, hk, rfl, hown, hbr⟩ := hrel
    by_cases hlt : k < m
    · obtain ⟨bw, ow, rfl, hcw⟩ := h2.at_ (by omega)
      obtain ⟨aw, nw, cw, ew, sw⟩ := hcw k hlt
      replace ew := cell_keep ew hbr
      obtain ⟨q1, q2⟩ : nw ≤ n ∧ n ≤ nw := by
        have h5 := sw.len
        have h6 := HL.out k (by omega)
        omega
      obtain rfl : nw = n := by omega
      have m5 := sw.max
      have c5 := sw.cap
      clear hcw q1 q2
      have hi : (k : Int) < (m : Int) := by omega
      have hi0 : (0 : Int) ≤ (k : Int) := by omega
      have hown0 : OwI wr w.heap.size (some ⟨g, 0, none⟩) nw c1' (adMid xs ws ts k 0) := by rw [adMid_zero]; exact hown
      have hbr0 := hbr
      have hrz := hbr.size
      go_wp2_with fail
      go_loopw [24] (fun j wz => ∃ p : Nat, p ≤ nw ∧ j = .int .i64 p ∧ OwI wz w.heap.size (some ⟨g, 0, none⟩) nw c1' (adMid xs ws ts k p) ∧ Below w.heap.size w wz) (fun j _ => nw - (intOf j).toNat)
      case atStart => exact ⟨0, by omega, rfl, hown0, hbr0⟩
      case round =>
        clear hown hown0 hbr hbr0
        obtain ⟨p, hp, rfl, hown, hbz⟩ := hrel
        by_cases hpl : p < nw
        · have hj : (p : Int) < (nw : Int) := by omega
          have hj0 : (0 : Int) ≤ (p : Int) := by omega
          have ex := hown.cell p hpl
          rw [adMid_get xs ws ts k p (by omega)] at ex
          have fx := hown.free p
          obtain ⟨bx, ox, rfl, hcx⟩ := (sw.keep hbz).at_ hn0
          have e2 := hcx p hpl
          obtain ⟨bt, ot, rfl, hct⟩ := (h3.keep hbz).at_ (by omega)
          have e3 := hct k hlt
          obtain ⟨⟨n1, n2⟩, n3, n4⟩ := ad_nums HX.out HW.out HT.out p k (by omega)
          have st := hown.stored p (xs[p]?.getD 0 + adS ws ts p k + ts[k]?.getD 0 * (ws[k]?.getD [])[p]?.getD 0)
          rw [adMid_set xs ws ts k p (by omega)] at st
          have ST := Lib.hid st
          clear hcx hct st
          obtain ⟨x, hxx⟩ : ∃ x, xs[p]?.getD 0 + adS ws ts p k = x := ⟨_, rfl⟩
          obtain ⟨y, hyy⟩ : ∃ y, ts[k]?.getD 0 = y := ⟨_, rfl⟩
          obtain ⟨z, hzz⟩ : ∃ z, (ws[k]?.getD [])[p]?.getD 0 = z := ⟨_, rfl⟩
          rw [hxx] at ex n1 n2 ST
          rw [hyy] at e3 n3 n4 ST
          rw [hzz] at e2 n3 n4 ST
          clear hxx hyy hzz
          go_wp2_with fail
          refine Calmly.wp_region_mix 10 (.fl 0 <| .fl 1 <| .fl 2 <| .fl 3 <| .fl 4 <| .fl 5 <| .fl 6 <| .fl 7 <| .fl 8 <| .fl 9 <| .tail [10, 11, 12]) (by kernel_rfl) (by kernel_rfl) ?_
          have hk := Below.refl wr.drew.heap.size wr.drew
          go_wp2_with (first | ((with_reducible refine Calmly.is_fl ?_); refine Calmly.mix_fl rfl ?_ (fun _ _ => ?_); (first | exact .move _ | exact .load _ _ | exact .fieldAddr _ _ _ (by kernel_rfl) | exact .assign _ | exact .binOp _ _ _ _ _ rfl | exact .indexAddr _ _ _ | exact .len _ _ (by kernel_rfl) | exact .field _ _ _ | exact .extract _ _ | exact .pick _ _ _ | exact .build _ _ | exact .slice _ _ _ _ _ | exact .unOp _ _ _ rfl | exact .index _ _ _ | exact .max _ _ _ rfl rfl | exact .min _ _ _ rfl rfl)) | ((with_reducible refine Calmly.is_gl ?_); refine Calmly.mix_gl rfl rfl rfl ?_; first | ((first | with_reducible refine Calmly.gl_tt ?_ (fun _ _ => ?_) | with_reducible refine Calmly.gl_ff ?_ (fun _ _ => ?_)); (first | exact .move _ | exact .load _ _ | exact .fieldAddr _ _ _ (by kernel_rfl) | exact .assign _ | exact .binOp _ _ _ _ _ rfl | exact .indexAddr _ _ _ | exact .len _ _ (by kernel_rfl) | exact .field _ _ _ | exact .extract _ _ | exact .pick _ _ _ | exact .build _ _ | exact .slice _ _ _ _ _ | exact .unOp _ _ _ rfl | exact .index _ _ _ | exact .max _ _ _ rfl rfl | exact .min _ _ _ rfl rfl)) | with_reducible refine Calmly.gl_tf (fun _ _ => ?_) | with_reducible refine Calmly.gl_ft (fun _ _ => ?_)) | ((with_reducible refine Calmly.is_eff ?_); refine Calmly.mix_eff rfl (fun _ _ => ?_)) | ((with_reducible refine Calmly.is_gf ?_); refine Calmly.mix_gf rfl rfl rfl ?_; first | with_reducible refine Calmly.gf_tt (fun _ _ => ?_) | with_reducible refine Calmly.gf_ff (fun _ _ => ?_) | with_reducible refine Calmly.gf_tf (kept_of hk) (fun _ _ => ?_) | with_reducible refine Calmly.gf_ft (kept_of hk) (fun _ _ => ?_)) | ((with_reducible refine Calmly.is_tail ?_); first | refine Calmly.mix_tail_nil ?_ | refine Calmly.mix_tail rfl (fun _ _ => ?_)) | ((with_reducible refine Calmly.is_kept ?_); refine ⟨kept_of hk, ?_⟩) | (with_reducible refine Calmly.mix_alt ?_ ?_))
          go_roundw
          case rel => exact ⟨p + 1, by omega, by go_num, ST.out.1.drew, hbz.trans ST.out.2.drew⟩
          case measure => simp [intOf]; omega
        · have hle : (nw : Int) ≤ (p : Int) := by omega
          go_wp2_with fail
          go_roundw
          case rel =>
            rw [adMid_all xs ws ts k p (by omega)] at hown
            exact ⟨k + 1, by omega, by go_num, hown, hbz⟩
          case measure => simp [intOf]; omega
    · have hle : (m : Int) ≤ (k : Int) := by omega
      obtain rfl : k = m := by omega
      have hpb : ∀ j : Nat, -9000000000000000000 ≤ (adTo xs ws ts k)[j]?.getD 0 ∧ (adTo xs ws ts k)[j]?.getD 0 ≤ 9000000000000000000 := by
        intro j
        rcases Nat.lt_or_ge j xs.length with hj | hj
        · rw [adTo_get xs ws ts k j hj]
          have := ad_nums HX.out HW.out HT.out j k hm
          omega
        · rw [List.getElem?_eq_none (by rw [adTo_len]; exact hj)]
          simp
      have HPB := Lib.hid hpb
      clear hpb
      go_wp2_with fail
      refine (peak_any _ n c1' _ _ hown.si hn0 HPB.out).mono ?_
      rintro r w2 ⟨rfl, rfl⟩
      go_wp2_with fail
      go_ret2
      exact ⟨_, c1', rfl, hown, hbr⟩
end Go.Proofs.Ytiibdndchkbefaa

namespace Go.Proofs.Ytiibdndchkbefaa
open Go.RowKit Go.Shelf
attribute [local go_sem] Oper.semAt_some
open Calmly (Kept)

/-- A slice of times, and what it reads. -/
abbrev Tm := (Option Addr × Nat × Nat) × List Int
abbrev encT (x : Tm) : Array Value := #[.slice x.1.1 x.1.2.1 x.1.2.2]
def PxT (L : List Nat) (m : Nat) (x : Tm) (W : World) : Prop := SI W x.1.1 x.1.2.1 x.1.2.2 x.2 ∧ (∀ b o, x.1.1 = some ⟨b, o, none⟩ → b ∉ L) ∧ x.2.length = m ∧ ∀ j : Nat, -2 ≤ x.2[j]?.getD 0 ∧ x.2[j]?.getD 0 ≤ 2
theorem app_bd {pre : List Int} {t : Int} (h : ∀ j : Nat, -2 ≤ pre[j]?.getD 0 ∧ pre[j]?.getD 0 ≤ 2) (h1 : -2 ≤ t) (h2 : t ≤ 2) : ∀ j : Nat, -2 ≤ (pre ++ [t])[j]?.getD 0 ∧ (pre ++ [t])[j]?.getD 0 ≤ 2 := by
  intro j
  rcases Nat.lt_or_ge j pre.length with hj | hj
  · rw [List.getElem?_append_left hj]
    exact h j
  · rw [List.getElem?_append_right hj]
    rcases Nat.eq_zero_or_pos (j - pre.length) with h0 | h0
    · rw [h0]
      exact ⟨h1, h2⟩
    · rw [List.getElem?_eq_none (by simp; omega)]
      simp
/-- What the recursion reads. -/
structure GrowEnv (m l bw by' bg : Nat) (W : World) : Prop where
  w : W.heap[bw]? = some (.cells #[.int .i64 (m : Int)] 3)
  y : W.heap[by']? = some (.cells #[.func (.yield l) #[] #[]] 174)
  g : W.heap[bg]? = some (.cells #[.func (.func 144) #[] #[.pointer (some ⟨bw, 0, none⟩), .pointer (some ⟨by', 0, none⟩), .pointer (some ⟨bg, 0, none⟩)]] 174)
theorem GrowEnv.keeps {m l bw by' bg : Nat} {L : List Nat} {W W' : World} (h : GrowEnv m l bw by' bg W) (k : Keeps L W W') (h1 : bw ∉ L) (h2 : by' ∉ L) (h3 : bg ∉ L) : GrowEnv m l bw by' bg W' := ⟨k.blk h1 h.w, k.blk h2 h.y, k.blk h3 h.g⟩
theorem GrowEnv.below {m l bw by' bg : Nat} {W W' : World} (h : GrowEnv m l bw by' bg W) (k : Below W.heap.size W W') : GrowEnv m l bw by' bg W' := ⟨blk_keep h.w k, blk_keep h.y k, blk_keep h.g k⟩
theorem grown_of_below' {w w' : World} (h : Below w.heap.size w w') : w.grownBy w' none := ⟨h.os, h.tape, h.output, h.size, fun k hk _ => h.block k hk⟩

theorem round_wide' {m m' : Nat} {P : Program} {l : Nat} {f : FuncId} {tmps : Array Value} {assign body : Code} {w : World} {R : Ending → World → Prop}
    (h : RoundIn Fence.wide m P l f tmps assign body w R) : RoundIn Fence.wide m' P l f tmps assign body w R := ⟨h.1, fun c cs _ => h.2 c cs (room_wide _)⟩

theorem mix_appG (i : Nat) {w0 : World} {k : Calmly.Plan} {dst : Option Tmp} {s x : Operand} {ty : TypeId} {pos : String} {after : Array Edge} {a : Act} {W0 : World} {ops : Array Oper} {Q : Exit → Act → World → Prop} {av : Option Addr} {n : Nat} {xs : List Int} {v : Int}
    (hi : ops[i]? = some ⟨dst, .call { callee := .builtin .append, args := #[s, x], argTypes := #[22, 22] }, ty, pos, after, none⟩)
    (hsi : SI w0 av n n xs) (hs : a.eval s = .slice av n n) (hx : a.eval x = .slice (some ⟨w0.heap.size, 0, none⟩) 1 1) (hb1 : n + 1 ≤ 17592186044416)
    (h : ∀ a' c' w', OwI w' w0.heap.size a' (n + 1) c' (xs ++ [v]) → Below w0.heap.size w0 w' → w0.heap.size < w'.heap.size → Kept W0 w' ∧ Calmly.WpMix Try.prog ops Q W0 k (a.put dst (.slice a' (n + 1) c')) w') :
    Calmly.WpMix Try.prog ops Q W0 (.eff i k) a (w0.alloc (.cells #[.int .i64 v] 3)) := by
  refine Calmly.mix_eff hi (fun K hK => ?_)
  obtain ⟨i0, hi0, hz0, hz1, hz2⟩ := info_parts Try.info_int
  have hb : Below w0.heap.size w0 (w0.alloc (.cells #[.int .i64 v] 3)) := (Below.refl _ _).alloc (Nat.le_refl _) _
  have hsi' := hsi.keep hb
  have fin : ∀ v' w1, w1.ownsRow (w0.alloc (.cells #[.int .i64 v] 3)).heap.size 3 1 v' (n + 1) (xs.map (Value.int .i64) ++ [Value.int .i64 v]) → (w0.alloc (.cells #[.int .i64 v] 3)).grownBy w1 none → K (a.put dst v') w1 := by
    intro v' w1 ho1 hg
    obtain ⟨a', c', rfl⟩ := owns_slice ho1
    have hsz := hg.size
    refine hK _ _ (h a' c' w1 ?_ (hb.trans (grown_below hg (by simp) (fun k hk => by cases hk))) (by simp at hsz; omega))
    have ho2 : w1.ownsRow w0.heap.size 3 1 (.slice a' (n + 1) c') (n + 1) ((xs ++ [v]).map (Value.int .i64)) := by
      obtain ⟨k1, k2⟩ := ho1
      refine ⟨by simpa using k1, ?_⟩
      rcases k2 with k2 | ⟨g, cap, cur, hv, hg', r⟩
      · exact .inl k2
      · exact .inr ⟨g, cap, cur, hv, by simp at hg'; omega, by simpa using r⟩
    exact ho2
  rcases av with _ | p
  · obtain ⟨rfl, _, rfl⟩ := hsi'.none_
    obtain ⟨v', w', hrun, r1, r2, _⟩ := run_append_own (P := Try.prog) (w0.alloc (.cells #[.int .i64 v] 3)) (w0.alloc (.cells #[.int .i64 v] 3)).heap.size 22 ty _ i0 (.int .i64 0) 1 8 Try.underlying22 hi0 hz0 hz1 hz2 rfl (by decide) (.slice none 0 0) 0 [] (World.ownsRow_nil _ _ _ 1) ⟨w0.heap.size, 0, none⟩ 1 1 [Value.int .i64 v] rfl (cells_new w0 _ _) (by simp [Value.oneCell']) (by unfold maxLen; omega) (by omega) (Nat.le_refl _)
    unfold Oper.wp
    simp [execOp, resolve, invoke, builtin, hs, hx, hrun, Result.andThen]
    exact fin v' w' r1 r2
  · obtain ⟨h1, h2, h3, h4⟩ := hsi'
    obtain ⟨v', w', hrun, r1, r2⟩ := run_append_arg_grows (P := Try.prog) (w0.alloc (.cells #[.int .i64 v] 3)) 22 ty _ i0 (.int .i64 0) 1 8 Try.underlying22 hi0 hz0 hz1 hz2 rfl (by decide) p n n (xs.map (Value.int .i64)) h1 (fun j u hj => by
      have hjl : j < (xs.map (Value.int .i64)).length := (List.getElem?_eq_some_iff.1 hj).1
      rcases h4 with h4 | ⟨b', off, hp, hcell⟩
      · omega
      cases hp
      rw [Addr.add_lit, hcell j (by omega)]
      exact hj) ⟨w0.heap.size, 0, none⟩ 1 1 [Value.int .i64 v] rfl (cells_new w0 _ _) (by omega) (by unfold maxLen; omega) (by omega)
    unfold Oper.wp
    simp [execOp, resolve, invoke, builtin, hs, hx, hrun, Result.andThen]
    exact fin v' w' r1 r2
theorem SI.clip {w : World} {a : Option Addr} {n c : Nat} {xs : List Int} (h : SI w a n c xs) : SI w a n n xs := by
  obtain ⟨h1, h2, h3, h4⟩ := h
  refine ⟨h1, Nat.le_refl _, by omega, ?_⟩
  rcases h4 with rfl | h4
  · exact .inl (by omega)
  · exact .inr h4
/-- The first numbers of the five. -/
theorem five_take (j : Nat) (h : j < 5) : five.take (j + 1) = five.take j ++ [(j : Int) - 2] := by
  have : j = 0 ∨ j = 1 ∨ j = 2 ∨ j = 3 ∨ j = 4 := by omega
  rcases this with rfl | rfl | rfl | rfl | rfl <;> rfl

set_option maxRecDepth 100000 in
set_option maxHeartbeats 2000000 in
theorem grow_call (l : Nat) (L : List Nat) (m bw by' bg B BJ ky : Nat) (J : List Tm → World → Prop) (h1 : bw ∉ L) (h2 : by' ∉ L) (h3 : bg ∉ L) (hL : ∀ b, b ∈ L → b < B) (hm : m ≤ 1000)
    (hY : ∀ pre x W1, J pre W1 → PxT L m x W1 → YieldAt Fence.wide ky Try.prog l (encT x) W1 fun e W' => e = .returned (.bool true) ∧ J (pre ++ [x]) W' ∧ Keeps L W1 W') (hJ : AbidesFrom BJ J) (k : Nat) :
    ∀ (pre : List Int) (done : List Tm) (W : World) (a : Option Addr) (n c : Nat), pre.length + k = m → (∀ j : Nat, -2 ≤ pre[j]?.getD 0 ∧ pre[j]?.getD 0 ≤ 2) → OwI W B a n c pre → B ≤ W.heap.size → GrowEnv m l bw by' bg W → J done W →
      Calls Try.prog 144 #[.slice a n c, .pointer (some ⟨bw, 0, none⟩), .pointer (some ⟨by', 0, none⟩), .pointer (some ⟨bg, 0, none⟩)] W fun e W' =>
        e = .returned (.bool true) ∧ (∃ xs : List Tm, xs.map (·.2) = genC pre k ∧ J (done ++ xs) W') ∧ Keeps L W W' := by
  have HY := Lib.hid hY
  have HJ := Lib.hid hJ
  have HL := Lib.hid hL
  clear hY hJ hL
  induction k with
  | zero =>
    intro pre done W a n c hl hp hown hB henv hJd
    have hn := hown.len
    obtain ⟨q1, q2⟩ : n ≤ m ∧ m ≤ n := by omega
    have hq : ((n : Int) == (m : Int)) = true := by simp; omega
    have f1 := cell_block henv.w 0
    have f2 := cell_block henv.y 0
    have m1 := hown.si.max
    have c1 := hown.si.cap
    obtain ⟨fn, tmps, assign, body, hy, hR⟩ := HY.out done ((a, n, c), pre) W hJd ⟨hown.si, fun b o hb hm => by have := hown.ge b o hb; have := HL.out b hm; omega, by omega, hp⟩
    have hg : genC pre 0 = [pre] := genC_zero pre
    have HG := Lib.hid hg
    dsimp only [encT] at hy
    clear hn hl hg hp
    refine (callsIn_wide (n := 5)).1 ?_
    refine callsIn_of_wp Try.func144 rfl trivial ?_ rfl
    simp only [Try.ntmps144, List.size_toArray, List.length_cons, List.length_nil, Nat.reduceAdd, Nat.reduceSub, Array.replicate_succ, Array.replicate_zero, List.push_toArray, List.append_toArray, List.nil_append, List.cons_append]
    gi_wp2
    refine (round_wide' hR).mono ?_
    rintro e W5 ⟨rfl, hJ5, hk5⟩
    gi_wp2
    go_ret
    exact ⟨rfl, ⟨[((a, n, c), pre)], by rw [HG.out]; rfl, hJ5⟩, hk5⟩
  | succ k ih =>
    intro pre done W a n c hl hp hown hB henv hJd
    have hn := hown.len
    have hnm : n < m := by omega
    have hq : ((n : Int) == (m : Int)) = false := by simp; omega
    have f1 := cell_block henv.w 0
    have IH := Lib.hid ih
    have HP := Lib.hid hp
    have HN := Lib.hid hn
    have hl2 : pre.length + 1 + k = m := by omega
    clear ih hn hl hp
    go_enter Try.func144, Try.ntmps144
    go_wp2_with fail
    go_loopw [6] (fun i wr => ∃ j : Nat, j ≤ 5 ∧ i = .int .i64 ((j : Int) - 2) ∧ (∃ xs : List Tm, xs.map (·.2) = (five.take j).flatMap (fun t => genC (pre ++ [t]) k) ∧ J (done ++ xs) wr) ∧ Keeps L W wr) (fun i _ => 5 - (intOf i + 2).toNat)
    case atStart => exact ⟨0, by omega, rfl, ⟨[], rfl, by simpa using hJd⟩, Keeps.refl _ _⟩
    case round =>
      clear hJd
      obtain ⟨j, hj, rfl, ⟨xs, hxs, hJx⟩, hkp⟩ := hrel
      have hrs := hkp.size
      have HXS := Lib.hid hxs
      clear hxs
      have ow := hown.keeps hkp HL.out
      have ev := henv.keeps hkp h1 h2 h3
      have m1 := ow.si.max
      have c1 := ow.si.cap
      by_cases hlt : j < 5
      · have hi : (j : Int) - 2 ≤ 2 := by omega
        have g3 := cell_block ev.g 0
        have hft := five_take j hlt
        have HFT := Lib.hid hft
        clear hft
        go_wp2_with fail
        refine Calmly.wp_region_mix 6 (.fl 0 <| .fl 1 <| .fl 3 <| .alt 2 (.eff 4 <| .eff 5 <| .tail [6, 7]) (.eff 4 (.eff 2 <| .eff 5 <| .tail [6, 7]))) (by kernel_rfl) (by kernel_rfl) ?_
        have BV : Below wr.heap.size wr wr.drew := (Below.refl _ _).drew
        generalize wr.drew = V at BV ⊢
        have kv := hkp.trans (Keeps.of_below BV)
        have hJv := HJ.out _ wr V none hJx (grown_of_below' BV) (fun r e => by cases e)
        have siV := ow.si.keep BV
        have evV := ev.below BV
        have hBV : B ≤ V.heap.size := by have := BV.size; omega
        have g4 := cell_keep g3 BV
        have hn1 : n + 1 ≤ 17592186044416 := by omega
        clear hJx
        have hk := Below.refl V.heap.size V
        go_wp2_with (first | (refine mix_appG 5 (xs := pre) (v := (j : Int) - 2) rfl siV.clip rfl rfl hn1 (fun a2 c2 w6 ho6 hb6 hs6 => ?_); replace hk := hb6; refine ⟨kept_of hk, ?_⟩) | ((with_reducible refine Calmly.is_fl ?_); refine Calmly.mix_fl rfl ?_ (fun _ _ => ?_); (first | exact .move _ | exact .load _ _ | exact .fieldAddr _ _ _ (by kernel_rfl) | exact .assign _ | exact .binOp _ _ _ _ _ rfl | exact .indexAddr _ _ _ | exact .len _ _ (by kernel_rfl) | exact .field _ _ _ | exact .extract _ _ | exact .pick _ _ _ | exact .build _ _ | exact .slice _ _ _ _ _ | exact .unOp _ _ _ rfl | exact .index _ _ _ | exact .max _ _ _ rfl rfl | exact .min _ _ _ rfl rfl)) | ((with_reducible refine Calmly.is_gl ?_); refine Calmly.mix_gl rfl rfl rfl ?_; first | ((first | with_reducible refine Calmly.gl_tt ?_ (fun _ _ => ?_) | with_reducible refine Calmly.gl_ff ?_ (fun _ _ => ?_)); (first | exact .move _ | exact .load _ _ | exact .fieldAddr _ _ _ (by kernel_rfl) | exact .assign _ | exact .binOp _ _ _ _ _ rfl | exact .indexAddr _ _ _ | exact .len _ _ (by kernel_rfl) | exact .field _ _ _ | exact .extract _ _ | exact .pick _ _ _ | exact .build _ _ | exact .slice _ _ _ _ _ | exact .unOp _ _ _ rfl | exact .index _ _ _ | exact .max _ _ _ rfl rfl | exact .min _ _ _ rfl rfl)) | with_reducible refine Calmly.gl_tf (fun _ _ => ?_) | with_reducible refine Calmly.gl_ft (fun _ _ => ?_)) | ((with_reducible refine Calmly.is_eff ?_); refine Calmly.mix_eff rfl (fun _ _ => ?_)) | ((with_reducible refine Calmly.is_gf ?_); refine Calmly.mix_gf rfl rfl rfl ?_; first | with_reducible refine Calmly.gf_tt (fun _ _ => ?_) | with_reducible refine Calmly.gf_ff (fun _ _ => ?_) | with_reducible refine Calmly.gf_tf (kept_of hk) (fun _ _ => ?_) | with_reducible refine Calmly.gf_ft (kept_of hk) (fun _ _ => ?_)) | ((with_reducible refine Calmly.is_tail ?_); first | refine Calmly.mix_tail_nil ?_ | refine Calmly.mix_tail rfl (fun _ _ => ?_)) | ((with_reducible refine Calmly.is_kept ?_); refine ⟨kept_of hk, ?_⟩) | (with_reducible refine Calmly.mix_alt ?_ ?_) | (refine kept_alloc hk (fun hk' hblk hge => ?_); replace hk := hk'; clear hk') | (go_at_call 145; refine (clip_any a n c pre _ (SI.keep (w := V) siV hk)).mono ?_; rintro e w1 ⟨rfl, rfl⟩))
        all_goals
          have hJ6 := HJ.out _ V w6 none hJv (grown_of_below' hk) (fun r e => by cases e)
          refine (IH.out (pre ++ [(j : Int) - 2]) (done ++ xs) w6 a2 (n + 1) c2 (by simp; omega) (app_bd HP.out (by omega) hi) (ho6.weak hBV) (by omega) (evV.below hk) hJ6).mono ?_
          rintro e w7 ⟨rfl, ⟨ys, hys, hJ7⟩, hk7⟩
          go_wp2_with (first | ((with_reducible refine Calmly.is_fl ?_); refine Calmly.mix_fl rfl ?_ (fun _ _ => ?_); (first | exact .move _ | exact .load _ _ | exact .fieldAddr _ _ _ (by kernel_rfl) | exact .assign _ | exact .binOp _ _ _ _ _ rfl | exact .indexAddr _ _ _ | exact .len _ _ (by kernel_rfl) | exact .field _ _ _ | exact .extract _ _ | exact .pick _ _ _ | exact .build _ _ | exact .slice _ _ _ _ _ | exact .unOp _ _ _ rfl | exact .index _ _ _ | exact .max _ _ _ rfl rfl | exact .min _ _ _ rfl rfl)) | ((with_reducible refine Calmly.is_gl ?_); refine Calmly.mix_gl rfl rfl rfl ?_; first | ((first | with_reducible refine Calmly.gl_tt ?_ (fun _ _ => ?_) | with_reducible refine Calmly.gl_ff ?_ (fun _ _ => ?_)); (first | exact .move _ | exact .load _ _ | exact .fieldAddr _ _ _ (by kernel_rfl) | exact .assign _ | exact .binOp _ _ _ _ _ rfl | exact .indexAddr _ _ _ | exact .len _ _ (by kernel_rfl) | exact .field _ _ _ | exact .extract _ _ | exact .pick _ _ _ | exact .build _ _ | exact .slice _ _ _ _ _ | exact .unOp _ _ _ rfl | exact .index _ _ _ | exact .max _ _ _ rfl rfl | exact .min _ _ _ rfl rfl)) | with_reducible refine Calmly.gl_tf (fun _ _ => ?_) | with_reducible refine Calmly.gl_ft (fun _ _ => ?_)) | ((with_reducible refine Calmly.is_eff ?_); refine Calmly.mix_eff rfl (fun _ _ => ?_)) | ((with_reducible refine Calmly.is_gf ?_); refine Calmly.mix_gf rfl rfl rfl ?_; first | with_reducible refine Calmly.gf_tt (fun _ _ => ?_) | with_reducible refine Calmly.gf_ff (fun _ _ => ?_) | with_reducible refine Calmly.gf_tf (kept_of hk) (fun _ _ => ?_) | with_reducible refine Calmly.gf_ft (kept_of hk) (fun _ _ => ?_)) | ((with_reducible refine Calmly.is_tail ?_); first | refine Calmly.mix_tail_nil ?_ | refine Calmly.mix_tail rfl (fun _ _ => ?_)) | ((with_reducible refine Calmly.is_kept ?_); refine ⟨kept_of hk, ?_⟩) | (with_reducible refine Calmly.mix_alt ?_ ?_))
          go_roundw
          case rel => exact ⟨j + 1, by omega, by go_num, ⟨xs ++ ys, by rw [HFT.out, List.flatMap_append, List.map_append, HXS.out, hys]; simp, by rw [← List.append_assoc]; exact hJ7⟩, (kv.trans (Keeps.of_below hk)).trans hk7⟩
          case measure => simp [intOf]; omega
      · have hi : (2 : Int) < (j : Int) - 2 := by omega
        obtain rfl : j = 5 := by omega
        go_wp2_with fail
        go_ret
        refine ⟨rfl, ⟨xs, ?_, hJx⟩, hkp⟩
        rw [HXS.out, genC_succ]
        rfl
end Go.Proofs.Ytiibdndchkbefaa

namespace Go.Calmly
open Go
section
variable {P : Program} {ops : Array Oper} {Q : Exit → Act → World → Prop} {r m : Nat}

theorem rowsIn_wide {row : String} {args : Array Value} {w : World} {R : Value → World → Prop} (h : Rows P row args w R) : RowsIn (Fence.wide.inRound r) m P row args w R := fun c cs _ => by
  obtain ⟨v, w', h1, h2⟩ := h c cs
  exact ⟨v, w', h1, stepsIn_wide.2 h2⟩
theorem opIn {o : Oper} {a : Act} {w : World} {K : Act → World → Prop} (hd : ∀ c, o.op ≠ .defer c) (h : o.wp P a w K Q) : o.wpIn (Fence.wide.inRound r) m P a w K Q := by
  refine ⟨fun _ _ => trivial, ?_⟩
  rw [show (Fence.wide.inRound r).round = some r from rfl, Oper.semAt_some r _ _ hd]
  unfold Oper.wp at h
  generalize (execOp a.eval o).run P w = res at *
  cases res with
  | ok x w' =>
    cases x with
    | enter f args =>
      refine ⟨fun hh => absurd hh (by simp [Fence.wide]), CallsIn.inRound r (callsIn_wide.2 (Calls.mono h fun e w'' he => ?_))⟩
      cases e <;> exact he
    | row s args => exact ⟨fun hh => absurd hh (by simp [Fence.wide]), rowsIn_wide h⟩
    | _ => first | exact h | exact h.elim
  | halt x w' => cases x <;> exact h
theorem wpOpIn_of {i : Nat} {a : Act} {w : World} {K : Act → World → Prop} (hd : ∀ (i : Nat) (o : Oper), ops[i]? = some o → ∀ c, o.op ≠ .defer c) (hQ : ∀ a w, ¬ Q .outgrown a w) (h : wpOp P ops Q i K a w) : wpOpIn (Fence.wide.inRound r) m P ops Q i K a w := by
  unfold wpOp at h
  unfold wpOpIn
  cases ho : ops[i]? with
  | none => simp only [ho] at h ⊢; exact h
  | some o =>
    simp only [ho] at h ⊢
    split
    · rename_i hw
      simp only [hw, if_true] at h
      rcases h with h | ⟨_, a', w', h⟩
      · exact opIn (hd i o ho) h
      · exact absurd h (hQ a' w')
    · rename_i hw
      simp only [hw] at h
      exact ⟨fun _ _ => trivial, h⟩
theorem anyIn {md : Region.Mode} (hd : ∀ (i : Nat) (o : Oper), ops[i]? = some o → ∀ c, o.op ≠ .defer c) (hQ : ∀ a w, ¬ Q .outgrown a w) : ∀ (fuel : Nat) (L : Array Bool) (a : Act) (w : World), wpAny P md ops Q fuel L a w → wpAnyIn (Fence.wide.inRound r) m P md ops Q fuel L a w
  | 0, _, _, _, h => h
  | fuel + 1, _, _, _, h => ⟨h.1, fun i hi => wpOpIn_of hd hQ (wpOp_mono (fun a w hk => anyIn hd hQ fuel _ a w hk) (h.2 i hi))⟩
def noDefer (l : List Oper) : Bool := l.all fun o => match o.op with | .defer _ => false | _ => true
theorem noDefer_ops {l : List Oper} (h : noDefer l = true) : ∀ (i : Nat) (o : Oper), l.toArray[i]? = some o → ∀ c, o.op ≠ .defer c := by
  intro i o ho c hc
  have hm : o ∈ l := List.mem_of_getElem? (by simpa using ho)
  have h1 := (List.all_eq_true.1 h) o hm
  rw [hc] at h1
  cases h1
theorem wpIn_region_mix {id : Nat} {a : Act} {w : World} {l : List Oper} (n : Nat) (p : Plan) (hm : P.follows .mixedOrders = true)
    (hB : (noDefer l && (Region.noSelect l.toArray && tailOk l.toArray .any n && planOk l.toArray .any n p l.toArray.size (Array.replicate l.toArray.size false) [])) = true) (hQ : ∀ a w, ¬ Q .outgrown a w)
    (h : WpMix P l.toArray Q w.drew p a w.drew) : (Code.region id l.toArray true).wpIn (Fence.wide.inRound r) m P Q a w := by
  simp only [Bool.and_eq_true] at hB
  obtain ⟨h0, ⟨h1, h2⟩, h3⟩ := hB
  exact wpIn_region_any hm (anyIn (noDefer_ops h0) hQ _ _ _ _ (any_of_anyT _ _ _ _ ((mix_sound h1 h2 p _ _ [] a _ (closed_start _) h3 (Kept.refl _) h.out).1 rfl)))
end
end Go.Calmly
