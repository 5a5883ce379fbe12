/- Contracts of chapter 2: the first error of items, and the errors of oscillators, bands, waves and times. Contracts of chapter 2: responses, spectra, and where samples are outside of a band. -/
import Derived.Test.YtiibdndchkbefaaK05
namespace Go.Proofs.Ytiibdndchkbefaa
open Go.RowKit
open Calmly (Kept)

theorem store_fn (P : Program) (w : World) (a : Addr) (m : Mode) (fn : Fn) (first captured : Array Value) : (store a (.func fn first captured) m).run P w = stored P w a (.func fn first captured) m := run_store P w a _ m rfl
attribute [local go_sem] store_fn

set_option maxHeartbeats 400000 in
theorem oscillatorErr_any (st dm : Int) (w : World) : Calls Try.prog 101 #[.agg #[.int .i64 st, .int .i64 dm]] w fun e w' => e = .returned (.int .i64 (oscE (st, dm))) ∧ Below w.heap.size w w' := by
  have BW : Below w.heap.size w (w.alloc (.cells #[.int .i64 st, .int .i64 dm] 49)) := (Below.refl _ _).alloc (Nat.le_refl _) _
  cases hs : wIn st 0 3000
  · have hE : oscE (st, dm) = unlessE false 2 := by simp [oscE, hs]
    rw [hE]
    go_enter Try.func101, Try.ntmps101
    go_wp2_with fail
    refine (nWithin_any _ _ _ _).mono ?_
    rintro e w1 ⟨rfl, rfl⟩
    go_wp2_with fail
    refine (nUnless_any _ _ _).mono ?_
    rintro e w1 ⟨rfl, rfl⟩
    go_wp2_with fail
    go_ret
    exact ⟨rfl, BW⟩
  · have hE : oscE (st, dm) = unlessE (wIn dm 0 500) 2 := by simp [oscE, hs]
    rw [hE]
    go_enter Try.func101, Try.ntmps101
    go_wp2_with fail
    refine (nWithin_any _ _ _ _).mono ?_
    rintro e w1 ⟨rfl, rfl⟩
    go_wp2_with fail
    refine (nWithin_any _ _ _ _).mono ?_
    rintro e w1 ⟨rfl, rfl⟩
    go_wp2_with fail
    refine (nUnless_any _ _ _).mono ?_
    rintro e w1 ⟨rfl, rfl⟩
    go_wp2_with fail
    go_ret
    exact ⟨rfl, BW⟩

set_option maxHeartbeats 400000 in
theorem isPeak_any (x : Int) (w : World) : Calls Try.prog 140 #[.int .i64 x] w fun e w' => e = .returned (.bool (wIn x 0 1000000)) ∧ w = w' := by
  go_enter Try.func140, Try.ntmps140
  go_wp2_with fail
  refine (nWithin_any _ _ _ _).mono ?_
  rintro e w1 ⟨rfl, rfl⟩
  go_wp2_with fail
  go_ret
  exact ⟨rfl, rfl⟩

set_option maxHeartbeats 400000 in
theorem timErr_any (x : Int) (w : World) : Calls Try.prog 156 #[.int .i64 x] w fun e w' => e = .returned (.int .i64 (timE x)) ∧ Below w.heap.size w w' := by
  go_enter Try.func156, Try.ntmps156
  go_wp2_with fail
  refine (nSized_any x 2 _ (by omega) (by omega)).mono ?_
  rintro e w1 ⟨rfl, rfl⟩
  go_wp2_with fail
  refine (nUnless_any _ _ _).mono ?_
  rintro e w1 ⟨rfl, rfl⟩
  go_wp2_with fail
  go_ret
  exact ⟨rfl, Below.refl _ _⟩

set_option maxRecDepth 100000 in
set_option maxHeartbeats 1000000 in
theorem bndErr_any (st dm lo hi : Int) (pb : Nat) (w : World) (h1 : w.heap[pb]? = some (.cells #[.func (.func 140) #[] #[]] 124)) :
    Calls Try.prog 142 #[.agg #[.int .i64 st, .int .i64 dm, .int .i64 lo, .int .i64 hi], .pointer (some ⟨pb, 0, none⟩)] w fun e w' => e = .returned (.int .i64 (bndE ((st, dm), (lo, hi)))) ∧ Below w.heap.size w w' := by
  have hb : ∀ o, Below w.heap.size w (w.alloc o) := fun o => (Below.refl _ _).alloc (Nat.le_refl _) _
  obtain ⟨E, hE⟩ : ∃ E, bndE ((st, dm), (lo, hi)) = E := ⟨_, rfl⟩
  rw [hE]
  have HE := Lib.hid hE
  clear hE
  have x1 := alloc_new w (.cells #[.int .i64 st, .int .i64 dm, .int .i64 lo, .int .i64 hi] 51)
  have x2 := blk_keep h1 (hb (.cells #[.int .i64 st, .int .i64 dm, .int .i64 lo, .int .i64 hi] 51))
  go_enter Try.func142, Try.ntmps142
  go_wp2_with fail
  refine Calmly.wp_region_mix 26 (.fl 0 <| .fl 1 <| .fl 3 <| .fl 4 <| .fl 5 <| .fl 6 <| .fl 16 <| .fl 17 <| .fl 18 <| .fl 19 <| .fl 20 <| .fl 21 <| .fl 22 <| .eff 2 <| .eff 7 <| .fl 8 <| .gl 9 <| .gl 10 <| .gl 11 <| .gl 12 <| .gf 13 <| .fl 14 <| .eff 15 <| .eff 23 <| .eff 24 <| .eff 25 <| .tail [26]) (by kernel_rfl) (by kernel_rfl) ?_
  have BW := (hb (.cells #[.int .i64 st, .int .i64 dm, .int .i64 lo, .int .i64 hi] 51)).drew
  replace x1 := blk_keep x1 (Below.refl _ _).drew
  replace x2 := blk_keep x2 (Below.refl _ _).drew
  generalize World.drew _ = V at x1 x2 BW ⊢
  have f0 := cell_block x1 0
  have f1 := cell_block x1 1
  have f2 := cell_block x1 2
  have f3 := cell_block x1 3
  have f4 := cell_block x2 0
  have hk := Below.refl V.heap.size V
  cases hlo : wIn lo 0 1000000
  all_goals
    go_wp2_with (first | ((with_reducible refine Calmly.is_fl ?_); refine Calmly.mix_fl rfl ?_ (fun _ _ => ?_); (first | exact .move _ | exact .load _ _ | exact .fieldAddr _ _ _ (by kernel_rfl) | exact .assign _ | exact .binOp _ _ _ _ _ rfl | exact .indexAddr _ _ _ | exact .len _ _ (by kernel_rfl) | exact .field _ _ _ | exact .extract _ _ | exact .pick _ _ _ | exact .build _ _ | exact .slice _ _ _ _ _ | exact .unOp _ _ _ rfl | exact .index _ _ _ | exact .max _ _ _ rfl rfl | exact .min _ _ _ rfl rfl)) | ((with_reducible refine Calmly.is_gl ?_); refine Calmly.mix_gl rfl rfl rfl ?_; first | ((first | with_reducible refine Calmly.gl_tt ?_ (fun _ _ => ?_) | with_reducible refine Calmly.gl_ff ?_ (fun _ _ => ?_)); (first | exact .move _ | exact .load _ _ | exact .fieldAddr _ _ _ (by kernel_rfl) | exact .assign _ | exact .binOp _ _ _ _ _ rfl | exact .indexAddr _ _ _ | exact .len _ _ (by kernel_rfl) | exact .field _ _ _ | exact .extract _ _ | exact .pick _ _ _ | exact .build _ _ | exact .slice _ _ _ _ _ | exact .unOp _ _ _ rfl | exact .index _ _ _ | exact .max _ _ _ rfl rfl | exact .min _ _ _ rfl rfl)) | with_reducible refine Calmly.gl_tf (fun _ _ => ?_) | with_reducible refine Calmly.gl_ft (fun _ _ => ?_)) | ((with_reducible refine Calmly.is_eff ?_); refine Calmly.mix_eff rfl (fun _ _ => ?_)) | ((with_reducible refine Calmly.is_gf ?_); refine Calmly.mix_gf rfl rfl rfl ?_; first | with_reducible refine Calmly.gf_tt (fun _ _ => ?_) | with_reducible refine Calmly.gf_ff (fun _ _ => ?_) | with_reducible refine Calmly.gf_tf (kept_of hk) (fun _ _ => ?_) | with_reducible refine Calmly.gf_ft (kept_of hk) (fun _ _ => ?_)) | ((with_reducible refine Calmly.is_kept ?_); refine ⟨kept_of hk, ?_⟩) | (with_reducible refine Calmly.mix_alt ?_ ?_) | (refine kept_alloc hk (fun hk' hblk hge => ?_); replace hk := hk'; clear hk') | (go_at_call 101; refine (oscillatorErr_any st dm _).mono ?_; rintro e w1 ⟨rfl, hs⟩; replace hk := step_of hk hs) | (go_at_call 140; refine (isPeak_any _ _).mono ?_; rintro e w1 ⟨rfl, rfl⟩) | (go_at_call 90; refine (nUnless_any _ _ _).mono ?_; rintro e w1 ⟨rfl, rfl⟩))
    refine (nFirst_any _ 3 3 _ _ (SI.three _ _ _ _ _ (by simp))).mono ?_
    rintro e w1 ⟨rfl, rfl⟩
    go_wp2_with (first | ((with_reducible refine Calmly.is_fl ?_); refine Calmly.mix_fl rfl ?_ (fun _ _ => ?_); (first | exact .move _ | exact .load _ _ | exact .fieldAddr _ _ _ (by kernel_rfl) | exact .assign _ | exact .binOp _ _ _ _ _ rfl | exact .indexAddr _ _ _ | exact .len _ _ (by kernel_rfl) | exact .field _ _ _ | exact .extract _ _ | exact .pick _ _ _ | exact .build _ _ | exact .slice _ _ _ _ _ | exact .unOp _ _ _ rfl | exact .index _ _ _ | exact .max _ _ _ rfl rfl | exact .min _ _ _ rfl rfl)) | ((with_reducible refine Calmly.is_gl ?_); refine Calmly.mix_gl rfl rfl rfl ?_; first | ((first | with_reducible refine Calmly.gl_tt ?_ (fun _ _ => ?_) | with_reducible refine Calmly.gl_ff ?_ (fun _ _ => ?_)); (first | exact .move _ | exact .load _ _ | exact .fieldAddr _ _ _ (by kernel_rfl) | exact .assign _ | exact .binOp _ _ _ _ _ rfl | exact .indexAddr _ _ _ | exact .len _ _ (by kernel_rfl) | exact .field _ _ _ | exact .extract _ _ | exact .pick _ _ _ | exact .build _ _ | exact .slice _ _ _ _ _ | exact .unOp _ _ _ rfl | exact .index _ _ _ | exact .max _ _ _ rfl rfl | exact .min _ _ _ rfl rfl)) | with_reducible refine Calmly.gl_tf (fun _ _ => ?_) | with_reducible refine Calmly.gl_ft (fun _ _ => ?_)) | ((with_reducible refine Calmly.is_eff ?_); refine Calmly.mix_eff rfl (fun _ _ => ?_)) | ((with_reducible refine Calmly.is_gf ?_); refine Calmly.mix_gf rfl rfl rfl ?_; first | with_reducible refine Calmly.gf_tt (fun _ _ => ?_) | with_reducible refine Calmly.gf_ff (fun _ _ => ?_) | with_reducible refine Calmly.gf_tf (kept_of hk) (fun _ _ => ?_) | with_reducible refine Calmly.gf_ft (kept_of hk) (fun _ _ => ?_)) | ((with_reducible refine Calmly.is_tail ?_); first | refine Calmly.mix_tail_nil ?_ | refine Calmly.mix_tail rfl (fun _ _ => ?_)) | ((with_reducible refine Calmly.is_kept ?_); refine ⟨kept_of hk, ?_⟩) | (with_reducible refine Calmly.mix_alt ?_ ?_))
    go_ret
    refine ⟨ret_int ?_, BW.trans (hk.mono BW.size)⟩
    rw [← HE.out, bndE]
    simp [hlo]

set_option maxRecDepth 100000 in
set_option maxHeartbeats 1000000 in
theorem eachOsc_any (a : Option Addr) (n c : Nat) (l : List (Int × Int)) (w : World) (h1 : SR w a n c l) :
    Calls Try.prog 103 #[.slice a n c, .func (.func 101) #[] #[]] w fun e w' => e = .returned (.int .i64 (firstE (l.map oscE))) ∧ Below w.heap.size w w' := by
  obtain ⟨l1, l2⟩ : n ≤ l.length ∧ l.length ≤ n := by have := h1.len; omega
  have m1 := h1.max
  have c1 := h1.cap
  obtain ⟨R, hR⟩ : ∃ R, firstE (l.map oscE) = R := ⟨_, rfl⟩
  rw [hR]
  have HR := Lib.hid hR
  clear hR
  go_enter Try.func103, Try.ntmps103
  go_wp2_with fail
  go_loopw [10] (fun i wr => ∃ k : Nat, k ≤ n ∧ i = .int .i64 k ∧ firstE ((l.drop k).map oscE) = R ∧ Below w.heap.size w wr) (fun i _ => n - (intOf i).toNat)
  case atStart => exact ⟨0, by omega, rfl, HR.out, Below.refl _ _⟩
  case round =>
    obtain ⟨k, hk, rfl, ht, hbr⟩ := hrel
    have HT := Lib.hid ht
    clear ht
    have hrs := hbr.size
    by_cases hlt : k < n
    · obtain ⟨cb, co, rfl, hcc⟩ := h1.at_ (by omega)
      obtain ⟨y0, y1⟩ := hcc k hlt
      replace y0 := cell_keep y0 hbr
      replace y1 := cell_keep y1 hbr
      clear hcc
      have hd := eachE_drop oscE l (0, 0) k (by omega)
      rw [HT.out] at hd
      obtain ⟨rr, hrr⟩ : ∃ rr, l[k]?.getD (0, 0) = rr := ⟨_, rfl⟩
      obtain ⟨st, dm⟩ := rr
      rw [hrr] at y0 y1 hd
      clear hrr
      dsimp only at y0 y1
      obtain ⟨E, hE⟩ : ∃ E, oscE (st, dm) = E := ⟨_, rfl⟩
      rw [hE] at hd
      have HD := Lib.hid hd
      have HE := Lib.hid hE
      clear hd hE
      have hi1 : (k : Int) < (n : Int) := by omega
      have hi0 : (0 : Int) ≤ (k : Int) := by omega
      go_wp2_with fail
      refine (oscillatorErr_any st dm _).mono ?_
      rintro e w1 ⟨rfl, hs⟩
      rw [HE.out]
      have hbn := hbr.trans (((Below.refl wr.heap.size wr).alloc (Nat.le_refl _) (.cells #[.int .i64 st, .int .i64 dm] 49)).trans (hs.mono (by simp)) |>.mono hrs)
      by_cases hz : E = 0
      · subst hz
        have hE0 : ((0 : Int) != 0) = false := rfl
        go_wp2_with fail
        go_roundw
        case rel => exact ⟨k + 1, by omega, by go_num, by rw [HD.out]; simp, hbn⟩
        case measure => simp [intOf]; omega
      · have b1 : (E != 0) = true := by simpa using hz
        have hRE : R = E := by rw [HD.out, if_neg hz]
        clear hz
        go_wp2_with fail
        go_ret
        exact ⟨ret_int hRE.symm, hbn⟩
    · have hle : (n : Int) ≤ (k : Int) := by omega
      have hR0 : R = 0 := by rw [← HT.out, List.drop_eq_nil_of_le (by omega)]; rfl
      go_wp2_with fail
      go_ret
      exact ⟨ret_int hR0.symm, hbr⟩

set_option maxRecDepth 100000 in
set_option maxHeartbeats 1000000 in
theorem eachBnd_any (a : Option Addr) (n c : Nat) (l : List Four) (w : World) (h1 : SB w a n c l) (pb : Nat) (h2 : w.heap[pb]? = some (.cells #[.func (.func 140) #[] #[]] 124)) :
    Calls Try.prog 141 #[.slice a n c, .func (.func 142) #[] #[.pointer (some ⟨pb, 0, none⟩)]] w fun e w' => e = .returned (.int .i64 (firstE (l.map bndE))) ∧ Below w.heap.size w w' := by
  obtain ⟨l1, l2⟩ : n ≤ l.length ∧ l.length ≤ n := by have := h1.len; omega
  have m1 := h1.max
  have c1 := h1.cap
  obtain ⟨R, hR⟩ : ∃ R, firstE (l.map bndE) = R := ⟨_, rfl⟩
  rw [hR]
  have HR := Lib.hid hR
  clear hR
  go_enter Try.func141, Try.ntmps141
  go_wp2_with fail
  go_loopw [10] (fun i wr => ∃ k : Nat, k ≤ n ∧ i = .int .i64 k ∧ firstE ((l.drop k).map bndE) = R ∧ Below w.heap.size w wr) (fun i _ => n - (intOf i).toNat)
  case atStart => exact ⟨0, by omega, rfl, HR.out, Below.refl _ _⟩
  case round =>
    obtain ⟨k, hk, rfl, ht, hbr⟩ := hrel
    have HT := Lib.hid ht
    clear ht
    have hrs := hbr.size
    by_cases hlt : k < n
    · obtain ⟨cb, co, rfl, hcc⟩ := h1.at_ (by omega)
      obtain ⟨y0, y1, y2, y3⟩ := hcc k hlt
      replace y0 := cell_keep y0 hbr
      replace y1 := cell_keep y1 hbr
      replace y2 := cell_keep y2 hbr
      replace y3 := cell_keep y3 hbr
      clear hcc
      have hd := eachE_drop bndE l four0 k (by omega)
      rw [HT.out] at hd
      obtain ⟨rr, hrr⟩ : ∃ rr, l[k]?.getD four0 = rr := ⟨_, rfl⟩
      obtain ⟨⟨st, dm⟩, ⟨lo, hi⟩⟩ := rr
      rw [hrr] at y0 y1 y2 y3 hd
      clear hrr
      dsimp only at y0 y1 y2 y3
      obtain ⟨E, hE⟩ : ∃ E, bndE ((st, dm), (lo, hi)) = E := ⟨_, rfl⟩
      rw [hE] at hd
      have HD := Lib.hid hd
      have HE := Lib.hid hE
      clear hd hE
      have hi1 : (k : Int) < (n : Int) := by omega
      have hi0 : (0 : Int) ≤ (k : Int) := by omega
      go_wp2_with fail
      refine (bndErr_any st dm lo hi pb _ (blk_keep (blk_keep h2 hbr) ((Below.refl _ _).alloc (Nat.le_refl _) _))).mono ?_
      rintro e w1 ⟨rfl, hs⟩
      rw [HE.out]
      have hbn := hbr.trans (((Below.refl wr.heap.size wr).alloc (Nat.le_refl _) (.cells #[.int .i64 st, .int .i64 dm, .int .i64 lo, .int .i64 hi] 51)).trans (hs.mono (by simp)) |>.mono hrs)
      by_cases hz : E = 0
      · subst hz
        have hE0 : ((0 : Int) != 0) = false := rfl
        go_wp2_with fail
        go_roundw
        case rel => exact ⟨k + 1, by omega, by go_num, by rw [HD.out]; simp, hbn⟩
        case measure => simp [intOf]; omega
      · have b1 : (E != 0) = true := by simpa using hz
        have hRE : R = E := by rw [HD.out, if_neg hz]
        clear hz
        go_wp2_with fail
        go_ret
        exact ⟨ret_int hRE.symm, hbn⟩
    · have hle : (n : Int) ≤ (k : Int) := by omega
      have hR0 : R = 0 := by rw [← HT.out, List.drop_eq_nil_of_le (by omega)]; rfl
      go_wp2_with fail
      go_ret
      exact ⟨ret_int hR0.symm, hbr⟩

set_option maxRecDepth 100000 in
set_option maxHeartbeats 1000000 in
theorem eachTim_any (a : Option Addr) (n c : Nat) (l : List Int) (w : World) (h1 : SI w a n c l) :
    Calls Try.prog 155 #[.slice a n c, .func (.func 156) #[] #[]] w fun e w' => e = .returned (.int .i64 (firstE (l.map timE))) ∧ Below w.heap.size w w' := by
  obtain ⟨l1, l2⟩ : n ≤ l.length ∧ l.length ≤ n := by have := h1.len; omega
  have m1 := h1.max
  have c1 := h1.cap
  obtain ⟨R, hR⟩ : ∃ R, firstE (l.map timE) = R := ⟨_, rfl⟩
  rw [hR]
  have HR := Lib.hid hR
  clear hR
  go_enter Try.func155, Try.ntmps155
  go_wp2_with fail
  go_loopw [10] (fun i wr => ∃ k : Nat, k ≤ n ∧ i = .int .i64 k ∧ firstE ((l.drop k).map timE) = R ∧ Below w.heap.size w wr) (fun i _ => n - (intOf i).toNat)
  case atStart => exact ⟨0, by omega, rfl, HR.out, Below.refl _ _⟩
  case round =>
    obtain ⟨k, hk, rfl, ht, hbr⟩ := hrel
    have HT := Lib.hid ht
    clear ht
    have hrs := hbr.size
    by_cases hlt : k < n
    · obtain ⟨cb, co, rfl, hcc⟩ := h1.at_ (by omega)
      have y0 := cell_keep (hcc k hlt) hbr
      clear hcc
      have hd := eachE_drop timE l 0 k (by omega)
      rw [HT.out] at hd
      obtain ⟨x, hxx⟩ : ∃ x, l[k]?.getD 0 = x := ⟨_, rfl⟩
      rw [hxx] at y0 hd
      clear hxx
      obtain ⟨E, hE⟩ : ∃ E, timE x = E := ⟨_, rfl⟩
      rw [hE] at hd
      have HD := Lib.hid hd
      have HE := Lib.hid hE
      clear hd hE
      have hi1 : (k : Int) < (n : Int) := by omega
      have hi0 : (0 : Int) ≤ (k : Int) := by omega
      go_wp2_with fail
      refine (timErr_any x _).mono ?_
      rintro e w1 ⟨rfl, hs⟩
      rw [HE.out]
      have hbn := hbr.trans (hs.mono hrs)
      by_cases hz : E = 0
      · subst hz
        have hE0 : ((0 : Int) != 0) = false := rfl
        go_wp2_with fail
        go_roundw
        case rel => exact ⟨k + 1, by omega, by go_num, by rw [HD.out]; simp, hbn⟩
        case measure => simp [intOf]; omega
      · have b1 : (E != 0) = true := by simpa using hz
        have hRE : R = E := by rw [HD.out, if_neg hz]
        clear hz
        go_wp2_with fail
        go_ret
        exact ⟨ret_int hRE.symm, hbn⟩
    · have hle : (n : Int) ≤ (k : Int) := by omega
      have hR0 : R = 0 := by rw [← HT.out, List.drop_eq_nil_of_le (by omega)]; rfl
      go_wp2_with fail
      go_ret
      exact ⟨ret_int hR0.symm, hbr⟩

set_option maxHeartbeats 400000 in
theorem noSampleW_any (x : Int) (w : World) : Calls Try.prog 170 #[.int .i64 x] w fun e w' => e = .returned (.bool (!smp x)) ∧ w = w' := by
  go_enter Try.func170, Try.ntmps170
  go_wp2_with fail
  refine (isSample_any x _).mono ?_
  rintro e w1 ⟨rfl, rfl⟩
  go_wp2_with fail
  go_ret
  exact ⟨rfl, rfl⟩

set_option maxRecDepth 100000 in
set_option maxHeartbeats 1000000 in
theorem indexBadW_any (a : Option Addr) (n c : Nat) (xs : List Int) (w : World) (h1 : SI w a n c xs) :
    Calls Try.prog 95 #[.slice a n c, .func (.func 170) #[] #[]] w fun e w' => e = .returned (.int .i64 (badI xs)) ∧ w = w' := by
  obtain ⟨l1, l2⟩ : n ≤ xs.length ∧ xs.length ≤ n := by have := h1.len; omega
  have m1 := h1.max
  have c1 := h1.cap
  obtain ⟨R, hR⟩ : ∃ R, badI xs = R := ⟨_, rfl⟩
  rw [hR]
  have HR := Lib.hid hR
  clear hR
  go_enter Try.func95, Try.ntmps95
  go_wp2_with fail
  go_loop [8] (fun i => ∃ k : Nat, k ≤ n ∧ i = .int .i64 k ∧ badS xs 0 = badS (xs.drop k) k) (fun i => n - (intOf i).toNat)
  case atStart => exact ⟨0, by omega, rfl, rfl⟩
  case round =>
    obtain ⟨k, hk, rfl, ht⟩ := hrel
    have HT := Lib.hid ht
    clear ht
    by_cases hlt : k < n
    · obtain ⟨b1, o1, rfl, hc1⟩ := h1.at_ (by omega)
      have e1 := hc1 k hlt
      clear hc1
      have hi : (k : Int) < (n : Int) := by omega
      have hi0 : (0 : Int) ≤ (k : Int) := by omega
      have hd := badS_drop xs k (by omega)
      obtain ⟨x, hxx⟩ : ∃ x, xs[k]?.getD 0 = x := ⟨_, rfl⟩
      rw [hxx] at e1 hd
      have HD := Lib.hid hd
      clear hxx hd
      go_wp2_with fail
      refine (noSampleW_any _ _).mono ?_
      rintro e w1 ⟨rfl, rfl⟩
      cases ho : smp x
      · go_wp2_with fail
        go_ret
        refine ⟨ret_int ?_, rfl⟩
        rw [← HR.out, badI, HT.out, HD.out, ho]
        rfl
      · go_wp2_with fail
        go_round
        case rel => exact ⟨k + 1, by omega, by go_num, by rw [HT.out, HD.out, ho]; rfl⟩
        case measure => simp [intOf]; omega
    · have hle : (n : Int) ≤ (k : Int) := by omega
      go_wp2_with fail
      go_ret
      refine ⟨ret_int ?_, rfl⟩
      rw [← HR.out, badI, HT.out, List.drop_eq_nil_of_le (by omega)]
      rfl

set_option maxHeartbeats 400000 in
theorem containsBadW_any (a : Option Addr) (n c : Nat) (xs : List Int) (w : World) (h1 : SI w a n c xs) :
    Calls Try.prog 122 #[.slice a n c, .func (.func 170) #[] #[]] w fun e w' => e = .returned (.bool (badS xs 0).isSome) ∧ w = w' := by
  have hI : decide (badI xs ≥ 0) = (badS xs 0).isSome := by
    unfold badI
    cases badS xs 0 with
    | none => rfl
    | some i => simp
  have HI := Lib.hid hI
  clear hI
  go_enter Try.func122, Try.ntmps122
  go_wp2_with fail
  refine (indexBadW_any a n c xs _ h1).mono ?_
  rintro e w1 ⟨rfl, rfl⟩
  go_wp2_with fail
  go_ret
  exact ⟨ret_bool HI.out, rfl⟩

set_option maxRecDepth 100000 in
set_option maxHeartbeats 1000000 in
theorem wavErr_any (a : Option Addr) (n c : Nat) (xs : List Int) (step : Int) (ra : Option Addr) (rn rc pb : Nat) (w : World) (h1 : SI w a n c xs) (hn : rn ≤ 24) (hn2 : 0 < rn) (h2 : w.heap[pb]? = some (.cells #[.int .i64 step, .slice ra rn rc] 24)) :
    Calls Try.prog 169 #[.slice a n c, .pointer (some ⟨pb, 0, none⟩)] w fun e w' => e = .returned (.int .i64 (wavE rn xs)) ∧ Below w.heap.size w w' := by
  obtain ⟨l1, l2⟩ : n ≤ xs.length ∧ xs.length ≤ n := by have := h1.len; omega
  obtain ⟨E, hE⟩ : ∃ E, wavE rn xs = E := ⟨_, rfl⟩
  rw [hE]
  have HE := Lib.hid hE
  clear hE
  have f0 := cell_block h2 0
  have f1 := cell_block h2 1
  by_cases hl : n = rn
  case neg =>
    have b1 : ((n : Int) != (rn : Int)) = true := by simp; omega
    have hE1 : E = 10 := by rw [← HE.out, wavE, if_neg (by omega)]
    clear hl
    go_enter Try.func169, Try.ntmps169
    go_wp2_with fail
    go_ret
    exact ⟨ret_int hE1.symm, Below.refl _ _⟩
  subst hl
  have b1 : ((n : Int) != (n : Int)) = false := by simp
  cases hbs : badS xs 0 with
  | some i =>
    have hE1 : E = 2 := by rw [← HE.out, wavE, if_pos (by omega), hbs]; rfl
    have HB : Hid ((badS xs 0).isSome = true) := Lib.hid (by rw [hbs]; rfl)
    clear hbs
    go_enter Try.func169, Try.ntmps169
    go_wp2_with fail
    refine (containsBadW_any a n c xs _ h1).mono ?_
    rintro e w1 ⟨rfl, rfl⟩
    rw [HB.out]
    go_wp2_with fail
    go_ret
    exact ⟨ret_int hE1.symm, Below.refl _ _⟩
  | none =>
    have hq := badS_none hbs
    have HQ := Lib.hid hq
    obtain ⟨V, hV⟩ : ∃ V, sumT xs n = V := ⟨_, rfl⟩
    obtain ⟨D, hD⟩ : ∃ D, sumT (sumsF xs) n = D := ⟨_, rfl⟩
    have hE1 : E = unlessE (decide (V = 0 ∧ D = 0)) 21 := by rw [← HE.out, wavE, if_pos (by omega), if_pos hbs, hV, hD]
    have HE1 := Lib.hid hE1
    have HV := Lib.hid hV
    have HD := Lib.hid hD
    have HB : Hid ((badS xs 0).isSome = false) := Lib.hid (by rw [hbs]; rfl)
    clear hbs hq hE1 hV hD HE
    go_enter Try.func169, Try.ntmps169
    go_wp2_with fail
    refine (containsBadW_any a n c xs _ h1).mono ?_
    rintro e w1 ⟨rfl, rfl⟩
    rw [HB.out]
    go_wp2_with fail
    refine (end_any a n c xs _ h1 (by omega) (by omega) HQ.out V D HV.out HD.out).mono ?_
    rintro e w1 ⟨rfl, hs⟩
    go_wp2_with fail
    all_goals
      refine (nUnless_any _ _ _).mono ?_
      rintro e w2 ⟨rfl, rfl⟩
      go_wp2_with fail
      go_ret
      refine ⟨ret_int ?_, hs⟩
      rw [HE1.out]
      congr 1
      simp
      try omega

set_option maxRecDepth 100000 in
set_option maxHeartbeats 1000000 in
theorem eachWav_any (a : Option Addr) (n c : Nat) (l : List (List Int)) (w : World) (h1 : SW w a n c l) (step : Int) (ra : Option Addr) (rn rc pb : Nat) (hn : rn ≤ 24) (hn2 : 0 < rn) (h2 : w.heap[pb]? = some (.cells #[.int .i64 step, .slice ra rn rc] 24)) :
    Calls Try.prog 168 #[.slice a n c, .func (.func 169) #[] #[.pointer (some ⟨pb, 0, none⟩)]] w fun e w' => e = .returned (.int .i64 (firstE (l.map (wavE rn)))) ∧ Below w.heap.size w w' := by
  obtain ⟨l1, l2⟩ : n ≤ l.length ∧ l.length ≤ n := by have := h1.len; omega
  have m1 := h1.max
  have c1 := h1.cap
  obtain ⟨R, hR⟩ : ∃ R, firstE (l.map (wavE rn)) = R := ⟨_, rfl⟩
  rw [hR]
  have HR := Lib.hid hR
  clear hR
  go_enter Try.func168, Try.ntmps168
  go_wp2_with fail
  go_loopw [10] (fun i wr => ∃ k : Nat, k ≤ n ∧ i = .int .i64 k ∧ firstE ((l.drop k).map (wavE rn)) = R ∧ Below w.heap.size w wr) (fun i _ => n - (intOf i).toNat)
  case atStart => exact ⟨0, by omega, rfl, HR.out, Below.refl _ _⟩
  case round =>
    obtain ⟨k, hk, rfl, ht, hbr⟩ := hrel
    have HT := Lib.hid ht
    clear ht
    have hrs := hbr.size
    by_cases hlt : k < n
    · obtain ⟨cb, co, rfl, hcc⟩ := h1.at_ (by omega)
      obtain ⟨ya, yn, yc, y0, y1⟩ := hcc k hlt
      replace y0 := cell_keep y0 hbr
      replace y1 := y1.keep hbr
      clear hcc
      have hd := eachE_drop (wavE rn) l [] k (by omega)
      rw [HT.out] at hd
      obtain ⟨x, hxx⟩ : ∃ x, l[k]?.getD [] = x := ⟨_, rfl⟩
      rw [hxx] at y1 hd
      clear hxx
      obtain ⟨E, hE⟩ : ∃ E, (wavE rn) x = E := ⟨_, rfl⟩
      rw [hE] at hd
      have HD := Lib.hid hd
      have HE := Lib.hid hE
      clear hd hE
      have hi1 : (k : Int) < (n : Int) := by omega
      have hi0 : (0 : Int) ≤ (k : Int) := by omega
      go_wp2_with fail
      refine (wavErr_any ya yn yc x step ra rn rc pb _ y1 hn hn2 (blk_keep h2 hbr)).mono ?_
      rintro e w1 ⟨rfl, hs⟩
      rw [HE.out]
      have hbn := hbr.trans (hs.mono hrs)
      by_cases hz : E = 0
      · subst hz
        have hE0 : ((0 : Int) != 0) = false := rfl
        go_wp2_with fail
        go_roundw
        case rel => exact ⟨k + 1, by omega, by go_num, by rw [HD.out]; simp, hbn⟩
        case measure => simp [intOf]; omega
      · have b1 : (E != 0) = true := by simpa using hz
        have hRE : R = E := by rw [HD.out, if_neg hz]
        clear hz
        go_wp2_with fail
        go_ret
        exact ⟨ret_int hRE.symm, hbn⟩
    · have hle : (n : Int) ≤ (k : Int) := by omega
      have hR0 : R = 0 := by rw [← HT.out, List.drop_eq_nil_of_le (by omega)]; rfl
      go_wp2_with fail
      go_ret
      exact ⟨ret_int hR0.symm, hbr⟩

set_option maxRecDepth 100000 in
set_option maxHeartbeats 1000000 in
theorem timesErr_any (wa : Option Addr) (wn wc : Nat) (a : Option Addr) (n c : Nat) (xs : List Int) (w : World) (h1 : SI w a n c xs) (_hw1 : wn ≤ wc) (_hw2 : wc ≤ 9223372036854775807) (E : Int) (hE : timesE wn xs = E) :
    Calls Try.prog 116 #[.slice wa wn wc, .slice a n c] w fun e w' => e = .returned (.int .i64 E) ∧ Below w.heap.size w w' := by
  obtain ⟨l1, l2⟩ : n ≤ xs.length ∧ xs.length ≤ n := by have := h1.len; omega
  have m1 := h1.max
  have c1 := h1.cap
  have e1 : decide (xs.length = wn) = ((n : Int) == (wn : Int)) := by
    rw [Bool.eq_iff_iff]
    simp
    omega
  unfold timesE at hE
  rw [e1] at hE
  have HE := Lib.hid hE
  clear hE e1
  go_enter Try.func116, Try.ntmps116
  go_wp2_with fail
  refine (nUnless_any _ _ _).mono ?_
  rintro e w1 ⟨rfl, rfl⟩
  go_wp2_with fail
  refine (eachTim_any a n c xs _ h1).mono ?_
  rintro e w1 ⟨rfl, hs⟩
  go_wp2_with fail
  refine (nFirst_any _ 2 2 _ _ (SI.two _ _ _ _ rfl)).mono ?_
  rintro e w2 ⟨rfl, rfl⟩
  go_wp2_with fail
  go_ret
  exact ⟨ret_int HE.out, hs.alloc hs.size _⟩

set_option maxRecDepth 100000 in
set_option maxHeartbeats 1000000 in
theorem bandErr_any (a : Option Addr) (n c : Nat) (l : List Four) (w : World) (h1 : SB w a n c l) (E : Int) (hE : bandE l = E) :
    Calls Try.prog 84 #[.slice a n c] w fun e w' => e = .returned (.int .i64 E) ∧ Below w.heap.size w w' := by
  obtain ⟨l1, l2⟩ : n ≤ l.length ∧ l.length ≤ n := by have := h1.len; omega
  have m1 := h1.max
  have c1 := h1.cap
  have e1 : decide (0 < l.length) = decide (0 < n) := by congr 1; rw [eq_iff_iff]; omega
  have e2 : decide (l.length ≤ 6) = decide ((n : Int) ≤ 6) := by congr 1; rw [eq_iff_iff]; omega
  unfold bandE at hE
  rw [e1, e2] at hE
  have HE := Lib.hid hE
  clear hE e1 e2
  have BW : Below w.heap.size w (w.alloc (.cells #[.func (.func 140) #[] #[]] 124)) := (Below.refl _ _).alloc (Nat.le_refl _) _
  have x1 := alloc_new w (.cells #[.func (.func 140) #[] #[]] 124)
  go_enter Try.func84, Try.ntmps84
  go_wp2_with fail
  refine (nUnless_any _ _ _).mono ?_
  rintro e w1 ⟨rfl, rfl⟩
  go_wp2_with fail
  refine (nUnless_any _ _ _).mono ?_
  rintro e w1 ⟨rfl, rfl⟩
  go_wp2_with fail
  refine (eachBnd_any a n c l _ (h1.keep BW) w.heap.size x1).mono ?_
  rintro e w1 ⟨rfl, hs⟩
  go_wp2_with fail
  refine (nFirst_any _ 3 3 _ _ (SI.three _ _ _ _ _ rfl)).mono ?_
  rintro e w2 ⟨rfl, rfl⟩
  go_wp2_with fail
  go_ret
  have B2 := BW.trans (hs.mono BW.size)
  exact ⟨ret_int HE.out, B2.alloc B2.size _⟩

set_option maxRecDepth 100000 in
set_option maxHeartbeats 1000000 in
theorem wavesErr_any (step : Int) (ra : Option Addr) (rn rc : Nat) (a : Option Addr) (n c : Nat) (l : List (List Int)) (w : World) (h1 : SW w a n c l) (hn : rn ≤ 24) (hn2 : 0 < rn) (E : Int) (hE : wavesE rn l = E) :
    Calls Try.prog 139 #[.agg #[.int .i64 step, .slice ra rn rc], .slice a n c] w fun e w' => e = .returned (.int .i64 E) ∧ Below w.heap.size w w' := by
  obtain ⟨l1, l2⟩ : n ≤ l.length ∧ l.length ≤ n := by have := h1.len; omega
  have m1 := h1.max
  have c1 := h1.cap
  have e2 : decide (l.length ≤ 3) = decide ((n : Int) ≤ 3) := by congr 1; rw [eq_iff_iff]; omega
  unfold wavesE at hE
  rw [e2] at hE
  have HE := Lib.hid hE
  clear hE e2
  have BW : Below w.heap.size w (w.alloc (.cells #[.int .i64 step, .slice ra rn rc] 24)) := (Below.refl _ _).alloc (Nat.le_refl _) _
  have x1 := alloc_new w (.cells #[.int .i64 step, .slice ra rn rc] 24)
  go_enter Try.func139, Try.ntmps139
  go_wp2_with fail
  refine (nUnless_any _ _ _).mono ?_
  rintro e w1 ⟨rfl, rfl⟩
  go_wp2_with fail
  refine (eachWav_any a n c l _ (h1.keep BW) step ra rn rc w.heap.size hn hn2 x1).mono ?_
  rintro e w1 ⟨rfl, hs⟩
  go_wp2_with fail
  refine (nFirst_any _ 2 2 _ _ (SI.two _ _ _ _ rfl)).mono ?_
  rintro e w2 ⟨rfl, rfl⟩
  go_wp2_with fail
  go_ret
  have B2 := BW.trans (hs.mono BW.size)
  exact ⟨ret_int HE.out, B2.alloc B2.size _⟩

/-- The error of a record, then that of waves. -/
def openE (step : Int) (xs : List Int) (ws : List (List Int)) : Int := if (recF step xs).2 = 0 then wavesE xs.length ws else (recF step xs).2
set_option maxRecDepth 100000 in
set_option maxHeartbeats 1000000 in
theorem openWaves_any (step : Int) (ra : Option Addr) (rn rc : Nat) (xs : List Int) (a : Option Addr) (n c : Nat) (l : List (List Int)) (w : World) (h0 : SI w ra rn rc xs) (h1 : SW w a n c l) (E : Int) (hE : openE step xs l = E) :
    Calls Try.prog 83 #[.agg #[.int .i64 step, .slice ra rn rc], .slice a n c] w fun e w' => e = .returned (.int .i64 E) ∧ Below w.heap.size w w' := by
  obtain ⟨l1, l2⟩ : rn ≤ xs.length ∧ xs.length ≤ rn := by have := h0.len; omega
  have m1 := h1.max
  have c1 := h1.cap
  obtain ⟨F, hF⟩ : ∃ F, (recF step xs).2 = F := ⟨_, rfl⟩
  unfold openE at hE
  rw [hF] at hE
  have HE := Lib.hid hE
  have HF := Lib.hid hF
  clear hE hF
  have BW : Below w.heap.size w (w.alloc (.cells #[.int .i64 step, .slice ra rn rc] 24)) := (Below.refl _ _).alloc (Nat.le_refl _) _
  go_enter Try.func83, Try.ntmps83
  go_wp2_with fail
  refine (recordErr_any step ra rn rc xs _ (h0.keep BW) F HF.out).mono ?_
  rintro e w1 ⟨rfl, hs⟩
  have x1 := box1 (w := w) (o := .cells #[.int .i64 step, .slice ra rn rc] 24) hs
  replace BW := BW.trans (hs.mono BW.size)
  have f0 := cell_block x1 0
  have f1 := cell_block x1 1
  clear hs
  by_cases hz : F = 0
  case neg =>
    have b1 : (F != 0) = true := by simpa using hz
    have hE1 : E = F := by rw [← HE.out, if_neg hz]
    clear hz
    go_wp2_with fail
    go_ret
    exact ⟨ret_int hE1.symm, BW⟩
  subst hz
  obtain ⟨q1, q2, q3, q4, q5⟩ := recF_ok HF.out
  have hq : rn ≤ 24 ∧ 0 < rn := by omega
  obtain ⟨hq1, hq2⟩ := hq
  clear q1 q2 q3 q4 q5
  go_wp2_with fail
  refine (wavesErr_any step ra rn rc a n c l _ (h1.keep BW) hq1 hq2 E (by rw [← HE.out]; simp; congr 1; omega)).mono ?_
  rintro e w2 ⟨rfl, hs⟩
  go_wp2_with fail
  go_ret
  exact ⟨rfl, BW.trans (hs.mono BW.size)⟩
end Go.Proofs.Ytiibdndchkbefaa

namespace Go.Proofs.Ytiibdndchkbefaa
open Go.RowKit
open Calmly (Kept)

theorem tdiv_bd {X C : Int} (h1 : -C ≤ X) (h2 : X ≤ C) : -C ≤ X.tdiv 1000 ∧ X.tdiv 1000 ≤ C := by
  have h : (X.tdiv 1000).natAbs ≤ X.natAbs := by
    rw [Int.natAbs_tdiv]
    exact Nat.div_le_self _ _
  omega
/-- How great the numbers of a response are. -/
theorem rspT_num {xs : List Int} {st dm : Int} (ho : oscE (st, dm) = 0) (hx : ∀ j : Nat, -1000 ≤ xs[j]?.getD 0 ∧ xs[j]?.getD 0 ≤ 1000) (k : Nat) (hk : k ≤ 26) :
    (-10000000000000 ≤ (rspT xs st dm k).1 ∧ (rspT xs st dm k).1 ≤ 10000000000000) ∧ (-10000000000000 ≤ (rspT xs st dm k).2 ∧ (rspT xs st dm k).2 ≤ 10000000000000) := by
  obtain ⟨h1, h2⟩ := oscE_ok ho
  have h3 := rspT_bd (xs := xs) (st := st) (dm := dm) h1 h2 hx k
  have h4 := rspB_mono (j := k) (k := 26) hk
  have h5 := rspB_pos k
  have h6 := rspB_num.2
  omega
theorem rsp_nums {st dm u v x : Int} (ho : oscE (st, dm) = 0) (hu : -10000000000000 ≤ u ∧ u ≤ 10000000000000) (hv : -10000000000000 ≤ v ∧ v ≤ 10000000000000) (hx : -1000 ≤ x ∧ x ≤ 1000) :
    (-30000000000000000 ≤ st * u ∧ st * u ≤ 30000000000000000) ∧ (-10000000000000000 ≤ dm * (u - v) ∧ dm * (u - v) ≤ 10000000000000000) ∧ (-40000000000000000 ≤ (st * u + dm * (u - v)).tdiv 1000 ∧ (st * u + dm * (u - v)).tdiv 1000 ≤ 40000000000000000) := by
  obtain ⟨h1, h2⟩ := oscE_ok ho
  obtain ⟨p1, p2, _⟩ := rsp_step (st := st) (dm := dm) (a := u) (b := v) (x := x) (A := 10000000000000) (B := 10000000000000) h1 h2 hx hu hv
  have p3 := tdiv_bd (X := st * u + dm * (u - v)) (C := 40000000000000000) (by omega) (by omega)
  exact ⟨by omega, by omega, p3⟩

set_option maxRecDepth 100000 in
set_option maxHeartbeats 1000000 in
theorem response_any (a : Option Addr) (n c : Nat) (xs : List Int) (st dm : Int) (w : World) (h1 : SI w a n c xs) (hn : n ≤ 26) (ho : oscE (st, dm) = 0) (hb : ∀ j : Nat, -1000 ≤ xs[j]?.getD 0 ∧ xs[j]?.getD 0 ≤ 1000) :
    Calls Try.prog 102 #[.slice a n c, .agg #[.int .i64 st, .int .i64 dm]] w fun e w' => ∃ a' c', e = .returned (.slice a' n c') ∧ OwI w' (w.heap.size + 1) a' n c' (rspTo xs st dm n) ∧ Below w.heap.size w w' := by
  have m1 := h1.max
  have c1 := h1.cap
  have HO := Lib.hid ho
  have HB := Lib.hid hb
  clear ho hb
  have hA : Below w.heap.size w (w.alloc (.cells #[.int .i64 st, .int .i64 dm] 49)) := (Below.refl _ _).alloc (Nat.le_refl _) _
  have x1 := alloc_new w (.cells #[.int .i64 st, .int .i64 dm] 49)
  go_enter Try.func102, Try.ntmps102
  go_wp2_with fail
  obtain ⟨V, hV⟩ : ∃ V, w.alloc (.cells #[.int .i64 st, .int .i64 dm] 49) = V := ⟨_, rfl⟩
  have hVs : V.heap.size = w.heap.size + 1 := by rw [← hV]; simp
  rw [hV] at hA x1 ⊢
  clear hV
  go_loopw [5, 6, 7, 13] (fun o l s i wr => ∃ (k c' : Nat) (a' : Option Addr), i = .int .i64 (k : Int) ∧ k ≤ n ∧ l = .int .i64 (rspT xs st dm k).1 ∧ s = .int .i64 (rspT xs st dm k).2 ∧ o = .slice a' k c' ∧ OwI wr (w.heap.size + 1) a' k c' (rspTo xs st dm k) ∧ Below V.heap.size V wr) (fun _ _ _ i _ => n - (intOf i).toNat)
  case atStart => exact ⟨0, 0, none, rfl, by omega, rfl, rfl, rfl, OwI.nil _ _, Below.refl _ _⟩
  case round =>
    obtain ⟨k, c', a', rfl, hk, rfl, rfl, rfl, hown, hbr⟩ := hrel
    have hs := hbr.size
    have hbw := hA.trans (hbr.mono hA.size)
    have x2 := blk_keep x1 hbr
    have f0 := cell_block x2 0
    have f1 := cell_block x2 1
    by_cases hlt : k < n
    · obtain ⟨ba, oa, rfl, hca⟩ := (h1.keep hbw).at_ (by omega)
      have ea := hca k hlt
      have hx := HB.out k
      obtain ⟨b1, b2⟩ := rspT_num HO.out HB.out k (by omega)
      have hn1 : rspT xs st dm (k + 1) = (2 * (rspT xs st dm k).1 - (rspT xs st dm k).2 - (st * (rspT xs st dm k).1 + dm * ((rspT xs st dm k).1 - (rspT xs st dm k).2)).tdiv 1000 - xs[k]?.getD 0, (rspT xs st dm k).1) := rfl
      have hn2 := rspTo_succ xs st dm k
      obtain ⟨x, hxx⟩ : ∃ x, xs[k]?.getD 0 = x := ⟨_, rfl⟩
      obtain ⟨p, hpp⟩ : ∃ p, rspT xs st dm k = p := ⟨_, rfl⟩
      obtain ⟨u, v⟩ := p
      rw [hxx] at ea hx hn1
      rw [hpp] at b1 b2 hn1 ⊢
      dsimp only at b1 b2 hn1 ⊢
      obtain ⟨⟨g1, g2⟩, ⟨g3, g4⟩, g5, g6⟩ := rsp_nums HO.out b1 b2 hx
      rw [hn1] at hn2
      have HN1 := Lib.hid hn1
      have HN2 := Lib.hid hn2
      clear hca hn1 hn2 hxx hpp
      obtain ⟨hx1, hx2⟩ := hx
      obtain ⟨b1, b1'⟩ := b1
      obtain ⟨b2, b2'⟩ := b2
      have hi : (k : Int) < (n : Int) := by omega
      have hi0 : (0 : Int) ≤ (k : Int) := by omega
      go_wp2_with (first | (at_builtin; refine appI rfl _ _ rfl hown rfl rfl (by omega) (by omega) ?_; intro a2' c2' w5 ho5 hb5 hs5))
      go_roundw
      case rel => exact ⟨k + 1, c2', a2', by go_num, by omega, by rw [HN1.out], by rw [HN1.out], rfl, by rw [HN2.out]; exact ho5, hbr.trans (hb5.mono (by omega))⟩
      case measure => simp [intOf]; omega
    · have hle : (n : Int) ≤ (k : Int) := by omega
      obtain rfl : n = k := by omega
      go_wp2_with fail
      go_ret
      exact ⟨a', c', rfl, hown, hbw⟩

set_option maxRecDepth 100000 in
set_option maxHeartbeats 1000000 in
theorem ResponseOf_any (step st dm : Int) (a : Option Addr) (n c : Nat) (xs : List Int) (w : World) (h1 : SI w a n c xs) (E : Int) (X : List Int) (hE : firstE [(recF step xs).2, oscE (st, dm)] = E) (hno : E ≠ 0 → X = []) (hok : E = 0 → X = rspTo xs st dm n) :
    Calls Try.prog 38 #[.agg #[.int .i64 step, .slice a n c], .agg #[.int .i64 st, .int .i64 dm]] w fun e w' => ∃ a' n' c', e = .returned (.tuple #[.slice a' n' c', .int .i64 E]) ∧ SI w' a' n' c' X ∧ Below w.heap.size w w' := by
  have hb2 : Below w.heap.size w ((w.alloc (.cells #[.int .i64 step, .slice a n c] 24)).alloc (.cells #[.int .i64 st, .int .i64 dm] 49)) := ((Below.refl _ _).alloc (Nat.le_refl _) _).alloc (by simp) _
  obtain ⟨l1, l2⟩ : n ≤ xs.length ∧ xs.length ≤ n := by have := h1.len; omega
  have m1 := h1.max
  have c1 := h1.cap
  obtain ⟨F, hF⟩ : ∃ F, (recF step xs).2 = F := ⟨_, rfl⟩
  rw [hF] at hE
  have HE := Lib.hid hE
  have HF := Lib.hid hF
  have HNO := Lib.hid hno
  have HOK := Lib.hid hok
  clear hE hF hno hok
  have x1 := box1 (w := w) (o := .cells #[.int .i64 step, .slice a n c] 24) (W := w.alloc (.cells #[.int .i64 step, .slice a n c] 24)) (Below.alloc (Below.refl _ _) (Nat.le_refl _) (.cells #[.int .i64 st, .int .i64 dm] 49))
  have x2 := alloc_new (w.alloc (.cells #[.int .i64 step, .slice a n c] 24)) (.cells #[.int .i64 st, .int .i64 dm] 49)
  simp only [World.size_alloc] at x2
  go_enter Try.func38, Try.ntmps38
  go_wp2_with fail
  refine Calmly.wp_region_mix 6 (.fl 0 <| .fl 2 <| .eff 1 <| .eff 3 <| .eff 4 <| .eff 5 <| .tail [6]) (by kernel_rfl) (by kernel_rfl) ?_
  have BW := hb2.drew
  replace x1 := blk_keep x1 (Below.refl _ _).drew
  replace x2 := blk_keep x2 (Below.refl _ _).drew
  generalize World.drew _ = V at x1 x2 BW ⊢
  have f0 := cell_block x1 0
  have f1 := cell_block x1 1
  have f2 := cell_block x2 0
  have f3 := cell_block x2 1
  have hk := Below.refl V.heap.size V
  go_wp2_with (first | ((with_reducible refine Calmly.is_fl ?_); refine Calmly.mix_fl rfl ?_ (fun _ _ => ?_); (first | exact .move _ | exact .load _ _ | exact .fieldAddr _ _ _ (by kernel_rfl) | exact .assign _ | exact .binOp _ _ _ _ _ rfl | exact .indexAddr _ _ _ | exact .len _ _ (by kernel_rfl) | exact .field _ _ _ | exact .extract _ _ | exact .pick _ _ _ | exact .build _ _ | exact .slice _ _ _ _ _ | exact .unOp _ _ _ rfl | exact .index _ _ _ | exact .max _ _ _ rfl rfl | exact .min _ _ _ rfl rfl)) | ((with_reducible refine Calmly.is_gl ?_); refine Calmly.mix_gl rfl rfl rfl ?_; first | ((first | with_reducible refine Calmly.gl_tt ?_ (fun _ _ => ?_) | with_reducible refine Calmly.gl_ff ?_ (fun _ _ => ?_)); (first | exact .move _ | exact .load _ _ | exact .fieldAddr _ _ _ (by kernel_rfl) | exact .assign _ | exact .binOp _ _ _ _ _ rfl | exact .indexAddr _ _ _ | exact .len _ _ (by kernel_rfl) | exact .field _ _ _ | exact .extract _ _ | exact .pick _ _ _ | exact .build _ _ | exact .slice _ _ _ _ _ | exact .unOp _ _ _ rfl | exact .index _ _ _ | exact .max _ _ _ rfl rfl | exact .min _ _ _ rfl rfl)) | with_reducible refine Calmly.gl_tf (fun _ _ => ?_) | with_reducible refine Calmly.gl_ft (fun _ _ => ?_)) | ((with_reducible refine Calmly.is_eff ?_); refine Calmly.mix_eff rfl (fun _ _ => ?_)) | ((with_reducible refine Calmly.is_gf ?_); refine Calmly.mix_gf rfl rfl rfl ?_; first | with_reducible refine Calmly.gf_tt (fun _ _ => ?_) | with_reducible refine Calmly.gf_ff (fun _ _ => ?_) | with_reducible refine Calmly.gf_tf (kept_of hk) (fun _ _ => ?_) | with_reducible refine Calmly.gf_ft (kept_of hk) (fun _ _ => ?_)) | ((with_reducible refine Calmly.is_kept ?_); refine ⟨kept_of hk, ?_⟩) | (with_reducible refine Calmly.mix_alt ?_ ?_) | (refine kept_alloc hk (fun hk' hblk hge => ?_); replace hk := hk'; clear hk') | (go_at_call 92; refine (recordErr_any step a n c xs _ (h1.keep BW) F HF.out).mono ?_; rintro e w1 ⟨rfl, hs⟩; replace hk := step_of hk hs) | (go_at_call 101; refine (oscillatorErr_any st dm _).mono ?_; rintro e w1 ⟨rfl, hs⟩; replace hk := step_of hk hs))
  refine (nFirst_any _ 2 2 _ _ (SI.two _ _ _ _ (by simp))).mono ?_
  rintro e w2 ⟨rfl, rfl⟩
  rw [HE.out]
  replace BW := BW.trans (hk.mono BW.size)
  replace x1 := blk_keep x1 hk
  replace x2 := blk_keep x2 hk
  clear f0 f1 f2 f3
  have f0 := cell_block x1 0
  have f1 := cell_block x1 1
  have f2 := cell_block x2 0
  have f3 := cell_block x2 1
  by_cases hz : E = 0
  case neg =>
    obtain rfl := HNO.out hz
    have b1 : (E != 0) = true := by simpa using hz
    clear hz
    go_wp2_with (first | ((with_reducible refine Calmly.is_fl ?_); refine Calmly.mix_fl rfl ?_ (fun _ _ => ?_); (first | exact .move _ | exact .load _ _ | exact .fieldAddr _ _ _ (by kernel_rfl) | exact .assign _ | exact .binOp _ _ _ _ _ rfl | exact .indexAddr _ _ _ | exact .len _ _ (by kernel_rfl) | exact .field _ _ _ | exact .extract _ _ | exact .pick _ _ _ | exact .build _ _ | exact .slice _ _ _ _ _ | exact .unOp _ _ _ rfl | exact .index _ _ _ | exact .max _ _ _ rfl rfl | exact .min _ _ _ rfl rfl)) | ((with_reducible refine Calmly.is_gl ?_); refine Calmly.mix_gl rfl rfl rfl ?_; first | ((first | with_reducible refine Calmly.gl_tt ?_ (fun _ _ => ?_) | with_reducible refine Calmly.gl_ff ?_ (fun _ _ => ?_)); (first | exact .move _ | exact .load _ _ | exact .fieldAddr _ _ _ (by kernel_rfl) | exact .assign _ | exact .binOp _ _ _ _ _ rfl | exact .indexAddr _ _ _ | exact .len _ _ (by kernel_rfl) | exact .field _ _ _ | exact .extract _ _ | exact .pick _ _ _ | exact .build _ _ | exact .slice _ _ _ _ _ | exact .unOp _ _ _ rfl | exact .index _ _ _ | exact .max _ _ _ rfl rfl | exact .min _ _ _ rfl rfl)) | with_reducible refine Calmly.gl_tf (fun _ _ => ?_) | with_reducible refine Calmly.gl_ft (fun _ _ => ?_)) | ((with_reducible refine Calmly.is_eff ?_); refine Calmly.mix_eff rfl (fun _ _ => ?_)) | ((with_reducible refine Calmly.is_gf ?_); refine Calmly.mix_gf rfl rfl rfl ?_; first | with_reducible refine Calmly.gf_tt (fun _ _ => ?_) | with_reducible refine Calmly.gf_ff (fun _ _ => ?_) | with_reducible refine Calmly.gf_tf (kept_of hk) (fun _ _ => ?_) | with_reducible refine Calmly.gf_ft (kept_of hk) (fun _ _ => ?_)) | ((with_reducible refine Calmly.is_tail ?_); first | refine Calmly.mix_tail_nil ?_ | refine Calmly.mix_tail rfl (fun _ _ => ?_)) | ((with_reducible refine Calmly.is_kept ?_); refine ⟨kept_of hk, ?_⟩) | (with_reducible refine Calmly.mix_alt ?_ ?_))
    go_ret2
    exact ⟨none, 0, 0, rfl, Sl.nil _ 1, BW⟩
  subst hz
  obtain rfl := HOK.out rfl
  have hz2 : F = 0 ∧ oscE (st, dm) = 0 := ⟨firstE_all HE.out _ (by simp), firstE_all HE.out _ (by simp)⟩
  obtain ⟨rfl, ho⟩ := hz2
  obtain ⟨q1, q2, q3, q4, q5⟩ := recF_ok HF.out
  have hq : n ≤ 26 := by omega
  have H5 := Lib.hid q5
  have HO := Lib.hid ho
  clear q1 q2 q3 q4 q5 ho
  go_wp2_with (first | ((with_reducible refine Calmly.is_fl ?_); refine Calmly.mix_fl rfl ?_ (fun _ _ => ?_); (first | exact .move _ | exact .load _ _ | exact .fieldAddr _ _ _ (by kernel_rfl) | exact .assign _ | exact .binOp _ _ _ _ _ rfl | exact .indexAddr _ _ _ | exact .len _ _ (by kernel_rfl) | exact .field _ _ _ | exact .extract _ _ | exact .pick _ _ _ | exact .build _ _ | exact .slice _ _ _ _ _ | exact .unOp _ _ _ rfl | exact .index _ _ _ | exact .max _ _ _ rfl rfl | exact .min _ _ _ rfl rfl)) | ((with_reducible refine Calmly.is_gl ?_); refine Calmly.mix_gl rfl rfl rfl ?_; first | ((first | with_reducible refine Calmly.gl_tt ?_ (fun _ _ => ?_) | with_reducible refine Calmly.gl_ff ?_ (fun _ _ => ?_)); (first | exact .move _ | exact .load _ _ | exact .fieldAddr _ _ _ (by kernel_rfl) | exact .assign _ | exact .binOp _ _ _ _ _ rfl | exact .indexAddr _ _ _ | exact .len _ _ (by kernel_rfl) | exact .field _ _ _ | exact .extract _ _ | exact .pick _ _ _ | exact .build _ _ | exact .slice _ _ _ _ _ | exact .unOp _ _ _ rfl | exact .index _ _ _ | exact .max _ _ _ rfl rfl | exact .min _ _ _ rfl rfl)) | with_reducible refine Calmly.gl_tf (fun _ _ => ?_) | with_reducible refine Calmly.gl_ft (fun _ _ => ?_)) | ((with_reducible refine Calmly.is_eff ?_); refine Calmly.mix_eff rfl (fun _ _ => ?_)) | ((with_reducible refine Calmly.is_gf ?_); refine Calmly.mix_gf rfl rfl rfl ?_; first | with_reducible refine Calmly.gf_tt (fun _ _ => ?_) | with_reducible refine Calmly.gf_ff (fun _ _ => ?_) | with_reducible refine Calmly.gf_tf (kept_of hk) (fun _ _ => ?_) | with_reducible refine Calmly.gf_ft (kept_of hk) (fun _ _ => ?_)) | ((with_reducible refine Calmly.is_tail ?_); first | refine Calmly.mix_tail_nil ?_ | refine Calmly.mix_tail rfl (fun _ _ => ?_)) | ((with_reducible refine Calmly.is_kept ?_); refine ⟨kept_of hk, ?_⟩) | (with_reducible refine Calmly.mix_alt ?_ ?_))
  refine (response_any a n c xs st dm _ (h1.keep BW) hq HO.out H5.out).mono ?_
  rintro e w3 ⟨a', c', rfl, o3, hs⟩
  go_wp2_with fail
  go_ret2
  exact ⟨a', n, c', rfl, o3.si, BW.trans (hs.mono BW.size)⟩

set_option maxRecDepth 100000 in
set_option maxHeartbeats 1000000 in
theorem outside_any (a : Option Addr) (n c : Nat) (xs : List Int) (b : Option Addr) (m d : Nat) (l : List Four) (w : World) (h1 : SI w a n c xs) (h2 : SB w b m d l) (hn0 : 0 < n) (hn : n ≤ 26) (hb : ∀ j : Nat, -1000 ≤ xs[j]?.getD 0 ∧ xs[j]?.getD 0 ≤ 1000) (hm : m ≤ 1000) (ho : ∀ k, k < l.length → oscE (l[k]?.getD four0).1 = 0) :
    Calls Try.prog 88 #[.slice a n c, .slice b m d] w fun e w' => ∃ a' n' c', e = .returned (.slice a' n' c') ∧ OwI w' w.heap.size a' n' c' (outT xs l m) ∧ Below w.heap.size w w' := by
  obtain ⟨l1, l2⟩ : n ≤ xs.length ∧ xs.length ≤ n := by have := h1.len; omega
  obtain ⟨k1, k2⟩ : m ≤ l.length ∧ l.length ≤ m := by have := h2.len; omega
  have m1 := h1.max
  have c1 := h1.cap
  have m2 := h2.max
  have c2 := h2.cap
  have HB := Lib.hid hb
  have HO := Lib.hid ho
  clear hb ho
  go_enter Try.func88, Try.ntmps88
  go_wp2_with fail
  go_loopw [5, 10] (fun o i wr => ∃ (k n' c' : Nat) (a' : Option Addr), i = .int .i64 (k : Int) ∧ k ≤ m ∧ o = .slice a' n' c' ∧ n' ≤ k ∧ OwI wr w.heap.size a' n' c' (outT xs l k) ∧ Below w.heap.size w wr) (fun _ i _ => m - (intOf i).toNat)
  case atStart => exact ⟨0, 0, 0, none, rfl, by omega, rfl, by omega, OwI.nil _ _, Below.refl _ _⟩
  case round =>
    obtain ⟨k, n', c', a', rfl, hk, rfl, hnk, hown, hbr⟩ := hrel
    have hrs := hbr.size
    by_cases hlt : k < m
    · obtain ⟨cb, co, rfl, hcc⟩ := (h2.keep hbr).at_ (by omega)
      obtain ⟨y0, y1, y2, y3⟩ := hcc k hlt
      have hoo := HO.out k (by omega)
      have hns := outT_succ xs l k
      obtain ⟨rr, hrr⟩ : ∃ rr, l[k]?.getD four0 = rr := ⟨_, rfl⟩
      obtain ⟨⟨st, dm⟩, ⟨lo, hi⟩⟩ := rr
      rw [hrr] at y0 y1 y2 y3 hoo hns
      dsimp only at y0 y1 y2 y3 hoo
      clear hrr hcc
      obtain ⟨P, hP⟩ : ∃ P, gsT (rspTo xs st dm n) n = P := ⟨_, rfl⟩
      have hob : outB xs ((st, dm), (lo, hi)) = !(wIn P lo hi) := by
        unfold outB pkO
        rw [show xs.length = n by omega, hP]
      rw [hob] at hns
      have hPb : ∀ j : Nat, -9000000000000000000 ≤ (rspTo xs st dm n)[j]?.getD 0 ∧ (rspTo xs st dm n)[j]?.getD 0 ≤ 9000000000000000000 := by
        intro j
        rcases Nat.lt_or_ge j n with hj | hj
        · rw [rspTo_get xs st dm n j hj]
          have := rspT_num hoo HB.out (j + 1) (by omega)
          omega
        · rw [List.getElem?_eq_none (by rw [rspTo_len]; exact hj)]
          simp
      have HP := Lib.hid hP
      have HPB := Lib.hid hPb
      have HOO := Lib.hid hoo
      clear hP hPb hob hoo
      have hi1 : (k : Int) < (m : Int) := by omega
      have hi0 : (0 : Int) ≤ (k : Int) := by omega
      cases hwb : wIn P lo hi
      · have hns2 : outT xs l (k + 1) = outT xs l k ++ [(k : Int)] := by rw [hns, hwb]; rfl
        have HNS := Lib.hid hns2
        have HWB := Lib.hid hwb
        clear hns hns2 hwb
        go_wp2_with fail
        refine Calmly.wp_region_mix 12 (.fl 0 <| .fl 1 <| .fl 2 <| .fl 5 <| .fl 6 <| .fl 7 <| .fl 8 <| .fl 9 <| .fl 10 <| .eff 3 <| .eff 4 <| .eff 11 <| .tail [12]) (by kernel_rfl) (by kernel_rfl) ?_
        have x1 := blk_keep (alloc_new wr (.cells #[.int .i64 st, .int .i64 dm, .int .i64 lo, .int .i64 hi] 51)) (Below.refl _ _).drew
        have BV : Below wr.heap.size wr (wr.alloc (.cells #[.int .i64 st, .int .i64 dm, .int .i64 lo, .int .i64 hi] 51)).drew := ((Below.refl _ _).alloc (Nat.le_refl _) _).drew
        generalize World.drew _ = V at x1 BV ⊢
        have f0 := cell_block x1 0
        have f1 := cell_block x1 1
        have f2 := cell_block x1 2
        have f3 := cell_block x1 3
        have hk := Below.refl V.heap.size V
        go_wp2_with (first | ((with_reducible refine Calmly.is_fl ?_); refine Calmly.mix_fl rfl ?_ (fun _ _ => ?_); (first | exact .move _ | exact .load _ _ | exact .fieldAddr _ _ _ (by kernel_rfl) | exact .assign _ | exact .binOp _ _ _ _ _ rfl | exact .indexAddr _ _ _ | exact .len _ _ (by kernel_rfl) | exact .field _ _ _ | exact .extract _ _ | exact .pick _ _ _ | exact .build _ _ | exact .slice _ _ _ _ _ | exact .unOp _ _ _ rfl | exact .index _ _ _ | exact .max _ _ _ rfl rfl | exact .min _ _ _ rfl rfl)) | ((with_reducible refine Calmly.is_gl ?_); refine Calmly.mix_gl rfl rfl rfl ?_; first | ((first | with_reducible refine Calmly.gl_tt ?_ (fun _ _ => ?_) | with_reducible refine Calmly.gl_ff ?_ (fun _ _ => ?_)); (first | exact .move _ | exact .load _ _ | exact .fieldAddr _ _ _ (by kernel_rfl) | exact .assign _ | exact .binOp _ _ _ _ _ rfl | exact .indexAddr _ _ _ | exact .len _ _ (by kernel_rfl) | exact .field _ _ _ | exact .extract _ _ | exact .pick _ _ _ | exact .build _ _ | exact .slice _ _ _ _ _ | exact .unOp _ _ _ rfl | exact .index _ _ _ | exact .max _ _ _ rfl rfl | exact .min _ _ _ rfl rfl)) | with_reducible refine Calmly.gl_tf (fun _ _ => ?_) | with_reducible refine Calmly.gl_ft (fun _ _ => ?_)) | ((with_reducible refine Calmly.is_eff ?_); refine Calmly.mix_eff rfl (fun _ _ => ?_)) | ((with_reducible refine Calmly.is_gf ?_); refine Calmly.mix_gf rfl rfl rfl ?_; first | with_reducible refine Calmly.gf_tt (fun _ _ => ?_) | with_reducible refine Calmly.gf_ff (fun _ _ => ?_) | with_reducible refine Calmly.gf_tf (kept_of hk) (fun _ _ => ?_) | with_reducible refine Calmly.gf_ft (kept_of hk) (fun _ _ => ?_)) | ((with_reducible refine Calmly.is_tail ?_); first | refine Calmly.mix_tail_nil ?_ | refine Calmly.mix_tail rfl (fun _ _ => ?_)) | ((with_reducible refine Calmly.is_kept ?_); refine ⟨kept_of hk, ?_⟩) | (with_reducible refine Calmly.mix_alt ?_ ?_) | (go_at_call 102; refine (response_any a n c xs st dm _ ((h1.keep hbr).keep BV) hn HOO.out HB.out).mono ?_; rintro e w3 ⟨a3, c3, rfl, o3, hs3⟩; replace hk := step_of hk hs3) | (go_at_call 104; refine (peak_any a3 n c3 _ _ o3.si hn0 HPB.out).mono ?_; rintro e w4 ⟨rfl, rfl⟩; rw [HP.out]) | (go_at_call 94; refine (nWithin_any _ _ _ _).mono ?_; rintro e w5 ⟨rfl, rfl⟩; rw [HWB.out]) | (at_builtin; refine appI rfl _ _ rfl (hown.keep (BV.trans (hk.mono BV.size))) rfl rfl (by omega) (by have := BV.size; have := hk.size; omega) ?_; intro a2' c2' w6 ho6 hb6 hs6))
        go_roundw
        case rel => exact ⟨k + 1, n' + 1, c2', a2', by go_num, by omega, rfl, by omega, by rw [HNS.out]; exact ho6, hbr.trans ((BV.trans (hk.mono BV.size)).mono hrs |>.trans (hb6.mono (by omega)))⟩
        case measure => simp [intOf]; omega
      · have hns2 : outT xs l (k + 1) = outT xs l k := by rw [hns, hwb]; rfl
        have HNS := Lib.hid hns2
        have HWB := Lib.hid hwb
        clear hns hns2 hwb
        go_wp2_with fail
        refine Calmly.wp_region_mix 12 (.fl 0 <| .fl 1 <| .fl 2 <| .fl 5 <| .fl 6 <| .fl 7 <| .fl 8 <| .fl 9 <| .fl 10 <| .eff 3 <| .eff 4 <| .eff 11 <| .tail [12]) (by kernel_rfl) (by kernel_rfl) ?_
        have x1 := blk_keep (alloc_new wr (.cells #[.int .i64 st, .int .i64 dm, .int .i64 lo, .int .i64 hi] 51)) (Below.refl _ _).drew
        have BV : Below wr.heap.size wr (wr.alloc (.cells #[.int .i64 st, .int .i64 dm, .int .i64 lo, .int .i64 hi] 51)).drew := ((Below.refl _ _).alloc (Nat.le_refl _) _).drew
        generalize World.drew _ = V at x1 BV ⊢
        have f0 := cell_block x1 0
        have f1 := cell_block x1 1
        have f2 := cell_block x1 2
        have f3 := cell_block x1 3
        have hk := Below.refl V.heap.size V
        go_wp2_with (first | ((with_reducible refine Calmly.is_fl ?_); refine Calmly.mix_fl rfl ?_ (fun _ _ => ?_); (first | exact .move _ | exact .load _ _ | exact .fieldAddr _ _ _ (by kernel_rfl) | exact .assign _ | exact .binOp _ _ _ _ _ rfl | exact .indexAddr _ _ _ | exact .len _ _ (by kernel_rfl) | exact .field _ _ _ | exact .extract _ _ | exact .pick _ _ _ | exact .build _ _ | exact .slice _ _ _ _ _ | exact .unOp _ _ _ rfl | exact .index _ _ _ | exact .max _ _ _ rfl rfl | exact .min _ _ _ rfl rfl)) | ((with_reducible refine Calmly.is_gl ?_); refine Calmly.mix_gl rfl rfl rfl ?_; first | ((first | with_reducible refine Calmly.gl_tt ?_ (fun _ _ => ?_) | with_reducible refine Calmly.gl_ff ?_ (fun _ _ => ?_)); (first | exact .move _ | exact .load _ _ | exact .fieldAddr _ _ _ (by kernel_rfl) | exact .assign _ | exact .binOp _ _ _ _ _ rfl | exact .indexAddr _ _ _ | exact .len _ _ (by kernel_rfl) | exact .field _ _ _ | exact .extract _ _ | exact .pick _ _ _ | exact .build _ _ | exact .slice _ _ _ _ _ | exact .unOp _ _ _ rfl | exact .index _ _ _ | exact .max _ _ _ rfl rfl | exact .min _ _ _ rfl rfl)) | with_reducible refine Calmly.gl_tf (fun _ _ => ?_) | with_reducible refine Calmly.gl_ft (fun _ _ => ?_)) | ((with_reducible refine Calmly.is_eff ?_); refine Calmly.mix_eff rfl (fun _ _ => ?_)) | ((with_reducible refine Calmly.is_gf ?_); refine Calmly.mix_gf rfl rfl rfl ?_; first | with_reducible refine Calmly.gf_tt (fun _ _ => ?_) | with_reducible refine Calmly.gf_ff (fun _ _ => ?_) | with_reducible refine Calmly.gf_tf (kept_of hk) (fun _ _ => ?_) | with_reducible refine Calmly.gf_ft (kept_of hk) (fun _ _ => ?_)) | ((with_reducible refine Calmly.is_tail ?_); first | refine Calmly.mix_tail_nil ?_ | refine Calmly.mix_tail rfl (fun _ _ => ?_)) | ((with_reducible refine Calmly.is_kept ?_); refine ⟨kept_of hk, ?_⟩) | (with_reducible refine Calmly.mix_alt ?_ ?_) | (go_at_call 102; refine (response_any a n c xs st dm _ ((h1.keep hbr).keep BV) hn HOO.out HB.out).mono ?_; rintro e w3 ⟨a3, c3, rfl, o3, hs3⟩; replace hk := step_of hk hs3) | (go_at_call 104; refine (peak_any a3 n c3 _ _ o3.si hn0 HPB.out).mono ?_; rintro e w4 ⟨rfl, rfl⟩; rw [HP.out]) | (go_at_call 94; refine (nWithin_any _ _ _ _).mono ?_; rintro e w5 ⟨rfl, rfl⟩; rw [HWB.out]))
        go_roundw
        case rel => exact ⟨k + 1, n', c', a', by go_num, by omega, rfl, by omega, by rw [HNS.out]; exact hown.keep (BV.trans (hk.mono BV.size)), hbr.trans ((BV.trans (hk.mono BV.size)).mono hrs)⟩
        case measure => simp [intOf]; omega
    · have hle : (m : Int) ≤ (k : Int) := by omega
      obtain rfl : m = k := by omega
      go_wp2_with fail
      go_ret
      exact ⟨a', n', c', rfl, hown, hbr⟩
end Go.Proofs.Ytiibdndchkbefaa
