/- Contracts of chapter 6: the reference's errors of squares after a run, and the first mode that fails. -/
import Derived.Test.YtmaidjankakppaaUa
import Derived.Test.YtmaidjankakppaaRi
namespace Go.Proofs.Ytmaidjankakppaa
open Go.RowKit
open Calmly (Kept)

/-- By the greatest lower end and the smallest upper end. -/
theorem agree_meetU {a b : Int × Int} (ha : a.1 ≤ a.2) (hb : b.1 ≤ b.2) : decide ((if a.1 < b.1 then b.1 else a.1) ≤ if b.2 < a.2 then b.2 else a.2) = agreeF a b := by
  unfold agreeF
  rw [Bool.eq_iff_iff]
  simp only [decide_eq_true_eq, Bool.and_eq_true]
  split <;> split <;> omega

set_option maxRecDepth 100000 in
set_option maxHeartbeats 1000000 in
theorem meet_anyU (x0 y0 x1 y1 : Int) (w : World) (ha : x0 ≤ y0) (hb : x1 ≤ y1) :
    Calls Try.prog 101 #[.agg #[.int .i64 x0, .int .i64 y0], .agg #[.int .i64 x1, .int .i64 y1]] w fun e w' => e = .returned (.bool (agreeF (x0, y0) (x1, y1))) ∧ Below w.heap.size w w' := by
  have hbb : ∀ o o', Below w.heap.size w ((w.alloc o).alloc o') := fun o o' => ((Below.refl _ _).alloc (Nat.le_refl _) _).alloc (by simp) _
  have hm := agree_meetU (a := (x0, y0)) (b := (x1, y1)) ha hb
  dsimp only at hm
  have HM := Lib.hid hm
  clear hm
  rcases Int.lt_or_le x0 x1 with t1 | t1 <;> rcases Int.lt_or_le y1 y0 with t2 | t2
  · rw [if_pos t1, if_pos t2] at HM
    go_enter Try.func101, Try.ntmps101
    go_wp2_with fail
    go_ret
    exact ⟨ret_bool (by rw [← HM.out] <;> first | rfl | exact (decide_eq_true (by omega)).symm), hbb _ _⟩
  · rw [if_pos t1, if_neg (by omega)] at HM
    go_enter Try.func101, Try.ntmps101
    go_wp2_with fail
    go_ret
    exact ⟨ret_bool (by rw [← HM.out] <;> first | rfl | exact (decide_eq_true (by omega)).symm), hbb _ _⟩
  · rw [if_neg (by omega), if_pos t2] at HM
    go_enter Try.func101, Try.ntmps101
    go_wp2_with fail
    go_ret
    exact ⟨ret_bool (by rw [← HM.out] <;> first | rfl | exact (decide_eq_true (by omega)).symm), hbb _ _⟩
  · rw [if_neg (by omega), if_neg (by omega)] at HM
    go_enter Try.func101, Try.ntmps101
    go_wp2_with fail
    go_ret
    exact ⟨ret_bool (by rw [← HM.out] <;> first | rfl | exact (decide_eq_true (by omega)).symm), hbb _ _⟩


set_option maxRecDepth 100000 in
set_option maxHeartbeats 4000000 in
theorem rAfterErr_any (a b sa : Option Addr) (n c m d sn sc : Nat) (ms : List Int) (sq : List (Int × Int)) (den : Int) (w : World) (h1 : SI w a n c ms) (h3 : SR w sa sn sc sq) :
    Calls Try.prog 29 #[.agg #[.slice a n c, .slice b m d], .agg #[.int .i64 den, .slice sa sn sc]] w fun e w' => e = .returned (.int .i64 (rafterE ms den sq)) ∧ Below w.heap.size w w' := by
  obtain ⟨l1, l2⟩ : n ≤ ms.length ∧ ms.length ≤ n := by have := h1.len; omega
  obtain ⟨g1, g2⟩ : sn ≤ sq.length ∧ sq.length ≤ sn := by have := h3.len; omega
  have m1 := h1.max
  have c1 := h1.cap
  have hb2 : Below w.heap.size w ((w.alloc (.cells #[.slice a n c, .slice b m d] 24)).alloc (.cells #[.int .i64 den, .slice sa sn sc] 44)) := ((Below.refl _ _).alloc (Nat.le_refl _) _).alloc (by simp) _
  obtain ⟨E, hE⟩ : ∃ E, rafterE ms den sq = E := ⟨_, rfl⟩
  rw [hE]
  unfold rafterE at hE
  obtain ⟨G, hG⟩ : ∃ G, wIn den 1 50 = G := ⟨_, rfl⟩
  rw [hG] at hE
  have HE := Lib.hid hE
  have HG := Lib.hid hG
  clear hE hG
  go_enter Try.func29, Try.ntmps29
  go_wp2_with fail
  refine (within_any _ _ _ _).mono ?_
  rintro e w1 ⟨rfl, rfl⟩
  rw [HG.out]
  cases G
  case false =>
    obtain rfl : E = 2 := HE.out.symm
    go_wp2_with fail
    go_ret
    exact ⟨rfl, hb2⟩
  by_cases hl : sq.length = ms.length
  case neg =>
    obtain rfl : E = 10 := by have := HE.out; rw [if_pos rfl, if_neg hl] at this; exact this.symm
    have hne : ((sn : Int) != (n : Int)) = true := by
      rw [bne_iff_ne]
      omega
    clear hl
    go_wp2_with fail
    all_goals first | (exfalso; omega) | skip
    all_goals
      go_ret
      exact ⟨rfl, hb2⟩
  have hE : afR sq = E := by have := HE.out; rwa [if_pos rfl, if_pos hl] at this
  obtain rfl : sn = n := by omega
  clear HE hl
  have HR : Hid (afR (sq.drop 0) = E) := Lib.hid hE
  clear hE
  have hs2 := hb2.size
  have hC2 := h3.cap
  go_wp2_with fail
  go_loopw [5] (fun z wr => ∃ (k : Nat), k ≤ sn ∧ z = .int .i64 (k : Int) ∧ Hid (afR (sq.drop k) = E) ∧ Below ((w.alloc (.cells #[.slice a sn c, .slice b m d] 24)).alloc (.cells #[.int .i64 den, .slice sa sn sc] 44)).heap.size ((w.alloc (.cells #[.slice a sn c, .slice b m d] 24)).alloc (.cells #[.int .i64 den, .slice sa sn sc] 44)) wr) (fun z _ => sn - (intOf z).toNat)
  case atStart => exact ⟨0, by omega, rfl, HR, Below.refl _ _⟩
  case round =>
    obtain ⟨k, hk0, rfl, HK, hbr⟩ := hrel
    clear HR
    obtain ⟨x1, x2⟩ := box2 (w := w) (o := .cells #[.slice a sn c, .slice b m d] 24) (o' := .cells #[.int .i64 den, .slice sa sn sc] 44) hbr
    have f0 := cell_block x2 0
    have f1 := cell_block x2 1
    have BW := hb2.trans (hbr.mono hs2)
    by_cases hlt : k < sn
    · obtain ⟨cb, co, rfl, hcc⟩ := (h3.keep BW).at_ (by omega)
      obtain ⟨y0, y1⟩ := hcc k hlt
      have hK := HK.out
      rw [afR_drop sq k (by omega)] at hK
      obtain ⟨lo, hlo⟩ : ∃ v, (sq[k]?.getD (0, 0)).1 = v := ⟨_, rfl⟩
      obtain ⟨hi', hhi⟩ : ∃ v, (sq[k]?.getD (0, 0)).2 = v := ⟨_, rfl⟩
      rw [hlo] at y0 hK
      rw [hhi] at y1 hK
      obtain ⟨A, hA'⟩ : ∃ v, wIn lo 0 1000000000 = v := ⟨_, rfl⟩
      obtain ⟨B, hB'⟩ : ∃ v, wIn hi' 0 1000000000 = v := ⟨_, rfl⟩
      rw [hA', hB'] at hK
      have HK2 := Lib.hid hK
      have HA := Lib.hid hA'
      have HB := Lib.hid hB'
      clear hcc hlo hhi hK hA' hB'
      have hi : (k : Int) < (sn : Int) := by omega
      have hi0 : (0 : Int) ≤ (k : Int) := by omega
      have hs := (Below.refl wr.heap.size wr).alloc (Nat.le_refl _) (.cells #[.int .i64 lo, .int .i64 hi'] 63)
      have X6 := alloc_new wr (.cells #[.int .i64 lo, .int .i64 hi'] 63)
      have g0 := cell_block X6 0
      have g1 := cell_block X6 1
      have BW2 := BW.trans (hs.mono BW.size)
      have hbr2 := hbr.trans (hs.mono hbr.size)
      go_wp2_with fail
      refine (within_any _ _ _ _).mono ?_
      rintro e w1 ⟨rfl, rfl⟩
      rw [HA.out]
      cases A
      case false =>
        obtain rfl : E = 2 := HK2.out.symm
        go_wp2_with fail
        go_ret
        exact ⟨rfl, BW2⟩
      go_wp2_with fail
      refine (within_any _ _ _ _).mono ?_
      rintro e w1 ⟨rfl, rfl⟩
      rw [HB.out]
      cases B
      case false =>
        obtain rfl : E = 2 := HK2.out.symm
        go_wp2_with fail
        go_ret
        exact ⟨rfl, BW2⟩
      by_cases hle : lo ≤ hi'
      · have HK3 : Hid (afR (sq.drop (k + 1)) = E) := Lib.hid (by have := HK2.out; rwa [if_pos (show (true && true) = true from rfl), if_pos hle] at this)
        clear HK2 HK
        go_wp2_with fail
        go_roundw
        case rel => exact ⟨k + 1, by omega, by go_num, HK3, hbr2⟩
        case measure => simp [intOf]; omega
      · obtain rfl : E = 9 := by have := HK2.out; rw [if_pos (show (true && true) = true from rfl), if_neg hle] at this; exact this.symm
        have hgt : hi' < lo := by omega
        clear hle
        go_wp2_with fail
        go_ret
        exact ⟨rfl, BW2⟩
    · have hle : (sn : Int) ≤ (k : Int) := by omega
      obtain rfl : E = 0 := by
        have := HK.out
        rw [List.drop_eq_nil_of_le (by omega)] at this
        exact this.symm
      go_wp2_with fail
      go_ret
      exact ⟨rfl, BW⟩

theorem encF_le (ms ks : List Int) (mode den : Int) : (encF ms ks mode den).1 ≤ (encF ms ks mode den).2 := by
  unfold encF
  split <;> dsimp only <;> omega
theorem failF_eq {ms ks : List Int} {den : Int} {sq : List (Int × Int)} {x : Int × Bool} (h : oddF ms ks den 0 sq = x) : failF ms ks den sq = if x.2 = true then x.1 else -1 := by
  unfold failF
  rw [h]

set_option maxRecDepth 100000 in
set_option maxHeartbeats 4000000 in
theorem rFailing_any (a b sa : Option Addr) (m c d sc : Nat) (ms ks : List Int) (sq : List (Int × Int)) (den : Int) (w : World) (h1 : SI w a m c ms) (h2 : SI w b m d ks) (h3 : SR w sa m sc sq) (he : (checkF ms ks).2 = 0) (hd1 : 1 ≤ den) (hd2 : den ≤ 50) (hor : ∀ i, i < sq.length → (sq[i]?.getD (0, 0)).1 ≤ (sq[i]?.getD (0, 0)).2) :
    Calls Try.prog 32 #[.agg #[.slice a m c, .slice b m d], .agg #[.int .i64 den, .slice sa m sc]] w fun e w' => e = .returned (.int .i64 (failF ms ks den sq)) ∧ Below w.heap.size w w' := by
  obtain ⟨l1, l2⟩ : m ≤ ms.length ∧ ms.length ≤ m := by have := h1.len; omega
  obtain ⟨g1, g2⟩ : m ≤ sq.length ∧ sq.length ≤ m := by have := h3.len; omega
  have hm4 : m ≤ 4 := by have := (fr_of he).few; omega
  have hC2 := h3.cap
  have c1 := h1.cap
  have hb2 : Below w.heap.size w ((w.alloc (.cells #[.slice a m c, .slice b m d] 24)).alloc (.cells #[.int .i64 den, .slice sa m sc] 44)) := ((Below.refl _ _).alloc (Nat.le_refl _) _).alloc (by simp) _
  have hs2 := hb2.size
  have HO := Lib.hid hor
  have HC := Lib.hid he
  clear hor he
  obtain ⟨F, hF⟩ : ∃ F, failF ms ks den sq = F := ⟨_, rfl⟩
  rw [hF]
  have HF := Lib.hid hF
  clear hF
  go_enter Try.func32, Try.ntmps32
  go_wp2_with fail
  go_loopw [5] (fun z wr => ∃ (k : Nat), k ≤ m ∧ z = .int .i64 (k : Int) ∧ Hid (oddF ms ks den 0 sq = oddF ms ks den k (sq.drop k)) ∧ Below ((w.alloc (.cells #[.slice a m c, .slice b m d] 24)).alloc (.cells #[.int .i64 den, .slice sa m sc] 44)).heap.size ((w.alloc (.cells #[.slice a m c, .slice b m d] 24)).alloc (.cells #[.int .i64 den, .slice sa m sc] 44)) wr) (fun z _ => m - (intOf z).toNat)
  case atStart => exact ⟨0, by omega, rfl, Lib.hid rfl, Below.refl _ _⟩
  case round =>
    obtain ⟨k, hk0, rfl, HK, hbr⟩ := hrel
    obtain ⟨x1, x2⟩ := box2 (w := w) (o := .cells #[.slice a m c, .slice b m d] 24) (o' := .cells #[.int .i64 den, .slice sa m sc] 44) hbr
    have BW := hb2.trans (hbr.mono hs2)
    by_cases hlt : k < m
    · have e0 := cell_block x1 0
      have e1 := cell_block x1 1
      obtain ⟨cb, co, rfl, hcc⟩ := (h3.keep BW).at_ (by omega)
      obtain ⟨y0, y1⟩ := hcc k hlt
      have hK := HK.out
      rw [oddF_drop ms ks den sq k (by omega)] at hK
      have hr := HO.out k (by omega)
      obtain ⟨⟨lo, hi'⟩, hrr⟩ : ∃ v, sq[k]?.getD (0, 0) = v := ⟨_, rfl⟩
      rw [hrr] at y0 y1 hK hr
      dsimp only at y0 y1 hr
      have hel := encF_le ms ks (k : Int) den
      obtain ⟨⟨p, q⟩, hpq⟩ : ∃ v, encF ms ks (k : Int) den = v := ⟨_, rfl⟩
      rw [hpq] at hK hel
      dsimp only at hel
      have HPQ := Lib.hid hpq
      obtain ⟨G, hG⟩ : ∃ v, agreeF (p, q) (lo, hi') = v := ⟨_, rfl⟩
      rw [hG] at hK
      have HG := Lib.hid hG
      have HK2 := Lib.hid hK
      clear hcc hrr hK hpq hG
      have hi : (k : Int) < (m : Int) := by omega
      have hi0 : (0 : Int) ≤ (k : Int) := by omega
      go_wp2_with fail
      refine Calmly.wp_region_mix 11 (.fl 0 <| .fl 1 <| .fl 2 <| .fl 3 <| .fl 5 <| .fl 6 <| .fl 7 <| .fl 8 <| .fl 9 <| .eff 4 <| .eff 10 <| .tail [11]) (by kernel_rfl) (by kernel_rfl) ?_
      replace x1 : wr.drew.heap[w.heap.size]? = some (.cells #[.slice a m c, .slice b m d] 24) := x1
      replace x2 : wr.drew.heap[w.heap.size + 1]? = some (.cells #[.int .i64 den, .slice (some ⟨cb, co, none⟩) m sc] 44) := x2
      replace y0 : wr.drew.cell? ⟨cb, co + k * 2, none⟩ = some (.int .i64 lo) := y0
      replace y1 : wr.drew.cell? ⟨cb, co + k * 2 + 1, none⟩ = some (.int .i64 hi') := y1
      replace BW := BW.drew
      replace hbr := hbr.drew
      clear e0 e1
      generalize wr.drew = V at *
      have f0 := cell_block x1 0
      have f1 := cell_block x1 1
      have f2 := cell_block x2 0
      have f3 := cell_block x2 1
      have hk := Below.refl V.heap.size V
      cases G
      all_goals
        go_wp2_with (first | ((with_reducible refine Calmly.is_fl ?_); refine Calmly.mix_fl rfl ?_ (fun _ _ => ?_); (first | exact .move _ | exact .load _ _ | exact .fieldAddr _ _ _ (by kernel_rfl) | exact .assign _ | exact .binOp _ _ _ _ _ rfl | exact .indexAddr _ _ _ | exact .len _ _ (by kernel_rfl) | exact .field _ _ _ | exact .extract _ _ | exact .pick _ _ _ | exact .build _ _ | exact .slice _ _ _ _ _ | exact .unOp _ _ _ rfl | exact .index _ _ _ | exact .max _ _ _ rfl rfl | exact .min _ _ _ rfl rfl)) | ((with_reducible refine Calmly.is_gl ?_); refine Calmly.mix_gl rfl rfl rfl ?_; first | ((first | with_reducible refine Calmly.gl_tt ?_ (fun _ _ => ?_) | with_reducible refine Calmly.gl_ff ?_ (fun _ _ => ?_)); (first | exact .move _ | exact .load _ _ | exact .fieldAddr _ _ _ (by kernel_rfl) | exact .assign _ | exact .binOp _ _ _ _ _ rfl | exact .indexAddr _ _ _ | exact .len _ _ (by kernel_rfl) | exact .field _ _ _ | exact .extract _ _ | exact .pick _ _ _ | exact .build _ _ | exact .slice _ _ _ _ _ | exact .unOp _ _ _ rfl | exact .index _ _ _ | exact .max _ _ _ rfl rfl | exact .min _ _ _ rfl rfl)) | with_reducible refine Calmly.gl_tf (fun _ _ => ?_) | with_reducible refine Calmly.gl_ft (fun _ _ => ?_)) | ((with_reducible refine Calmly.is_eff ?_); refine Calmly.mix_eff rfl (fun _ _ => ?_)) | ((with_reducible refine Calmly.is_gf ?_); refine Calmly.mix_gf rfl rfl rfl ?_; first | with_reducible refine Calmly.gf_tt (fun _ _ => ?_) | with_reducible refine Calmly.gf_ff (fun _ _ => ?_) | with_reducible refine Calmly.gf_tf (kept_of hk) (fun _ _ => ?_) | with_reducible refine Calmly.gf_ft (kept_of hk) (fun _ _ => ?_)) | ((with_reducible refine Calmly.is_tail ?_); first | refine Calmly.mix_tail_nil ?_ | refine Calmly.mix_tail rfl (fun _ _ => ?_)) | ((with_reducible refine Calmly.is_kept ?_); refine ⟨kept_of hk, ?_⟩) | (with_reducible refine Calmly.mix_alt ?_ ?_) | (go_at_call 45; refine (rEnclosure_any a b m c d ms ks _ _ _ ((h1.keep BW).keep hk) ((h2.keep BW).keep hk) HC.out hd1 hd2 hi0 (by omega)).mono ?_; rintro e v1 ⟨rfl, hs⟩; rw [HPQ.out]; replace hk := step_of hk hs; clear hs) | (go_at_call 101; refine (meet_anyU p q lo hi' _ hel hr).mono ?_; rintro e v2 ⟨rfl, hs⟩; rw [HG.out]; replace hk := step_of hk hs; clear hs))
      · obtain rfl : F = (k : Int) := by
          have h1 := HK2.out
          simp only [Bool.false_eq_true, if_false] at h1
          have h2 := failF_eq h1
          rw [if_pos rfl] at h2
          exact HF.out.symm.trans h2
        go_ret
        exact ⟨rfl, BW.trans (hk.mono BW.size)⟩
      · go_roundw
        case rel => exact ⟨k + 1, by omega, by go_num, Lib.hid (by simpa using HK2.out), hbr.trans (hk.mono hbr.size)⟩
        case measure => simp [intOf]; omega
    · have hle : (m : Int) ≤ (k : Int) := by omega
      have e0 := cell_block x1 0
      obtain rfl : F = -1 := by
        have h1 := HK.out
        rw [List.drop_eq_nil_of_le (by omega)] at h1
        have h2 := failF_eq h1
        rw [if_neg (by simp [oddF])] at h2
        exact HF.out.symm.trans h2
      go_wp2_with fail
      go_ret
      exact ⟨rfl, BW⟩
end Go.Proofs.Ytmaidjankakppaa
