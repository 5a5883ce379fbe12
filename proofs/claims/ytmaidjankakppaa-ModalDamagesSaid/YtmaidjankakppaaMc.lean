/- Contracts of chapter 6: a frame checked by the program. -/
import Derived.Test.YtmaidjankakppaaMb
namespace Go.Proofs.Ytmaidjankakppaa
open Go.RowKit
open Calmly (Kept)

theorem size_alloc_drew (w : World) (o : Obj) : w.heap.size + 1 = (w.alloc o).drew.heap.size := by
  show _ = (w.alloc o).heap.size
  simp
/-- A block that was laid before a drawn region and one more block. -/
theorem block_alloc_drew (w : World) (o o' : Obj) : ((w.alloc o).drew.alloc o').heap[w.heap.size]? = some o := by
  have h : Below (w.alloc o).heap.size (w.alloc o).drew ((w.alloc o).drew.alloc o') := (Below.refl (w.alloc o).heap.size (w.alloc o).drew).alloc (Nat.le_refl _) _
  rw [h.block _ (by simp)]
  exact alloc_new _ _

theorem firstE_two (x y : Int) : firstE [x, y] = if x = 0 then y else x := by
  unfold firstE firstE firstE
  split
  · split <;> simp_all
  · rfl

set_option maxRecDepth 100000 in
set_option maxHeartbeats 4000000 in
theorem mCheckFrame_any (a b : Option Addr) (n c m d : Nat) (ms ks : List Int) (w : World) (h1 : SI w a n c ms) (h2 : SI w b m d ks) :
    Calls Try.prog 17 #[.agg #[.slice a n c, .slice b m d]] w fun e w' => e = .returned (.tuple #[.int .i64 (checkF ms ks).1, .int .i64 (checkF ms ks).2]) ∧ Below w.heap.size w w' := by
  obtain ⟨l1, l2⟩ : n ≤ ms.length ∧ ms.length ≤ n := by have := h1.len; omega
  obtain ⟨k1, k2⟩ : m ≤ ks.length ∧ ks.length ≤ m := by have := h2.len; omega
  have m1 := h1.max
  have c1 := h1.cap
  have m2 := h2.max
  have c2 := h2.cap
  have hb : ∀ o, Below w.heap.size w (w.alloc o) := fun o => (Below.refl _ _).alloc (Nat.le_refl _) _
  have hb0 : ∀ e x y, Below w.heap.size w (((w.alloc (.cells #[.slice a n c, .slice b m d] 24)).drew).alloc (.cells #[.int .i64 x, .int .i64 y] e)) := fun _ _ _ => (hb _).drew.alloc (by simp) _
  have hk0 : Below (w.alloc (.cells #[.slice a n c, .slice b m d] 24)).drew.heap.size (w.alloc (.cells #[.slice a n c, .slice b m d] 24)).drew (w.alloc (.cells #[.slice a n c, .slice b m d] 24)).drew := Below.refl _ _
  rcases Nat.eq_zero_or_pos n with hn | hn
  · have hn1 : (n : Int) ≤ 0 := by omega
    have hn0 : decide (0 < n) = false := by simp; omega
    have hr := checkF_shape (ms := ms) (ks := ks) (.inl (by omega))
    have HR := Lib.hid hr
    clear hr hn
    go_enter Try.func17, Try.ntmps17
    go_wp2_with fail
    refine Calmly.wp_region_mix 21 (.fl 0 <| .fl 1 <| .fl 2 <| .fl 3 <| .fl 4 <| .gl 5 <| .gl 6 <| .gl 7 <| .gl 8 <| .gl 9 <| .gl 10 <| .gl 11 <| .fl 12 <| .fl 14 <| .fl 15 <| .fl 16 <| .fl 17 <| .eff 13 <| .eff 18 <| .eff 19 <| .eff 20 <| .tail [21]) (by kernel_rfl) (by kernel_rfl) ?_
    have hk := hk0
    go_wp2_with (first | ((with_reducible refine Calmly.is_fl ?_); refine Calmly.mix_fl rfl ?_ (fun _ _ => ?_); (first | exact .move _ | exact .load _ _ | exact .fieldAddr _ _ _ (by kernel_rfl) | exact .assign _ | exact .binOp _ _ _ _ _ rfl | exact .indexAddr _ _ _ | exact .len _ _ (by kernel_rfl) | exact .field _ _ _ | exact .extract _ _ | exact .pick _ _ _ | exact .build _ _ | exact .slice _ _ _ _ _ | exact .unOp _ _ _ rfl | exact .index _ _ _ | exact .max _ _ _ rfl rfl | exact .min _ _ _ rfl rfl)) | ((with_reducible refine Calmly.is_gl ?_); refine Calmly.mix_gl rfl rfl rfl ?_; first | ((first | with_reducible refine Calmly.gl_tt ?_ (fun _ _ => ?_) | with_reducible refine Calmly.gl_ff ?_ (fun _ _ => ?_)); (first | exact .move _ | exact .load _ _ | exact .fieldAddr _ _ _ (by kernel_rfl) | exact .assign _ | exact .binOp _ _ _ _ _ rfl | exact .indexAddr _ _ _ | exact .len _ _ (by kernel_rfl) | exact .field _ _ _ | exact .extract _ _ | exact .pick _ _ _ | exact .build _ _ | exact .slice _ _ _ _ _ | exact .unOp _ _ _ rfl | exact .index _ _ _ | exact .max _ _ _ rfl rfl | exact .min _ _ _ rfl rfl)) | with_reducible refine Calmly.gl_tf (fun _ _ => ?_) | with_reducible refine Calmly.gl_ft (fun _ _ => ?_)) | ((with_reducible refine Calmly.is_eff ?_); refine Calmly.mix_eff rfl (fun _ _ => ?_)) | ((with_reducible refine Calmly.is_gf ?_); refine Calmly.mix_gf rfl rfl rfl ?_; first | with_reducible refine Calmly.gf_tt (fun _ _ => ?_) | with_reducible refine Calmly.gf_ff (fun _ _ => ?_) | with_reducible refine Calmly.gf_tf (kept_of hk) (fun _ _ => ?_) | with_reducible refine Calmly.gf_ft (kept_of hk) (fun _ _ => ?_)) | ((with_reducible refine Calmly.is_kept ?_); refine ⟨kept_of hk, ?_⟩) | (with_reducible refine Calmly.mix_alt ?_ ?_) | (refine kept_alloc hk (fun hk' hblk hge => ?_); replace hk := hk'; clear hk') | (go_at_call 92; refine (unless_any _ _ _).mono ?_; rintro e w' ⟨rfl, rfl⟩))
    refine (first_any _ 2 2 _ _ (SI.two _ _ _ _ (size_alloc_drew _ _))).mono ?_
    rintro e w' ⟨rfl, rfl⟩
    go_wp2_with (first | ((with_reducible refine Calmly.is_fl ?_); refine Calmly.mix_fl rfl ?_ (fun _ _ => ?_); (first | exact .move _ | exact .load _ _ | exact .fieldAddr _ _ _ (by kernel_rfl) | exact .assign _ | exact .binOp _ _ _ _ _ rfl | exact .indexAddr _ _ _ | exact .len _ _ (by kernel_rfl) | exact .field _ _ _ | exact .extract _ _ | exact .pick _ _ _ | exact .build _ _ | exact .slice _ _ _ _ _ | exact .unOp _ _ _ rfl | exact .index _ _ _ | exact .max _ _ _ rfl rfl | exact .min _ _ _ rfl rfl)) | ((with_reducible refine Calmly.is_gl ?_); refine Calmly.mix_gl rfl rfl rfl ?_; first | ((first | with_reducible refine Calmly.gl_tt ?_ (fun _ _ => ?_) | with_reducible refine Calmly.gl_ff ?_ (fun _ _ => ?_)); (first | exact .move _ | exact .load _ _ | exact .fieldAddr _ _ _ (by kernel_rfl) | exact .assign _ | exact .binOp _ _ _ _ _ rfl | exact .indexAddr _ _ _ | exact .len _ _ (by kernel_rfl) | exact .field _ _ _ | exact .extract _ _ | exact .pick _ _ _ | exact .build _ _ | exact .slice _ _ _ _ _ | exact .unOp _ _ _ rfl | exact .index _ _ _ | exact .max _ _ _ rfl rfl | exact .min _ _ _ rfl rfl)) | with_reducible refine Calmly.gl_tf (fun _ _ => ?_) | with_reducible refine Calmly.gl_ft (fun _ _ => ?_)) | ((with_reducible refine Calmly.is_eff ?_); refine Calmly.mix_eff rfl (fun _ _ => ?_)) | ((with_reducible refine Calmly.is_gf ?_); refine Calmly.mix_gf rfl rfl rfl ?_; first | with_reducible refine Calmly.gf_tt (fun _ _ => ?_) | with_reducible refine Calmly.gf_ff (fun _ _ => ?_) | with_reducible refine Calmly.gf_tf (kept_of hk) (fun _ _ => ?_) | with_reducible refine Calmly.gf_ft (kept_of hk) (fun _ _ => ?_)) | ((with_reducible refine Calmly.is_tail ?_); first | refine Calmly.mix_tail_nil ?_ | refine Calmly.mix_tail rfl (fun _ _ => ?_)) | ((with_reducible refine Calmly.is_kept ?_); refine ⟨kept_of hk, ?_⟩) | (with_reducible refine Calmly.mix_alt ?_ ?_))
    · go_ret2
      refine ⟨ret_two ?_, hb0 _ _ _⟩
      rw [HR.out]
      rfl
  · go_enter Try.func17, Try.ntmps17
    go_wp2_with fail
    refine Calmly.wp_region_mix 21 (.fl 0 <| .fl 1 <| .fl 2 <| .fl 3 <| .fl 4 <| .gl 5 <| .gl 6 <| .gl 7 <| .gl 8 <| .gl 9 <| .gl 10 <| .gl 11 <| .fl 12 <| .fl 14 <| .fl 15 <| .fl 16 <| .fl 17 <| .eff 13 <| .eff 18 <| .eff 19 <| .eff 20 <| .tail [21]) (by kernel_rfl) (by kernel_rfl) ?_
    have hk := hk0
    go_wp2_with (first | ((with_reducible refine Calmly.is_fl ?_); refine Calmly.mix_fl rfl ?_ (fun _ _ => ?_); (first | exact .move _ | exact .load _ _ | exact .fieldAddr _ _ _ (by kernel_rfl) | exact .assign _ | exact .binOp _ _ _ _ _ rfl | exact .indexAddr _ _ _ | exact .len _ _ (by kernel_rfl) | exact .field _ _ _ | exact .extract _ _ | exact .pick _ _ _ | exact .build _ _ | exact .slice _ _ _ _ _ | exact .unOp _ _ _ rfl | exact .index _ _ _ | exact .max _ _ _ rfl rfl | exact .min _ _ _ rfl rfl)) | ((with_reducible refine Calmly.is_gl ?_); refine Calmly.mix_gl rfl rfl rfl ?_; first | ((first | with_reducible refine Calmly.gl_tt ?_ (fun _ _ => ?_) | with_reducible refine Calmly.gl_ff ?_ (fun _ _ => ?_)); (first | exact .move _ | exact .load _ _ | exact .fieldAddr _ _ _ (by kernel_rfl) | exact .assign _ | exact .binOp _ _ _ _ _ rfl | exact .indexAddr _ _ _ | exact .len _ _ (by kernel_rfl) | exact .field _ _ _ | exact .extract _ _ | exact .pick _ _ _ | exact .build _ _ | exact .slice _ _ _ _ _ | exact .unOp _ _ _ rfl | exact .index _ _ _ | exact .max _ _ _ rfl rfl | exact .min _ _ _ rfl rfl)) | with_reducible refine Calmly.gl_tf (fun _ _ => ?_) | with_reducible refine Calmly.gl_ft (fun _ _ => ?_)) | ((with_reducible refine Calmly.is_eff ?_); refine Calmly.mix_eff rfl (fun _ _ => ?_)) | ((with_reducible refine Calmly.is_gf ?_); refine Calmly.mix_gf rfl rfl rfl ?_; first | with_reducible refine Calmly.gf_tt (fun _ _ => ?_) | with_reducible refine Calmly.gf_ff (fun _ _ => ?_) | with_reducible refine Calmly.gf_tf (kept_of hk) (fun _ _ => ?_) | with_reducible refine Calmly.gf_ft (kept_of hk) (fun _ _ => ?_)) | ((with_reducible refine Calmly.is_kept ?_); refine ⟨kept_of hk, ?_⟩) | (with_reducible refine Calmly.mix_alt ?_ ?_) | (refine kept_alloc hk (fun hk' hblk hge => ?_); replace hk := hk'; clear hk') | (go_at_call 92; refine (unless_any _ _ _).mono ?_; rintro e w' ⟨rfl, rfl⟩))
    refine (first_any _ 2 2 _ _ (SI.two _ _ _ _ (size_alloc_drew _ _))).mono ?_
    rintro e w' ⟨rfl, rfl⟩
    go_wp2_with (first | ((with_reducible refine Calmly.is_fl ?_); refine Calmly.mix_fl rfl ?_ (fun _ _ => ?_); (first | exact .move _ | exact .load _ _ | exact .fieldAddr _ _ _ (by kernel_rfl) | exact .assign _ | exact .binOp _ _ _ _ _ rfl | exact .indexAddr _ _ _ | exact .len _ _ (by kernel_rfl) | exact .field _ _ _ | exact .extract _ _ | exact .pick _ _ _ | exact .build _ _ | exact .slice _ _ _ _ _ | exact .unOp _ _ _ rfl | exact .index _ _ _ | exact .max _ _ _ rfl rfl | exact .min _ _ _ rfl rfl)) | ((with_reducible refine Calmly.is_gl ?_); refine Calmly.mix_gl rfl rfl rfl ?_; first | ((first | with_reducible refine Calmly.gl_tt ?_ (fun _ _ => ?_) | with_reducible refine Calmly.gl_ff ?_ (fun _ _ => ?_)); (first | exact .move _ | exact .load _ _ | exact .fieldAddr _ _ _ (by kernel_rfl) | exact .assign _ | exact .binOp _ _ _ _ _ rfl | exact .indexAddr _ _ _ | exact .len _ _ (by kernel_rfl) | exact .field _ _ _ | exact .extract _ _ | exact .pick _ _ _ | exact .build _ _ | exact .slice _ _ _ _ _ | exact .unOp _ _ _ rfl | exact .index _ _ _ | exact .max _ _ _ rfl rfl | exact .min _ _ _ rfl rfl)) | with_reducible refine Calmly.gl_tf (fun _ _ => ?_) | with_reducible refine Calmly.gl_ft (fun _ _ => ?_)) | ((with_reducible refine Calmly.is_eff ?_); refine Calmly.mix_eff rfl (fun _ _ => ?_)) | ((with_reducible refine Calmly.is_gf ?_); refine Calmly.mix_gf rfl rfl rfl ?_; first | with_reducible refine Calmly.gf_tt (fun _ _ => ?_) | with_reducible refine Calmly.gf_ff (fun _ _ => ?_) | with_reducible refine Calmly.gf_tf (kept_of hk) (fun _ _ => ?_) | with_reducible refine Calmly.gf_ft (kept_of hk) (fun _ _ => ?_)) | ((with_reducible refine Calmly.is_tail ?_); first | refine Calmly.mix_tail_nil ?_ | refine Calmly.mix_tail rfl (fun _ _ => ?_)) | ((with_reducible refine Calmly.is_kept ?_); refine ⟨kept_of hk, ?_⟩) | (with_reducible refine Calmly.mix_alt ?_ ?_))
    · have hf : (firstE [unlessE ((m : Int) == (n : Int)) 10, unlessE (decide ((n : Int) ≤ 4)) 8] != 0) = true := by assumption
      go_ret2
      refine ⟨ret_two ?_, hb0 _ _ _⟩
      rw [firstE_two] at hf ⊢
      by_cases he : m = n
      · by_cases hl : n ≤ 4
        · simp [unlessE, he, hl] at hf
          omega
        · rw [checkF_large (by omega) (by omega)]
          simp [unlessE, he]
          omega
      · rw [checkF_shape (.inr (by omega))]
        have : ((m : Int) == (n : Int)) = false := by simp; omega
        rw [this]
        rfl
    · have hf : (firstE [unlessE ((m : Int) == (n : Int)) 10, unlessE (decide ((n : Int) ≤ 4)) 8] != 0) = false := by assumption
      have hmn : m = n ∧ n ≤ 4 := by
        rw [firstE_two] at hf
        by_cases he : m = n
        · simp [unlessE, he] at hf
          omega
        · have : ((m : Int) == (n : Int)) = false := by simp; omega
          rw [this] at hf
          simp [unlessE] at hf
      obtain ⟨he, hl⟩ := hmn
      rw [show ((m : Int) == (n : Int)) = true by simp [he], show decide ((n : Int) ≤ 4) = true by simp; omega]
      subst he
      clear hf
      have hr := checkF_rest (ms := ms) (ks := ks) (by omega) (by omega)
      have HR := Lib.hid hr
      clear hr
      refine wp_gen (fun v => Below w.heap.size w v ∧ v.heap[w.heap.size]? = some (.cells #[.slice a m c, .slice b m d] 24)) ⟨hb0 _ _ _, block_alloc_drew _ _ _⟩ ?_
      rintro v ⟨hbw, hfr⟩
      have hf0 : v.cell? ⟨w.heap.size, 0, none⟩ = some (.slice a m c) := cell_block hfr 0
      have hf1 : v.cell? ⟨w.heap.size, 1, none⟩ = some (.slice b m d) := cell_block hfr 1
      clear hfr
      go_loop [34] (fun i => ∃ k : Nat, k ≤ m ∧ i = .int .i64 k ∧ badF 0 ms ks = badF k (ms.drop k) (ks.drop k)) (fun i => m - (intOf i).toNat)
      case atStart => exact ⟨0, by omega, rfl, rfl⟩
      case round =>
        obtain ⟨k, hk, rfl, ht⟩ := hrel
        have HT := Lib.hid ht
        clear ht
        by_cases hlt : k < m
        · obtain ⟨b1, o1, rfl, hc1⟩ := h1.at_ (by omega)
          obtain ⟨b2, o2, rfl, hc2⟩ := h2.at_ (by omega)
          have e1 := cell_keep (hc1 k hlt) hbw
          have e2 := cell_keep (hc2 k hlt) hbw
          clear hc1 hc2
          have hd := badF_drop ms ks k (by omega)
          have HD := Lib.hid hd
          clear hd
          have hi : (k : Int) < (m : Int) := by omega
          have hi0 : (0 : Int) ≤ (k : Int) := by omega
          cases hw : wIn (ms[k]?.getD 0) 1 10
          · go_wp2_with (first | (go_at_call 93; refine (mWithin_any _ _ _ _).mono ?_; rintro e w' ⟨rfl, rfl⟩))
            go_ret2
            refine ⟨ret_two ?_, hbw⟩
            rw [HR.out, HT.out, HD.out, hw]
            rfl
          · cases hv : wIn (ks[k]?.getD 0) 1 20
            · go_wp2_with (first | (go_at_call 93; refine (mWithin_any _ _ _ _).mono ?_; rintro e w' ⟨rfl, rfl⟩))
              go_ret2
              refine ⟨ret_two ?_, hbw⟩
              rw [HR.out, HT.out, HD.out, hw, hv]
              rfl
            · go_wp2_with (first | (go_at_call 93; refine (mWithin_any _ _ _ _).mono ?_; rintro e w' ⟨rfl, rfl⟩))
              go_round
              case rel => exact ⟨k + 1, by omega, by go_num, by rw [HT.out, HD.out, hw, hv]; rfl⟩
              case measure => simp [intOf]; omega
        · have hle : (m : Int) ≤ (k : Int) := by omega
          go_wp2
          go_ret2
          refine ⟨ret_two ?_, hbw⟩
          rw [HR.out, HT.out, List.drop_eq_nil_of_le (by omega)]
          rfl
end Go.Proofs.Ytmaidjankakppaa
