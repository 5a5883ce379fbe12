/- Contracts of chapter 6: a frame checked by the program. Contracts of chapter 6: a frame opened, copied, and its limits. -/
import Derived.Test.YtmaidjankakppaaK03
namespace Go.Proofs.Ytmaidjankakppaa
open Go.RowKit
open Calmly (Kept)

theorem size_alloc_drew (w : World) (o : Obj) : w.heap.size + 1 = (w.alloc o).drew.heap.size := by
  show _ = (w.alloc o).heap.size
  simp
/-- A block that was laid before a drawn region and one more block. -/
theorem block_alloc_drew (w : World) (o o' : Obj) : ((w.alloc o).drew.alloc o').heap[w.heap.size]? = some o := by
  have h : Below (w.alloc o).heap.size (w.alloc o).drew ((w.alloc o).drew.alloc o') := (Below.refl (w.alloc o).heap.size (w.alloc o).drew).alloc (Nat.le_refl _) _
  rw [h.block _ (by simp)]
  exact alloc_new _ _

theorem firstE_two (x y : Int) : firstE [x, y] = if x = 0 then y else x := by
  unfold firstE firstE firstE
  split
  · split <;> simp_all
  · rfl

set_option maxRecDepth 100000 in
set_option maxHeartbeats 4000000 in
theorem mCheckFrame_any (a b : Option Addr) (n c m d : Nat) (ms ks : List Int) (w : World) (h1 : SI w a n c ms) (h2 : SI w b m d ks) :
    Calls Try.prog 17 #[.agg #[.slice a n c, .slice b m d]] w fun e w' => e = .returned (.tuple #[.int .i64 (checkF ms ks).1, .int .i64 (checkF ms ks).2]) ∧ Below w.heap.size w w' := by
  obtain ⟨l1, l2⟩ : n ≤ ms.length ∧ ms.length ≤ n := by have := h1.len; omega
  obtain ⟨k1, k2⟩ : m ≤ ks.length ∧ ks.length ≤ m := by have := h2.len; omega
  have m1 := h1.max
  have c1 := h1.cap
  have m2 := h2.max
  have c2 := h2.cap
  have hb : ∀ o, Below w.heap.size w (w.alloc o) := fun o => (Below.refl _ _).alloc (Nat.le_refl _) _
  have hb0 : ∀ e x y, Below w.heap.size w (((w.alloc (.cells #[.slice a n c, .slice b m d] 24)).drew).alloc (.cells #[.int .i64 x, .int .i64 y] e)) := fun _ _ _ => (hb _).drew.alloc (by simp) _
  have hk0 : Below (w.alloc (.cells #[.slice a n c, .slice b m d] 24)).drew.heap.size (w.alloc (.cells #[.slice a n c, .slice b m d] 24)).drew (w.alloc (.cells #[.slice a n c, .slice b m d] 24)).drew := Below.refl _ _
  rcases Nat.eq_zero_or_pos n with hn | hn
  · have hn1 : (n : Int) ≤ 0 := by omega
    have hn0 : decide (0 < n) = false := by simp; omega
    have hr := checkF_shape (ms := ms) (ks := ks) (.inl (by omega))
    have HR := Lib.hid hr
    clear hr hn
    go_enter Try.func17, Try.ntmps17
    go_wp2_with fail
    refine Calmly.wp_region_mix 21 (.fl 0 <| .fl 1 <| .fl 2 <| .fl 3 <| .fl 4 <| .gl 5 <| .gl 6 <| .gl 7 <| .gl 8 <| .gl 9 <| .gl 10 <| .gl 11 <| .fl 12 <| .fl 14 <| .fl 15 <| .fl 16 <| .fl 17 <| .eff 13 <| .eff 18 <| .eff 19 <| .eff 20 <| .tail [21]) (by kernel_rfl) (by kernel_rfl) ?_
    have hk := hk0
    go_wp2_with (first | ((with_reducible refine Calmly.is_fl ?_); refine Calmly.mix_fl rfl ?_ (fun _ _ => ?_); (first | exact .move _ | exact .load _ _ | exact .fieldAddr _ _ _ (by kernel_rfl) | exact .assign _ | exact .binOp _ _ _ _ _ rfl | exact .indexAddr _ _ _ | exact .len _ _ (by kernel_rfl) | exact .field _ _ _ | exact .extract _ _ | exact .pick _ _ _ | exact .build _ _ | exact .slice _ _ _ _ _ | exact .unOp _ _ _ rfl | exact .index _ _ _ | exact .max _ _ _ rfl rfl | exact .min _ _ _ rfl rfl)) | ((with_reducible refine Calmly.is_gl ?_); refine Calmly.mix_gl rfl rfl rfl ?_; first | ((first | with_reducible refine Calmly.gl_tt ?_ (fun _ _ => ?_) | with_reducible refine Calmly.gl_ff ?_ (fun _ _ => ?_)); (first | exact .move _ | exact .load _ _ | exact .fieldAddr _ _ _ (by kernel_rfl) | exact .assign _ | exact .binOp _ _ _ _ _ rfl | exact .indexAddr _ _ _ | exact .len _ _ (by kernel_rfl) | exact .field _ _ _ | exact .extract _ _ | exact .pick _ _ _ | exact .build _ _ | exact .slice _ _ _ _ _ | exact .unOp _ _ _ rfl | exact .index _ _ _ | exact .max _ _ _ rfl rfl | exact .min _ _ _ rfl rfl)) | with_reducible refine Calmly.gl_tf (fun _ _ => ?_) | with_reducible refine Calmly.gl_ft (fun _ _ => ?_)) | ((with_reducible refine Calmly.is_eff ?_); refine Calmly.mix_eff rfl (fun _ _ => ?_)) | ((with_reducible refine Calmly.is_gf ?_); refine Calmly.mix_gf rfl rfl rfl ?_; first | with_reducible refine Calmly.gf_tt (fun _ _ => ?_) | with_reducible refine Calmly.gf_ff (fun _ _ => ?_) | with_reducible refine Calmly.gf_tf (kept_of hk) (fun _ _ => ?_) | with_reducible refine Calmly.gf_ft (kept_of hk) (fun _ _ => ?_)) | ((with_reducible refine Calmly.is_kept ?_); refine ⟨kept_of hk, ?_⟩) | (with_reducible refine Calmly.mix_alt ?_ ?_) | (refine kept_alloc hk (fun hk' hblk hge => ?_); replace hk := hk'; clear hk') | (go_at_call 92; refine (unless_any _ _ _).mono ?_; rintro e w' ⟨rfl, rfl⟩))
    refine (first_any _ 2 2 _ _ (SI.two _ _ _ _ (size_alloc_drew _ _))).mono ?_
    rintro e w' ⟨rfl, rfl⟩
    go_wp2_with (first | ((with_reducible refine Calmly.is_fl ?_); refine Calmly.mix_fl rfl ?_ (fun _ _ => ?_); (first | exact .move _ | exact .load _ _ | exact .fieldAddr _ _ _ (by kernel_rfl) | exact .assign _ | exact .binOp _ _ _ _ _ rfl | exact .indexAddr _ _ _ | exact .len _ _ (by kernel_rfl) | exact .field _ _ _ | exact .extract _ _ | exact .pick _ _ _ | exact .build _ _ | exact .slice _ _ _ _ _ | exact .unOp _ _ _ rfl | exact .index _ _ _ | exact .max _ _ _ rfl rfl | exact .min _ _ _ rfl rfl)) | ((with_reducible refine Calmly.is_gl ?_); refine Calmly.mix_gl rfl rfl rfl ?_; first | ((first | with_reducible refine Calmly.gl_tt ?_ (fun _ _ => ?_) | with_reducible refine Calmly.gl_ff ?_ (fun _ _ => ?_)); (first | exact .move _ | exact .load _ _ | exact .fieldAddr _ _ _ (by kernel_rfl) | exact .assign _ | exact .binOp _ _ _ _ _ rfl | exact .indexAddr _ _ _ | exact .len _ _ (by kernel_rfl) | exact .field _ _ _ | exact .extract _ _ | exact .pick _ _ _ | exact .build _ _ | exact .slice _ _ _ _ _ | exact .unOp _ _ _ rfl | exact .index _ _ _ | exact .max _ _ _ rfl rfl | exact .min _ _ _ rfl rfl)) | with_reducible refine Calmly.gl_tf (fun _ _ => ?_) | with_reducible refine Calmly.gl_ft (fun _ _ => ?_)) | ((with_reducible refine Calmly.is_eff ?_); refine Calmly.mix_eff rfl (fun _ _ => ?_)) | ((with_reducible refine Calmly.is_gf ?_); refine Calmly.mix_gf rfl rfl rfl ?_; first | with_reducible refine Calmly.gf_tt (fun _ _ => ?_) | with_reducible refine Calmly.gf_ff (fun _ _ => ?_) | with_reducible refine Calmly.gf_tf (kept_of hk) (fun _ _ => ?_) | with_reducible refine Calmly.gf_ft (kept_of hk) (fun _ _ => ?_)) | ((with_reducible refine Calmly.is_tail ?_); first | refine Calmly.mix_tail_nil ?_ | refine Calmly.mix_tail rfl (fun _ _ => ?_)) | ((with_reducible refine Calmly.is_kept ?_); refine ⟨kept_of hk, ?_⟩) | (with_reducible refine Calmly.mix_alt ?_ ?_))
    · go_ret2
      refine ⟨ret_two ?_, hb0 _ _ _⟩
      rw [HR.out]
      rfl
  · go_enter Try.func17, Try.ntmps17
    go_wp2_with fail
    refine Calmly.wp_region_mix 21 (.fl 0 <| .fl 1 <| .fl 2 <| .fl 3 <| .fl 4 <| .gl 5 <| .gl 6 <| .gl 7 <| .gl 8 <| .gl 9 <| .gl 10 <| .gl 11 <| .fl 12 <| .fl 14 <| .fl 15 <| .fl 16 <| .fl 17 <| .eff 13 <| .eff 18 <| .eff 19 <| .eff 20 <| .tail [21]) (by kernel_rfl) (by kernel_rfl) ?_
    have hk := hk0
    go_wp2_with (first | ((with_reducible refine Calmly.is_fl ?_); refine Calmly.mix_fl rfl ?_ (fun _ _ => ?_); (first | exact .move _ | exact .load _ _ | exact .fieldAddr _ _ _ (by kernel_rfl) | exact .assign _ | exact .binOp _ _ _ _ _ rfl | exact .indexAddr _ _ _ | exact .len _ _ (by kernel_rfl) | exact .field _ _ _ | exact .extract _ _ | exact .pick _ _ _ | exact .build _ _ | exact .slice _ _ _ _ _ | exact .unOp _ _ _ rfl | exact .index _ _ _ | exact .max _ _ _ rfl rfl | exact .min _ _ _ rfl rfl)) | ((with_reducible refine Calmly.is_gl ?_); refine Calmly.mix_gl rfl rfl rfl ?_; first | ((first | with_reducible refine Calmly.gl_tt ?_ (fun _ _ => ?_) | with_reducible refine Calmly.gl_ff ?_ (fun _ _ => ?_)); (first | exact .move _ | exact .load _ _ | exact .fieldAddr _ _ _ (by kernel_rfl) | exact .assign _ | exact .binOp _ _ _ _ _ rfl | exact .indexAddr _ _ _ | exact .len _ _ (by kernel_rfl) | exact .field _ _ _ | exact .extract _ _ | exact .pick _ _ _ | exact .build _ _ | exact .slice _ _ _ _ _ | exact .unOp _ _ _ rfl | exact .index _ _ _ | exact .max _ _ _ rfl rfl | exact .min _ _ _ rfl rfl)) | with_reducible refine Calmly.gl_tf (fun _ _ => ?_) | with_reducible refine Calmly.gl_ft (fun _ _ => ?_)) | ((with_reducible refine Calmly.is_eff ?_); refine Calmly.mix_eff rfl (fun _ _ => ?_)) | ((with_reducible refine Calmly.is_gf ?_); refine Calmly.mix_gf rfl rfl rfl ?_; first | with_reducible refine Calmly.gf_tt (fun _ _ => ?_) | with_reducible refine Calmly.gf_ff (fun _ _ => ?_) | with_reducible refine Calmly.gf_tf (kept_of hk) (fun _ _ => ?_) | with_reducible refine Calmly.gf_ft (kept_of hk) (fun _ _ => ?_)) | ((with_reducible refine Calmly.is_kept ?_); refine ⟨kept_of hk, ?_⟩) | (with_reducible refine Calmly.mix_alt ?_ ?_) | (refine kept_alloc hk (fun hk' hblk hge => ?_); replace hk := hk'; clear hk') | (go_at_call 92; refine (unless_any _ _ _).mono ?_; rintro e w' ⟨rfl, rfl⟩))
    refine (first_any _ 2 2 _ _ (SI.two _ _ _ _ (size_alloc_drew _ _))).mono ?_
    rintro e w' ⟨rfl, rfl⟩
    go_wp2_with (first | ((with_reducible refine Calmly.is_fl ?_); refine Calmly.mix_fl rfl ?_ (fun _ _ => ?_); (first | exact .move _ | exact .load _ _ | exact .fieldAddr _ _ _ (by kernel_rfl) | exact .assign _ | exact .binOp _ _ _ _ _ rfl | exact .indexAddr _ _ _ | exact .len _ _ (by kernel_rfl) | exact .field _ _ _ | exact .extract _ _ | exact .pick _ _ _ | exact .build _ _ | exact .slice _ _ _ _ _ | exact .unOp _ _ _ rfl | exact .index _ _ _ | exact .max _ _ _ rfl rfl | exact .min _ _ _ rfl rfl)) | ((with_reducible refine Calmly.is_gl ?_); refine Calmly.mix_gl rfl rfl rfl ?_; first | ((first | with_reducible refine Calmly.gl_tt ?_ (fun _ _ => ?_) | with_reducible refine Calmly.gl_ff ?_ (fun _ _ => ?_)); (first | exact .move _ | exact .load _ _ | exact .fieldAddr _ _ _ (by kernel_rfl) | exact .assign _ | exact .binOp _ _ _ _ _ rfl | exact .indexAddr _ _ _ | exact .len _ _ (by kernel_rfl) | exact .field _ _ _ | exact .extract _ _ | exact .pick _ _ _ | exact .build _ _ | exact .slice _ _ _ _ _ | exact .unOp _ _ _ rfl | exact .index _ _ _ | exact .max _ _ _ rfl rfl | exact .min _ _ _ rfl rfl)) | with_reducible refine Calmly.gl_tf (fun _ _ => ?_) | with_reducible refine Calmly.gl_ft (fun _ _ => ?_)) | ((with_reducible refine Calmly.is_eff ?_); refine Calmly.mix_eff rfl (fun _ _ => ?_)) | ((with_reducible refine Calmly.is_gf ?_); refine Calmly.mix_gf rfl rfl rfl ?_; first | with_reducible refine Calmly.gf_tt (fun _ _ => ?_) | with_reducible refine Calmly.gf_ff (fun _ _ => ?_) | with_reducible refine Calmly.gf_tf (kept_of hk) (fun _ _ => ?_) | with_reducible refine Calmly.gf_ft (kept_of hk) (fun _ _ => ?_)) | ((with_reducible refine Calmly.is_tail ?_); first | refine Calmly.mix_tail_nil ?_ | refine Calmly.mix_tail rfl (fun _ _ => ?_)) | ((with_reducible refine Calmly.is_kept ?_); refine ⟨kept_of hk, ?_⟩) | (with_reducible refine Calmly.mix_alt ?_ ?_))
    · have hf : (firstE [unlessE ((m : Int) == (n : Int)) 10, unlessE (decide ((n : Int) ≤ 4)) 8] != 0) = true := by assumption
      go_ret2
      refine ⟨ret_two ?_, hb0 _ _ _⟩
      rw [firstE_two] at hf ⊢
      by_cases he : m = n
      · by_cases hl : n ≤ 4
        · simp [unlessE, he] at hf
          omega
        · rw [checkF_large (by omega) (by omega)]
          simp [unlessE, he]
          omega
      · rw [checkF_shape (.inr (by omega))]
        have : ((m : Int) == (n : Int)) = false := by simp; omega
        rw [this]
        rfl
    · have hf : (firstE [unlessE ((m : Int) == (n : Int)) 10, unlessE (decide ((n : Int) ≤ 4)) 8] != 0) = false := by assumption
      have hmn : m = n ∧ n ≤ 4 := by
        rw [firstE_two] at hf
        by_cases he : m = n
        · simp [unlessE, he] at hf
          omega
        · have : ((m : Int) == (n : Int)) = false := by simp; omega
          rw [this] at hf
          simp [unlessE] at hf
      obtain ⟨he, hl⟩ := hmn
      rw [show ((m : Int) == (n : Int)) = true by simp [he], show decide ((n : Int) ≤ 4) = true by simp; omega]
      subst he
      clear hf
      have hr := checkF_rest (ms := ms) (ks := ks) (by omega) (by omega)
      have HR := Lib.hid hr
      clear hr
      refine wp_gen (fun v => Below w.heap.size w v ∧ v.heap[w.heap.size]? = some (.cells #[.slice a m c, .slice b m d] 24)) ⟨hb0 _ _ _, block_alloc_drew _ _ _⟩ ?_
      rintro v ⟨hbw, hfr⟩
      have hf0 : v.cell? ⟨w.heap.size, 0, none⟩ = some (.slice a m c) := cell_block hfr 0
      have hf1 : v.cell? ⟨w.heap.size, 1, none⟩ = some (.slice b m d) := cell_block hfr 1
      clear hfr
      go_loop [34] (fun i => ∃ k : Nat, k ≤ m ∧ i = .int .i64 k ∧ badF 0 ms ks = badF k (ms.drop k) (ks.drop k)) (fun i => m - (intOf i).toNat)
      case atStart => exact ⟨0, by omega, rfl, rfl⟩
      case round =>
        obtain ⟨k, hk, rfl, ht⟩ := hrel
        have HT := Lib.hid ht
        clear ht
        by_cases hlt : k < m
        · obtain ⟨b1, o1, rfl, hc1⟩ := h1.at_ (by omega)
          obtain ⟨b2, o2, rfl, hc2⟩ := h2.at_ (by omega)
          have e1 := cell_keep (hc1 k hlt) hbw
          have e2 := cell_keep (hc2 k hlt) hbw
          clear hc1 hc2
          have hd := badF_drop ms ks k (by omega)
          have HD := Lib.hid hd
          clear hd
          have hi : (k : Int) < (m : Int) := by omega
          have hi0 : (0 : Int) ≤ (k : Int) := by omega
          cases hw : wIn (ms[k]?.getD 0) 1 10
          · go_wp2_with (first | (go_at_call 93; refine (mWithin_any _ _ _ _).mono ?_; rintro e w' ⟨rfl, rfl⟩))
            go_ret2
            refine ⟨ret_two ?_, hbw⟩
            rw [HR.out, HT.out, HD.out, hw]
            rfl
          · cases hv : wIn (ks[k]?.getD 0) 1 20
            · go_wp2_with (first | (go_at_call 93; refine (mWithin_any _ _ _ _).mono ?_; rintro e w' ⟨rfl, rfl⟩))
              go_ret2
              refine ⟨ret_two ?_, hbw⟩
              rw [HR.out, HT.out, HD.out, hw, hv]
              rfl
            · go_wp2_with (first | (go_at_call 93; refine (mWithin_any _ _ _ _).mono ?_; rintro e w' ⟨rfl, rfl⟩))
              go_round
              case rel => exact ⟨k + 1, by omega, by go_num, by rw [HT.out, HD.out, hw, hv]; rfl⟩
              case measure => simp [intOf]; omega
        · have hle : (m : Int) ≤ (k : Int) := by omega
          go_wp2
          go_ret2
          refine ⟨ret_two ?_, hbw⟩
          rw [HR.out, HT.out, List.drop_eq_nil_of_le (by omega)]
          rfl
end Go.Proofs.Ytmaidjankakppaa

namespace Go.Proofs.Ytmaidjankakppaa
open Go.RowKit
open Calmly (Kept)

theorem OwI.weak {w : World} {B B' : Nat} {a : Option Addr} {n c : Nat} {xs : List Int} (h : OwI w B a n c xs) (hB : B' ≤ B) : OwI w B' a n c xs := by
  obtain ⟨h1, h2⟩ := h
  refine ⟨h1, ?_⟩
  rcases h2 with h2 | ⟨g, cap, cur, hv, hg, r⟩
  · exact .inl h2
  · exact .inr ⟨g, cap, cur, hv, Nat.le_trans hB hg, r⟩
/-- A store below the call's own rows. -/
theorem OwI.under {w : World} {B : Nat} {a : Option Addr} {n c : Nat} {xs : List Int} (h : OwI w B a n c xs) {r o : Nat} (hr : r < B) (v : Value) : OwI (w.setCell ⟨r, o, none⟩ v) B a n c xs := by
  obtain ⟨h1, h2⟩ := h
  refine ⟨h1, ?_⟩
  rcases h2 with h2 | ⟨g, cap, cur, hv, hg, hh, r'⟩
  · exact .inl h2
  · refine .inr ⟨g, cap, cur, hv, hg, ?_, r'⟩
    rw [Below.heap_setCell _ _ _ _ (by show g ≠ r; omega)]
    exact hh
/-- Two stores below the call's own rows. -/
theorem OwI.under2 {w : World} {B : Nat} {a : Option Addr} {n c : Nat} {xs : List Int} (h : OwI w B a n c xs) {r : Nat} (hr : r < B) (u v : Value) : OwI ((w.setCell ⟨r, 0, none⟩ u).setCell ⟨r, 1, none⟩ v) B a n c xs :=
  (h.under hr u).under hr v

/-- What a call laid before it called another one. -/
theorem box1 {w W w1 : World} {o : Obj} (h : Below W.heap.size W w1) (hW : W.heap = (w.alloc o).heap := by rfl) : w1.heap[w.heap.size]? = some o := by
  rw [h.block _ (by rw [hW]; simp), hW]
  exact alloc_new _ _
theorem box2 {w W w1 : World} {o o' : Obj} (h : Below W.heap.size W w1) (hW : W.heap = ((w.alloc o).alloc o').heap := by rfl) : w1.heap[w.heap.size]? = some o ∧ w1.heap[w.heap.size + 1]? = some o' := by
  have h0 : Below (w.alloc o).heap.size (w.alloc o) ((w.alloc o).alloc o') := (Below.refl _ _).alloc (Nat.le_refl _) _
  refine ⟨?_, ?_⟩
  · rw [h.block _ (by rw [hW]; simp; omega), hW]
    exact box1 (W := w.alloc o) h0
  · rw [h.block _ (by rw [hW]; simp), hW]
    have := alloc_new (w.alloc o) o'
    simpa using this

set_option maxRecDepth 100000 in
set_option maxHeartbeats 1000000 in
theorem few_any (a b : Option Addr) (n c m d : Nat) (w : World) (hn : n ≤ 9223372036854775807) (hm : m ≤ 9223372036854775807) :
    Calls Try.prog 16 #[.agg #[.slice a n c, .slice b m d]] w fun e w' => e = .returned (.bool (decide (n ≤ 6) && decide (m ≤ 6))) ∧ Below w.heap.size w w' := by
  have hb : ∀ o, Below w.heap.size w (w.alloc o) := fun o => (Below.refl _ _).alloc (Nat.le_refl _) _
  rcases Nat.lt_or_ge 6 n with h | h
  · have h1 : decide (n ≤ 6) = false := by simp; omega
    go_enter Try.func16, Try.ntmps16
    have h2 : ¬ (n : Int) ≤ 6 := by omega
    go_wp2
    go_ret
    exact ⟨ret_bool (by simp), hb _⟩
  · have h1 : decide (n ≤ 6) = true := by simp; omega
    have h2 : (n : Int) ≤ 6 := by omega
    go_enter Try.func16, Try.ntmps16
    go_wp2
    go_ret
    refine ⟨ret_bool ?_, hb _⟩
    simp [h1]
    omega

set_option maxRecDepth 100000 in
set_option maxHeartbeats 1000000 in
theorem open_any (a b : Option Addr) (n c m d : Nat) (ms ks : List Int) (w : World) (h1 : SI w a n c ms) (h2 : SI w b m d ks) :
    Calls Try.prog 94 #[.agg #[.slice a n c, .slice b m d]] w fun e w' => e = .returned (.tuple #[.agg #[.slice a n c, .slice b m d], .int .i64 (checkF ms ks).2]) ∧ Below w.heap.size w w' := by
  have hb : ∀ o o', Below w.heap.size w ((w.alloc o).alloc o') := fun o o' => ((Below.refl _ _).alloc (Nat.le_refl _) _).alloc (by simp) _
  go_enter Try.func94, Try.ntmps94
  go_wp2_with fail
  refine (mCheckFrame_any a b n c m d ms ks _ (h1.keep (hb _ _)) (h2.keep (hb _ _))).mono ?_
  rintro e w1 ⟨rfl, hb1⟩
  obtain ⟨x1, x2⟩ := box2 (w := w) (o := .cells #[.slice a n c, .slice b m d] 24) (o' := .cells #[.slice none 0 0, .slice none 0 0] 141) hb1
  have hs1 := blk_lt x2
  have f0 : w1.cell? ⟨w.heap.size, 0, none⟩ = some (.slice a n c) := cell_block x1 0
  have f1 : w1.cell? ⟨w.heap.size, 1, none⟩ = some (.slice b m d) := cell_block x1 1
  have g0 : w1.cell? ⟨w.heap.size + 1, 0, none⟩ = some (.slice none 0 0) := cell_block x2 0
  have g1 : w1.cell? ⟨w.heap.size + 1, 1, none⟩ = some (.slice none 0 0) := cell_block x2 1
  have g2 := frozen_block x2 0
  have g3 := frozen_block x2 1
  clear x1 x2
  have hb2 : Below w.heap.size w w1 := (hb _ _).trans (hb1.mono (by simp; omega))
  obtain ⟨s1, s2, s3, s4⟩ := set2 (x := .slice a n c) (y := .slice b m d) g0 g1
  go_wp2_with fail
  refine bodyPost_ret (v := .tuple #[.agg #[.slice a n c, .slice b m d], .int .i64 (checkF ms ks).2]) (by simp [results, Try.results94, go_sem, s1, s2]) rfl ⟨rfl, ?_⟩
  exact (hb2.setCell (by simp) _).setCell (by simp) _

set_option maxRecDepth 100000 in
set_option maxHeartbeats 1000000 in
theorem Copy_any (a b : Option Addr) (n c m d : Nat) (ms ks : List Int) (w : World) (h1 : SI w a n c ms) (h2 : SI w b m d ks) (hn : n ≤ 1099511627776) (hm : m ≤ 1099511627776) :
    Calls Try.prog 18 #[.agg #[.slice a n c, .slice b m d]] w fun e w' => ∃ a' c' b' d' B, e = .returned (.agg #[.slice a' n c', .slice b' m d']) ∧ OwI w' w.heap.size a' n c' ms ∧ OwI w' B b' m d' ks ∧ w.heap.size ≤ B ∧ (∀ g, a' = some ⟨g, 0, none⟩ → g < B) ∧ Below w.heap.size w w' := by
  have hb : ∀ o o', Below w.heap.size w ((w.alloc o).alloc o').drew := fun o o' => (((Below.refl _ _).alloc (Nat.le_refl _) _).alloc (by simp) _).drew
  go_enter Try.func18, Try.ntmps18
  go_wp2_with fail
  refine Calmly.wp_region_mix 6 (.fl 0 <| .fl 1 <| .fl 3 <| .fl 4 <| .eff 2 <| .eff 5 <| .tail [6, 7]) (by kernel_rfl) (by kernel_rfl) ?_
  have hk : Below ((w.alloc (.cells #[.slice a n c, .slice b m d] 24)).alloc (.cells #[.slice none 0 0, .slice none 0 0] 24)).drew.heap.size ((w.alloc (.cells #[.slice a n c, .slice b m d] 24)).alloc (.cells #[.slice none 0 0, .slice none 0 0] 24)).drew ((w.alloc (.cells #[.slice a n c, .slice b m d] 24)).alloc (.cells #[.slice none 0 0, .slice none 0 0] 24)).drew := Below.refl _ _
  go_wp2_with (first | ((with_reducible refine Calmly.is_fl ?_); refine Calmly.mix_fl rfl ?_ (fun _ _ => ?_); (first | exact .move _ | exact .load _ _ | exact .fieldAddr _ _ _ (by kernel_rfl) | exact .assign _ | exact .binOp _ _ _ _ _ rfl | exact .indexAddr _ _ _ | exact .len _ _ (by kernel_rfl) | exact .field _ _ _ | exact .extract _ _ | exact .pick _ _ _ | exact .build _ _ | exact .slice _ _ _ _ _ | exact .unOp _ _ _ rfl | exact .index _ _ _ | exact .max _ _ _ rfl rfl | exact .min _ _ _ rfl rfl)) | ((with_reducible refine Calmly.is_gl ?_); refine Calmly.mix_gl rfl rfl rfl ?_; first | ((first | with_reducible refine Calmly.gl_tt ?_ (fun _ _ => ?_) | with_reducible refine Calmly.gl_ff ?_ (fun _ _ => ?_)); (first | exact .move _ | exact .load _ _ | exact .fieldAddr _ _ _ (by kernel_rfl) | exact .assign _ | exact .binOp _ _ _ _ _ rfl | exact .indexAddr _ _ _ | exact .len _ _ (by kernel_rfl) | exact .field _ _ _ | exact .extract _ _ | exact .pick _ _ _ | exact .build _ _ | exact .slice _ _ _ _ _ | exact .unOp _ _ _ rfl | exact .index _ _ _ | exact .max _ _ _ rfl rfl | exact .min _ _ _ rfl rfl)) | with_reducible refine Calmly.gl_tf (fun _ _ => ?_) | with_reducible refine Calmly.gl_ft (fun _ _ => ?_)) | ((with_reducible refine Calmly.is_eff ?_); refine Calmly.mix_eff rfl (fun _ _ => ?_)) | ((with_reducible refine Calmly.is_gf ?_); refine Calmly.mix_gf rfl rfl rfl ?_; first | with_reducible refine Calmly.gf_tt (fun _ _ => ?_) | with_reducible refine Calmly.gf_ff (fun _ _ => ?_) | with_reducible refine Calmly.gf_tf (kept_of hk) (fun _ _ => ?_) | with_reducible refine Calmly.gf_ft (kept_of hk) (fun _ _ => ?_)) | ((with_reducible refine Calmly.is_tail ?_); first | refine Calmly.mix_tail_nil ?_ | refine Calmly.mix_tail rfl (fun _ _ => ?_)) | ((with_reducible refine Calmly.is_kept ?_); refine ⟨kept_of hk, ?_⟩) | (with_reducible refine Calmly.mix_alt ?_ ?_))
  refine (copyInts_any a n c ms _ (h1.keep (hb _ _)) hn).mono ?_
  rintro e w1 ⟨a', c', rfl, ho1, hb1⟩
  replace hk := step_of hk hb1
  have k2 := (h2.keep (hb (.cells #[.slice a n c, .slice b m d] 24) (.cells #[.slice none 0 0, .slice none 0 0] 24))).keep hb1
  go_wp2_with (first | ((with_reducible refine Calmly.is_fl ?_); refine Calmly.mix_fl rfl ?_ (fun _ _ => ?_); (first | exact .move _ | exact .load _ _ | exact .fieldAddr _ _ _ (by kernel_rfl) | exact .assign _ | exact .binOp _ _ _ _ _ rfl | exact .indexAddr _ _ _ | exact .len _ _ (by kernel_rfl) | exact .field _ _ _ | exact .extract _ _ | exact .pick _ _ _ | exact .build _ _ | exact .slice _ _ _ _ _ | exact .unOp _ _ _ rfl | exact .index _ _ _ | exact .max _ _ _ rfl rfl | exact .min _ _ _ rfl rfl)) | ((with_reducible refine Calmly.is_gl ?_); refine Calmly.mix_gl rfl rfl rfl ?_; first | ((first | with_reducible refine Calmly.gl_tt ?_ (fun _ _ => ?_) | with_reducible refine Calmly.gl_ff ?_ (fun _ _ => ?_)); (first | exact .move _ | exact .load _ _ | exact .fieldAddr _ _ _ (by kernel_rfl) | exact .assign _ | exact .binOp _ _ _ _ _ rfl | exact .indexAddr _ _ _ | exact .len _ _ (by kernel_rfl) | exact .field _ _ _ | exact .extract _ _ | exact .pick _ _ _ | exact .build _ _ | exact .slice _ _ _ _ _ | exact .unOp _ _ _ rfl | exact .index _ _ _ | exact .max _ _ _ rfl rfl | exact .min _ _ _ rfl rfl)) | with_reducible refine Calmly.gl_tf (fun _ _ => ?_) | with_reducible refine Calmly.gl_ft (fun _ _ => ?_)) | ((with_reducible refine Calmly.is_eff ?_); refine Calmly.mix_eff rfl (fun _ _ => ?_)) | ((with_reducible refine Calmly.is_gf ?_); refine Calmly.mix_gf rfl rfl rfl ?_; first | with_reducible refine Calmly.gf_tt (fun _ _ => ?_) | with_reducible refine Calmly.gf_ff (fun _ _ => ?_) | with_reducible refine Calmly.gf_tf (kept_of hk) (fun _ _ => ?_) | with_reducible refine Calmly.gf_ft (kept_of hk) (fun _ _ => ?_)) | ((with_reducible refine Calmly.is_tail ?_); first | refine Calmly.mix_tail_nil ?_ | refine Calmly.mix_tail rfl (fun _ _ => ?_)) | ((with_reducible refine Calmly.is_kept ?_); refine ⟨kept_of hk, ?_⟩) | (with_reducible refine Calmly.mix_alt ?_ ?_))
  refine (copyInts_any b m d ks _ k2 hm).mono ?_
  rintro e w2 ⟨b', d', rfl, ho2, hb2⟩
  replace hk := step_of hk hb2
  have ho1' := ho1.keep hb2
  obtain ⟨x1, x2⟩ := box2 (w := w) (o := .cells #[.slice a n c, .slice b m d] 24) (o' := .cells #[.slice none 0 0, .slice none 0 0] 24) hk
  have hs1 := blk_lt x2
  have g0 : w2.cell? ⟨w.heap.size + 1, 0, none⟩ = some (.slice none 0 0) := cell_block x2 0
  have g1 : w2.cell? ⟨w.heap.size + 1, 1, none⟩ = some (.slice none 0 0) := cell_block x2 1
  have g2 := frozen_block x2 0
  have g3 := frozen_block x2 1
  clear x1 x2
  obtain ⟨s1, s2, s3, s4⟩ := set2 (x := .slice a' n c') (y := .slice b' m d') g0 g1
  have hsz : w.heap.size + 2 ≤ ((w.alloc (.cells #[.slice a n c, .slice b m d] 24)).alloc (.cells #[.slice none 0 0, .slice none 0 0] 24)).drew.heap.size := by
    show _ ≤ ((w.alloc (.cells #[.slice a n c, .slice b m d] 24)).alloc (.cells #[.slice none 0 0, .slice none 0 0] 24)).heap.size
    simp
  have hsz1 := hb1.size
  go_wp2_with (first | ((with_reducible refine Calmly.is_fl ?_); refine Calmly.mix_fl rfl ?_ (fun _ _ => ?_); (first | exact .move _ | exact .load _ _ | exact .fieldAddr _ _ _ (by kernel_rfl) | exact .assign _ | exact .binOp _ _ _ _ _ rfl | exact .indexAddr _ _ _ | exact .len _ _ (by kernel_rfl) | exact .field _ _ _ | exact .extract _ _ | exact .pick _ _ _ | exact .build _ _ | exact .slice _ _ _ _ _ | exact .unOp _ _ _ rfl | exact .index _ _ _ | exact .max _ _ _ rfl rfl | exact .min _ _ _ rfl rfl)) | ((with_reducible refine Calmly.is_gl ?_); refine Calmly.mix_gl rfl rfl rfl ?_; first | ((first | with_reducible refine Calmly.gl_tt ?_ (fun _ _ => ?_) | with_reducible refine Calmly.gl_ff ?_ (fun _ _ => ?_)); (first | exact .move _ | exact .load _ _ | exact .fieldAddr _ _ _ (by kernel_rfl) | exact .assign _ | exact .binOp _ _ _ _ _ rfl | exact .indexAddr _ _ _ | exact .len _ _ (by kernel_rfl) | exact .field _ _ _ | exact .extract _ _ | exact .pick _ _ _ | exact .build _ _ | exact .slice _ _ _ _ _ | exact .unOp _ _ _ rfl | exact .index _ _ _ | exact .max _ _ _ rfl rfl | exact .min _ _ _ rfl rfl)) | with_reducible refine Calmly.gl_tf (fun _ _ => ?_) | with_reducible refine Calmly.gl_ft (fun _ _ => ?_)) | ((with_reducible refine Calmly.is_eff ?_); refine Calmly.mix_eff rfl (fun _ _ => ?_)) | ((with_reducible refine Calmly.is_gf ?_); refine Calmly.mix_gf rfl rfl rfl ?_; first | with_reducible refine Calmly.gf_tt (fun _ _ => ?_) | with_reducible refine Calmly.gf_ff (fun _ _ => ?_) | with_reducible refine Calmly.gf_tf (kept_of hk) (fun _ _ => ?_) | with_reducible refine Calmly.gf_ft (kept_of hk) (fun _ _ => ?_)) | ((with_reducible refine Calmly.is_tail ?_); first | refine Calmly.mix_tail_nil ?_ | refine Calmly.mix_tail rfl (fun _ _ => ?_)) | ((with_reducible refine Calmly.is_kept ?_); refine ⟨kept_of hk, ?_⟩) | (with_reducible refine Calmly.mix_alt ?_ ?_))
  refine bodyPost_ret (v := .agg #[.slice a' n c', .slice b' m d']) (by simp [results, Try.results18, go_sem, s1, s2]) rfl ⟨a', c', b', d', w1.heap.size, rfl, ?_, ?_, by omega, ?_, ?_⟩
  · exact (ho1'.under2 (by omega) _ _).weak (by omega)
  · exact ho2.under2 (by omega) _ _
  · rintro g rfl
    exact ho1.lt.2
  · exact (((hb _ _).trans (hk.mono (by omega))).setCell (by simp) _).setCell (by simp) _
end Go.Proofs.Ytmaidjankakppaa
