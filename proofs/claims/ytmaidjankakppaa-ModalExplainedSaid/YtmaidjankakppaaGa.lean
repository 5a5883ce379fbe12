/- Contracts of chapter 6: the errors of ranges, by the program and by the reference; copies of ranges. -/
import Derived.Test.YtmaidjankakppaaEa
namespace Go.Proofs.Ytmaidjankakppaa
open Go.RowKit
open Calmly (Kept)

def bigR (r : Int × Int) : Bool := wIn r.1 (-1000000000) 1000000000 && wIn r.2 (-1000000000) 1000000000
/-- The error of the first range that is not right. -/
def rgR : List (Int × Int) → Int
  | [] => 0
  | r :: l => if bigR r = false then 2 else if r.2 < r.1 then 9 else rgR l
theorem rgR_drop (l : List (Int × Int)) (k : Nat) (h : k < l.length) : rgR (l.drop k) = if bigR (l[k]?.getD (0, 0)) = false then 2 else if (l[k]?.getD (0, 0)).2 < (l[k]?.getD (0, 0)).1 then 9 else rgR (l.drop (k + 1)) := by
  rw [List.drop_eq_getElem_cons h]
  simp [rgR, h]
def rgE (l : List (Int × Int)) : Int := if l.length = 0 then 10 else if 12 < l.length then 8 else rgR l
/-- The same, by the program: each range joins its errors. -/
def rgF : Int → List (Int × Int) → Int
  | e, [] => e
  | e, r :: l => rgF (firstE [e, unlessE (bigR r) 2, unlessE (decide (r.1 ≤ r.2)) 9]) l
theorem rgF_drop (e : Int) (sq : List (Int × Int)) (k : Nat) (h : k < sq.length) : rgF e (sq.drop k) =
    rgF (firstE [e, unlessE (bigR (sq[k]?.getD (0, 0))) 2, unlessE (decide ((sq[k]?.getD (0, 0)).1 ≤ (sq[k]?.getD (0, 0)).2)) 9]) (sq.drop (k + 1)) := by
  rw [List.drop_eq_getElem_cons h]
  simp [rgF, h]
theorem rgF_eq (l : List (Int × Int)) (e : Int) : rgF e l = if e = 0 then rgR l else e := by
  induction l generalizing e with
  | nil => unfold rgF rgR; split <;> simp_all
  | cons r l ih =>
    unfold rgF rgR
    rw [ih, firstE_three]
    by_cases he : e = 0
    · rw [if_pos he, if_pos he]
      cases hb : bigR r
      · rfl
      · by_cases ho : r.1 ≤ r.2
        · have : ¬ r.2 < r.1 := by omega
          simp [unlessE, ho, this]
        · have : r.2 < r.1 := by omega
          simp [unlessE, ho, this]
    · rw [if_neg he, if_neg he, if_neg he]
theorem rgE_eq (l : List (Int × Int)) : rgF (firstE [unlessE (decide (0 < l.length)) 10, unlessE (decide ((l.length : Int) ≤ 12)) 8]) l = rgE l := by
  rw [rgF_eq, firstE_two]
  unfold rgE
  by_cases h1 : l.length = 0
  · simp [unlessE, h1]
  · by_cases h2 : 12 < l.length
    · have h3 : ¬ (l.length : Int) ≤ 12 := by omega
      have h4 : 0 < l.length := by omega
      simp [unlessE, h1, h2, h3, h4]
    · have h3 : (l.length : Int) ≤ 12 := by omega
      have h4 : 0 < l.length := by omega
      simp [unlessE, h1, h2, h3, h4]
theorem rgE_ok {l : List (Int × Int)} (h : rgE l = 0) : 0 < l.length ∧ l.length ≤ 12 ∧ ∀ j : Nat, (l[j]?.getD (0, 0)).1 ≤ (l[j]?.getD (0, 0)).2 ∧ -1000000000 ≤ (l[j]?.getD (0, 0)).1 ∧ (l[j]?.getD (0, 0)).2 ≤ 1000000000 := by
  unfold rgE at h
  split at h
  · cases h
  · split at h
    · cases h
    · refine ⟨by omega, by omega, ?_⟩
      have key : ∀ l : List (Int × Int), rgR l = 0 → ∀ j : Nat, (l[j]?.getD (0, 0)).1 ≤ (l[j]?.getD (0, 0)).2 ∧ -1000000000 ≤ (l[j]?.getD (0, 0)).1 ∧ (l[j]?.getD (0, 0)).2 ≤ 1000000000 := by
        intro l
        induction l with
        | nil => intro _ j; simp
        | cons r l ih =>
          intro h j
          unfold rgR at h
          split at h
          · cases h
          · split at h
            · cases h
            · rename_i hb ho
              cases j with
              | zero =>
                simp only [List.getElem?_cons_zero, Option.getD_some]
                have : bigR r = true := by simpa using hb
                simp only [bigR, Bool.and_eq_true, wIn_iff] at this
                omega
              | succ j => simpa using ih h j
      exact key l h

set_option maxRecDepth 100000 in
set_option maxHeartbeats 4000000 in
theorem mRangesErr_any (sa : Option Addr) (sn sc : Nat) (sq : List (Int × Int)) (w : World) (h3 : SR w sa sn sc sq) (E : Int) (hE : rgE sq = E) :
    Calls Try.prog 116 #[.slice sa sn sc] w fun e w' => e = .returned (.int .i64 E) ∧ Below w.heap.size w w' := by
  have hE1 := rgE_eq sq
  rw [hE] at hE1
  clear hE
  obtain ⟨g1, g2⟩ : sn ≤ sq.length ∧ sq.length ≤ sn := by have := h3.len; omega
  have m1 := h3.max
  have c1 := h3.cap
  rw [show (sq.length : Int) = (sn : Int) by omega, show sq.length = sn by omega] at hE1
  have HE := Lib.hid hE1
  clear hE1
  go_enter Try.func116, Try.ntmps116
  go_wp2_with (first | (go_at_call 92; refine (unless_any _ _ _).mono ?_; rintro e w' ⟨rfl, rfl⟩))
  refine (first_any _ 2 2 _ _ (SI.two _ _ _ _ rfl)).mono ?_
  rintro e w' ⟨rfl, rfl⟩
  obtain ⟨e0, he0⟩ : ∃ e0, firstE [unlessE (decide (0 < sn)) 10, unlessE (decide ((sn : Int) ≤ 12)) 8] = e0 := ⟨_, rfl⟩
  rw [he0] at HE ⊢
  clear he0
  go_wp2_with fail
  refine wp_gen (fun v => Below w.heap.size w v) ((Below.refl _ _).alloc (Nat.le_refl _) _) ?_
  rintro v hbv
  go_loopw [3, 19] (fun x z wr => ∃ (k : Nat) (e : Int), k ≤ sn ∧ x = .int .i64 e ∧ z = .int .i64 k ∧ rgF e (sq.drop k) = E ∧ Below w.heap.size w wr) (fun _ z _ => sn - (intOf z).toNat)
  case atStart => exact ⟨0, e0, by omega, rfl, rfl, HE.out, hbv⟩
  case round =>
    obtain ⟨k, e, hk, rfl, rfl, ho, hbr⟩ := hrel
    have HO := Lib.hid ho
    clear ho hbv
    have hrs := hbr.size
    by_cases hlt : k < sn
    · obtain ⟨cb, co, rfl, hcc⟩ := h3.at_ (by omega)
      obtain ⟨y0, y1⟩ := hcc k hlt
      have y0' := cell_keep y0 hbr
      have y1' := cell_keep y1 hbr
      clear hcc y0 y1
      have hd := rgF_drop e sq k (by omega)
      have HD := Lib.hid hd
      clear hd
      obtain ⟨rr, hrr⟩ : ∃ rr, sq[k]?.getD (0, 0) = rr := ⟨_, rfl⟩
      obtain ⟨lo, hi⟩ := rr
      rw [hrr] at y0' y1' HD
      clear hrr
      dsimp only at y0' y1' HD
      have hi1 : (k : Int) < (sn : Int) := by omega
      have hi0 : (0 : Int) ≤ (k : Int) := by omega
      have hpre : ∀ o o', Below w.heap.size w ((wr.alloc o).alloc o').drew := fun o o' => hbr.trans ((((Below.refl wr.heap.size wr).alloc (Nat.le_refl _) o).alloc (by simp) o').drew.mono hrs)
      have hw0 : wIn lo (-1000000000) 1000000000 = wIn lo (-1000000000) 1000000000 := rfl
      cases hlo : wIn lo (-1000000000) 1000000000
      · have HD' : Hid (rgF (firstE [e, unlessE false 2, unlessE (decide (lo ≤ hi)) 9]) (sq.drop (k + 1)) = E) := Lib.hid (by rw [← HO.out, HD.out]; unfold bigR; rw [hlo]; rfl)
        go_wp2_with (first | (go_at_call 120; refine (isSized_any _ _ _ (by omega) (by omega)).mono ?_; rintro e w' ⟨rfl, rfl⟩))
        refine Calmly.wp_region_mix 11 (.fl 0 <| .fl 1 <| .fl 3 <| .fl 4 <| .fl 5 <| .fl 6 <| .fl 7 <| .eff 2 <| .eff 8 <| .eff 9 <| .eff 10 <| .tail [11]) (by kernel_rfl) (by kernel_rfl) ?_
        have hk := Below.refl (wr.alloc (.cells #[.int .i64 lo, .int .i64 hi] 63)).drew.heap.size (wr.alloc (.cells #[.int .i64 lo, .int .i64 hi] 63)).drew
        go_wp2_with (first | ((with_reducible refine Calmly.is_fl ?_); refine Calmly.mix_fl rfl ?_ (fun _ _ => ?_); (first | exact .move _ | exact .load _ _ | exact .fieldAddr _ _ _ (by kernel_rfl) | exact .assign _ | exact .binOp _ _ _ _ _ rfl | exact .indexAddr _ _ _ | exact .len _ _ (by kernel_rfl) | exact .field _ _ _ | exact .extract _ _ | exact .pick _ _ _ | exact .build _ _ | exact .slice _ _ _ _ _ | exact .unOp _ _ _ rfl | exact .index _ _ _ | exact .max _ _ _ rfl rfl | exact .min _ _ _ rfl rfl)) | ((with_reducible refine Calmly.is_gl ?_); refine Calmly.mix_gl rfl rfl rfl ?_; first | ((first | with_reducible refine Calmly.gl_tt ?_ (fun _ _ => ?_) | with_reducible refine Calmly.gl_ff ?_ (fun _ _ => ?_)); (first | exact .move _ | exact .load _ _ | exact .fieldAddr _ _ _ (by kernel_rfl) | exact .assign _ | exact .binOp _ _ _ _ _ rfl | exact .indexAddr _ _ _ | exact .len _ _ (by kernel_rfl) | exact .field _ _ _ | exact .extract _ _ | exact .pick _ _ _ | exact .build _ _ | exact .slice _ _ _ _ _ | exact .unOp _ _ _ rfl | exact .index _ _ _ | exact .max _ _ _ rfl rfl | exact .min _ _ _ rfl rfl)) | with_reducible refine Calmly.gl_tf (fun _ _ => ?_) | with_reducible refine Calmly.gl_ft (fun _ _ => ?_)) | ((with_reducible refine Calmly.is_eff ?_); refine Calmly.mix_eff rfl (fun _ _ => ?_)) | ((with_reducible refine Calmly.is_gf ?_); refine Calmly.mix_gf rfl rfl rfl ?_; first | with_reducible refine Calmly.gf_tt (fun _ _ => ?_) | with_reducible refine Calmly.gf_ff (fun _ _ => ?_) | with_reducible refine Calmly.gf_tf (kept_of hk) (fun _ _ => ?_) | with_reducible refine Calmly.gf_ft (kept_of hk) (fun _ _ => ?_)) | ((with_reducible refine Calmly.is_kept ?_); refine ⟨kept_of hk, ?_⟩) | (with_reducible refine Calmly.mix_alt ?_ ?_) | (refine kept_alloc hk (fun hk' hblk hge => ?_); replace hk := hk'; clear hk') | (go_at_call 92; refine (unless_any _ _ _).mono ?_; rintro e w' ⟨rfl, rfl⟩))
        refine (first_any _ 3 3 _ _ (SI.three _ _ _ _ _ (size_alloc_drew _ _))).mono ?_
        rintro e w' ⟨rfl, rfl⟩
        go_wp2_with (first | ((with_reducible refine Calmly.is_fl ?_); refine Calmly.mix_fl rfl ?_ (fun _ _ => ?_); (first | exact .move _ | exact .load _ _ | exact .fieldAddr _ _ _ (by kernel_rfl) | exact .assign _ | exact .binOp _ _ _ _ _ rfl | exact .indexAddr _ _ _ | exact .len _ _ (by kernel_rfl) | exact .field _ _ _ | exact .extract _ _ | exact .pick _ _ _ | exact .build _ _ | exact .slice _ _ _ _ _ | exact .unOp _ _ _ rfl | exact .index _ _ _ | exact .max _ _ _ rfl rfl | exact .min _ _ _ rfl rfl)) | ((with_reducible refine Calmly.is_gl ?_); refine Calmly.mix_gl rfl rfl rfl ?_; first | ((first | with_reducible refine Calmly.gl_tt ?_ (fun _ _ => ?_) | with_reducible refine Calmly.gl_ff ?_ (fun _ _ => ?_)); (first | exact .move _ | exact .load _ _ | exact .fieldAddr _ _ _ (by kernel_rfl) | exact .assign _ | exact .binOp _ _ _ _ _ rfl | exact .indexAddr _ _ _ | exact .len _ _ (by kernel_rfl) | exact .field _ _ _ | exact .extract _ _ | exact .pick _ _ _ | exact .build _ _ | exact .slice _ _ _ _ _ | exact .unOp _ _ _ rfl | exact .index _ _ _ | exact .max _ _ _ rfl rfl | exact .min _ _ _ rfl rfl)) | with_reducible refine Calmly.gl_tf (fun _ _ => ?_) | with_reducible refine Calmly.gl_ft (fun _ _ => ?_)) | ((with_reducible refine Calmly.is_eff ?_); refine Calmly.mix_eff rfl (fun _ _ => ?_)) | ((with_reducible refine Calmly.is_gf ?_); refine Calmly.mix_gf rfl rfl rfl ?_; first | with_reducible refine Calmly.gf_tt (fun _ _ => ?_) | with_reducible refine Calmly.gf_ff (fun _ _ => ?_) | with_reducible refine Calmly.gf_tf (kept_of hk) (fun _ _ => ?_) | with_reducible refine Calmly.gf_ft (kept_of hk) (fun _ _ => ?_)) | ((with_reducible refine Calmly.is_tail ?_); first | refine Calmly.mix_tail_nil ?_ | refine Calmly.mix_tail rfl (fun _ _ => ?_)) | ((with_reducible refine Calmly.is_kept ?_); refine ⟨kept_of hk, ?_⟩) | (with_reducible refine Calmly.mix_alt ?_ ?_))
        go_roundw
        case rel => exact ⟨k + 1, _, by omega, rfl, by go_num, HD'.out, hpre _ _⟩
        case measure => simp [intOf]; omega
      · have HD' : Hid (rgF (firstE [e, unlessE (wIn hi (-1000000000) 1000000000) 2, unlessE (decide (lo ≤ hi)) 9]) (sq.drop (k + 1)) = E) := Lib.hid (by rw [← HO.out, HD.out]; unfold bigR; rw [hlo]; rfl)
        go_wp2_with (first | (go_at_call 120; refine (isSized_any _ _ _ (by omega) (by omega)).mono ?_; rintro e w' ⟨rfl, rfl⟩))
        refine Calmly.wp_region_mix 11 (.fl 0 <| .fl 1 <| .fl 3 <| .fl 4 <| .fl 5 <| .fl 6 <| .fl 7 <| .eff 2 <| .eff 8 <| .eff 9 <| .eff 10 <| .tail [11]) (by kernel_rfl) (by kernel_rfl) ?_
        have hk := Below.refl (wr.alloc (.cells #[.int .i64 lo, .int .i64 hi] 63)).drew.heap.size (wr.alloc (.cells #[.int .i64 lo, .int .i64 hi] 63)).drew
        go_wp2_with (first | ((with_reducible refine Calmly.is_fl ?_); refine Calmly.mix_fl rfl ?_ (fun _ _ => ?_); (first | exact .move _ | exact .load _ _ | exact .fieldAddr _ _ _ (by kernel_rfl) | exact .assign _ | exact .binOp _ _ _ _ _ rfl | exact .indexAddr _ _ _ | exact .len _ _ (by kernel_rfl) | exact .field _ _ _ | exact .extract _ _ | exact .pick _ _ _ | exact .build _ _ | exact .slice _ _ _ _ _ | exact .unOp _ _ _ rfl | exact .index _ _ _ | exact .max _ _ _ rfl rfl | exact .min _ _ _ rfl rfl)) | ((with_reducible refine Calmly.is_gl ?_); refine Calmly.mix_gl rfl rfl rfl ?_; first | ((first | with_reducible refine Calmly.gl_tt ?_ (fun _ _ => ?_) | with_reducible refine Calmly.gl_ff ?_ (fun _ _ => ?_)); (first | exact .move _ | exact .load _ _ | exact .fieldAddr _ _ _ (by kernel_rfl) | exact .assign _ | exact .binOp _ _ _ _ _ rfl | exact .indexAddr _ _ _ | exact .len _ _ (by kernel_rfl) | exact .field _ _ _ | exact .extract _ _ | exact .pick _ _ _ | exact .build _ _ | exact .slice _ _ _ _ _ | exact .unOp _ _ _ rfl | exact .index _ _ _ | exact .max _ _ _ rfl rfl | exact .min _ _ _ rfl rfl)) | with_reducible refine Calmly.gl_tf (fun _ _ => ?_) | with_reducible refine Calmly.gl_ft (fun _ _ => ?_)) | ((with_reducible refine Calmly.is_eff ?_); refine Calmly.mix_eff rfl (fun _ _ => ?_)) | ((with_reducible refine Calmly.is_gf ?_); refine Calmly.mix_gf rfl rfl rfl ?_; first | with_reducible refine Calmly.gf_tt (fun _ _ => ?_) | with_reducible refine Calmly.gf_ff (fun _ _ => ?_) | with_reducible refine Calmly.gf_tf (kept_of hk) (fun _ _ => ?_) | with_reducible refine Calmly.gf_ft (kept_of hk) (fun _ _ => ?_)) | ((with_reducible refine Calmly.is_kept ?_); refine ⟨kept_of hk, ?_⟩) | (with_reducible refine Calmly.mix_alt ?_ ?_) | (refine kept_alloc hk (fun hk' hblk hge => ?_); replace hk := hk'; clear hk') | (go_at_call 92; refine (unless_any _ _ _).mono ?_; rintro e w' ⟨rfl, rfl⟩))
        refine (first_any _ 3 3 _ _ (SI.three _ _ _ _ _ (size_alloc_drew _ _))).mono ?_
        rintro e w' ⟨rfl, rfl⟩
        go_wp2_with (first | ((with_reducible refine Calmly.is_fl ?_); refine Calmly.mix_fl rfl ?_ (fun _ _ => ?_); (first | exact .move _ | exact .load _ _ | exact .fieldAddr _ _ _ (by kernel_rfl) | exact .assign _ | exact .binOp _ _ _ _ _ rfl | exact .indexAddr _ _ _ | exact .len _ _ (by kernel_rfl) | exact .field _ _ _ | exact .extract _ _ | exact .pick _ _ _ | exact .build _ _ | exact .slice _ _ _ _ _ | exact .unOp _ _ _ rfl | exact .index _ _ _ | exact .max _ _ _ rfl rfl | exact .min _ _ _ rfl rfl)) | ((with_reducible refine Calmly.is_gl ?_); refine Calmly.mix_gl rfl rfl rfl ?_; first | ((first | with_reducible refine Calmly.gl_tt ?_ (fun _ _ => ?_) | with_reducible refine Calmly.gl_ff ?_ (fun _ _ => ?_)); (first | exact .move _ | exact .load _ _ | exact .fieldAddr _ _ _ (by kernel_rfl) | exact .assign _ | exact .binOp _ _ _ _ _ rfl | exact .indexAddr _ _ _ | exact .len _ _ (by kernel_rfl) | exact .field _ _ _ | exact .extract _ _ | exact .pick _ _ _ | exact .build _ _ | exact .slice _ _ _ _ _ | exact .unOp _ _ _ rfl | exact .index _ _ _ | exact .max _ _ _ rfl rfl | exact .min _ _ _ rfl rfl)) | with_reducible refine Calmly.gl_tf (fun _ _ => ?_) | with_reducible refine Calmly.gl_ft (fun _ _ => ?_)) | ((with_reducible refine Calmly.is_eff ?_); refine Calmly.mix_eff rfl (fun _ _ => ?_)) | ((with_reducible refine Calmly.is_gf ?_); refine Calmly.mix_gf rfl rfl rfl ?_; first | with_reducible refine Calmly.gf_tt (fun _ _ => ?_) | with_reducible refine Calmly.gf_ff (fun _ _ => ?_) | with_reducible refine Calmly.gf_tf (kept_of hk) (fun _ _ => ?_) | with_reducible refine Calmly.gf_ft (kept_of hk) (fun _ _ => ?_)) | ((with_reducible refine Calmly.is_tail ?_); first | refine Calmly.mix_tail_nil ?_ | refine Calmly.mix_tail rfl (fun _ _ => ?_)) | ((with_reducible refine Calmly.is_kept ?_); refine ⟨kept_of hk, ?_⟩) | (with_reducible refine Calmly.mix_alt ?_ ?_))
        go_roundw
        case rel => exact ⟨k + 1, _, by omega, rfl, by go_num, HD'.out, hpre _ _⟩
        case measure => simp [intOf]; omega
    · have hle : (sn : Int) ≤ (k : Int) := by omega
      have hee : e = E := by
        have := HO.out
        rw [List.drop_eq_nil_of_le (by omega)] at this
        exact this
      go_wp2_with fail
      go_ret
      exact ⟨ret_int hee, hbr⟩

set_option maxRecDepth 100000 in
set_option maxHeartbeats 4000000 in
theorem rRangesErr_any (sa : Option Addr) (sn sc : Nat) (sq : List (Int × Int)) (w : World) (h3 : SR w sa sn sc sq) :
    Calls Try.prog 72 #[.slice sa sn sc] w fun e w' => e = .returned (.int .i64 (rgE sq)) ∧ ∃ n, w' = w.drewN n := by
  obtain ⟨g1, g2⟩ : sn ≤ sq.length ∧ sq.length ≤ sn := by have := h3.len; omega
  have m1 := h3.max
  have c1 := h3.cap
  by_cases hz : sn = 0
  · have hz1 : ((sn : Int) == 0) = true := by simp [hz]
    have hr : rgE sq = 10 := by unfold rgE; rw [if_pos (by omega)]
    have HR := Lib.hid hr
    clear hr hz
    go_enter Try.func72, Try.ntmps72
    go_wp2_with fail
    go_ret
    exact ⟨ret_int HR.out.symm, 0, rfl⟩
  have hz1 : ((sn : Int) == 0) = false := by simp [hz]
  by_cases hL : 12 < sn
  · have hz2 : (12 : Int) < (sn : Int) := by omega
    have hr : rgE sq = 8 := by unfold rgE; rw [if_neg (by omega), if_pos (by omega)]
    have HR := Lib.hid hr
    clear hr
    go_enter Try.func72, Try.ntmps72
    go_wp2_with fail
    go_ret
    exact ⟨ret_int HR.out.symm, 0, rfl⟩
  have hz2 : (sn : Int) ≤ 12 := by omega
  have hr : rgE sq = rgR sq := by unfold rgE; rw [if_neg (by omega), if_neg (by omega)]
  have HR := Lib.hid hr
  clear hr
  go_enter Try.func72, Try.ntmps72
  go_wp2_with fail
  go_loopw [3] (fun z wr => ∃ (k : Nat), k ≤ sn ∧ z = .int .i64 k ∧ rgR sq = rgR (sq.drop k) ∧ ∃ n, wr = w.drewN n) (fun z _ => sn - (intOf z).toNat)
  case atStart => exact ⟨0, by omega, rfl, rfl, 0, rfl⟩
  case round =>
    obtain ⟨k, hk, rfl, ho, q, rfl⟩ := hrel
    have HO := Lib.hid ho
    clear ho
    by_cases hlt : k < sn
    · obtain ⟨cb, co, rfl, hcc⟩ := h3.at_ (by omega)
      obtain ⟨y0, y1⟩ := hcc k hlt
      clear hcc
      have hd := rgR_drop sq k (by omega)
      have HD := Lib.hid hd
      clear hd
      obtain ⟨rr, hrr⟩ : ∃ rr, sq[k]?.getD (0, 0) = rr := ⟨_, rfl⟩
      obtain ⟨lo, hi⟩ := rr
      rw [hrr] at y0 y1 HD
      clear hrr
      dsimp only at y0 y1 HD
      have hi1 : (k : Int) < (sn : Int) := by omega
      have hi0 : (0 : Int) ≤ (k : Int) := by omega
      cases hlo : wIn lo (-1000000000) 1000000000
      · go_wp2_with (first | (go_at_call 44; refine (within_any _ _ _ _).mono ?_; rintro e w' ⟨rfl, rfl⟩))
        go_ret
        refine ⟨ret_int ?_, q, rfl⟩
        rw [HR.out, HO.out, HD.out]
        unfold bigR
        rw [hlo]
        rfl
      · cases hhi : wIn hi (-1000000000) 1000000000
        · go_wp2_with (first | (go_at_call 44; refine (within_any _ _ _ _).mono ?_; rintro e w' ⟨rfl, rfl⟩))
          go_ret
          refine ⟨ret_int ?_, q, rfl⟩
          rw [HR.out, HO.out, HD.out]
          unfold bigR
          rw [hlo, hhi]
          rfl
        · by_cases ho : hi < lo
          · go_wp2_with (first | (go_at_call 44; refine (within_any _ _ _ _).mono ?_; rintro e w' ⟨rfl, rfl⟩))
            refine Calmly.wp_region_mix 10 (.fl 0 <| .fl 1 <| .fl 2 <| .fl 3 <| .fl 4 <| .fl 5 <| .fl 6 <| .fl 7 <| .fl 8 <| .fl 9 <| .tail [10]) (by kernel_rfl) (by kernel_rfl) ?_
            go_wp2_with (first | ((with_reducible refine Calmly.is_fl ?_); refine Calmly.mix_fl rfl ?_ (fun _ _ => ?_); (first | exact .move _ | exact .load _ _ | exact .fieldAddr _ _ _ (by kernel_rfl) | exact .assign _ | exact .binOp _ _ _ _ _ rfl | exact .indexAddr _ _ _ | exact .len _ _ (by kernel_rfl) | exact .field _ _ _ | exact .extract _ _ | exact .pick _ _ _ | exact .build _ _ | exact .slice _ _ _ _ _ | exact .unOp _ _ _ rfl | exact .index _ _ _ | exact .max _ _ _ rfl rfl | exact .min _ _ _ rfl rfl)) | ((with_reducible refine Calmly.is_gl ?_); refine Calmly.mix_gl rfl rfl rfl ?_; first | ((first | with_reducible refine Calmly.gl_tt ?_ (fun _ _ => ?_) | with_reducible refine Calmly.gl_ff ?_ (fun _ _ => ?_)); (first | exact .move _ | exact .load _ _ | exact .fieldAddr _ _ _ (by kernel_rfl) | exact .assign _ | exact .binOp _ _ _ _ _ rfl | exact .indexAddr _ _ _ | exact .len _ _ (by kernel_rfl) | exact .field _ _ _ | exact .extract _ _ | exact .pick _ _ _ | exact .build _ _ | exact .slice _ _ _ _ _ | exact .unOp _ _ _ rfl | exact .index _ _ _ | exact .max _ _ _ rfl rfl | exact .min _ _ _ rfl rfl)) | with_reducible refine Calmly.gl_tf (fun _ _ => ?_) | with_reducible refine Calmly.gl_ft (fun _ _ => ?_)) | ((with_reducible refine Calmly.is_eff ?_); refine Calmly.mix_eff rfl (fun _ _ => ?_)) | ((with_reducible refine Calmly.is_gf ?_); refine Calmly.mix_gf rfl rfl rfl ?_; first | with_reducible refine Calmly.gf_tt (fun _ _ => ?_) | with_reducible refine Calmly.gf_ff (fun _ _ => ?_) | with_reducible refine Calmly.gf_tf (kept_of hk) (fun _ _ => ?_) | with_reducible refine Calmly.gf_ft (kept_of hk) (fun _ _ => ?_)) | ((with_reducible refine Calmly.is_tail ?_); first | refine Calmly.mix_tail_nil ?_ | refine Calmly.mix_tail rfl (fun _ _ => ?_)) | ((with_reducible refine Calmly.is_kept ?_); refine ⟨kept_of hk, ?_⟩) | (with_reducible refine Calmly.mix_alt ?_ ?_))
            go_ret
            refine ⟨ret_int ?_, q + 1, rfl⟩
            rw [HR.out, HO.out, HD.out]
            unfold bigR
            rw [hlo, hhi, if_neg (by simp), if_pos ho]
          · have ho' : lo ≤ hi := by omega
            go_wp2_with (first | (go_at_call 44; refine (within_any _ _ _ _).mono ?_; rintro e w' ⟨rfl, rfl⟩))
            refine Calmly.wp_region_mix 10 (.fl 0 <| .fl 1 <| .fl 2 <| .fl 3 <| .fl 4 <| .fl 5 <| .fl 6 <| .fl 7 <| .fl 8 <| .fl 9 <| .tail [10]) (by kernel_rfl) (by kernel_rfl) ?_
            go_wp2_with (first | ((with_reducible refine Calmly.is_fl ?_); refine Calmly.mix_fl rfl ?_ (fun _ _ => ?_); (first | exact .move _ | exact .load _ _ | exact .fieldAddr _ _ _ (by kernel_rfl) | exact .assign _ | exact .binOp _ _ _ _ _ rfl | exact .indexAddr _ _ _ | exact .len _ _ (by kernel_rfl) | exact .field _ _ _ | exact .extract _ _ | exact .pick _ _ _ | exact .build _ _ | exact .slice _ _ _ _ _ | exact .unOp _ _ _ rfl | exact .index _ _ _ | exact .max _ _ _ rfl rfl | exact .min _ _ _ rfl rfl)) | ((with_reducible refine Calmly.is_gl ?_); refine Calmly.mix_gl rfl rfl rfl ?_; first | ((first | with_reducible refine Calmly.gl_tt ?_ (fun _ _ => ?_) | with_reducible refine Calmly.gl_ff ?_ (fun _ _ => ?_)); (first | exact .move _ | exact .load _ _ | exact .fieldAddr _ _ _ (by kernel_rfl) | exact .assign _ | exact .binOp _ _ _ _ _ rfl | exact .indexAddr _ _ _ | exact .len _ _ (by kernel_rfl) | exact .field _ _ _ | exact .extract _ _ | exact .pick _ _ _ | exact .build _ _ | exact .slice _ _ _ _ _ | exact .unOp _ _ _ rfl | exact .index _ _ _ | exact .max _ _ _ rfl rfl | exact .min _ _ _ rfl rfl)) | with_reducible refine Calmly.gl_tf (fun _ _ => ?_) | with_reducible refine Calmly.gl_ft (fun _ _ => ?_)) | ((with_reducible refine Calmly.is_eff ?_); refine Calmly.mix_eff rfl (fun _ _ => ?_)) | ((with_reducible refine Calmly.is_gf ?_); refine Calmly.mix_gf rfl rfl rfl ?_; first | with_reducible refine Calmly.gf_tt (fun _ _ => ?_) | with_reducible refine Calmly.gf_ff (fun _ _ => ?_) | with_reducible refine Calmly.gf_tf (kept_of hk) (fun _ _ => ?_) | with_reducible refine Calmly.gf_ft (kept_of hk) (fun _ _ => ?_)) | ((with_reducible refine Calmly.is_tail ?_); first | refine Calmly.mix_tail_nil ?_ | refine Calmly.mix_tail rfl (fun _ _ => ?_)) | ((with_reducible refine Calmly.is_kept ?_); refine ⟨kept_of hk, ?_⟩) | (with_reducible refine Calmly.mix_alt ?_ ?_))
            go_roundw
            case rel =>
              refine ⟨k + 1, by omega, by go_num, ?_, q + 1, rfl⟩
              rw [HO.out, HD.out]
              unfold bigR
              rw [hlo, hhi, if_neg (by simp), if_neg (by show ¬ hi < lo; omega)]
            case measure => simp [intOf]; omega
    · have hle : (sn : Int) ≤ (k : Int) := by omega
      go_wp2_with fail
      go_ret
      refine ⟨ret_int ?_, q, rfl⟩
      rw [HR.out, HO.out, List.drop_eq_nil_of_le (by omega)]
      rfl
end Go.Proofs.Ytmaidjankakppaa
