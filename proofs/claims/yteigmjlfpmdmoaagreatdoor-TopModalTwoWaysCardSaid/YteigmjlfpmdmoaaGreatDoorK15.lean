/- Contracts of chapter 6: squares after a run, opened. Contracts of chapter 6: the explanation of squares after a run. The examples of chapter 6 hold. -/
import Derived.Test.YteigmjlfpmdmoaaGreatDoorK14
namespace Go.Proofs.YteigmjlfpmdmoaaGreatDoor
open Go.RowKit
open Calmly (Kept)

def afterF : Int → List (Int × Int) → Int
  | e, [] => e
  | e, r :: l => afterF (firstE [e, unlessE (wIn r.1 0 1000000000 && wIn r.2 0 1000000000) 2, unlessE (decide (r.1 ≤ r.2)) 9]) l
theorem afterF_drop (e : Int) (sq : List (Int × Int)) (k : Nat) (h : k < sq.length) : afterF e (sq.drop k) =
    afterF (firstE [e, unlessE (wIn (sq[k]?.getD (0, 0)).1 0 1000000000 && wIn (sq[k]?.getD (0, 0)).2 0 1000000000) 2, unlessE (decide ((sq[k]?.getD (0, 0)).1 ≤ (sq[k]?.getD (0, 0)).2)) 9]) (sq.drop (k + 1)) := by
  rw [List.drop_eq_getElem_cons h]
  simp [afterF, h]
/-- The error of a frame and squares after a run. -/
def afterE (ms ks : List Int) (den : Int) (sq : List (Int × Int)) : Int := afterF (firstE [(checkF ms ks).2, unlessE (wIn den 1 50) 2, unlessE ((sq.length : Int) == (ms.length : Int)) 10]) sq

set_option maxRecDepth 100000 in
set_option maxHeartbeats 4000000 in
theorem openAfter_any (a b sa : Option Addr) (n c m d sn sc : Nat) (ms ks : List Int) (sq : List (Int × Int)) (den : Int) (w : World) (h1 : SI w a n c ms) (h2 : SI w b m d ks) (h3 : SR w sa sn sc sq) (E : Int) (hE : afterE ms ks den sq = E) (hsn : sn ≤ 1000000000) (_ : n ≤ 1000000000) :
    Calls Tryz.prog 77 #[.agg #[.slice a n c, .slice b m d], .agg #[.int .i64 den, .slice sa sn sc]] w fun e w' => e = .returned (.tuple #[.agg #[.slice a n c, .slice b m d], .int .i64 E]) ∧ Below w.heap.size w w' := by
  have HE := Lib.hid hE
  clear hE
  obtain ⟨l1, l2⟩ : n ≤ ms.length ∧ ms.length ≤ n := by have := h1.len; omega
  obtain ⟨g1, g2⟩ : sn ≤ sq.length ∧ sq.length ≤ sn := by have := h3.len; omega
  obtain ⟨hbV, hVs⟩ := allocs_below [(.cells #[.slice a n c, .slice b m d] 52), (.cells #[.int .i64 den, .slice sa sn sc] 85), (.cells #[.slice none 0 0, .slice none 0 0] 118)] w
  have hVa := allocs_at [(.cells #[.slice a n c, .slice b m d] 52), (.cells #[.int .i64 den, .slice sa sn sc] 85), (.cells #[.slice none 0 0, .slice none 0 0] 118)] w
  simp only [List.length_cons, List.length_nil, Nat.reduceAdd] at hVs
  have hv0 := hVa 0 (by simp)
  have hv1 := hVa 1 (by simp)
  have hv2 := hVa 2 (by simp)
  clear hVa
  go_enter Tryz.func77, Tryz.ntmps77
  go_wp2_with fail
  refine (open_any a b n c m d ms ks _ (h1.keep hbV) (h2.keep hbV)).mono ?_
  rintro e w1 ⟨rfl, hb1⟩
  have x0 : w1.heap[w.heap.size]? = some _ := blk_keep hv0 hb1
  have x1 : w1.heap[w.heap.size + 1]? = some _ := blk_keep hv1 hb1
  have x2 : w1.heap[w.heap.size + 2]? = some _ := blk_keep hv2 hb1
  have hbw : Below w.heap.size w w1 := hbV.trans (hb1.mono (by omega))
  have hs2 := blk_lt x2
  have hs1 := blk_lt x1
  have hs0 := blk_lt x0
  clear hv0 hv1 hv2 hb1 hVs hbV
  have f0 : w1.cell? ⟨w.heap.size, 0, none⟩ = some (.slice a n c) := cell_block x0 0
  have f1 : w1.cell? ⟨w.heap.size, 1, none⟩ = some (.slice b m d) := cell_block x0 1
  have f2 : w1.cell? ⟨w.heap.size + 1, 0, none⟩ = some (.int .i64 den) := cell_block x1 0
  have f3 : w1.cell? ⟨w.heap.size + 1, 1, none⟩ = some (.slice sa sn sc) := cell_block x1 1
  go_wp2_with fail
  refine Calmly.wp_region_mix 15 (.fl 0 <| .fl 1 <| .fl 2 <| .fl 5 <| .fl 6 <| .fl 7 <| .fl 8 <| .fl 9 <| .fl 10 <| .fl 11 <| .eff 3 <| .eff 4 <| .eff 12 <| .eff 13 <| .eff 14 <| .tail [15]) (by kernel_rfl) (by kernel_rfl) ?_
  rename_i K hK
  have hK' := fun a w (h : Stop _) => hK a w h.out
  clear hK
  have hk := Below.refl (w1.alloc (.cells #[.slice a n c, .slice b m d] 118)).drew.heap.size (w1.alloc (.cells #[.slice a n c, .slice b m d] 118)).drew
  go_wp2_with (first | ((with_reducible refine Calmly.is_fl ?_); refine Calmly.mix_fl rfl ?_ (fun _ _ => ?_); (first | exact .move _ | exact .load _ _ | exact .fieldAddr _ _ _ (by kernel_rfl) | exact .assign _ | exact .binOp _ _ _ _ _ rfl | exact .indexAddr _ _ _ | exact .len _ _ (by kernel_rfl) | exact .field _ _ _ | exact .extract _ _ | exact .pick _ _ _ | exact .build _ _ | exact .slice _ _ _ _ _ | exact .unOp _ _ _ rfl | exact .index _ _ _ | exact .max _ _ _ rfl rfl | exact .min _ _ _ rfl rfl | exact .nilCheck _ _ rfl)) | ((with_reducible refine Calmly.is_gl ?_); refine Calmly.mix_gl rfl rfl rfl ?_; first | ((first | with_reducible refine Calmly.gl_tt ?_ (fun _ _ => ?_) | with_reducible refine Calmly.gl_ff ?_ (fun _ _ => ?_)); (first | exact .move _ | exact .load _ _ | exact .fieldAddr _ _ _ (by kernel_rfl) | exact .assign _ | exact .binOp _ _ _ _ _ rfl | exact .indexAddr _ _ _ | exact .len _ _ (by kernel_rfl) | exact .field _ _ _ | exact .extract _ _ | exact .pick _ _ _ | exact .build _ _ | exact .slice _ _ _ _ _ | exact .unOp _ _ _ rfl | exact .index _ _ _ | exact .max _ _ _ rfl rfl | exact .min _ _ _ rfl rfl | exact .nilCheck _ _ rfl)) | with_reducible refine Calmly.gl_tf (fun _ _ => ?_) | with_reducible refine Calmly.gl_ft (fun _ _ => ?_)) | ((with_reducible refine Calmly.is_eff ?_); refine Calmly.mix_eff rfl (fun _ _ => ?_)) | ((with_reducible refine Calmly.is_gf ?_); refine Calmly.mix_gf rfl rfl rfl ?_; first | with_reducible refine Calmly.gf_tt (fun _ _ => ?_) | with_reducible refine Calmly.gf_ff (fun _ _ => ?_) | with_reducible refine Calmly.gf_tf (kept_of hk) (fun _ _ => ?_) | with_reducible refine Calmly.gf_ft (kept_of hk) (fun _ _ => ?_)) | ((with_reducible refine Calmly.is_kept ?_); refine ⟨kept_of hk, ?_⟩) | (with_reducible refine Calmly.mix_alt ?_ ?_) | (refine kept_alloc hk (fun hk' hblk hge => ?_); replace hk := hk'; clear hk') | (go_at_call 61; refine (unless_any _ _ _).mono ?_; rintro e w' ⟨rfl, rfl⟩) | (go_at_call 73; refine (isDen_any _ _).mono ?_; rintro e w' ⟨rfl, rfl⟩))
  refine (first_any _ 3 3 _ _ (SI.three _ _ _ _ _ (size_alloc_drew _ _))).mono ?_
  rintro e w' ⟨rfl, rfl⟩
  have he1 : afterF (firstE [(checkF ms ks).2, unlessE (wIn den 1 50) 2, unlessE ((sn : Int) == (n : Int)) 10]) sq = E := by
    rw [← HE.out, show (sn : Int) = (sq.length : Int) by omega, show (n : Int) = (ms.length : Int) by omega]
    rfl
  have HE1 := Lib.hid he1
  clear he1
  go_wp2_with (first | ((with_reducible refine Calmly.is_fl ?_); refine Calmly.mix_fl rfl ?_ (fun _ _ => ?_); (first | exact .move _ | exact .load _ _ | exact .fieldAddr _ _ _ (by kernel_rfl) | exact .assign _ | exact .binOp _ _ _ _ _ rfl | exact .indexAddr _ _ _ | exact .len _ _ (by kernel_rfl) | exact .field _ _ _ | exact .extract _ _ | exact .pick _ _ _ | exact .build _ _ | exact .slice _ _ _ _ _ | exact .unOp _ _ _ rfl | exact .index _ _ _ | exact .max _ _ _ rfl rfl | exact .min _ _ _ rfl rfl | exact .nilCheck _ _ rfl)) | ((with_reducible refine Calmly.is_gl ?_); refine Calmly.mix_gl rfl rfl rfl ?_; first | ((first | with_reducible refine Calmly.gl_tt ?_ (fun _ _ => ?_) | with_reducible refine Calmly.gl_ff ?_ (fun _ _ => ?_)); (first | exact .move _ | exact .load _ _ | exact .fieldAddr _ _ _ (by kernel_rfl) | exact .assign _ | exact .binOp _ _ _ _ _ rfl | exact .indexAddr _ _ _ | exact .len _ _ (by kernel_rfl) | exact .field _ _ _ | exact .extract _ _ | exact .pick _ _ _ | exact .build _ _ | exact .slice _ _ _ _ _ | exact .unOp _ _ _ rfl | exact .index _ _ _ | exact .max _ _ _ rfl rfl | exact .min _ _ _ rfl rfl | exact .nilCheck _ _ rfl)) | with_reducible refine Calmly.gl_tf (fun _ _ => ?_) | with_reducible refine Calmly.gl_ft (fun _ _ => ?_)) | ((with_reducible refine Calmly.is_eff ?_); refine Calmly.mix_eff rfl (fun _ _ => ?_)) | ((with_reducible refine Calmly.is_gf ?_); refine Calmly.mix_gf rfl rfl rfl ?_; first | with_reducible refine Calmly.gf_tt (fun _ _ => ?_) | with_reducible refine Calmly.gf_ff (fun _ _ => ?_) | with_reducible refine Calmly.gf_tf (kept_of hk) (fun _ _ => ?_) | with_reducible refine Calmly.gf_ft (kept_of hk) (fun _ _ => ?_)) | ((with_reducible refine Calmly.is_tail ?_); first | refine Calmly.mix_tail_nil ?_ | refine Calmly.mix_tail rfl (fun _ _ => ?_)) | ((with_reducible refine Calmly.is_kept ?_); refine ⟨kept_of hk, ?_⟩) | (with_reducible refine Calmly.mix_alt ?_ ?_))
  refine ⟨?_⟩
  obtain ⟨e0, he0⟩ : ∃ e0, firstE [(checkF ms ks).2, unlessE (wIn den 1 50) 2, unlessE ((sn : Int) == (n : Int)) 10] = e0 := ⟨_, rfl⟩
  rw [he0]
  have HE2 : Hid (afterF e0 sq = E) := Lib.hid (by rw [← he0]; exact HE1.out)
  have hnew : ∀ o, Below w1.heap.size w1 ((w1.alloc (.cells #[.slice a n c, .slice b m d] 118)).alloc o).drew := fun o => (((Below.refl _ _).alloc (Nat.le_refl _) _).alloc (by simp) _).drew
  refine wp_gen (fun v => Below w1.heap.size w1 v ∧ v.heap[w1.heap.size]? = some (.cells #[.slice a n c, .slice b m d] 118)) ⟨hnew _, blk_keep (w := w1.alloc (.cells #[.slice a n c, .slice b m d] 118)) (alloc_new _ _) ((Below.refl _ _).alloc (Nat.le_refl _) _ : Below _ _ ((w1.alloc (.cells #[.slice a n c, .slice b m d] 118)).alloc _)).drew⟩ ?_
  clear hk hnew HE1 he0
  rintro v ⟨hbv, hvF⟩
  have hvs := hbv.size
  have hvFs := blk_lt hvF
  have i3 : v.cell? ⟨w.heap.size + 1, 1, none⟩ = some (.slice sa sn sc) := cell_keep f3 hbv
  go_wp2_with fail
  go_loopw [7, 34] (fun x z wr => ∃ (k : Nat) (e : Int), k ≤ sn ∧ x = .int .i64 e ∧ z = .int .i64 k ∧ afterF e (sq.drop k) = E ∧ Below v.heap.size v wr) (fun _ z _ => sn - (intOf z).toNat)
  case atStart => exact ⟨0, e0, by omega, rfl, rfl, HE2.out, Below.refl _ _⟩
  case round =>
    obtain ⟨k, e, hk, rfl, rfl, ho, hbr⟩ := hrel
    have HO := Lib.hid ho
    clear ho
    have hbvr := hbv.trans (hbr.mono hvs)
    have hbwr := hbw.trans (hbvr.mono (by omega))
    have hrs := hbr.size
    by_cases hlt : k < sn
    · obtain ⟨cb, co, rfl, hcc⟩ := h3.at_ (by omega)
      obtain ⟨y0, y1⟩ := hcc k hlt
      have y0' := cell_keep y0 hbwr
      have y1' := cell_keep y1 hbwr
      clear hcc y0 y1
      have hd := afterF_drop e sq k (by omega)
      have HD := Lib.hid hd
      clear hd
      obtain ⟨rr, hrr⟩ : ∃ rr, sq[k]?.getD (0, 0) = rr := ⟨_, rfl⟩
      obtain ⟨lo, hi⟩ := rr
      rw [hrr] at y0' y1' HD
      clear hrr
      dsimp only at y0' y1' HD
      have hi1 : (k : Int) < (sn : Int) := by omega
      have hi0 : (0 : Int) ≤ (k : Int) := by omega
      have hAl : ∀ o, Below wr.heap.size wr (wr.alloc o).drew := fun o => ((Below.refl _ _).alloc (Nat.le_refl _) _).drew
      have hpre : ∀ o o', Below v.heap.size v ((wr.alloc o).alloc o').drew := fun o o' => hbr.trans ((((Below.refl wr.heap.size wr).alloc (Nat.le_refl _) o).alloc (by simp) o').drew.mono hrs)
      cases hlo : wIn lo 0 1000000000
      · rw [hlo] at HD
        have HD' : Hid (afterF (firstE [e, unlessE false 2, unlessE (decide (lo ≤ hi)) 9]) (sq.drop (k + 1)) = E) := Lib.hid (by rw [← HO.out, HD.out]; rfl)
        go_wp2_with (first | (go_at_call 72; refine (mWithin_any _ _ _ _).mono ?_; rintro e w' ⟨rfl, rfl⟩))
        refine Calmly.wp_region_mix 11 (.fl 0 <| .fl 1 <| .fl 3 <| .fl 4 <| .fl 5 <| .fl 6 <| .fl 7 <| .eff 2 <| .eff 8 <| .eff 9 <| .eff 10 <| .tail [11]) (by kernel_rfl) (by kernel_rfl) ?_
        have hk := Below.refl (wr.alloc (.cells #[.int .i64 lo, .int .i64 hi] 46)).drew.heap.size (wr.alloc (.cells #[.int .i64 lo, .int .i64 hi] 46)).drew
        go_wp2_with (first | ((with_reducible refine Calmly.is_fl ?_); refine Calmly.mix_fl rfl ?_ (fun _ _ => ?_); (first | exact .move _ | exact .load _ _ | exact .fieldAddr _ _ _ (by kernel_rfl) | exact .assign _ | exact .binOp _ _ _ _ _ rfl | exact .indexAddr _ _ _ | exact .len _ _ (by kernel_rfl) | exact .field _ _ _ | exact .extract _ _ | exact .pick _ _ _ | exact .build _ _ | exact .slice _ _ _ _ _ | exact .unOp _ _ _ rfl | exact .index _ _ _ | exact .max _ _ _ rfl rfl | exact .min _ _ _ rfl rfl | exact .nilCheck _ _ rfl)) | ((with_reducible refine Calmly.is_gl ?_); refine Calmly.mix_gl rfl rfl rfl ?_; first | ((first | with_reducible refine Calmly.gl_tt ?_ (fun _ _ => ?_) | with_reducible refine Calmly.gl_ff ?_ (fun _ _ => ?_)); (first | exact .move _ | exact .load _ _ | exact .fieldAddr _ _ _ (by kernel_rfl) | exact .assign _ | exact .binOp _ _ _ _ _ rfl | exact .indexAddr _ _ _ | exact .len _ _ (by kernel_rfl) | exact .field _ _ _ | exact .extract _ _ | exact .pick _ _ _ | exact .build _ _ | exact .slice _ _ _ _ _ | exact .unOp _ _ _ rfl | exact .index _ _ _ | exact .max _ _ _ rfl rfl | exact .min _ _ _ rfl rfl | exact .nilCheck _ _ rfl)) | with_reducible refine Calmly.gl_tf (fun _ _ => ?_) | with_reducible refine Calmly.gl_ft (fun _ _ => ?_)) | ((with_reducible refine Calmly.is_eff ?_); refine Calmly.mix_eff rfl (fun _ _ => ?_)) | ((with_reducible refine Calmly.is_gf ?_); refine Calmly.mix_gf rfl rfl rfl ?_; first | with_reducible refine Calmly.gf_tt (fun _ _ => ?_) | with_reducible refine Calmly.gf_ff (fun _ _ => ?_) | with_reducible refine Calmly.gf_tf (kept_of hk) (fun _ _ => ?_) | with_reducible refine Calmly.gf_ft (kept_of hk) (fun _ _ => ?_)) | ((with_reducible refine Calmly.is_kept ?_); refine ⟨kept_of hk, ?_⟩) | (with_reducible refine Calmly.mix_alt ?_ ?_) | (refine kept_alloc hk (fun hk' hblk hge => ?_); replace hk := hk'; clear hk') | (go_at_call 61; refine (unless_any _ _ _).mono ?_; rintro e w' ⟨rfl, rfl⟩))
        refine (first_any _ 3 3 _ _ (SI.three _ _ _ _ _ (size_alloc_drew _ _))).mono ?_
        rintro e w' ⟨rfl, rfl⟩
        go_wp2_with (first | ((with_reducible refine Calmly.is_fl ?_); refine Calmly.mix_fl rfl ?_ (fun _ _ => ?_); (first | exact .move _ | exact .load _ _ | exact .fieldAddr _ _ _ (by kernel_rfl) | exact .assign _ | exact .binOp _ _ _ _ _ rfl | exact .indexAddr _ _ _ | exact .len _ _ (by kernel_rfl) | exact .field _ _ _ | exact .extract _ _ | exact .pick _ _ _ | exact .build _ _ | exact .slice _ _ _ _ _ | exact .unOp _ _ _ rfl | exact .index _ _ _ | exact .max _ _ _ rfl rfl | exact .min _ _ _ rfl rfl | exact .nilCheck _ _ rfl)) | ((with_reducible refine Calmly.is_gl ?_); refine Calmly.mix_gl rfl rfl rfl ?_; first | ((first | with_reducible refine Calmly.gl_tt ?_ (fun _ _ => ?_) | with_reducible refine Calmly.gl_ff ?_ (fun _ _ => ?_)); (first | exact .move _ | exact .load _ _ | exact .fieldAddr _ _ _ (by kernel_rfl) | exact .assign _ | exact .binOp _ _ _ _ _ rfl | exact .indexAddr _ _ _ | exact .len _ _ (by kernel_rfl) | exact .field _ _ _ | exact .extract _ _ | exact .pick _ _ _ | exact .build _ _ | exact .slice _ _ _ _ _ | exact .unOp _ _ _ rfl | exact .index _ _ _ | exact .max _ _ _ rfl rfl | exact .min _ _ _ rfl rfl | exact .nilCheck _ _ rfl)) | with_reducible refine Calmly.gl_tf (fun _ _ => ?_) | with_reducible refine Calmly.gl_ft (fun _ _ => ?_)) | ((with_reducible refine Calmly.is_eff ?_); refine Calmly.mix_eff rfl (fun _ _ => ?_)) | ((with_reducible refine Calmly.is_gf ?_); refine Calmly.mix_gf rfl rfl rfl ?_; first | with_reducible refine Calmly.gf_tt (fun _ _ => ?_) | with_reducible refine Calmly.gf_ff (fun _ _ => ?_) | with_reducible refine Calmly.gf_tf (kept_of hk) (fun _ _ => ?_) | with_reducible refine Calmly.gf_ft (kept_of hk) (fun _ _ => ?_)) | ((with_reducible refine Calmly.is_tail ?_); first | refine Calmly.mix_tail_nil ?_ | refine Calmly.mix_tail rfl (fun _ _ => ?_)) | ((with_reducible refine Calmly.is_kept ?_); refine ⟨kept_of hk, ?_⟩) | (with_reducible refine Calmly.mix_alt ?_ ?_))
        go_roundw
        case rel => exact ⟨k + 1, _, by omega, rfl, by go_num, HD'.out, hpre _ _⟩
        case measure => simp [intOf]; omega
      · rw [hlo, Bool.true_and] at HD
        have HD' : Hid (afterF (firstE [e, unlessE (wIn hi 0 1000000000) 2, unlessE (decide (lo ≤ hi)) 9]) (sq.drop (k + 1)) = E) := Lib.hid (by rw [← HO.out, HD.out])
        go_wp2_with (first | (go_at_call 72; refine (mWithin_any _ _ _ _).mono ?_; rintro e w' ⟨rfl, rfl⟩))
        refine Calmly.wp_region_mix 11 (.fl 0 <| .fl 1 <| .fl 3 <| .fl 4 <| .fl 5 <| .fl 6 <| .fl 7 <| .eff 2 <| .eff 8 <| .eff 9 <| .eff 10 <| .tail [11]) (by kernel_rfl) (by kernel_rfl) ?_
        have hk := Below.refl (wr.alloc (.cells #[.int .i64 lo, .int .i64 hi] 46)).drew.heap.size (wr.alloc (.cells #[.int .i64 lo, .int .i64 hi] 46)).drew
        go_wp2_with (first | ((with_reducible refine Calmly.is_fl ?_); refine Calmly.mix_fl rfl ?_ (fun _ _ => ?_); (first | exact .move _ | exact .load _ _ | exact .fieldAddr _ _ _ (by kernel_rfl) | exact .assign _ | exact .binOp _ _ _ _ _ rfl | exact .indexAddr _ _ _ | exact .len _ _ (by kernel_rfl) | exact .field _ _ _ | exact .extract _ _ | exact .pick _ _ _ | exact .build _ _ | exact .slice _ _ _ _ _ | exact .unOp _ _ _ rfl | exact .index _ _ _ | exact .max _ _ _ rfl rfl | exact .min _ _ _ rfl rfl | exact .nilCheck _ _ rfl)) | ((with_reducible refine Calmly.is_gl ?_); refine Calmly.mix_gl rfl rfl rfl ?_; first | ((first | with_reducible refine Calmly.gl_tt ?_ (fun _ _ => ?_) | with_reducible refine Calmly.gl_ff ?_ (fun _ _ => ?_)); (first | exact .move _ | exact .load _ _ | exact .fieldAddr _ _ _ (by kernel_rfl) | exact .assign _ | exact .binOp _ _ _ _ _ rfl | exact .indexAddr _ _ _ | exact .len _ _ (by kernel_rfl) | exact .field _ _ _ | exact .extract _ _ | exact .pick _ _ _ | exact .build _ _ | exact .slice _ _ _ _ _ | exact .unOp _ _ _ rfl | exact .index _ _ _ | exact .max _ _ _ rfl rfl | exact .min _ _ _ rfl rfl | exact .nilCheck _ _ rfl)) | with_reducible refine Calmly.gl_tf (fun _ _ => ?_) | with_reducible refine Calmly.gl_ft (fun _ _ => ?_)) | ((with_reducible refine Calmly.is_eff ?_); refine Calmly.mix_eff rfl (fun _ _ => ?_)) | ((with_reducible refine Calmly.is_gf ?_); refine Calmly.mix_gf rfl rfl rfl ?_; first | with_reducible refine Calmly.gf_tt (fun _ _ => ?_) | with_reducible refine Calmly.gf_ff (fun _ _ => ?_) | with_reducible refine Calmly.gf_tf (kept_of hk) (fun _ _ => ?_) | with_reducible refine Calmly.gf_ft (kept_of hk) (fun _ _ => ?_)) | ((with_reducible refine Calmly.is_kept ?_); refine ⟨kept_of hk, ?_⟩) | (with_reducible refine Calmly.mix_alt ?_ ?_) | (refine kept_alloc hk (fun hk' hblk hge => ?_); replace hk := hk'; clear hk') | (go_at_call 61; refine (unless_any _ _ _).mono ?_; rintro e w' ⟨rfl, rfl⟩))
        refine (first_any _ 3 3 _ _ (SI.three _ _ _ _ _ (size_alloc_drew _ _))).mono ?_
        rintro e w' ⟨rfl, rfl⟩
        go_wp2_with (first | ((with_reducible refine Calmly.is_fl ?_); refine Calmly.mix_fl rfl ?_ (fun _ _ => ?_); (first | exact .move _ | exact .load _ _ | exact .fieldAddr _ _ _ (by kernel_rfl) | exact .assign _ | exact .binOp _ _ _ _ _ rfl | exact .indexAddr _ _ _ | exact .len _ _ (by kernel_rfl) | exact .field _ _ _ | exact .extract _ _ | exact .pick _ _ _ | exact .build _ _ | exact .slice _ _ _ _ _ | exact .unOp _ _ _ rfl | exact .index _ _ _ | exact .max _ _ _ rfl rfl | exact .min _ _ _ rfl rfl | exact .nilCheck _ _ rfl)) | ((with_reducible refine Calmly.is_gl ?_); refine Calmly.mix_gl rfl rfl rfl ?_; first | ((first | with_reducible refine Calmly.gl_tt ?_ (fun _ _ => ?_) | with_reducible refine Calmly.gl_ff ?_ (fun _ _ => ?_)); (first | exact .move _ | exact .load _ _ | exact .fieldAddr _ _ _ (by kernel_rfl) | exact .assign _ | exact .binOp _ _ _ _ _ rfl | exact .indexAddr _ _ _ | exact .len _ _ (by kernel_rfl) | exact .field _ _ _ | exact .extract _ _ | exact .pick _ _ _ | exact .build _ _ | exact .slice _ _ _ _ _ | exact .unOp _ _ _ rfl | exact .index _ _ _ | exact .max _ _ _ rfl rfl | exact .min _ _ _ rfl rfl | exact .nilCheck _ _ rfl)) | with_reducible refine Calmly.gl_tf (fun _ _ => ?_) | with_reducible refine Calmly.gl_ft (fun _ _ => ?_)) | ((with_reducible refine Calmly.is_eff ?_); refine Calmly.mix_eff rfl (fun _ _ => ?_)) | ((with_reducible refine Calmly.is_gf ?_); refine Calmly.mix_gf rfl rfl rfl ?_; first | with_reducible refine Calmly.gf_tt (fun _ _ => ?_) | with_reducible refine Calmly.gf_ff (fun _ _ => ?_) | with_reducible refine Calmly.gf_tf (kept_of hk) (fun _ _ => ?_) | with_reducible refine Calmly.gf_ft (kept_of hk) (fun _ _ => ?_)) | ((with_reducible refine Calmly.is_tail ?_); first | refine Calmly.mix_tail_nil ?_ | refine Calmly.mix_tail rfl (fun _ _ => ?_)) | ((with_reducible refine Calmly.is_kept ?_); refine ⟨kept_of hk, ?_⟩) | (with_reducible refine Calmly.mix_alt ?_ ?_))
        go_roundw
        case rel => exact ⟨k + 1, _, by omega, rfl, by go_num, HD'.out, hpre _ _⟩
        case measure => simp [intOf]; omega
    · have hle : (sn : Int) ≤ (k : Int) := by omega
      have hee : e = E := by
        have := HO.out
        rw [List.drop_eq_nil_of_le (by omega)] at this
        exact this
      have F' := blk_keep hvF hbr
      have x2' : wr.heap[w.heap.size + 2]? = some (.cells #[.slice none 0 0, .slice none 0 0] 118) := blk_keep x2 hbvr
      have j0 : wr.cell? ⟨w1.heap.size, 0, none⟩ = some (.slice a n c) := cell_block F' 0
      have j1 : wr.cell? ⟨w1.heap.size, 1, none⟩ = some (.slice b m d) := cell_block F' 1
      have z0 : wr.cell? ⟨w.heap.size + 1 + 1, 0, none⟩ = some (.slice none 0 0) := cell_block x2' 0
      have z1 : wr.cell? ⟨w.heap.size + 1 + 1, 1, none⟩ = some (.slice none 0 0) := cell_block x2' 1
      have z2 : wr.frozen? ⟨w.heap.size + 1 + 1, 0, none⟩ = false := frozen_block x2' 0
      have z3 : wr.frozen? ⟨w.heap.size + 1 + 1, 1, none⟩ = false := frozen_block x2' 1
      obtain ⟨s1, s2, s3, s4⟩ := set2 (x := .slice a n c) (y := .slice b m d) z0 z1
      go_wp2_with fail
      refine bodyPost_ret (v := .tuple #[.agg #[.slice a n c, .slice b m d], .int .i64 e]) (by simp [results, Tryz.results77, go_sem, s1, s2]) rfl ⟨by rw [hee], ?_⟩
      exact (hbwr.setCell (by show _ ≤ w.heap.size + 1 + 1; omega) _).setCell (by show _ ≤ w.heap.size + 1 + 1; omega) _
end Go.Proofs.YteigmjlfpmdmoaaGreatDoor

namespace Go.Proofs.YteigmjlfpmdmoaaGreatDoor
open Go.RowKit
open Calmly (Kept)

/-- One storey's springs, from a spring down, until one is no better, or one explains. -/
def exIn (ms ks : List Int) (den : Int) (sq : List (Int × Int)) (i : Nat) (k : Int) : Nat → Int → (Int × Int) × Bool → (Int × Int) × Bool
  | 0, _, st => st
  | f + 1, left, st => if 1 ≤ left then (if st.2 = true ∧ left * (ks[st.1.1.toNat]?.getD 0) ≤ st.1.2 * k then st else if (oddF ms (ks.set i left) den 0 sq).2 = false then (((i : Int), left), true) else exIn ms ks den sq i k f (left - 1) st) else st
def exTo (ms ks : List Int) (den : Int) (sq : List (Int × Int)) : Nat → (Int × Int) × Bool
  | 0 => ((0, 0), false)
  | i + 1 => exIn ms ks den sq i (ks[i]?.getD 0) 20 (ks[i]?.getD 0) (exTo ms ks den sq i)
def exF (ms ks : List Int) (den : Int) (sq : List (Int × Int)) : (Int × Int) × Bool := exTo ms ks den sq ms.length
def ExOk (m : Nat) (st : (Int × Int) × Bool) : Prop := st.2 = true → 0 ≤ st.1.1 ∧ st.1.1 < m ∧ 1 ≤ st.1.2 ∧ st.1.2 ≤ 20
theorem exIn_ok {ms ks : List Int} {den : Int} {sq : List (Int × Int)} {i m : Nat} {k : Int} (hi : i < m) (f : Nat) (left : Int) (st : (Int × Int) × Bool) (hl : left ≤ 20) (h : ExOk m st) : ExOk m (exIn ms ks den sq i k f left st) := by
  induction f generalizing left with
  | zero => exact h
  | succ f ih =>
    unfold exIn
    split
    · split
      · exact h
      · split
        · intro _; simp; omega
        · exact ih (left - 1) (by omega)
    · exact h
theorem exTo_ok {ms ks : List Int} {den : Int} {sq : List (Int × Int)} (he : (checkF ms ks).2 = 0) (i : Nat) (hi : i ≤ ms.length) : ExOk ms.length (exTo ms ks den sq i) := by
  obtain ⟨q1, q2, q3, q4, q5⟩ := checkF_ok he
  induction i with
  | zero => intro h; cases h
  | succ i ih => exact exIn_ok (by omega) 20 _ _ (q5 i (by omega)).2 (ih (by omega))

set_option maxRecDepth 100000 in
set_option maxHeartbeats 4000000 in
theorem ExplainedBy_err (a b sa : Option Addr) (n c m d sn sc : Nat) (ms ks : List Int) (sq : List (Int × Int)) (den : Int) (w : World) (h1 : SI w a n c ms) (h2 : SI w b m d ks) (h3 : SR w sa sn sc sq) (E : Int) (hE : afterE ms ks den sq = E) (hz : E ≠ 0) (hsn : sn ≤ 1000000000) (hnn : n ≤ 1000000000) :
    Calls Tryz.prog 41 #[.agg #[.slice a n c, .slice b m d], .agg #[.int .i64 den, .slice sa sn sc]] w fun e w' => e = .returned (.tuple #[.agg #[.int .i64 0, .int .i64 0], .int .i64 E]) ∧ Below w.heap.size w w' := by
  have hz1 : (E != 0) = true := by simpa using hz
  clear hz
  have HE := Lib.hid hE
  clear hE
  obtain ⟨hbV, hVs⟩ := allocs_below [(.cells #[.slice a n c, .slice b m d] 52), (.cells #[.int .i64 den, .slice sa sn sc] 85), (.cells #[.int .i64 0, .int .i64 0] 74)] w
  have hVa := allocs_at [(.cells #[.slice a n c, .slice b m d] 52), (.cells #[.int .i64 den, .slice sa sn sc] 85), (.cells #[.int .i64 0, .int .i64 0] 74)] w
  simp only [List.length_cons, List.length_nil, Nat.reduceAdd] at hVs
  have hv2 := hVa 2 (by simp)
  clear hVa
  go_enter Tryz.func41, Tryz.ntmps41
  go_wp2_with fail
  refine (openAfter_any a b sa n c m d sn sc ms ks sq den _ (h1.keep hbV) (h2.keep hbV) (h3.keep hbV) E HE.out hsn hnn).mono ?_
  rintro e w1 ⟨rfl, hb1⟩
  have x2 : w1.heap[w.heap.size + 2]? = some (.cells #[.int .i64 0, .int .i64 0] 74) := blk_keep hv2 hb1
  have hbw : Below w.heap.size w w1 := hbV.trans (hb1.mono (by omega))
  have hs2 := blk_lt x2
  clear hv2 hb1 hVs hbV
  have z0 : w1.cell? ⟨w.heap.size + 1 + 1, 0, none⟩ = some (.int .i64 0) := cell_block x2 0
  have z1 : w1.cell? ⟨w.heap.size + 1 + 1, 1, none⟩ = some (.int .i64 0) := cell_block x2 1
  have z2 : w1.frozen? ⟨w.heap.size + 1 + 1, 0, none⟩ = false := frozen_block x2 0
  have z3 : w1.frozen? ⟨w.heap.size + 1 + 1, 1, none⟩ = false := frozen_block x2 1
  obtain ⟨s1, s2, s3, s4⟩ := set2 (x := .int .i64 0) (y := .int .i64 0) z0 z1
  have hA : ∀ (A : World) (o : Obj), Below A.heap.size A (A.alloc o) := fun A o => (Below.refl _ _).alloc (Nat.le_refl _) _
  have t1 := cell_keep s1 (hA _ (.cells #[.slice a n c, .slice b m d] 118))
  have t2 := cell_keep s2 (hA _ (.cells #[.slice a n c, .slice b m d] 118))
  go_wp2_with fail
  refine bodyPost_ret (v := .tuple #[.agg #[.int .i64 0, .int .i64 0], .int .i64 E]) (by simp [results, Tryz.results41, go_sem, t1, t2]) rfl ⟨rfl, ?_⟩
  exact ((hbw.setCell (by show _ ≤ w.heap.size + 1 + 1; omega) _).setCell (by show _ ≤ w.heap.size + 1 + 1; omega) _).alloc (by simp; omega) _

set_option maxRecDepth 100000 in
set_option maxHeartbeats 4000000 in
theorem ExplainedBy_ok (a b sa : Option Addr) (m c d sn sc : Nat) (ms ks : List Int) (sq : List (Int × Int)) (den : Int) (w : World) (h1 : SI w a m c ms) (h2 : SI w b m d ks) (h3 : SR w sa sn sc sq) (hE : afterE ms ks den sq = 0) (he : (checkF ms ks).2 = 0) (hd1 : 1 ≤ den) (hd2 : den ≤ 50) (hsn : sn ≤ 100)
    (r1 r2 : Int) (r3 : Bool) (hr : exF ms ks den sq = ((r1, r2), r3)) :
    Calls Tryz.prog 41 #[.agg #[.slice a m c, .slice b m d], .agg #[.int .i64 den, .slice sa sn sc]] w fun e w' => e = .returned (.tuple #[.agg #[.int .i64 r1, .int .i64 r2], .int .i64 (unlessE r3 12)]) ∧ Below w.heap.size w w' := by
  have HE := Lib.hid hE
  have HC := Lib.hid he
  have HR := Lib.hid hr
  clear hE hr
  obtain ⟨l1, l2⟩ : m ≤ ms.length ∧ ms.length ≤ m := by have := h1.len; omega
  have hm4 : m ≤ 4 := by have := (checkF_ok he).2.2.1; omega
  obtain ⟨q1, q2, q3, q4, q5⟩ := checkF_ok he
  have Q5 := Lib.hid q5
  have hown := fun i => own_bd q1 q5 i
  have HOWN := Lib.hid hown
  clear he q1 q4 q5 hown
  obtain ⟨hbV, hVs⟩ := allocs_below [(.cells #[.slice a m c, .slice b m d] 52), (.cells #[.int .i64 den, .slice sa sn sc] 85), (.cells #[.int .i64 0, .int .i64 0] 74)] w
  have hVa := allocs_at [(.cells #[.slice a m c, .slice b m d] 52), (.cells #[.int .i64 den, .slice sa sn sc] 85), (.cells #[.int .i64 0, .int .i64 0] 74)] w
  simp only [List.length_cons, List.length_nil, Nat.reduceAdd] at hVs
  have hv1 := hVa 1 (by simp)
  have hv2 := hVa 2 (by simp)
  clear hVa
  go_enter Tryz.func41, Tryz.ntmps41
  go_wp2_with fail
  refine (openAfter_any a b sa m c m d sn sc ms ks sq den _ (h1.keep hbV) (h2.keep hbV) (h3.keep hbV) 0 HE.out (by omega) (by omega)).mono ?_
  rintro e w1 ⟨rfl, hb1⟩
  have x1 : w1.heap[w.heap.size + 1]? = some (.cells #[.int .i64 den, .slice sa sn sc] 85) := blk_keep hv1 hb1
  have x2 : w1.heap[w.heap.size + 2]? = some (.cells #[.int .i64 0, .int .i64 0] 74) := blk_keep hv2 hb1
  have hbw : Below w.heap.size w w1 := hbV.trans (hb1.mono (by omega))
  have hs2 := blk_lt x2
  clear hv1 hv2 hb1 hVs hbV
  go_wp2_with fail
  refine wp_gen (fun v => Below w1.heap.size w1 v ∧ v.heap[w1.heap.size]? = some (.cells #[.slice a m c, .slice b m d] 118) ∧ v.heap[w1.heap.size + 1]? = some (.cells #[.int .i64 0, .int .i64 0] 74)) ⟨((Below.refl _ _).alloc (Nat.le_refl _) _).alloc (by simp) _, box2 (Below.refl _ _)⟩ ?_
  rintro v ⟨hbv, x6, x8⟩
  have hvs := blk_lt x8
  have hbwv := hbw.trans (hbv.mono (by omega))
  have x1v := blk_keep x1 hbv
  have x2v := blk_keep x2 hbv
  go_loopw [9, 29] (fun x z wr => ∃ (i : Nat) (b1 b2 : Int) (fd : Bool), i ≤ m ∧ x = .bool fd ∧ z = .int .i64 i ∧ exTo ms ks den sq i = ((b1, b2), fd) ∧ wr.heap[w1.heap.size + 1]? = some (.cells #[.int .i64 b1, .int .i64 b2] 74) ∧ Below (w1.heap.size + 1) v wr) (fun _ z _ => m - (intOf z).toNat)
  case atStart => exact ⟨0, 0, 0, false, by omega, rfl, rfl, rfl, x8, Below.refl _ _⟩
  case round =>
    obtain ⟨wo, hwo⟩ : ∃ x, x = wr := ⟨_, rfl⟩
    subst hwo
    clear x8
    obtain ⟨i, b1, b2, fd, hi, rfl, rfl, hex, x8, hbr⟩ := hrel
    have hrs := hbr.size
    have HEX := Lib.hid hex
    clear hex
    by_cases hlt : i < m
    · obtain ⟨bb, ob, rfl, hcb⟩ := h2.at_ (by omega)
      have eb := hcb i hlt
      have hki := Q5.out i (by omega)
      have hok := exTo_ok (den := den) (sq := sq) HC.out i (by omega)
      rw [HEX.out] at hok
      have hstep : exTo ms ks den sq (i + 1) = exIn ms ks den sq i (ks[i]?.getD 0) 20 (ks[i]?.getD 0) ((b1, b2), fd) := by rw [← HEX.out]; rfl
      have HST := Lib.hid hstep
      have HCB := Lib.hid hcb
      clear hstep hcb
      obtain ⟨k, hk⟩ : ∃ k, ks[i]?.getD 0 = k := ⟨_, rfl⟩
      rw [hk] at eb hki HST
      have HK := Lib.hid hk
      clear hk
      have e1 := cell_keep eb (hbwv.trans (hbr.mono (by omega)))
      have x6o := (hbr.block _ (by omega)).trans x6
      have f1 : wo.cell? ⟨w1.heap.size, 1, none⟩ = some (.slice (some ⟨bb, ob, none⟩) m d) := cell_block x6o 1
      have hi1 : (i : Int) < (m : Int) := by omega
      have hi0 : (0 : Int) ≤ (i : Int) := by omega
      go_wp2_with fail
      go_loopw [9, 12] (fun x z wz => ∃ (f : Nat) (left : Int), x = .bool fd ∧ z = .int .i64 left ∧ left ≤ f ∧ 0 ≤ left ∧ left ≤ 20 ∧ exIn ms ks den sq i k f left ((b1, b2), fd) = exTo ms ks den sq (i + 1) ∧ wz.heap[w1.heap.size + 1]? = some (.cells #[.int .i64 b1, .int .i64 b2] 74) ∧ Below (w1.heap.size + 1) v wz) (fun _ z _ => (intOf z).toNat)
      case atStart => exact ⟨20, k, rfl, rfl, by omega, by omega, by omega, HST.out.symm, x8, hbr⟩
      case round =>
        obtain ⟨wz, hwz⟩ : ∃ x, x = wr := ⟨_, rfl⟩
        subst hwz
        clear x8 e1 x6o f1 hbr hrs
        obtain ⟨f, left, rfl, rfl, hf, hl0, hl20, hx, x8, hbvz⟩ := hrel
        have HX := Lib.hid hx
        clear hx
        have hzs := hbvz.size
        by_cases hl : 1 ≤ left
        · have hs : exIn ms ks den sq i k f left ((b1, b2), fd) = if fd = true ∧ left * (ks[b1.toNat]?.getD 0) ≤ b2 * k then ((b1, b2), fd) else if (oddF ms (ks.set i left) den 0 sq).2 = false then (((i : Int), left), true) else exIn ms ks den sq i k (f - 1) (left - 1) ((b1, b2), fd) := by
            obtain ⟨f', rfl⟩ : ∃ f', f = f' + 1 := ⟨f - 1, by omega⟩
            rw [exIn, if_pos hl]
            rfl
          obtain ⟨⟨o1, o2⟩, ho⟩ : ∃ o, oddF ms (ks.set i left) den 0 sq = o := ⟨_, rfl⟩
          rw [ho] at hs
          dsimp only at hs
          have HO := Lib.hid ho
          have HS := Lib.hid hs
          clear ho hs
          have hbwz := hbwv.trans (hbvz.mono (by omega))
          have x6z := (hbvz.block _ (by omega)).trans x6
          have x1z := (hbvz.block _ (by omega)).trans x1v
          have g0 : wz.cell? ⟨w1.heap.size, 0, none⟩ = some (.slice a m c) := cell_block x6z 0
          have g1 : wz.cell? ⟨w1.heap.size, 1, none⟩ = some (.slice (some ⟨bb, ob, none⟩) m d) := cell_block x6z 1
          have g2 : wz.cell? ⟨w.heap.size + 1, 0, none⟩ = some (.int .i64 den) := cell_block x1z 0
          have g3 : wz.cell? ⟨w.heap.size + 1, 1, none⟩ = some (.slice sa sn sc) := cell_block x1z 1
          have g4 : wz.cell? ⟨w1.heap.size + 1, 0, none⟩ = some (.int .i64 b1) := cell_block x8 0
          have g5 : wz.cell? ⟨w1.heap.size + 1, 1, none⟩ = some (.int .i64 b2) := cell_block x8 1
          have hw1z : w1.heap.size + 1 < wz.heap.size := by omega
          have hw1z0 : w1.heap.size < wz.heap.size := by omega
          have hw0z : w.heap.size + 1 < wz.heap.size := by omega
          have hAl : ∀ o, Below wz.heap.size wz (wz.alloc o).drew := fun o => ((Below.refl _ _).alloc (Nat.le_refl _) _).drew
          cases fd
          · rw [if_neg (fun h => by cases h.1)] at HS
            go_wp2_with fail
            refine Calmly.wp_region_mix 15 (.fl 0 <| .fl 1 <| .gl 2 <| .gl 3 <| .gl 4 <| .gl 5 <| .gl 6 <| .gl 7 <| .gl 8 <| .gl 9 <| .gl 10 <| .gl 11 <| .gl 12 <| .gl 13 <| .gl 14 <| .tail [15]) (by kernel_rfl) (by kernel_rfl) ?_
            have hk := Below.refl wz.drew.heap.size wz.drew
            go_wp2_with (first | ((with_reducible refine Calmly.is_fl ?_); refine Calmly.mix_fl rfl ?_ (fun _ _ => ?_); (first | exact .move _ | exact .load _ _ | exact .fieldAddr _ _ _ (by kernel_rfl) | exact .assign _ | exact .binOp _ _ _ _ _ rfl | exact .indexAddr _ _ _ | exact .len _ _ (by kernel_rfl) | exact .field _ _ _ | exact .extract _ _ | exact .pick _ _ _ | exact .build _ _ | exact .slice _ _ _ _ _ | exact .unOp _ _ _ rfl | exact .index _ _ _ | exact .max _ _ _ rfl rfl | exact .min _ _ _ rfl rfl | exact .nilCheck _ _ rfl)) | ((with_reducible refine Calmly.is_gl ?_); refine Calmly.mix_gl rfl rfl rfl ?_; first | ((first | with_reducible refine Calmly.gl_tt ?_ (fun _ _ => ?_) | with_reducible refine Calmly.gl_ff ?_ (fun _ _ => ?_)); (first | exact .move _ | exact .load _ _ | exact .fieldAddr _ _ _ (by kernel_rfl) | exact .assign _ | exact .binOp _ _ _ _ _ rfl | exact .indexAddr _ _ _ | exact .len _ _ (by kernel_rfl) | exact .field _ _ _ | exact .extract _ _ | exact .pick _ _ _ | exact .build _ _ | exact .slice _ _ _ _ _ | exact .unOp _ _ _ rfl | exact .index _ _ _ | exact .max _ _ _ rfl rfl | exact .min _ _ _ rfl rfl | exact .nilCheck _ _ rfl)) | with_reducible refine Calmly.gl_tf (fun _ _ => ?_) | with_reducible refine Calmly.gl_ft (fun _ _ => ?_)) | ((with_reducible refine Calmly.is_eff ?_); refine Calmly.mix_eff rfl (fun _ _ => ?_)) | ((with_reducible refine Calmly.is_gf ?_); refine Calmly.mix_gf rfl rfl rfl ?_; first | with_reducible refine Calmly.gf_tt (fun _ _ => ?_) | with_reducible refine Calmly.gf_ff (fun _ _ => ?_) | with_reducible refine Calmly.gf_tf (kept_of hk) (fun _ _ => ?_) | with_reducible refine Calmly.gf_ft (kept_of hk) (fun _ _ => ?_)) | ((with_reducible refine Calmly.is_tail ?_); first | refine Calmly.mix_tail_nil ?_ | refine Calmly.mix_tail rfl (fun _ _ => ?_)) | ((with_reducible refine Calmly.is_kept ?_); refine ⟨kept_of hk, ?_⟩) | (with_reducible refine Calmly.mix_alt ?_ ?_))
            go_wp2_with fail
            refine (odd_any a (some ⟨bb, ob, none⟩) sa m c d sn sc ms ks sq den i left _ ((h1.keep hbwz).keep (hAl _)) ((h2.keep hbwz).keep (hAl _)) ((h3.keep hbwz).keep (hAl _)) HC.out hd1 hd2 (by omega) (by omega) (by omega) (by omega) hsn o1 o2 (by simpa using HO.out)).mono ?_
            rintro e w5 ⟨rfl, hb5⟩
            have hb6 : Below (w1.heap.size + 1) v w5 := (hbvz.trans ((hAl (.cells #[.int .i64 i, .int .i64 left] 74)).mono (by omega))).trans (hb5.mono (by show _ ≤ (wz.alloc _).heap.size; simp; omega))
            have x8' : w5.heap[w1.heap.size + 1]? = some (.cells #[.int .i64 b1, .int .i64 b2] 74) := blk_keep (blk_keep x8 (hAl (.cells #[.int .i64 i, .int .i64 left] 74))) hb5
            cases o2
            · have hnew : w5.heap[wz.heap.size]? = some (.cells #[.int .i64 i, .int .i64 left] 74) := blk_keep (w := (wz.alloc (.cells #[.int .i64 i, .int .i64 left] 74)).drew) (alloc_new _ _) hb5
              have n0 : w5.cell? ⟨wz.heap.size, 0, none⟩ = some (.int .i64 i) := cell_block hnew 0
              have n1 : w5.cell? ⟨wz.heap.size, 1, none⟩ = some (.int .i64 left) := cell_block hnew 1
              have y0 : w5.cell? ⟨w1.heap.size + 1, 0, none⟩ = some (.int .i64 b1) := cell_block x8' 0
              have y1 : w5.cell? ⟨w1.heap.size + 1, 1, none⟩ = some (.int .i64 b2) := cell_block x8' 1
              have y2 : w5.frozen? ⟨w1.heap.size + 1, 0, none⟩ = false := frozen_block x8' 0
              have y3 : w5.frozen? ⟨w1.heap.size + 1, 1, none⟩ = false := frozen_block x8' 1
              rw [if_pos rfl] at HS
              go_wp2_with fail
              go_roundw
              case rel => exact ⟨i + 1, i, left, true, by omega, rfl, by go_num, by rw [← HX.out, HS.out], blk_setAt (blk_setAt x8' 0 _) 1 _, (hb6.setCell (by simp) _).setCell (by simp) _⟩
              case measure => simp [intOf]; omega
            · rw [if_neg (by simp)] at HS
              go_wp2_with fail
              go_roundw
              case rel => exact ⟨f - 1, left - 1, rfl, rfl, by omega, by omega, by omega, by rw [← HS.out]; exact HX.out, x8', hb6⟩
              case measure => simp [intOf]; omega
          · have hok' := hok rfl
            dsimp only at hok'
            obtain ⟨hb1a, hb1b, hb2a, hb2b⟩ := hok'
            have hkb := HOWN.out b1.toNat
            have ebb := HCB.out b1.toNat (by omega)
            have ebb' := cell_keep ebb hbwz
            clear ebb
            obtain ⟨kb, hkb'⟩ : ∃ kb, ks[b1.toNat]?.getD 0 = kb := ⟨_, rfl⟩
            rw [hkb'] at hkb ebb' HS
            have HKB := Lib.hid hkb'
            clear hkb'
            obtain ⟨p1, p2⟩ := mul_bd (a := left) (x := kb) (A := 20) (C := 20) (by omega) (by omega) (by omega) (by omega) (by omega)
            obtain ⟨p3, p4⟩ := mul_bd (a := b2) (x := k) (A := 20) (C := 20) (by omega) (by omega) (by omega) (by omega) (by omega)
            by_cases hle : left * kb ≤ b2 * k
            · rw [if_pos ⟨rfl, hle⟩] at HS
              go_wp2_with fail
              refine Calmly.wp_region_mix 15 (.fl 0 <| .fl 1 <| .gl 2 <| .gl 3 <| .gl 4 <| .gl 5 <| .gl 6 <| .gl 7 <| .gl 8 <| .gl 9 <| .gl 10 <| .gl 11 <| .gl 12 <| .gl 13 <| .gl 14 <| .tail [15]) (by kernel_rfl) (by kernel_rfl) ?_
              have hk := Below.refl wz.drew.heap.size wz.drew
              go_wp2_with (first | ((with_reducible refine Calmly.is_fl ?_); refine Calmly.mix_fl rfl ?_ (fun _ _ => ?_); (first | exact .move _ | exact .load _ _ | exact .fieldAddr _ _ _ (by kernel_rfl) | exact .assign _ | exact .binOp _ _ _ _ _ rfl | exact .indexAddr _ _ _ | exact .len _ _ (by kernel_rfl) | exact .field _ _ _ | exact .extract _ _ | exact .pick _ _ _ | exact .build _ _ | exact .slice _ _ _ _ _ | exact .unOp _ _ _ rfl | exact .index _ _ _ | exact .max _ _ _ rfl rfl | exact .min _ _ _ rfl rfl | exact .nilCheck _ _ rfl)) | ((with_reducible refine Calmly.is_gl ?_); refine Calmly.mix_gl rfl rfl rfl ?_; first | ((first | with_reducible refine Calmly.gl_tt ?_ (fun _ _ => ?_) | with_reducible refine Calmly.gl_ff ?_ (fun _ _ => ?_)); (first | exact .move _ | exact .load _ _ | exact .fieldAddr _ _ _ (by kernel_rfl) | exact .assign _ | exact .binOp _ _ _ _ _ rfl | exact .indexAddr _ _ _ | exact .len _ _ (by kernel_rfl) | exact .field _ _ _ | exact .extract _ _ | exact .pick _ _ _ | exact .build _ _ | exact .slice _ _ _ _ _ | exact .unOp _ _ _ rfl | exact .index _ _ _ | exact .max _ _ _ rfl rfl | exact .min _ _ _ rfl rfl | exact .nilCheck _ _ rfl)) | with_reducible refine Calmly.gl_tf (fun _ _ => ?_) | with_reducible refine Calmly.gl_ft (fun _ _ => ?_)) | ((with_reducible refine Calmly.is_eff ?_); refine Calmly.mix_eff rfl (fun _ _ => ?_)) | ((with_reducible refine Calmly.is_gf ?_); refine Calmly.mix_gf rfl rfl rfl ?_; first | with_reducible refine Calmly.gf_tt (fun _ _ => ?_) | with_reducible refine Calmly.gf_ff (fun _ _ => ?_) | with_reducible refine Calmly.gf_tf (kept_of hk) (fun _ _ => ?_) | with_reducible refine Calmly.gf_ft (kept_of hk) (fun _ _ => ?_)) | ((with_reducible refine Calmly.is_tail ?_); first | refine Calmly.mix_tail_nil ?_ | refine Calmly.mix_tail rfl (fun _ _ => ?_)) | ((with_reducible refine Calmly.is_kept ?_); refine ⟨kept_of hk, ?_⟩) | (with_reducible refine Calmly.mix_alt ?_ ?_))
              go_roundw
              case rel => exact ⟨i + 1, b1, b2, true, by omega, rfl, by go_num, by rw [← HX.out, HS.out], x8, hbvz.drew⟩
              case measure => simp [intOf]; omega
            · rw [if_neg (fun h => hle h.2)] at HS
              have hgt : b2 * k < left * kb := by omega
              clear hle
              go_wp2_with fail
              refine Calmly.wp_region_mix 15 (.fl 0 <| .fl 1 <| .gl 2 <| .gl 3 <| .gl 4 <| .gl 5 <| .gl 6 <| .gl 7 <| .gl 8 <| .gl 9 <| .gl 10 <| .gl 11 <| .gl 12 <| .gl 13 <| .gl 14 <| .tail [15]) (by kernel_rfl) (by kernel_rfl) ?_
              have hk := Below.refl wz.drew.heap.size wz.drew
              go_wp2_with (first | ((with_reducible refine Calmly.is_fl ?_); refine Calmly.mix_fl rfl ?_ (fun _ _ => ?_); (first | exact .move _ | exact .load _ _ | exact .fieldAddr _ _ _ (by kernel_rfl) | exact .assign _ | exact .binOp _ _ _ _ _ rfl | exact .indexAddr _ _ _ | exact .len _ _ (by kernel_rfl) | exact .field _ _ _ | exact .extract _ _ | exact .pick _ _ _ | exact .build _ _ | exact .slice _ _ _ _ _ | exact .unOp _ _ _ rfl | exact .index _ _ _ | exact .max _ _ _ rfl rfl | exact .min _ _ _ rfl rfl | exact .nilCheck _ _ rfl)) | ((with_reducible refine Calmly.is_gl ?_); refine Calmly.mix_gl rfl rfl rfl ?_; first | ((first | with_reducible refine Calmly.gl_tt ?_ (fun _ _ => ?_) | with_reducible refine Calmly.gl_ff ?_ (fun _ _ => ?_)); (first | exact .move _ | exact .load _ _ | exact .fieldAddr _ _ _ (by kernel_rfl) | exact .assign _ | exact .binOp _ _ _ _ _ rfl | exact .indexAddr _ _ _ | exact .len _ _ (by kernel_rfl) | exact .field _ _ _ | exact .extract _ _ | exact .pick _ _ _ | exact .build _ _ | exact .slice _ _ _ _ _ | exact .unOp _ _ _ rfl | exact .index _ _ _ | exact .max _ _ _ rfl rfl | exact .min _ _ _ rfl rfl | exact .nilCheck _ _ rfl)) | with_reducible refine Calmly.gl_tf (fun _ _ => ?_) | with_reducible refine Calmly.gl_ft (fun _ _ => ?_)) | ((with_reducible refine Calmly.is_eff ?_); refine Calmly.mix_eff rfl (fun _ _ => ?_)) | ((with_reducible refine Calmly.is_gf ?_); refine Calmly.mix_gf rfl rfl rfl ?_; first | with_reducible refine Calmly.gf_tt (fun _ _ => ?_) | with_reducible refine Calmly.gf_ff (fun _ _ => ?_) | with_reducible refine Calmly.gf_tf (kept_of hk) (fun _ _ => ?_) | with_reducible refine Calmly.gf_ft (kept_of hk) (fun _ _ => ?_)) | ((with_reducible refine Calmly.is_tail ?_); first | refine Calmly.mix_tail_nil ?_ | refine Calmly.mix_tail rfl (fun _ _ => ?_)) | ((with_reducible refine Calmly.is_kept ?_); refine ⟨kept_of hk, ?_⟩) | (with_reducible refine Calmly.mix_alt ?_ ?_))
              go_wp2_with fail
              refine (odd_any a (some ⟨bb, ob, none⟩) sa m c d sn sc ms ks sq den i left _ ((h1.keep hbwz).keep (hAl _)) ((h2.keep hbwz).keep (hAl _)) ((h3.keep hbwz).keep (hAl _)) HC.out hd1 hd2 (by omega) (by omega) (by omega) (by omega) hsn o1 o2 (by simpa using HO.out)).mono ?_
              rintro e w5 ⟨rfl, hb5⟩
              have hb6 : Below (w1.heap.size + 1) v w5 := (hbvz.trans ((hAl (.cells #[.int .i64 i, .int .i64 left] 74)).mono (by omega))).trans (hb5.mono (by show _ ≤ (wz.alloc _).heap.size; simp; omega))
              have x8' : w5.heap[w1.heap.size + 1]? = some (.cells #[.int .i64 b1, .int .i64 b2] 74) := blk_keep (blk_keep x8 (hAl (.cells #[.int .i64 i, .int .i64 left] 74))) hb5
              cases o2
              · have hnew : w5.heap[wz.heap.size]? = some (.cells #[.int .i64 i, .int .i64 left] 74) := blk_keep (w := (wz.alloc (.cells #[.int .i64 i, .int .i64 left] 74)).drew) (alloc_new _ _) hb5
                have n0 : w5.cell? ⟨wz.heap.size, 0, none⟩ = some (.int .i64 i) := cell_block hnew 0
                have n1 : w5.cell? ⟨wz.heap.size, 1, none⟩ = some (.int .i64 left) := cell_block hnew 1
                have y0 : w5.cell? ⟨w1.heap.size + 1, 0, none⟩ = some (.int .i64 b1) := cell_block x8' 0
                have y1 : w5.cell? ⟨w1.heap.size + 1, 1, none⟩ = some (.int .i64 b2) := cell_block x8' 1
                have y2 : w5.frozen? ⟨w1.heap.size + 1, 0, none⟩ = false := frozen_block x8' 0
                have y3 : w5.frozen? ⟨w1.heap.size + 1, 1, none⟩ = false := frozen_block x8' 1
                rw [if_pos rfl] at HS
                go_wp2_with fail
                go_roundw
                case rel => exact ⟨i + 1, i, left, true, by omega, rfl, by go_num, by rw [← HX.out, HS.out], blk_setAt (blk_setAt x8' 0 _) 1 _, (hb6.setCell (by simp) _).setCell (by simp) _⟩
                case measure => simp [intOf]; omega
              · rw [if_neg (by simp)] at HS
                go_wp2_with fail
                go_roundw
                case rel => exact ⟨f - 1, left - 1, rfl, rfl, by omega, by omega, by omega, by rw [← HS.out]; exact HX.out, x8', hb6⟩
                case measure => simp [intOf]; omega
        · have hl' : left ≤ 0 := by omega
          have hs : exIn ms ks den sq i k f left ((b1, b2), fd) = ((b1, b2), fd) := by
            cases f with
            | zero => rfl
            | succ f => rw [exIn, if_neg hl]
          have HS := Lib.hid hs
          clear hs hl
          go_wp2_with fail
          go_roundw
          case rel => exact ⟨i + 1, b1, b2, fd, by omega, rfl, by go_num, by rw [← HX.out, HS.out], x8, hbvz⟩
          case measure => simp [intOf]; omega
    · have hle : (m : Int) ≤ (i : Int) := by omega
      have hfin : ((b1, b2), fd) = ((r1, r2), r3) := by
        rw [← HEX.out, ← HR.out]
        unfold exF
        congr 1
        omega
      cases hfin
      have x2o := (hbr.block _ (by omega)).trans x2v
      have g4 : wo.cell? ⟨w1.heap.size + 1, 0, none⟩ = some (.int .i64 r1) := cell_block x8 0
      have g5 : wo.cell? ⟨w1.heap.size + 1, 1, none⟩ = some (.int .i64 r2) := cell_block x8 1
      have z0 : wo.cell? ⟨w.heap.size + 1 + 1, 0, none⟩ = some (.int .i64 0) := cell_block x2o 0
      have z1 : wo.cell? ⟨w.heap.size + 1 + 1, 1, none⟩ = some (.int .i64 0) := cell_block x2o 1
      have z2 : wo.frozen? ⟨w.heap.size + 1 + 1, 0, none⟩ = false := frozen_block x2o 0
      have z3 : wo.frozen? ⟨w.heap.size + 1 + 1, 1, none⟩ = false := frozen_block x2o 1
      obtain ⟨s1, s2, s3, s4⟩ := set2 (v := wo) (x := .int .i64 r1) (y := .int .i64 r2) z0 z1
      have hbwo := hbwv.trans (hbr.mono (by omega))
      go_wp2_with fail
      refine Calmly.wp_region_mix 3 (.fl 0 <| .fl 1 <| .eff 2 <| .tail [3, 4]) (by kernel_rfl) (by kernel_rfl) ?_
      have hk := Below.refl wo.drew.heap.size wo.drew
      go_wp2_with (first | ((with_reducible refine Calmly.is_fl ?_); refine Calmly.mix_fl rfl ?_ (fun _ _ => ?_); (first | exact .move _ | exact .load _ _ | exact .fieldAddr _ _ _ (by kernel_rfl) | exact .assign _ | exact .binOp _ _ _ _ _ rfl | exact .indexAddr _ _ _ | exact .len _ _ (by kernel_rfl) | exact .field _ _ _ | exact .extract _ _ | exact .pick _ _ _ | exact .build _ _ | exact .slice _ _ _ _ _ | exact .unOp _ _ _ rfl | exact .index _ _ _ | exact .max _ _ _ rfl rfl | exact .min _ _ _ rfl rfl | exact .nilCheck _ _ rfl)) | ((with_reducible refine Calmly.is_gl ?_); refine Calmly.mix_gl rfl rfl rfl ?_; first | ((first | with_reducible refine Calmly.gl_tt ?_ (fun _ _ => ?_) | with_reducible refine Calmly.gl_ff ?_ (fun _ _ => ?_)); (first | exact .move _ | exact .load _ _ | exact .fieldAddr _ _ _ (by kernel_rfl) | exact .assign _ | exact .binOp _ _ _ _ _ rfl | exact .indexAddr _ _ _ | exact .len _ _ (by kernel_rfl) | exact .field _ _ _ | exact .extract _ _ | exact .pick _ _ _ | exact .build _ _ | exact .slice _ _ _ _ _ | exact .unOp _ _ _ rfl | exact .index _ _ _ | exact .max _ _ _ rfl rfl | exact .min _ _ _ rfl rfl | exact .nilCheck _ _ rfl)) | with_reducible refine Calmly.gl_tf (fun _ _ => ?_) | with_reducible refine Calmly.gl_ft (fun _ _ => ?_)) | ((with_reducible refine Calmly.is_eff ?_); refine Calmly.mix_eff rfl (fun _ _ => ?_)) | ((with_reducible refine Calmly.is_gf ?_); refine Calmly.mix_gf rfl rfl rfl ?_; first | with_reducible refine Calmly.gf_tt (fun _ _ => ?_) | with_reducible refine Calmly.gf_ff (fun _ _ => ?_) | with_reducible refine Calmly.gf_tf (kept_of hk) (fun _ _ => ?_) | with_reducible refine Calmly.gf_ft (kept_of hk) (fun _ _ => ?_)) | ((with_reducible refine Calmly.is_tail ?_); first | refine Calmly.mix_tail_nil ?_ | refine Calmly.mix_tail rfl (fun _ _ => ?_)) | ((with_reducible refine Calmly.is_kept ?_); refine ⟨kept_of hk, ?_⟩) | (with_reducible refine Calmly.mix_alt ?_ ?_) | (go_at_call 61; refine (unless_any _ _ _).mono ?_; rintro e w' ⟨rfl, rfl⟩))
      refine bodyPost_ret (v := .tuple #[.agg #[.int .i64 r1, .int .i64 r2], .int .i64 (unlessE r3 12)]) (by simp [results, Tryz.results41, go_sem, s1, s2]) rfl ⟨rfl, ?_⟩
      exact ((hbwo.setCell (by show _ ≤ w.heap.size + 1 + 1; omega) _).setCell (by show _ ≤ w.heap.size + 1 + 1; omega) _).drew
end Go.Proofs.YteigmjlfpmdmoaaGreatDoor

namespace Go.Proofs.YteigmjlfpmdmoaaGreatDoor
open Go.RowKit
open Calmly (Kept)

theorem ex_check : checkF [1, 1] [2, 1] = (0, 0) := by kernel_rfl
theorem ex_poly : polyF [1, 1] [2, 1] = [2, -4, 1] := by kernel_rfl
theorem ex_encErr : encErr [1, 1] [2, 1] 1 10 = 0 := by kernel_rfl
theorem ex_enc : encF [1, 1] [2, 1] 1 10 = (34, 35) := by kernel_rfl
theorem ex_after : afterE [1, 1] [2, 1] 10 [(3, 4), (26, 28)] = 0 := by kernel_rfl
theorem ex_expl : exF [1, 1] [2, 1] 10 [(3, 4), (26, 28)] = ((0, 1), true) := by kernel_rfl
theorem ex_perE : periodE [-3, 5, 8, 4, -6, -2, 3, 5, -4, -1, 4] 2 = 0 := by kernel_rfl
theorem ex_per : periodF [-3, 5, 8, 4, -6, -2, 3, 5, -4, -1, 4] 2 = ((7, 2), (5, 1)) := by kernel_rfl

theorem SI.lit (w : World) (xs : List Int) (e : TypeId) {r n : Nat} (hr : r = w.heap.size) (hn : n = xs.length) (hm : n ≤ 1000) : SI (w.alloc (.cells (xs.map (Value.int .i64)).toArray e)) (some ⟨r, 0, none⟩) n n xs := by
  subst hr hn
  refine ⟨by simp, Nat.le_refl _, by unfold maxLen; omega, .inr ⟨_, 0, rfl, fun i hi => ?_⟩⟩
  rw [Nat.zero_add, cell_block (alloc_new _ _)]
  simp

set_option maxRecDepth 100000 in
set_option maxHeartbeats 1000000 in
theorem lFrame_any (w : World) : Calls Tryz.prog 54 #[] w fun e w' => ∃ a b, e = .returned (.agg #[.slice a 2 2, .slice b 2 2]) ∧ SI w' a 2 2 [1, 1] ∧ SI w' b 2 2 [2, 1] ∧ Below w.heap.size w w' := by
  go_enter Tryz.func54, Tryz.ntmps54
  go_wp2_with fail
  have h1 := (SI.two (w.alloc (.cells #[.slice (some ⟨w.heap.size + 1, 0, none⟩) 2 2, .slice (some ⟨w.heap.size + 1 + 1, 0, none⟩) 2 2] 52)) 1 1 3 (r := w.heap.size + 1) (by simp)).keep ((Below.refl _ _).alloc (Nat.le_refl _) (.cells #[.int .i64 2, .int .i64 1] 3))
  have h2 := SI.two ((w.alloc (.cells #[.slice (some ⟨w.heap.size + 1, 0, none⟩) 2 2, .slice (some ⟨w.heap.size + 1 + 1, 0, none⟩) 2 2] 52)).alloc (.cells #[.int .i64 1, .int .i64 1] 3)) 2 1 3 (r := w.heap.size + 1 + 1) (by simp)
  refine bodyPost_ret (v := .agg #[.slice (some ⟨w.heap.size + 1, 0, none⟩) 2 2, .slice (some ⟨w.heap.size + 1 + 1, 0, none⟩) 2 2]) (by simp [results, Tryz.results54, go_sem]) rfl ⟨_, _, rfl, h1, h2, ?_⟩
  exact (((Below.refl _ _).alloc (Nat.le_refl _) _).alloc (by simp) _).alloc (by simp; omega) _
set_option maxRecDepth 100000 in
set_option maxHeartbeats 1000000 in
theorem lDecay_any (w : World) : Calls Tryz.prog 55 #[] w fun e w' => ∃ a, e = .returned (.agg #[.slice a 11 11, .int .i64 2]) ∧ SI w' a 11 11 [-3, 5, 8, 4, -6, -2, 3, 5, -4, -1, 4] ∧ Below w.heap.size w w' := by
  go_enter Tryz.func55, Tryz.ntmps55
  go_wp2_with fail
  have h1 := SI.lit (w.alloc (.cells #[.slice (some ⟨w.heap.size + 1, 0, none⟩) 11 11, .int .i64 2] 28)) [-3, 5, 8, 4, -6, -2, 3, 5, -4, -1, 4] 3 (r := w.heap.size + 1) (n := 11) (by simp) rfl (by omega)
  refine bodyPost_ret (v := .agg #[.slice (some ⟨w.heap.size + 1, 0, none⟩) 11 11, .int .i64 2]) (by simp [results, Tryz.results55, go_sem]) rfl ⟨_, rfl, h1, ?_⟩
  exact ((Below.refl _ _).alloc (Nat.le_refl _) _).alloc (by simp) _

theorem SR.two (w : World) (x y z u : Int) (e : TypeId) {r : Nat} (hr : r = w.heap.size) : SR (w.alloc (.cells #[.int .i64 x, .int .i64 y, .int .i64 z, .int .i64 u] e)) (some ⟨r, 0, none⟩) 2 2 [(x, y), (z, u)] := by
  subst hr
  refine ⟨rfl, Nat.le_refl _, by unfold maxLen; omega, .inr ⟨_, 0, rfl, fun i hi => ?_⟩⟩
  rw [Nat.zero_add, cell_block (alloc_new _ _)]
  simp [rv]

set_option maxRecDepth 100000 in
set_option maxHeartbeats 4000000 in
theorem awake_any (w : World) : Calls Tryz.prog 46 #[] w fun e w' => e = .returned (.bool true) ∧ Below w.heap.size w w' := by
  go_enter Tryz.func46, Tryz.ntmps46
  go_wp2_with fail
  refine (lFrame_any _).mono ?_
  rintro e w1 ⟨a1, b1, rfl, fa1, fb1, hb1⟩
  go_wp2_with fail
  refine (PolynomialOf_ok a1 b1 2 2 2 2 [1, 1] [2, 1] _ fa1 fb1 (by rw [ex_check])).mono ?_
  rintro e w2 ⟨ap, cp, rfl, op, hb2⟩
  rw [ex_poly] at op
  have B2 := hb1.trans (hb2.mono hb1.size)
  go_wp2_with fail
  refine (lFrame_any _).mono ?_
  rintro e w3 ⟨a3, b3, rfl, fa3, fb3, hb3⟩
  have B3 := B2.trans (hb3.mono B2.size)
  have op3 := op.keep hb3
  go_wp2_with fail
  refine (EnclosureOf_any a3 b3 2 2 2 2 [1, 1] [2, 1] 1 10 _ fa3 fb3 0 34 35 ex_encErr (fun _ => ex_enc) (fun h => absurd rfl h)).mono ?_
  rintro e w4 ⟨rfl, hb4⟩
  have B4 := B3.trans (hb4.mono B3.size)
  have op4 := op3.keep hb4
  go_wp2_with fail
  refine (lDecay_any _).mono ?_
  rintro e w5 ⟨a5, rfl, fa5, hb5⟩
  have hA : ∀ (A : World) (o : Obj), Below A.heap.size A (A.alloc o) := fun A o => (Below.refl _ _).alloc (Nat.le_refl _) _
  have B5 := B4.trans (((hA w4 (.cells #[.int .i64 34, .int .i64 35] 46)).trans (hb5.mono (by simp))).mono B4.size)
  have op5 := (op4.keep (hA w4 (.cells #[.int .i64 34, .int .i64 35] 46))).keep hb5
  have r5 := blk_keep (alloc_new w4 (.cells #[.int .i64 34, .int .i64 35] 46)) hb5
  go_wp2_with fail
  refine (PeriodIn_any a5 11 11 _ 2 0 7 2 5 1 _ fa5 ex_perE (fun h => absurd rfl h) (fun _ => ex_per)).mono ?_
  rintro e w6 ⟨rfl, hb6⟩
  have B6 := B5.trans (hb6.mono B5.size)
  have op6 := op5.keep hb6
  have r6 := blk_keep r5 hb6
  go_wp2_with fail
  refine (lFrame_any _).mono ?_
  rintro e w7 ⟨a7, b7, rfl, fa7, fb7, hb7⟩
  have B7 := B6.trans (((hA w6 (.cells #[.int .i64 7, .int .i64 2, .int .i64 5, .int .i64 1] 41)).trans (hb7.mono (by simp))).mono B6.size)
  have op7 := (op6.keep (hA w6 (.cells #[.int .i64 7, .int .i64 2, .int .i64 5, .int .i64 1] 41))).keep hb7
  have r7 := blk_keep (blk_keep r6 (hA w6 (.cells #[.int .i64 7, .int .i64 2, .int .i64 5, .int .i64 1] 41))) hb7
  have s7 := blk_keep (alloc_new w6 (.cells #[.int .i64 7, .int .i64 2, .int .i64 5, .int .i64 1] 41)) hb7
  have q7 := SR.two w7 3 4 26 28 46 rfl
  go_wp2_with fail
  refine (ExplainedBy_ok a7 b7 (some ⟨w7.heap.size, 0, none⟩) 2 2 2 2 2 [1, 1] [2, 1] [(3, 4), (26, 28)] 10 _ (fa7.keep (hA _ _)) (fb7.keep (hA _ _)) q7 ex_after (by rw [ex_check]) (by omega) (by omega) (by omega) 0 1 true ex_expl).mono ?_
  rintro e w8 ⟨rfl, hb8⟩
  have B8 := B7.trans (((hA w7 (.cells #[.int .i64 3, .int .i64 4, .int .i64 26, .int .i64 28] 46)).trans (hb8.mono (by simp))).mono B7.size)
  have op8 := (op7.keep (hA w7 (.cells #[.int .i64 3, .int .i64 4, .int .i64 26, .int .i64 28] 46))).keep hb8
  have r8 := blk_keep (blk_keep r7 (hA w7 (.cells #[.int .i64 3, .int .i64 4, .int .i64 26, .int .i64 28] 46))) hb8
  have s8 := blk_keep (blk_keep s7 (hA w7 (.cells #[.int .i64 3, .int .i64 4, .int .i64 26, .int .i64 28] 46))) hb8
  have g0 : w8.cell? ⟨w4.heap.size, 0, none⟩ = some (.int .i64 34) := cell_block r8 0
  have g1 : w8.cell? ⟨w4.heap.size, 1, none⟩ = some (.int .i64 35) := cell_block r8 1
  have g2 : w8.cell? ⟨w6.heap.size, 0, none⟩ = some (.int .i64 7) := cell_block s8 0
  have g3 : w8.cell? ⟨w6.heap.size, 1, none⟩ = some (.int .i64 2) := cell_block s8 1
  have g4 : w8.cell? ⟨w6.heap.size, 2, none⟩ = some (.int .i64 5) := cell_block s8 2
  have g5 : w8.cell? ⟨w6.heap.size, 3, none⟩ = some (.int .i64 1) := cell_block s8 3
  have hu : unlessE true 12 = 0 := rfl
  rw [hu]
  clear B2 B3 B4 B5 B6 B7 op3 op4 op5 op6 op7 op r5 r6 r7 s7 hb1 hb2 hb3 hb4 hb5 hb6 hb7 hb8 fa1 fb1 fa3 fb3 fa5 fa7 fb7 q7
  go_wp2_with fail
  have hlt4 := blk_lt r8
  have hlt6 := blk_lt s8
  have hp : SI ((w8.alloc (.cells #[.int .i64 0, .int .i64 1] 74)).alloc (.cells #[.int .i64 2, .int .i64 (-4), .int .i64 1] 3)) ap 3 cp [2, -4, 1] := (op8.si.keep (hA _ _)).keep (hA _ _)
  refine (ints_any ap (some ⟨w8.heap.size + 1, 0, none⟩) 3 3 cp 3 [2, -4, 1] [2, -4, 1] _ hp (SI.three _ _ _ _ _ (by simp))).mono ?_
  rintro e w9 ⟨rfl, nd, rfl⟩
  have hdt : decide (([2, -4, 1] : List Int) = [2, -4, 1]) = true := by decide
  rw [hdt]
  clear op8 hp hdt
  go_wp2_with fail
  go_ret
  exact ⟨rfl, below_drewN (B8.trans (((hA _ _).trans ((hA _ _).mono (by simp))).mono B8.size)) nd⟩
end Go.Proofs.YteigmjlfpmdmoaaGreatDoor
