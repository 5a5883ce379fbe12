/- Contracts of chapter 6: squares after a run, opened. -/
import Derived.Test.YtmaidjankakppaaEa
namespace Go.Proofs.Ytmaidjankakppaa
open Go.RowKit
open Calmly (Kept)

def afterF : Int → List (Int × Int) → Int
  | e, [] => e
  | e, r :: l => afterF (firstE [e, unlessE (wIn r.1 0 1000000000 && wIn r.2 0 1000000000) 2, unlessE (decide (r.1 ≤ r.2)) 9]) l
theorem afterF_drop (e : Int) (sq : List (Int × Int)) (k : Nat) (h : k < sq.length) : afterF e (sq.drop k) =
    afterF (firstE [e, unlessE (wIn (sq[k]?.getD (0, 0)).1 0 1000000000 && wIn (sq[k]?.getD (0, 0)).2 0 1000000000) 2, unlessE (decide ((sq[k]?.getD (0, 0)).1 ≤ (sq[k]?.getD (0, 0)).2)) 9]) (sq.drop (k + 1)) := by
  rw [List.drop_eq_getElem_cons h]
  simp [afterF, h]
/-- The error of a frame and squares after a run. -/
def afterE (ms ks : List Int) (den : Int) (sq : List (Int × Int)) : Int := afterF (firstE [(checkF ms ks).2, unlessE (wIn den 1 50) 2, unlessE ((sq.length : Int) == (ms.length : Int)) 10]) sq

set_option maxRecDepth 100000 in
set_option maxHeartbeats 4000000 in
theorem openAfter_any (a b sa : Option Addr) (n c m d sn sc : Nat) (ms ks : List Int) (sq : List (Int × Int)) (den : Int) (w : World) (h1 : SI w a n c ms) (h2 : SI w b m d ks) (h3 : SR w sa sn sc sq) (E : Int) (hE : afterE ms ks den sq = E) (hsn : sn ≤ 1000000000) (hnn : n ≤ 1000000000) :
    Calls Try.prog 99 #[.agg #[.slice a n c, .slice b m d], .agg #[.int .i64 den, .slice sa sn sc]] w fun e w' => e = .returned (.tuple #[.agg #[.slice a n c, .slice b m d], .int .i64 E]) ∧ Below w.heap.size w w' := by
  have HE := Lib.hid hE
  clear hE
  obtain ⟨l1, l2⟩ : n ≤ ms.length ∧ ms.length ≤ n := by have := h1.len; omega
  obtain ⟨g1, g2⟩ : sn ≤ sq.length ∧ sq.length ≤ sn := by have := h3.len; omega
  obtain ⟨hbV, hVs⟩ := allocs_below [(.cells #[.slice a n c, .slice b m d] 24), (.cells #[.int .i64 den, .slice sa sn sc] 44), (.cells #[.slice none 0 0, .slice none 0 0] 141)] w
  have hVa := allocs_at [(.cells #[.slice a n c, .slice b m d] 24), (.cells #[.int .i64 den, .slice sa sn sc] 44), (.cells #[.slice none 0 0, .slice none 0 0] 141)] w
  simp only [List.length_cons, List.length_nil, Nat.reduceAdd] at hVs
  have hv0 := hVa 0 (by simp)
  have hv1 := hVa 1 (by simp)
  have hv2 := hVa 2 (by simp)
  clear hVa
  go_enter Try.func99, Try.ntmps99
  go_wp2_with fail
  refine (open_any a b n c m d ms ks _ (h1.keep hbV) (h2.keep hbV)).mono ?_
  rintro e w1 ⟨rfl, hb1⟩
  have x0 : w1.heap[w.heap.size]? = some _ := blk_keep hv0 hb1
  have x1 : w1.heap[w.heap.size + 1]? = some _ := blk_keep hv1 hb1
  have x2 : w1.heap[w.heap.size + 2]? = some _ := blk_keep hv2 hb1
  have hbw : Below w.heap.size w w1 := hbV.trans (hb1.mono (by omega))
  have hs2 := blk_lt x2
  have hs1 := blk_lt x1
  have hs0 := blk_lt x0
  clear hv0 hv1 hv2 hb1 hVs hbV
  have f0 : w1.cell? ⟨w.heap.size, 0, none⟩ = some (.slice a n c) := cell_block x0 0
  have f1 : w1.cell? ⟨w.heap.size, 1, none⟩ = some (.slice b m d) := cell_block x0 1
  have f2 : w1.cell? ⟨w.heap.size + 1, 0, none⟩ = some (.int .i64 den) := cell_block x1 0
  have f3 : w1.cell? ⟨w.heap.size + 1, 1, none⟩ = some (.slice sa sn sc) := cell_block x1 1
  go_wp2_with fail
  refine Calmly.wp_region_mix 15 (.fl 0 <| .fl 1 <| .fl 2 <| .fl 5 <| .fl 6 <| .fl 7 <| .fl 8 <| .fl 9 <| .fl 10 <| .fl 11 <| .eff 3 <| .eff 4 <| .eff 12 <| .eff 13 <| .eff 14 <| .tail [15]) (by kernel_rfl) (by kernel_rfl) ?_
  rename_i K hK
  have hK' := fun a w (h : Stop _) => hK a w h.out
  clear hK
  have hk := Below.refl (w1.alloc (.cells #[.slice a n c, .slice b m d] 141)).drew.heap.size (w1.alloc (.cells #[.slice a n c, .slice b m d] 141)).drew
  go_wp2_with (first | ((with_reducible refine Calmly.is_fl ?_); refine Calmly.mix_fl rfl ?_ (fun _ _ => ?_); (first | exact .move _ | exact .load _ _ | exact .fieldAddr _ _ _ (by kernel_rfl) | exact .assign _ | exact .binOp _ _ _ _ _ rfl | exact .indexAddr _ _ _ | exact .len _ _ (by kernel_rfl) | exact .field _ _ _ | exact .extract _ _ | exact .pick _ _ _ | exact .build _ _ | exact .slice _ _ _ _ _ | exact .unOp _ _ _ rfl | exact .index _ _ _ | exact .max _ _ _ rfl rfl | exact .min _ _ _ rfl rfl)) | ((with_reducible refine Calmly.is_gl ?_); refine Calmly.mix_gl rfl rfl rfl ?_; first | ((first | with_reducible refine Calmly.gl_tt ?_ (fun _ _ => ?_) | with_reducible refine Calmly.gl_ff ?_ (fun _ _ => ?_)); (first | exact .move _ | exact .load _ _ | exact .fieldAddr _ _ _ (by kernel_rfl) | exact .assign _ | exact .binOp _ _ _ _ _ rfl | exact .indexAddr _ _ _ | exact .len _ _ (by kernel_rfl) | exact .field _ _ _ | exact .extract _ _ | exact .pick _ _ _ | exact .build _ _ | exact .slice _ _ _ _ _ | exact .unOp _ _ _ rfl | exact .index _ _ _ | exact .max _ _ _ rfl rfl | exact .min _ _ _ rfl rfl)) | with_reducible refine Calmly.gl_tf (fun _ _ => ?_) | with_reducible refine Calmly.gl_ft (fun _ _ => ?_)) | ((with_reducible refine Calmly.is_eff ?_); refine Calmly.mix_eff rfl (fun _ _ => ?_)) | ((with_reducible refine Calmly.is_gf ?_); refine Calmly.mix_gf rfl rfl rfl ?_; first | with_reducible refine Calmly.gf_tt (fun _ _ => ?_) | with_reducible refine Calmly.gf_ff (fun _ _ => ?_) | with_reducible refine Calmly.gf_tf (kept_of hk) (fun _ _ => ?_) | with_reducible refine Calmly.gf_ft (kept_of hk) (fun _ _ => ?_)) | ((with_reducible refine Calmly.is_kept ?_); refine ⟨kept_of hk, ?_⟩) | (with_reducible refine Calmly.mix_alt ?_ ?_) | (refine kept_alloc hk (fun hk' hblk hge => ?_); replace hk := hk'; clear hk') | (go_at_call 92; refine (unless_any _ _ _).mono ?_; rintro e w' ⟨rfl, rfl⟩) | (go_at_call 104; refine (isDen_any _ _).mono ?_; rintro e w' ⟨rfl, rfl⟩))
  refine (first_any _ 3 3 _ _ (SI.three _ _ _ _ _ (size_alloc_drew _ _))).mono ?_
  rintro e w' ⟨rfl, rfl⟩
  have he1 : afterF (firstE [(checkF ms ks).2, unlessE (wIn den 1 50) 2, unlessE ((sn : Int) == (n : Int)) 10]) sq = E := by
    rw [← HE.out, show (sn : Int) = (sq.length : Int) by omega, show (n : Int) = (ms.length : Int) by omega]
    rfl
  have HE1 := Lib.hid he1
  clear he1
  go_wp2_with (first | ((with_reducible refine Calmly.is_fl ?_); refine Calmly.mix_fl rfl ?_ (fun _ _ => ?_); (first | exact .move _ | exact .load _ _ | exact .fieldAddr _ _ _ (by kernel_rfl) | exact .assign _ | exact .binOp _ _ _ _ _ rfl | exact .indexAddr _ _ _ | exact .len _ _ (by kernel_rfl) | exact .field _ _ _ | exact .extract _ _ | exact .pick _ _ _ | exact .build _ _ | exact .slice _ _ _ _ _ | exact .unOp _ _ _ rfl | exact .index _ _ _ | exact .max _ _ _ rfl rfl | exact .min _ _ _ rfl rfl)) | ((with_reducible refine Calmly.is_gl ?_); refine Calmly.mix_gl rfl rfl rfl ?_; first | ((first | with_reducible refine Calmly.gl_tt ?_ (fun _ _ => ?_) | with_reducible refine Calmly.gl_ff ?_ (fun _ _ => ?_)); (first | exact .move _ | exact .load _ _ | exact .fieldAddr _ _ _ (by kernel_rfl) | exact .assign _ | exact .binOp _ _ _ _ _ rfl | exact .indexAddr _ _ _ | exact .len _ _ (by kernel_rfl) | exact .field _ _ _ | exact .extract _ _ | exact .pick _ _ _ | exact .build _ _ | exact .slice _ _ _ _ _ | exact .unOp _ _ _ rfl | exact .index _ _ _ | exact .max _ _ _ rfl rfl | exact .min _ _ _ rfl rfl)) | with_reducible refine Calmly.gl_tf (fun _ _ => ?_) | with_reducible refine Calmly.gl_ft (fun _ _ => ?_)) | ((with_reducible refine Calmly.is_eff ?_); refine Calmly.mix_eff rfl (fun _ _ => ?_)) | ((with_reducible refine Calmly.is_gf ?_); refine Calmly.mix_gf rfl rfl rfl ?_; first | with_reducible refine Calmly.gf_tt (fun _ _ => ?_) | with_reducible refine Calmly.gf_ff (fun _ _ => ?_) | with_reducible refine Calmly.gf_tf (kept_of hk) (fun _ _ => ?_) | with_reducible refine Calmly.gf_ft (kept_of hk) (fun _ _ => ?_)) | ((with_reducible refine Calmly.is_tail ?_); first | refine Calmly.mix_tail_nil ?_ | refine Calmly.mix_tail rfl (fun _ _ => ?_)) | ((with_reducible refine Calmly.is_kept ?_); refine ⟨kept_of hk, ?_⟩) | (with_reducible refine Calmly.mix_alt ?_ ?_))
  refine ⟨?_⟩
  obtain ⟨e0, he0⟩ : ∃ e0, firstE [(checkF ms ks).2, unlessE (wIn den 1 50) 2, unlessE ((sn : Int) == (n : Int)) 10] = e0 := ⟨_, rfl⟩
  rw [he0]
  have HE2 : Hid (afterF e0 sq = E) := Lib.hid (by rw [← he0]; exact HE1.out)
  have hnew : ∀ o, Below w1.heap.size w1 ((w1.alloc (.cells #[.slice a n c, .slice b m d] 141)).alloc o).drew := fun o => (((Below.refl _ _).alloc (Nat.le_refl _) _).alloc (by simp) _).drew
  refine wp_gen (fun v => Below w1.heap.size w1 v ∧ v.heap[w1.heap.size]? = some (.cells #[.slice a n c, .slice b m d] 141)) ⟨hnew _, blk_keep (w := w1.alloc (.cells #[.slice a n c, .slice b m d] 141)) (alloc_new _ _) ((Below.refl _ _).alloc (Nat.le_refl _) _ : Below _ _ ((w1.alloc (.cells #[.slice a n c, .slice b m d] 141)).alloc _)).drew⟩ ?_
  clear hk hnew HE1 he0
  rintro v ⟨hbv, hvF⟩
  have hvs := hbv.size
  have hvFs := blk_lt hvF
  have i3 : v.cell? ⟨w.heap.size + 1, 1, none⟩ = some (.slice sa sn sc) := cell_keep f3 hbv
  go_wp2_with fail
  go_loopw [7, 34] (fun x z wr => ∃ (k : Nat) (e : Int), k ≤ sn ∧ x = .int .i64 e ∧ z = .int .i64 k ∧ afterF e (sq.drop k) = E ∧ Below v.heap.size v wr) (fun _ z _ => sn - (intOf z).toNat)
  case atStart => exact ⟨0, e0, by omega, rfl, rfl, HE2.out, Below.refl _ _⟩
  case round =>
    obtain ⟨k, e, hk, rfl, rfl, ho, hbr⟩ := hrel
    have HO := Lib.hid ho
    clear ho
    have hbvr := hbv.trans (hbr.mono hvs)
    have hbwr := hbw.trans (hbvr.mono (by omega))
    have hrs := hbr.size
    by_cases hlt : k < sn
    · obtain ⟨cb, co, rfl, hcc⟩ := h3.at_ (by omega)
      obtain ⟨y0, y1⟩ := hcc k hlt
      have y0' := cell_keep y0 hbwr
      have y1' := cell_keep y1 hbwr
      clear hcc y0 y1
      have hd := afterF_drop e sq k (by omega)
      have HD := Lib.hid hd
      clear hd
      obtain ⟨rr, hrr⟩ : ∃ rr, sq[k]?.getD (0, 0) = rr := ⟨_, rfl⟩
      obtain ⟨lo, hi⟩ := rr
      rw [hrr] at y0' y1' HD
      clear hrr
      dsimp only at y0' y1' HD
      have hi1 : (k : Int) < (sn : Int) := by omega
      have hi0 : (0 : Int) ≤ (k : Int) := by omega
      have hAl : ∀ o, Below wr.heap.size wr (wr.alloc o).drew := fun o => ((Below.refl _ _).alloc (Nat.le_refl _) _).drew
      have hpre : ∀ o o', Below v.heap.size v ((wr.alloc o).alloc o').drew := fun o o' => hbr.trans ((((Below.refl wr.heap.size wr).alloc (Nat.le_refl _) o).alloc (by simp) o').drew.mono hrs)
      cases hlo : wIn lo 0 1000000000
      · rw [hlo] at HD
        have HD' : Hid (afterF (firstE [e, unlessE false 2, unlessE (decide (lo ≤ hi)) 9]) (sq.drop (k + 1)) = E) := Lib.hid (by rw [← HO.out, HD.out]; rfl)
        go_wp2_with (first | (go_at_call 93; refine (mWithin_any _ _ _ _).mono ?_; rintro e w' ⟨rfl, rfl⟩))
        refine Calmly.wp_region_mix 11 (.fl 0 <| .fl 1 <| .fl 3 <| .fl 4 <| .fl 5 <| .fl 6 <| .fl 7 <| .eff 2 <| .eff 8 <| .eff 9 <| .eff 10 <| .tail [11]) (by kernel_rfl) (by kernel_rfl) ?_
        have hk := Below.refl (wr.alloc (.cells #[.int .i64 lo, .int .i64 hi] 63)).drew.heap.size (wr.alloc (.cells #[.int .i64 lo, .int .i64 hi] 63)).drew
        go_wp2_with (first | ((with_reducible refine Calmly.is_fl ?_); refine Calmly.mix_fl rfl ?_ (fun _ _ => ?_); (first | exact .move _ | exact .load _ _ | exact .fieldAddr _ _ _ (by kernel_rfl) | exact .assign _ | exact .binOp _ _ _ _ _ rfl | exact .indexAddr _ _ _ | exact .len _ _ (by kernel_rfl) | exact .field _ _ _ | exact .extract _ _ | exact .pick _ _ _ | exact .build _ _ | exact .slice _ _ _ _ _ | exact .unOp _ _ _ rfl | exact .index _ _ _ | exact .max _ _ _ rfl rfl | exact .min _ _ _ rfl rfl)) | ((with_reducible refine Calmly.is_gl ?_); refine Calmly.mix_gl rfl rfl rfl ?_; first | ((first | with_reducible refine Calmly.gl_tt ?_ (fun _ _ => ?_) | with_reducible refine Calmly.gl_ff ?_ (fun _ _ => ?_)); (first | exact .move _ | exact .load _ _ | exact .fieldAddr _ _ _ (by kernel_rfl) | exact .assign _ | exact .binOp _ _ _ _ _ rfl | exact .indexAddr _ _ _ | exact .len _ _ (by kernel_rfl) | exact .field _ _ _ | exact .extract _ _ | exact .pick _ _ _ | exact .build _ _ | exact .slice _ _ _ _ _ | exact .unOp _ _ _ rfl | exact .index _ _ _ | exact .max _ _ _ rfl rfl | exact .min _ _ _ rfl rfl)) | with_reducible refine Calmly.gl_tf (fun _ _ => ?_) | with_reducible refine Calmly.gl_ft (fun _ _ => ?_)) | ((with_reducible refine Calmly.is_eff ?_); refine Calmly.mix_eff rfl (fun _ _ => ?_)) | ((with_reducible refine Calmly.is_gf ?_); refine Calmly.mix_gf rfl rfl rfl ?_; first | with_reducible refine Calmly.gf_tt (fun _ _ => ?_) | with_reducible refine Calmly.gf_ff (fun _ _ => ?_) | with_reducible refine Calmly.gf_tf (kept_of hk) (fun _ _ => ?_) | with_reducible refine Calmly.gf_ft (kept_of hk) (fun _ _ => ?_)) | ((with_reducible refine Calmly.is_kept ?_); refine ⟨kept_of hk, ?_⟩) | (with_reducible refine Calmly.mix_alt ?_ ?_) | (refine kept_alloc hk (fun hk' hblk hge => ?_); replace hk := hk'; clear hk') | (go_at_call 92; refine (unless_any _ _ _).mono ?_; rintro e w' ⟨rfl, rfl⟩))
        refine (first_any _ 3 3 _ _ (SI.three _ _ _ _ _ (size_alloc_drew _ _))).mono ?_
        rintro e w' ⟨rfl, rfl⟩
        go_wp2_with (first | ((with_reducible refine Calmly.is_fl ?_); refine Calmly.mix_fl rfl ?_ (fun _ _ => ?_); (first | exact .move _ | exact .load _ _ | exact .fieldAddr _ _ _ (by kernel_rfl) | exact .assign _ | exact .binOp _ _ _ _ _ rfl | exact .indexAddr _ _ _ | exact .len _ _ (by kernel_rfl) | exact .field _ _ _ | exact .extract _ _ | exact .pick _ _ _ | exact .build _ _ | exact .slice _ _ _ _ _ | exact .unOp _ _ _ rfl | exact .index _ _ _ | exact .max _ _ _ rfl rfl | exact .min _ _ _ rfl rfl)) | ((with_reducible refine Calmly.is_gl ?_); refine Calmly.mix_gl rfl rfl rfl ?_; first | ((first | with_reducible refine Calmly.gl_tt ?_ (fun _ _ => ?_) | with_reducible refine Calmly.gl_ff ?_ (fun _ _ => ?_)); (first | exact .move _ | exact .load _ _ | exact .fieldAddr _ _ _ (by kernel_rfl) | exact .assign _ | exact .binOp _ _ _ _ _ rfl | exact .indexAddr _ _ _ | exact .len _ _ (by kernel_rfl) | exact .field _ _ _ | exact .extract _ _ | exact .pick _ _ _ | exact .build _ _ | exact .slice _ _ _ _ _ | exact .unOp _ _ _ rfl | exact .index _ _ _ | exact .max _ _ _ rfl rfl | exact .min _ _ _ rfl rfl)) | with_reducible refine Calmly.gl_tf (fun _ _ => ?_) | with_reducible refine Calmly.gl_ft (fun _ _ => ?_)) | ((with_reducible refine Calmly.is_eff ?_); refine Calmly.mix_eff rfl (fun _ _ => ?_)) | ((with_reducible refine Calmly.is_gf ?_); refine Calmly.mix_gf rfl rfl rfl ?_; first | with_reducible refine Calmly.gf_tt (fun _ _ => ?_) | with_reducible refine Calmly.gf_ff (fun _ _ => ?_) | with_reducible refine Calmly.gf_tf (kept_of hk) (fun _ _ => ?_) | with_reducible refine Calmly.gf_ft (kept_of hk) (fun _ _ => ?_)) | ((with_reducible refine Calmly.is_tail ?_); first | refine Calmly.mix_tail_nil ?_ | refine Calmly.mix_tail rfl (fun _ _ => ?_)) | ((with_reducible refine Calmly.is_kept ?_); refine ⟨kept_of hk, ?_⟩) | (with_reducible refine Calmly.mix_alt ?_ ?_))
        go_roundw
        case rel => exact ⟨k + 1, _, by omega, rfl, by go_num, HD'.out, hpre _ _⟩
        case measure => simp [intOf]; omega
      · rw [hlo, Bool.true_and] at HD
        have HD' : Hid (afterF (firstE [e, unlessE (wIn hi 0 1000000000) 2, unlessE (decide (lo ≤ hi)) 9]) (sq.drop (k + 1)) = E) := Lib.hid (by rw [← HO.out, HD.out])
        go_wp2_with (first | (go_at_call 93; refine (mWithin_any _ _ _ _).mono ?_; rintro e w' ⟨rfl, rfl⟩))
        refine Calmly.wp_region_mix 11 (.fl 0 <| .fl 1 <| .fl 3 <| .fl 4 <| .fl 5 <| .fl 6 <| .fl 7 <| .eff 2 <| .eff 8 <| .eff 9 <| .eff 10 <| .tail [11]) (by kernel_rfl) (by kernel_rfl) ?_
        have hk := Below.refl (wr.alloc (.cells #[.int .i64 lo, .int .i64 hi] 63)).drew.heap.size (wr.alloc (.cells #[.int .i64 lo, .int .i64 hi] 63)).drew
        go_wp2_with (first | ((with_reducible refine Calmly.is_fl ?_); refine Calmly.mix_fl rfl ?_ (fun _ _ => ?_); (first | exact .move _ | exact .load _ _ | exact .fieldAddr _ _ _ (by kernel_rfl) | exact .assign _ | exact .binOp _ _ _ _ _ rfl | exact .indexAddr _ _ _ | exact .len _ _ (by kernel_rfl) | exact .field _ _ _ | exact .extract _ _ | exact .pick _ _ _ | exact .build _ _ | exact .slice _ _ _ _ _ | exact .unOp _ _ _ rfl | exact .index _ _ _ | exact .max _ _ _ rfl rfl | exact .min _ _ _ rfl rfl)) | ((with_reducible refine Calmly.is_gl ?_); refine Calmly.mix_gl rfl rfl rfl ?_; first | ((first | with_reducible refine Calmly.gl_tt ?_ (fun _ _ => ?_) | with_reducible refine Calmly.gl_ff ?_ (fun _ _ => ?_)); (first | exact .move _ | exact .load _ _ | exact .fieldAddr _ _ _ (by kernel_rfl) | exact .assign _ | exact .binOp _ _ _ _ _ rfl | exact .indexAddr _ _ _ | exact .len _ _ (by kernel_rfl) | exact .field _ _ _ | exact .extract _ _ | exact .pick _ _ _ | exact .build _ _ | exact .slice _ _ _ _ _ | exact .unOp _ _ _ rfl | exact .index _ _ _ | exact .max _ _ _ rfl rfl | exact .min _ _ _ rfl rfl)) | with_reducible refine Calmly.gl_tf (fun _ _ => ?_) | with_reducible refine Calmly.gl_ft (fun _ _ => ?_)) | ((with_reducible refine Calmly.is_eff ?_); refine Calmly.mix_eff rfl (fun _ _ => ?_)) | ((with_reducible refine Calmly.is_gf ?_); refine Calmly.mix_gf rfl rfl rfl ?_; first | with_reducible refine Calmly.gf_tt (fun _ _ => ?_) | with_reducible refine Calmly.gf_ff (fun _ _ => ?_) | with_reducible refine Calmly.gf_tf (kept_of hk) (fun _ _ => ?_) | with_reducible refine Calmly.gf_ft (kept_of hk) (fun _ _ => ?_)) | ((with_reducible refine Calmly.is_kept ?_); refine ⟨kept_of hk, ?_⟩) | (with_reducible refine Calmly.mix_alt ?_ ?_) | (refine kept_alloc hk (fun hk' hblk hge => ?_); replace hk := hk'; clear hk') | (go_at_call 92; refine (unless_any _ _ _).mono ?_; rintro e w' ⟨rfl, rfl⟩))
        refine (first_any _ 3 3 _ _ (SI.three _ _ _ _ _ (size_alloc_drew _ _))).mono ?_
        rintro e w' ⟨rfl, rfl⟩
        go_wp2_with (first | ((with_reducible refine Calmly.is_fl ?_); refine Calmly.mix_fl rfl ?_ (fun _ _ => ?_); (first | exact .move _ | exact .load _ _ | exact .fieldAddr _ _ _ (by kernel_rfl) | exact .assign _ | exact .binOp _ _ _ _ _ rfl | exact .indexAddr _ _ _ | exact .len _ _ (by kernel_rfl) | exact .field _ _ _ | exact .extract _ _ | exact .pick _ _ _ | exact .build _ _ | exact .slice _ _ _ _ _ | exact .unOp _ _ _ rfl | exact .index _ _ _ | exact .max _ _ _ rfl rfl | exact .min _ _ _ rfl rfl)) | ((with_reducible refine Calmly.is_gl ?_); refine Calmly.mix_gl rfl rfl rfl ?_; first | ((first | with_reducible refine Calmly.gl_tt ?_ (fun _ _ => ?_) | with_reducible refine Calmly.gl_ff ?_ (fun _ _ => ?_)); (first | exact .move _ | exact .load _ _ | exact .fieldAddr _ _ _ (by kernel_rfl) | exact .assign _ | exact .binOp _ _ _ _ _ rfl | exact .indexAddr _ _ _ | exact .len _ _ (by kernel_rfl) | exact .field _ _ _ | exact .extract _ _ | exact .pick _ _ _ | exact .build _ _ | exact .slice _ _ _ _ _ | exact .unOp _ _ _ rfl | exact .index _ _ _ | exact .max _ _ _ rfl rfl | exact .min _ _ _ rfl rfl)) | with_reducible refine Calmly.gl_tf (fun _ _ => ?_) | with_reducible refine Calmly.gl_ft (fun _ _ => ?_)) | ((with_reducible refine Calmly.is_eff ?_); refine Calmly.mix_eff rfl (fun _ _ => ?_)) | ((with_reducible refine Calmly.is_gf ?_); refine Calmly.mix_gf rfl rfl rfl ?_; first | with_reducible refine Calmly.gf_tt (fun _ _ => ?_) | with_reducible refine Calmly.gf_ff (fun _ _ => ?_) | with_reducible refine Calmly.gf_tf (kept_of hk) (fun _ _ => ?_) | with_reducible refine Calmly.gf_ft (kept_of hk) (fun _ _ => ?_)) | ((with_reducible refine Calmly.is_tail ?_); first | refine Calmly.mix_tail_nil ?_ | refine Calmly.mix_tail rfl (fun _ _ => ?_)) | ((with_reducible refine Calmly.is_kept ?_); refine ⟨kept_of hk, ?_⟩) | (with_reducible refine Calmly.mix_alt ?_ ?_))
        go_roundw
        case rel => exact ⟨k + 1, _, by omega, rfl, by go_num, HD'.out, hpre _ _⟩
        case measure => simp [intOf]; omega
    · have hle : (sn : Int) ≤ (k : Int) := by omega
      have hee : e = E := by
        have := HO.out
        rw [List.drop_eq_nil_of_le (by omega)] at this
        exact this
      have F' := blk_keep hvF hbr
      have x2' : wr.heap[w.heap.size + 2]? = some (.cells #[.slice none 0 0, .slice none 0 0] 141) := blk_keep x2 hbvr
      have j0 : wr.cell? ⟨w1.heap.size, 0, none⟩ = some (.slice a n c) := cell_block F' 0
      have j1 : wr.cell? ⟨w1.heap.size, 1, none⟩ = some (.slice b m d) := cell_block F' 1
      have z0 : wr.cell? ⟨w.heap.size + 1 + 1, 0, none⟩ = some (.slice none 0 0) := cell_block x2' 0
      have z1 : wr.cell? ⟨w.heap.size + 1 + 1, 1, none⟩ = some (.slice none 0 0) := cell_block x2' 1
      have z2 : wr.frozen? ⟨w.heap.size + 1 + 1, 0, none⟩ = false := frozen_block x2' 0
      have z3 : wr.frozen? ⟨w.heap.size + 1 + 1, 1, none⟩ = false := frozen_block x2' 1
      obtain ⟨s1, s2, s3, s4⟩ := set2 (x := .slice a n c) (y := .slice b m d) z0 z1
      go_wp2_with fail
      refine bodyPost_ret (v := .tuple #[.agg #[.slice a n c, .slice b m d], .int .i64 e]) (by simp [results, Try.results99, go_sem, s1, s2]) rfl ⟨by rw [hee], ?_⟩
      exact (hbwr.setCell (by show _ ≤ w.heap.size + 1 + 1; omega) _).setCell (by show _ ≤ w.heap.size + 1 + 1; omega) _
end Go.Proofs.Ytmaidjankakppaa
