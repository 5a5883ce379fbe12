/- Contracts of chapter 6: displacements in lowest terms. Contracts of chapter 6: what a storey needs from above. Contracts of chapter 6: the shape at a square. -/
import Derived.Test.YteigmjlfpmdmoaaGreatDoorK20
import Derived.Maps.AppendAt
namespace Go.Proofs.YteigmjlfpmdmoaaGreatDoor
open Go.RowKit
open Calmly (Kept)

set_option maxRecDepth 100000 in
set_option maxHeartbeats 2000000 in
theorem shape_any (a : Option Addr) (n c : Nat) (ps : List Int) (D : Int) (w : World) (h1 : SI w a n c ps) (hn : 0 < n) (hn4 : n ≤ 4) (hD : 1 ≤ D) (hD2 : D ≤ 9223372036854775807) (hb : ∀ x ∈ ps, -9223372036854775807 ≤ x ∧ x ≤ 9223372036854775807) (x : Int) (xs : List Int) (hx : D.tdiv (lowG ps D) = x) (hxs : ps.map (fun p => p.tdiv (lowG ps D)) = xs) :
    Calls Tryz.prog 70 #[.slice a n c, .int .i64 D] w fun e w' => ∃ a' c' B, e = .returned (.agg #[.int .i64 x, .slice a' n c']) ∧ OwI w' B a' n c' xs ∧ w.heap.size ≤ B ∧ Below w.heap.size w w' := by
  have hA : Below w.heap.size w (w.alloc (.cells #[.int .i64 0, .slice none 0 0] 65)) := (Below.refl _ _).alloc (Nat.le_refl _) _
  obtain ⟨l1, l2⟩ : n ≤ ps.length ∧ ps.length ≤ n := by have := h1.len; omega
  have m1 := h1.max
  have c1 := h1.cap
  have HXS := Lib.hid hxs
  have HX := Lib.hid hx
  clear hxs hx
  go_enter Tryz.func70, Tryz.ntmps70
  go_wp2_with fail
  refine (clone_any a n c ps _ (h1.keep hA) (by omega) hn).mono ?_
  rintro e w1 ⟨a1, c1', rfl, ho1, hb1⟩
  have B1 := hA.trans (hb1.mono (by simp))
  have x1 := box1 (w := w) (o := .cells #[.int .i64 0, .slice none 0 0] 65) hb1
  clear hb1
  have hs1 : w.heap.size + 1 ≤ w1.heap.size := by have := blk_lt x1; omega
  replace ho1 := ho1.weak (B' := w.heap.size + 1) (by simp)
  go_wp2_with (first | (at_builtin; refine appI rfl _ _ rfl ho1 rfl rfl (by omega) (by omega) ?_; intro a2 c2 w2 ho2 hb2 hs2))
  refine (divisor_any a2 (n + 1) c2 (ps ++ [D]) _ ho2.si ?_).mono ?_
  · intro y hy
    rcases List.mem_append.1 hy with hy | hy
    · exact hb y hy
    · simp at hy
      omega
  rintro e w3 ⟨rfl, k3, hw3⟩
  have B3 : Below w.heap.size w w3 := by
    subst hw3
    exact below_drewN (B1.trans (hb2.mono (by omega))) k3
  have hs3 : w.heap.size + 1 ≤ w3.heap.size := by
    subst hw3
    show _ ≤ w2.heap.size
    omega
  have x3 : w3.heap[w.heap.size]? = some (.cells #[.int .i64 0, .slice none 0 0] 65) := by
    subst hw3
    exact (hb2.block _ (by omega)).trans x1
  clear hw3 x1 B1 hb2 ho2 ho1
  obtain ⟨g, hg⟩ : ∃ g : Nat, gcds (ps ++ [D]) = g := ⟨_, rfl⟩
  have hgp : 0 < g := by rw [← hg]; exact gcds_pos (p := D) (by simp) (by omega)
  have hgd : (g : Int) ∣ D := by rw [← hg]; exact gcds_dvd_mem (by simp)
  rw [hg]
  have HG : Hid (lowG ps D = g) := Lib.hid hg
  clear hg
  have hg0 : ((g : Int) == 0) = false := by rw [beq_eq_false_iff_ne]; omega
  have hg1 : (g : Int) ≠ 0 := by omega
  have hg2 : (g : Int) ≤ D := Int.le_of_dvd (by omega) hgd
  have hs3' : w.heap.size ≤ w3.heap.size := by omega
  go_wp2_with fail
  have B4 := B3.alloc hs3' (.cells #[.int .i64 (D / (g : Int)), .slice none 0 0] 65)
  have x4 : (w3.alloc (.cells #[.int .i64 (D / (g : Int)), .slice none 0 0] 65)).heap[w.heap.size]? = some (.cells #[.int .i64 0, .slice none 0 0] 65) := blk_keep x3 ((Below.refl _ _).alloc (Nat.le_refl _) _)
  have y4 := alloc_new w3 (.cells #[.int .i64 (D / (g : Int)), .slice none 0 0] 65)
  have hxd : D / (g : Int) = x := by
    rw [← HX.out, HG.out, Int.tdiv_eq_ediv_of_nonneg (by omega)]
  rw [hxd] at B4 x4 y4 ⊢
  obtain ⟨b6, hb6⟩ : ∃ v, w3.heap.size = v := ⟨_, rfl⟩
  rw [hb6] at y4 hs3 ⊢
  refine wp_gen (fun v => Below w.heap.size w v ∧ v.heap[w.heap.size]? = some (.cells #[.int .i64 0, .slice none 0 0] 65) ∧ v.heap[b6]? = some (.cells #[.int .i64 x, .slice none 0 0] 65)) ⟨B4, x4, y4⟩ ?_
  clear B4 x4 y4 hxd B3 x3 hb6 hs3' HX
  rintro v ⟨B4, x4, y4⟩
  have hv6 := blk_lt y4
  go_loopw [21] (fun z wr => ∃ (k c' : Nat) (a' : Option Addr), z = .int .i64 (k : Int) ∧ k ≤ n ∧ Below b6 v wr ∧ wr.heap[b6]? = some (.cells #[.int .i64 x, .slice a' k c'] 65) ∧ OwI wr (b6 + 1) a' k c' ((ps.take k).map (fun p => p.tdiv g))) (fun z _ => n - (intOf z).toNat)
  case atStart => exact ⟨0, 0, none, rfl, by omega, Below.refl _ _, y4, by simpa using OwI.nil _ _⟩
  case round =>
    obtain ⟨k, c', a', rfl, hk0, hbr, yr, hown⟩ := hrel
    have Bw := B4.trans (hbr.mono (by omega))
    have f0 := cell_block yr 0
    have f1 := cell_block yr 1
    have f2 := frozen_block yr 1
    have hbl := blk_lt yr
    by_cases hlt : k < n
    · obtain ⟨ba, oa, rfl, hca⟩ := (h1.keep Bw).at_ (by omega)
      have ea := hca k hlt
      have hpk : ps[k]?.getD 0 ∈ ps := by
        have : k < ps.length := by omega
        rw [List.getElem?_eq_getElem this]
        exact List.getElem_mem this
      have hpb := hb _ hpk
      have hnext : (ps.take (k + 1)).map (fun p => p.tdiv g) = (ps.take k).map (fun p => p.tdiv g) ++ [(ps[k]?.getD 0).tdiv g] := by
        have : k < ps.length := by omega
        rw [List.take_succ_eq_append_getElem this, List.map_append, List.getElem?_eq_getElem this]
        rfl
      obtain ⟨pv, hpv⟩ : ∃ z, ps[k]?.getD 0 = z := ⟨_, rfl⟩
      rw [hpv] at ea hpb hnext
      have HN := Lib.hid hnext
      clear hca hpk hpv hnext
      have hi : (k : Int) < (n : Int) := by omega
      have hi0 : (0 : Int) ≤ (k : Int) := by omega
      go_wp2_with fail
      refine Calmly.wp_region_mix 6 (.fl 0 <| .fl 1 <| .fl 2 <| .fl 3 <| .fl 4 <| .eff 5 <| .tail [6, 7, 8]) (by kernel_rfl) (by kernel_rfl) ?_
      replace yr : wr.drew.heap[b6]? = some (.cells #[.int .i64 x, .slice a' k c'] 65) := yr
      replace ea : wr.drew.cell? ⟨ba, oa + k, none⟩ = some (.int .i64 pv) := ea
      replace hown : OwI wr.drew (b6 + 1) a' k c' ((ps.take k).map (fun p => p.tdiv g)) := hown.drew
      replace hbr := hbr.drew
      replace hbl : b6 < wr.drew.heap.size := hbl
      clear f0 f1 f2 Bw
      generalize wr.drew = V at *
      have f0 := cell_block yr 0
      have f1 := cell_block yr 1
      have hk := Below.refl V.heap.size V
      go_wp2_with (first | ((with_reducible refine Calmly.is_tail ?_); refine Calmly.mix_tail_app rfl (fun rest hrest => ?_); refine appIw V rfl rfl _ _ rfl hown rfl rfl (by omega) (by omega) ?_; intro a2' c2' w5 ho5 hb5 hs5; refine hrest _ _ ?_; have y5 := (hb5.block b6 (by omega)).trans yr; have f3 := cell_block y5 1; have f4 := frozen_block y5 1) | ((with_reducible refine Calmly.is_fl ?_); refine Calmly.mix_fl rfl ?_ (fun _ _ => ?_); (first | exact .move _ | exact .load _ _ | exact .fieldAddr _ _ _ (by kernel_rfl) | exact .assign _ | exact .binOp _ _ _ _ _ rfl | exact .indexAddr _ _ _ | exact .len _ _ (by kernel_rfl) | exact .field _ _ _ | exact .extract _ _ | exact .pick _ _ _ | exact .build _ _ | exact .slice _ _ _ _ _ | exact .unOp _ _ _ rfl | exact .index _ _ _ | exact .max _ _ _ rfl rfl | exact .min _ _ _ rfl rfl | exact .nilCheck _ _ rfl)) | ((with_reducible refine Calmly.is_gl ?_); refine Calmly.mix_gl rfl rfl rfl ?_; first | ((first | with_reducible refine Calmly.gl_tt ?_ (fun _ _ => ?_) | with_reducible refine Calmly.gl_ff ?_ (fun _ _ => ?_)); (first | exact .move _ | exact .load _ _ | exact .fieldAddr _ _ _ (by kernel_rfl) | exact .assign _ | exact .binOp _ _ _ _ _ rfl | exact .indexAddr _ _ _ | exact .len _ _ (by kernel_rfl) | exact .field _ _ _ | exact .extract _ _ | exact .pick _ _ _ | exact .build _ _ | exact .slice _ _ _ _ _ | exact .unOp _ _ _ rfl | exact .index _ _ _ | exact .max _ _ _ rfl rfl | exact .min _ _ _ rfl rfl | exact .nilCheck _ _ rfl)) | with_reducible refine Calmly.gl_tf (fun _ _ => ?_) | with_reducible refine Calmly.gl_ft (fun _ _ => ?_)) | ((with_reducible refine Calmly.is_eff ?_); refine Calmly.mix_eff rfl (fun _ _ => ?_)) | ((with_reducible refine Calmly.is_gf ?_); refine Calmly.mix_gf rfl rfl rfl ?_; first | with_reducible refine Calmly.gf_tt (fun _ _ => ?_) | with_reducible refine Calmly.gf_ff (fun _ _ => ?_) | with_reducible refine Calmly.gf_tf (kept_of hk) (fun _ _ => ?_) | with_reducible refine Calmly.gf_ft (kept_of hk) (fun _ _ => ?_)) | ((with_reducible refine Calmly.is_tail ?_); first | refine Calmly.mix_tail_nil ?_ | refine Calmly.mix_tail rfl (fun _ _ => ?_)) | ((with_reducible refine Calmly.is_kept ?_); refine ⟨kept_of hk, ?_⟩) | (with_reducible refine Calmly.mix_alt ?_ ?_) | (refine kept_alloc hk (fun hk' hblk hge => ?_); replace hk := hk'; clear hk'))
      go_roundw
      case rel =>
        refine ⟨k + 1, c2', a2', by go_num, by omega, (hbr.trans (hb5.mono (by omega))).setCell (by simp) _, blk_setAt y5 1 _, ?_⟩
        rw [HN.out]
        exact ho5.under (by omega) _
      case measure => simp [intOf]; omega
    · have hle : (n : Int) ≤ (k : Int) := by omega
      obtain rfl : k = n := by omega
      have xr : wr.heap[w.heap.size]? = some (.cells #[.int .i64 0, .slice none 0 0] 65) := (hbr.block _ (by omega)).trans x4
      have t0 := cell_block xr 0
      have t1 := cell_block xr 1
      have t2 := frozen_block xr 0
      have t3 := frozen_block xr 1
      go_wp2_with fail
      obtain ⟨s1, s2, s3, s4⟩ := set2 (x := .int .i64 x) (y := .slice a' k c') t0 t1
      refine bodyPost_ret (v := .agg #[.int .i64 x, .slice a' k c']) (by simp [results, Tryz.results70, go_sem, s1, s2]) rfl ⟨a', c', b6 + 1, rfl, ?_, by omega, (Bw.setCell (by simp) _).setCell (by simp) _⟩
      rw [← HXS.out, HG.out]
      rw [List.take_of_length_le (by omega)] at hown
      exact hown.under2 (by omega) _ _
end Go.Proofs.YteigmjlfpmdmoaaGreatDoor

namespace Go.Proofs.YteigmjlfpmdmoaaGreatDoor
open Go.RowKit
open Calmly (Kept)

set_option maxRecDepth 100000 in
set_option maxHeartbeats 2000000 in
theorem pull_any (bp bs bf : Nat) (a b p : Option Addr) (n c m d k e : Nat) (ms ks ps : List Int) (num den : Int) (i : Nat) (w : World) (M : Int)
    (hp : w.heap[bp]? = some (.cells #[.slice p k e] 22)) (hs : w.heap[bs]? = some (.cells #[.int .i64 num, .int .i64 den] 39)) (hf : w.heap[bf]? = some (.cells #[.slice a n c, .slice b m d] 118))
    (h1 : SI w a n c ms) (h2 : SI w b m d ks) (h3 : SI w p k e ps) (hik : i < k) (hin : i < n) (him : i < m) (hq : Sq num den) (hk : 1 ≤ ks[i]?.getD 0 ∧ ks[i]?.getD 0 ≤ 20) (hm : 1 ≤ ms[i]?.getD 0 ∧ ms[i]?.getD 0 ≤ 10)
    (hM : 0 ≤ M) (hM2 : M ≤ 97336000000000) (hps : ∀ j : Nat, -M ≤ ps[j]?.getD 0 ∧ ps[j]?.getD 0 ≤ M) :
    Calls Tryz.prog 69 #[.int .i64 (i : Int), .pointer (some ⟨bp, 0, none⟩), .pointer (some ⟨bs, 0, none⟩), .pointer (some ⟨bf, 0, none⟩)] w fun e w' => e = .returned (.int .i64 (pullI ms ks num den ps i)) ∧ Below w.heap.size w w' := by
  obtain ⟨⟨b1, b2⟩, ⟨b3, b4⟩, ⟨b5, b6⟩, ⟨b7, b8⟩, b9, b10⟩ := pullI_bd (ms := ms) (ks := ks) (num := num) (den := den) (ps := ps) (i := i) (M := M) hq hk hm hM (hps i) (hps (i - 1))
  have c1 := h1.cap
  have c2 := h2.cap
  have c3 := h3.cap
  have m1 := h1.max
  have m2 := h2.max
  have m3 := h3.max
  obtain ⟨ba, oa, rfl, hca⟩ := h1.at_ (by omega)
  obtain ⟨bb, ob, rfl, hcb⟩ := h2.at_ (by omega)
  obtain ⟨bq, oq, rfl, hcq⟩ := h3.at_ (by omega)
  have e1 := hca i hin
  have e2 := hcb i him
  have e3 := hcq i hik
  have f1 := cell_block hp 0
  have f2 := cell_block hs 0
  have f3 := cell_block hs 1
  have f4 := cell_block hf 0
  have f5 := cell_block hf 1
  have q1 := hps i
  have q2 := hps (i - 1)
  obtain ⟨R, hR⟩ : ∃ R, pullI ms ks num den ps i = R := ⟨_, rfl⟩
  rw [hR] at b9 b10 ⊢
  have hI0 : (0 : Int) ≤ (i : Int) := by omega
  have hI1 : (i : Int) < (k : Int) := by omega
  have hI2 : (i : Int) < (n : Int) := by omega
  have hI3 : (i : Int) < (m : Int) := by omega
  obtain ⟨D, hD⟩ : ∃ D : Int, (if i = 0 then 0 else ps[i - 1]?.getD 0) = D := ⟨_, rfl⟩
  rw [hD] at b5 b6
  have hpull : den * ks[i]?.getD 0 * (ps[i]?.getD 0 - D) - num * ms[i]?.getD 0 * ps[i]?.getD 0 = R := by rw [← hD, ← hR]; rfl
  clear hR hps hca hcb hk hm
  generalize ks[i]?.getD 0 = kv at *
  generalize ms[i]?.getD 0 = mv at *
  generalize hpv : ps[i]?.getD 0 = pv at *
  have hdv : -M ≤ D ∧ D ≤ M := by
    rw [← hD]
    split <;> omega
  have HP := Lib.hid hpull
  clear hpull hpv
  have hfin : w = w → True := fun _ => trivial
  go_enter Tryz.func69, Tryz.ntmps69
  rcases Nat.eq_zero_or_pos i with hz | hz
  · have hz1 : ¬ 0 < (i : Int) := by omega
    rw [if_pos hz] at hD
    subst hD
    have hp0 := HP.out
    rw [Int.sub_zero] at b5 b6 hp0
    have HP2 := Lib.hid hp0
    clear hp0
    have HZ := Lib.hid hz
    clear hz hcq q2
    have hz2 : (i : Int) ≤ 0 := by omega
    go_wp2_with fail
    refine Calmly.wp_region_mix 28 (.fl 0 <| .fl 1 <| .fl 2 <| .fl 3 <| .fl 4 <| .fl 5 <| .fl 6 <| .fl 7 <| .fl 8 <| .fl 9 <| .fl 10 <| .fl 11 <| .fl 12 <| .fl 13 <| .fl 14 <| .fl 15 <| .fl 16 <| .fl 17 <| .fl 18 <| .fl 19 <| .fl 20 <| .fl 21 <| .fl 22 <| .fl 23 <| .fl 24 <| .fl 25 <| .fl 26 <| .fl 27 <| .tail [28, 29]) (by kernel_rfl) (by kernel_rfl) ?_
    have hk := Below.refl w.drew.heap.size w.drew
    go_wp2_with (first | ((with_reducible refine Calmly.is_fl ?_); refine Calmly.mix_fl rfl ?_ (fun _ _ => ?_); (first | exact .move _ | exact .load _ _ | exact .fieldAddr _ _ _ (by kernel_rfl) | exact .assign _ | exact .binOp _ _ _ _ _ rfl | exact .indexAddr _ _ _ | exact .len _ _ (by kernel_rfl) | exact .field _ _ _ | exact .extract _ _ | exact .pick _ _ _ | exact .build _ _ | exact .slice _ _ _ _ _ | exact .unOp _ _ _ rfl | exact .index _ _ _ | exact .max _ _ _ rfl rfl | exact .min _ _ _ rfl rfl | exact .nilCheck _ _ rfl)) | ((with_reducible refine Calmly.is_gl ?_); refine Calmly.mix_gl rfl rfl rfl ?_; first | ((first | with_reducible refine Calmly.gl_tt ?_ (fun _ _ => ?_) | with_reducible refine Calmly.gl_ff ?_ (fun _ _ => ?_)); (first | exact .move _ | exact .load _ _ | exact .fieldAddr _ _ _ (by kernel_rfl) | exact .assign _ | exact .binOp _ _ _ _ _ rfl | exact .indexAddr _ _ _ | exact .len _ _ (by kernel_rfl) | exact .field _ _ _ | exact .extract _ _ | exact .pick _ _ _ | exact .build _ _ | exact .slice _ _ _ _ _ | exact .unOp _ _ _ rfl | exact .index _ _ _ | exact .max _ _ _ rfl rfl | exact .min _ _ _ rfl rfl | exact .nilCheck _ _ rfl)) | with_reducible refine Calmly.gl_tf (fun _ _ => ?_) | with_reducible refine Calmly.gl_ft (fun _ _ => ?_)) | ((with_reducible refine Calmly.is_eff ?_); refine Calmly.mix_eff rfl (fun _ _ => ?_)) | ((with_reducible refine Calmly.is_gf ?_); refine Calmly.mix_gf rfl rfl rfl ?_; first | with_reducible refine Calmly.gf_tt (fun _ _ => ?_) | with_reducible refine Calmly.gf_ff (fun _ _ => ?_) | with_reducible refine Calmly.gf_tf (kept_of hk) (fun _ _ => ?_) | with_reducible refine Calmly.gf_ft (kept_of hk) (fun _ _ => ?_)) | ((with_reducible refine Calmly.is_tail ?_); first | refine Calmly.mix_tail_nil ?_ | refine Calmly.mix_tail rfl (fun _ _ => ?_)) | ((with_reducible refine Calmly.is_kept ?_); refine ⟨kept_of hk, ?_⟩) | (with_reducible refine Calmly.mix_alt ?_ ?_))
    go_ret
    exact ⟨ret_int HP2.out, Below.drew (Below.refl _ _)⟩
  · rw [if_neg (by omega)] at hD
    have e4 := hcq (i - 1) (by omega)
    rw [hD] at e4
    have hz1 : 0 < (i : Int) := by omega
    have e5 : ((i : Int) - 1).toNat = i - 1 := by omega
    clear hcq
    have HD := Lib.hid hD
    clear hD
    go_wp2_with fail
    refine Calmly.wp_region_mix 28 (.fl 0 <| .fl 1 <| .fl 2 <| .fl 3 <| .fl 4 <| .fl 5 <| .fl 6 <| .fl 7 <| .fl 8 <| .fl 9 <| .fl 10 <| .fl 11 <| .fl 12 <| .fl 13 <| .fl 14 <| .fl 15 <| .fl 16 <| .fl 17 <| .fl 18 <| .fl 19 <| .fl 20 <| .fl 21 <| .fl 22 <| .fl 23 <| .fl 24 <| .fl 25 <| .fl 26 <| .fl 27 <| .tail [28, 29]) (by kernel_rfl) (by kernel_rfl) ?_
    have hk := Below.refl w.drew.heap.size w.drew
    go_wp2_with (first | ((with_reducible refine Calmly.is_fl ?_); refine Calmly.mix_fl rfl ?_ (fun _ _ => ?_); (first | exact .move _ | exact .load _ _ | exact .fieldAddr _ _ _ (by kernel_rfl) | exact .assign _ | exact .binOp _ _ _ _ _ rfl | exact .indexAddr _ _ _ | exact .len _ _ (by kernel_rfl) | exact .field _ _ _ | exact .extract _ _ | exact .pick _ _ _ | exact .build _ _ | exact .slice _ _ _ _ _ | exact .unOp _ _ _ rfl | exact .index _ _ _ | exact .max _ _ _ rfl rfl | exact .min _ _ _ rfl rfl | exact .nilCheck _ _ rfl)) | ((with_reducible refine Calmly.is_gl ?_); refine Calmly.mix_gl rfl rfl rfl ?_; first | ((first | with_reducible refine Calmly.gl_tt ?_ (fun _ _ => ?_) | with_reducible refine Calmly.gl_ff ?_ (fun _ _ => ?_)); (first | exact .move _ | exact .load _ _ | exact .fieldAddr _ _ _ (by kernel_rfl) | exact .assign _ | exact .binOp _ _ _ _ _ rfl | exact .indexAddr _ _ _ | exact .len _ _ (by kernel_rfl) | exact .field _ _ _ | exact .extract _ _ | exact .pick _ _ _ | exact .build _ _ | exact .slice _ _ _ _ _ | exact .unOp _ _ _ rfl | exact .index _ _ _ | exact .max _ _ _ rfl rfl | exact .min _ _ _ rfl rfl | exact .nilCheck _ _ rfl)) | with_reducible refine Calmly.gl_tf (fun _ _ => ?_) | with_reducible refine Calmly.gl_ft (fun _ _ => ?_)) | ((with_reducible refine Calmly.is_eff ?_); refine Calmly.mix_eff rfl (fun _ _ => ?_)) | ((with_reducible refine Calmly.is_gf ?_); refine Calmly.mix_gf rfl rfl rfl ?_; first | with_reducible refine Calmly.gf_tt (fun _ _ => ?_) | with_reducible refine Calmly.gf_ff (fun _ _ => ?_) | with_reducible refine Calmly.gf_tf (kept_of hk) (fun _ _ => ?_) | with_reducible refine Calmly.gf_ft (kept_of hk) (fun _ _ => ?_)) | ((with_reducible refine Calmly.is_tail ?_); first | refine Calmly.mix_tail_nil ?_ | refine Calmly.mix_tail rfl (fun _ _ => ?_)) | ((with_reducible refine Calmly.is_kept ?_); refine ⟨kept_of hk, ?_⟩) | (with_reducible refine Calmly.mix_alt ?_ ?_))
    go_ret
    exact ⟨ret_int HP.out, Below.drew (Below.refl _ _)⟩
end Go.Proofs.YteigmjlfpmdmoaaGreatDoor

namespace Go.Proofs.YteigmjlfpmdmoaaGreatDoor
open Go.RowKit
open Calmly (Kept)

/-- The first parts multiplied. -/
def mulTo (ps : List Int) (y : Int) (k : Nat) : List Int := (ps.take k).map (fun p => p * y) ++ ps.drop k
theorem mulTo_len (ps : List Int) (y : Int) (k : Nat) : (mulTo ps y k).length = ps.length := by simp [mulTo]; omega
theorem mulTo_zero (ps : List Int) (y : Int) : mulTo ps y 0 = ps := by simp [mulTo]
theorem mulTo_all (ps : List Int) (y : Int) (k : Nat) (h : ps.length ≤ k) : mulTo ps y k = ps.map (fun p => p * y) := by simp [mulTo, List.take_of_length_le h, List.drop_eq_nil_of_le h]
theorem mulTo_at (ps : List Int) (y : Int) (k : Nat) (h : k < ps.length) : (mulTo ps y k)[k]?.getD 0 = ps[k]?.getD 0 := by
  unfold mulTo
  rw [List.getElem?_append_right (by simp; omega)]
  simp
  rw [show min k ps.length = k by omega]
  simp
theorem mulTo_succ (ps : List Int) (y : Int) (k : Nat) (h : k < ps.length) : (mulTo ps y k).set k (ps[k]?.getD 0 * y) = mulTo ps y (k + 1) := by
  unfold mulTo
  have hl : ((ps.take k).map (fun p => p * y)).length = k := by simp; omega
  rw [List.set_append_right _ _ (by omega), hl, Nat.sub_self, List.drop_eq_getElem_cons h, List.set_cons_zero, List.take_succ_eq_append_getElem h, List.map_append, List.append_assoc, List.getElem?_eq_getElem h]
  rfl

/-- An append to a row of numbers: all other blocks are as they were, and the row lies where it lay, or in a new block. -/
theorem appIx {ops : Array Oper} {rest : List Oper} {o : Oper} {a : Act} {Q : Exit → Act → World → Prop} {Wx : World} (w0 : World) {B : Nat} {g0 n c : Nat} {xs : List Int} {v : Int}
    (hW : Wx = w0.alloc (.cells #[.int .i64 v] 3)) (hgd : o.guard = none) (s x' : Operand)
    (ho : o.op = .call { callee := .builtin .append, args := #[s, x'], argTypes := #[22, 22] })
    (hown : OwI w0 B (some ⟨g0, 0, none⟩) n c xs) (hs : a.eval s = .slice (some ⟨g0, 0, none⟩) n c) (hx : a.eval x' = .slice (some ⟨w0.heap.size, 0, none⟩) 1 1)
    (hb1 : n + 1 ≤ 1099511627776) (hB : B ≤ w0.heap.size)
    (h : ∀ g c' w', OwI w' B (some ⟨g, 0, none⟩) (n + 1) c' (xs ++ [v]) → Below B w0 w' → w0.heap.size < w'.heap.size → (∀ j, j < w0.heap.size → j ≠ g0 → w'.heap[j]? = w0.heap[j]?) →
      (g = g0 ∨ w0.heap.size ≤ g) → wpList Tryz.prog ops Q rest (a.put o.dst (.slice (some ⟨g, 0, none⟩) (n + 1) c')) w') :
    wpList Tryz.prog ops Q (o :: rest) a Wx := by
  subst hW
  obtain ⟨i0, hi, hz0, hz1, hz2⟩ := info_parts Tryz.info_int
  refine wpList_append_own_at _ hgd s x' _ ho B _ i0 (.int .i64 0) 1 8 Tryz.underlying22 hi hz0 hz1 hz2 rfl (by decide) _ n _ hs (World.ownsRow.alloc hown _) ⟨w0.heap.size, 0, none⟩ 1 1 (#[Value.int .i64 v]).toList hx (by simp) (cells_new w0 _ _) (by simp [Value.oneCell']) (by unfold maxLen; omega) (by omega) (by simp; omega) ?_
  intro v' w1 ho1 hg hn hat
  have hrow : ∀ j, (Value.slice (some ⟨g0, 0, none⟩) n c).ownBlock = some j → B ≤ j := fun j hj => (World.ownsRow.lt hown j hj).1
  have hb0 : Below B w0 (w0.alloc (.cells #[.int .i64 v] 3)) := (Below.refl _ _).alloc hB _
  have hb2 : Below B w0 w1 := hb0.trans (grown_below hg (by simp; omega) hrow)
  have hsz2 := hg.size
  obtain ⟨hlen, ho2⟩ := ho1
  rcases ho2 with ⟨_, h0⟩ | ⟨g, cap, cur, rfl, r⟩
  · omega
  · refine h _ _ w1 (by unfold OwI; rw [List.map_append]; exact ⟨hlen, .inr ⟨g, cap, cur, rfl, r⟩⟩) hb2 (by simp at hsz2; omega) ?_ ?_
    · intro j hj hne
      rw [hg.block j (by simp; omega) ?_]
      · exact ((Below.refl w0.heap.size w0).alloc (Nat.le_refl _) _).block j hj
      · intro he
        simp [Value.ownBlock] at he
        exact hne (by omega)
    · rcases hat with hat | hat
      · simp [Value.ownBlock] at hat
        exact .inl hat
      · simp [Value.ownBlock] at hat
        exact .inr (by omega)

set_option maxRecDepth 100000 in
set_option maxHeartbeats 4000000 in
theorem ShapeAt_any (a b : Option Addr) (n c m d : Nat) (ms ks : List Int) (x y : Int) (w : World) (h1 : SI w a n c ms) (h2 : SI w b m d ks) (hx1 : -9223372036854775808 ≤ x) (hx2 : x ≤ 9223372036854775807) (hy2 : y ≤ 9223372036854775807)
    (E R S : Int) (xs : List Int) (hE : (if (checkF ms ks).2 = 0 then squareE x y else (checkF ms ks).2) = E) (hno : E ≠ 0 → R = 0 ∧ S = 0 ∧ xs = [])
    (hok : E = 0 → (shDen ks y (n - 1)).tdiv (lowG (shP ms ks x y (n - 1)) (shDen ks y (n - 1))) = R ∧ (shP ms ks x y (n - 1)).map (fun p => p.tdiv (lowG (shP ms ks x y (n - 1)) (shDen ks y (n - 1)))) = xs ∧ (pullI ms ks x y (shP ms ks x y (n - 1)) (n - 1)).sign = S) :
    Calls Tryz.prog 29 #[.agg #[.slice a n c, .slice b m d], .agg #[.int .i64 x, .int .i64 y]] w fun e w' => ∃ a' c' B, e = .returned (.tuple #[.agg #[.int .i64 R, .slice a' xs.length c'], .int .i64 S, .int .i64 E]) ∧ OwI w' B a' xs.length c' xs ∧ w.heap.size ≤ B ∧ Below w.heap.size w w' := by
  have HE := Lib.hid hE
  have HOK := Lib.hid hok
  have HNO := Lib.hid hno
  clear hE hok hno
  have hA : ∀ (A : World) (o : Obj), Below A.heap.size A (A.alloc o) := fun A o => (Below.refl _ _).alloc (Nat.le_refl _) _
  have hb2 : Below w.heap.size w (((w.alloc (.cells #[.slice a n c, .slice b m d] 52)).alloc (.cells #[.int .i64 x, .int .i64 y] 39)).alloc (.cells #[.int .i64 0, .slice none 0 0] 65)) := (((Below.refl _ _).alloc (Nat.le_refl _) _).alloc (by simp) _).alloc (by simp; omega) _
  have m1 := h1.max
  have c1 := h1.cap
  have m2 := h2.max
  have c2 := h2.cap
  go_enter Tryz.func29, Tryz.ntmps29
  go_wp2_with fail
  refine (open_any a b n c m d ms ks _ (h1.keep hb2) (h2.keep hb2)).mono ?_
  rintro e w1 ⟨rfl, hb1⟩
  obtain ⟨x1, x2, x3⟩ := box3 (w := w) (o := .cells #[.slice a n c, .slice b m d] 52) (o' := .cells #[.int .i64 x, .int .i64 y] 39) (o'' := .cells #[.int .i64 0, .slice none 0 0] 65) hb1
  have hs1 := blk_lt x3
  have hbw : Below w.heap.size w w1 := hb2.trans (hb1.mono (by simp; omega))
  have hb3 := hA w1 (.cells #[.slice a n c, .slice b m d] 118)
  have y1 := alloc_new w1 (.cells #[.slice a n c, .slice b m d] 118)
  replace x2 := blk_keep x2 hb3
  replace x3 := blk_keep x3 hb3
  have g0 := cell_block x2 0
  have g1 := cell_block x2 1
  have hs3 : w.heap.size + 1 + 1 < w1.heap.size + 1 := by omega
  go_wp2_with fail
  refine (mSquareErr_any x y _ hx1 hx2 hy2).mono ?_
  rintro e w2 ⟨rfl, hb4⟩
  replace x2 := blk_keep x2 hb4
  replace x3 := blk_keep x3 hb4
  replace y1 := blk_keep y1 hb4
  have hs4 := blk_lt y1
  have hb5 := hbw.trans ((hb3.trans (hb4.mono (by simp))).mono hbw.size)
  clear g0 g1
  go_wp2_with fail
  refine (first_any _ 2 2 _ _ (SI.two _ _ _ _ (by simp))).mono ?_
  rintro e w' ⟨rfl, rfl⟩
  rw [firstE_two]
  have HEE : (if (checkF ms ks).2 = 0 then squareE x y else (checkF ms ks).2) = E := HE.out
  rw [HEE]
  clear HEE
  have hb6 := hA w2 (.cells #[.int .i64 (checkF ms ks).2, .int .i64 (squareE x y)] 30)
  replace x2 := blk_keep x2 hb6
  replace x3 := blk_keep x3 hb6
  replace y1 := blk_keep y1 hb6
  have hb7 := hb5.trans (hb6.mono hb5.size)
  obtain ⟨w3, hw3⟩ : ∃ v, w2.alloc (.cells #[.int .i64 (checkF ms ks).2, .int .i64 (squareE x y)] 30) = v := ⟨_, rfl⟩
  rw [hw3] at x2 x3 y1 hb7 ⊢
  clear hw3 hb6 hb4 hb3 hb5
  have t0 := cell_block x3 0
  have t1 := cell_block x3 1
  have t2 := frozen_block x3 0
  have t3 := frozen_block x3 1
  by_cases hz : E = 0
  case neg =>
    have hz1 : (E != 0) = true := by simpa using hz
    obtain ⟨rfl, rfl, rfl⟩ := HNO.out hz
    clear hz
    go_wp2_with fail
    obtain ⟨s1, s2, s3, s4⟩ := set2 (x := .int .i64 0) (y := .slice none 0 0) t0 t1
    refine bodyPost_ret (v := .tuple #[.agg #[.int .i64 0, .slice none 0 0], .int .i64 0, .int .i64 E]) (by simp [results, Tryz.results29, go_sem, s1, s2]) rfl ⟨none, 0, w.heap.size, rfl, OwI.nil _ _, Nat.le_refl _, ?_⟩
    exact (hb7.setCell (by simp; omega) _).setCell (by simp; omega) _
  subst hz
  obtain ⟨hR, hX, hS⟩ := HOK.out rfl
  have hc0 : (checkF ms ks).2 = 0 := by
    by_cases h : (checkF ms ks).2 = 0
    · exact h
    · have := HE.out
      rwa [if_neg h] at this
  have hq : Sq x y := sq_of (by have := HE.out; rwa [if_pos hc0] at this)
  obtain ⟨q1, q2, q3, q4, q5⟩ := checkF_ok hc0
  obtain ⟨l1, l2⟩ : n ≤ ms.length ∧ ms.length ≤ n := by have := h1.len; omega
  obtain ⟨l3, l4⟩ : m ≤ n ∧ n ≤ m := by have := h2.len; omega
  have n0 : 0 < n := by omega
  have n4 : n ≤ 4 := by omega
  replace q4 : ∀ j, j < n → 1 ≤ ms[j]?.getD 0 ∧ ms[j]?.getD 0 ≤ 10 := fun j hj => q4 j (by omega)
  replace q5 : ∀ j, j < n → 1 ≤ ks[j]?.getD 0 ∧ ks[j]?.getD 0 ≤ 20 := fun j hj => q5 j (by omega)
  have Q4 := Lib.hid q4
  have Q5 := Lib.hid q5
  have HR := Lib.hid hR
  have HX := Lib.hid hX
  have HS := Lib.hid hS
  clear q1 q2 q3 q4 q5 hR hX hS hc0 HOK HNO HE l1 l2
  have hN1 : (0 : Int) ≤ (n : Int) - 1 := by omega
  have hH1 := h1.keep hb7
  have hH2 := h2.keep hb7
  have y2 := cell_block y1 0
  have y3 := cell_block y1 1
  have hw1s : w.heap.size + 1 + 1 < w1.heap.size := hs1
  have hw3s : w1.heap.size < w3.heap.size := blk_lt y1
  clear t0 t1 t2 t3
  go_wp2_with fail
  obtain ⟨b9, hb9⟩ : ∃ v, w3.heap.size + 1 = v := ⟨_, rfl⟩
  have z1 : OwI ((w3.alloc (.cells #[.int .i64 1] 3)).alloc (.cells #[.slice (some ⟨w3.heap.size, 0, none⟩) 1 1] 22)) w3.heap.size (some ⟨w3.heap.size, 0, none⟩) 1 1 [1] := (OwI.one w3 (Nat.le_refl _) 1).keep (hA _ _)
  have z2 := alloc_new (w3.alloc (.cells #[.int .i64 1] 3)) (.cells #[.slice (some ⟨w3.heap.size, 0, none⟩) 1 1] 22)
  have z3 : Below w3.heap.size w3 ((w3.alloc (.cells #[.int .i64 1] 3)).alloc (.cells #[.slice (some ⟨w3.heap.size, 0, none⟩) 1 1] 22)) := (hA _ _).alloc (by simp) _
  rw [World.size_alloc, hb9] at z2
  rw [hb9]
  generalize hw4 : ((w3.alloc (.cells #[.int .i64 1] 3)).alloc (.cells #[.slice (some ⟨w3.heap.size, 0, none⟩) 1 1] 22)) = w4 at z1 z2 z3 ⊢
  clear hw4
  have hb9' : w3.heap.size < b9 := by omega
  go_loopw [36, 10] (fun z p wr => ∃ (i c' g : Nat), z = .int .i64 (i : Int) ∧ i ≤ n - 1 ∧ p = .int .i64 (shDen ks y i) ∧ wr.heap[b9]? = some (.cells #[.slice (some ⟨g, 0, none⟩) (i + 1) c'] 22) ∧ OwI wr w3.heap.size (some ⟨g, 0, none⟩) (i + 1) c' (shP ms ks x y i) ∧ g ≠ b9 ∧ Below w3.heap.size w3 wr) (fun z _ _ => n - (intOf z).toNat)
  case atStart => exact ⟨0, 1, w3.heap.size, rfl, by omega, rfl, z2, z1, by omega, z3⟩
  case round =>
    clear z1 z2 z3
    obtain ⟨i, c', g, rfl, hi, rfl, yr, hown, hg9, hbr⟩ := hrel
    rename World => wi
    have Bw := hb7.trans (hbr.mono hb7.size)
    have X2 := blk_keep x2 hbr
    have Y1 := blk_keep y1 hbr
    have H1 := hH1.keep hbr
    have H2 := hH2.keep hbr
    obtain ⟨sd1, sd2⟩ := shDen_bd (den := y) hq.2.2.1 hq.2.2.2 Q5.out i (by omega)
    have sp := shP_bd hq Q5.out Q4.out i (by omega)
    by_cases hlt : i < n - 1
    · have hi1 : (i : Int) < (n : Int) - 1 := by omega
      have hi0 : (0 : Int) ≤ (i : Int) := by omega
      have hM : (46000 : Int) ^ i ≤ 2116000000 := by
        rcases (by omega : i = 0 ∨ i = 1 ∨ i = 2) with rfl | rfl | rfl <;> decide
      have hM0 : (0 : Int) ≤ 46000 ^ i := Int.pow_nonneg (by omega)
      have hD2 : (2000 : Int) ^ i ≤ 4000000 := by
        rcases (by omega : i = 0 ∨ i = 1 ∨ i = 2) with rfl | rfl | rfl <;> decide
      go_wp2_with fail
      refine Calmly.wp_region_mix 13 (.fl 0 <| .fl 1 <| .fl 3 <| .fl 4 <| .fl 5 <| .fl 6 <| .fl 7 <| .fl 8 <| .fl 9 <| .fl 10 <| .fl 11 <| .eff 2 <| .fl 12 <| .tail [13]) (by kernel_rfl) (by kernel_rfl) ?_
      replace X2 : wi.drew.heap[w.heap.size + 1]? = some (.cells #[.int .i64 x, .int .i64 y] 39) := X2
      replace Y1 : wi.drew.heap[w1.heap.size]? = some (.cells #[.slice a n c, .slice b m d] 118) := Y1
      replace yr : wi.drew.heap[b9]? = some (.cells #[.slice (some ⟨g, 0, none⟩) (i + 1) c'] 22) := yr
      replace hown := hown.drew
      replace H1 := H1.drew
      replace H2 := H2.drew
      replace hbr := hbr.drew
      replace Bw := Bw.drew
      generalize wi.drew = V at *
      obtain ⟨bb, ob, rfl, hcb⟩ := H2.at_ (by omega)
      have eb := hcb (i + 1) (by omega)
      have hkb := Q5.out (i + 1) (by omega)
      obtain ⟨kv, hkv⟩ : ∃ v, ks[i + 1]?.getD 0 = v := ⟨_, rfl⟩
      rw [hkv] at eb hkb
      have HKV := Lib.hid hkv
      clear hcb hkv
      have q3 := hq.2.2.1
      have q4 := hq.2.2.2
      obtain ⟨mb1, mb2⟩ := mul_bd2 (a := y) (x := kv) (A := 100) (C := 20) (by omega) (by omega) (by omega) (by omega)
      have mb3 : 0 ≤ y * kv := Int.mul_nonneg (by omega) (by omega)
      simp only [Int.reduceMul, Int.reduceNeg] at mb1 mb2
      have f0 := cell_block X2 1
      have f1 := cell_block Y1 1
      have hi2 : (i : Int) + 1 < (m : Int) := by omega
      have hk := Below.refl V.heap.size V
      go_wp2_with (first | ((with_reducible refine Calmly.is_fl ?_); refine Calmly.mix_fl rfl ?_ (fun _ _ => ?_); (first | exact .move _ | exact .load _ _ | exact .fieldAddr _ _ _ (by kernel_rfl) | exact .assign _ | exact .binOp _ _ _ _ _ rfl | exact .indexAddr _ _ _ | exact .len _ _ (by kernel_rfl) | exact .field _ _ _ | exact .extract _ _ | exact .pick _ _ _ | exact .build _ _ | exact .slice _ _ _ _ _ | exact .unOp _ _ _ rfl | exact .index _ _ _ | exact .max _ _ _ rfl rfl | exact .min _ _ _ rfl rfl | exact .nilCheck _ _ rfl)) | ((with_reducible refine Calmly.is_gl ?_); refine Calmly.mix_gl rfl rfl rfl ?_; first | ((first | with_reducible refine Calmly.gl_tt ?_ (fun _ _ => ?_) | with_reducible refine Calmly.gl_ff ?_ (fun _ _ => ?_)); (first | exact .move _ | exact .load _ _ | exact .fieldAddr _ _ _ (by kernel_rfl) | exact .assign _ | exact .binOp _ _ _ _ _ rfl | exact .indexAddr _ _ _ | exact .len _ _ (by kernel_rfl) | exact .field _ _ _ | exact .extract _ _ | exact .pick _ _ _ | exact .build _ _ | exact .slice _ _ _ _ _ | exact .unOp _ _ _ rfl | exact .index _ _ _ | exact .max _ _ _ rfl rfl | exact .min _ _ _ rfl rfl | exact .nilCheck _ _ rfl)) | with_reducible refine Calmly.gl_tf (fun _ _ => ?_) | with_reducible refine Calmly.gl_ft (fun _ _ => ?_)) | ((with_reducible refine Calmly.is_eff ?_); refine Calmly.mix_eff rfl (fun _ _ => ?_)) | ((with_reducible refine Calmly.is_gf ?_); refine Calmly.mix_gf rfl rfl rfl ?_; first | with_reducible refine Calmly.gf_tt (fun _ _ => ?_) | with_reducible refine Calmly.gf_ff (fun _ _ => ?_) | with_reducible refine Calmly.gf_tf (kept_of hk) (fun _ _ => ?_) | with_reducible refine Calmly.gf_ft (kept_of hk) (fun _ _ => ?_)) | ((with_reducible refine Calmly.is_tail ?_); first | refine Calmly.mix_tail_nil ?_ | refine Calmly.mix_tail rfl (fun _ _ => ?_)) | ((with_reducible refine Calmly.is_kept ?_); refine ⟨kept_of hk, ?_⟩) | (with_reducible refine Calmly.mix_alt ?_ ?_))
      obtain ⟨_, _, _, _, nb1, nb2⟩ := pullI_bd (ms := ms) (ks := ks) (num := x) (den := y) (ps := shP ms ks x y i) (i := i) (M := 46000 ^ i) hq (Q5.out i (by omega)) (Q4.out i (by omega)) hM0 (sp i) (sp (i - 1))
      refine (pull_any b9 (w.heap.size + 1) w1.heap.size a (some ⟨bb, ob, none⟩) (some ⟨g, 0, none⟩) n c m d (i + 1) c' ms ks (shP ms ks x y i) x y i V (46000 ^ i) yr X2 Y1 H1 H2 hown.si (by omega) (by omega) (by omega) hq (Q5.out i (by omega)) (Q4.out i (by omega)) hM0 (by omega) sp).mono ?_
      rintro e w5 ⟨rfl, hs⟩
      replace hk := step_of hk hs
      have hb5 := hs.size
      replace X2 := blk_keep X2 hs
      replace Y1 := blk_keep Y1 hs
      replace yr := blk_keep yr hs
      replace H1 := H1.keep hs
      replace H2 := H2.keep hs
      replace hown := hown.keep hs
      replace hbr := hbr.trans (hs.mono hbr.size)
      replace Bw := Bw.trans (hs.mono Bw.size)
      have hpl := shP_len ms ks x y i
      have hp1 : shP ms ks x y (i + 1) = (shP ms ks x y i).map (fun p => p * (y * kv)) ++ [(shP ms ks x y i)[i]?.getD 0 * (y * kv) + pullI ms ks x y (shP ms ks x y i) i] := by
        rw [← HKV.out]
        rfl
      have hd1 : shDen ks y (i + 1) = shDen ks y i * (y * kv) := by
        rw [← HKV.out]
        rfl
      have g0 := cell_block X2 1
      have g1 := cell_block Y1 1
      obtain ⟨nv, hnv⟩ : ∃ v, pullI ms ks x y (shP ms ks x y i) i = v := ⟨_, rfl⟩
      obtain ⟨ps, hps⟩ : ∃ v, shP ms ks x y i = v := ⟨_, rfl⟩
      obtain ⟨D, hD⟩ : ∃ v, shDen ks y i = v := ⟨_, rfl⟩
      rw [hnv] at hp1 nb1 nb2 ⊢
      rw [hps] at hp1 hown hpl sp
      rw [hD] at hd1 sd1 sd2 ⊢
      have HP1 := Lib.hid hp1
      have HD1 := Lib.hid hd1
      have hp3 : ps.length ≤ i + 1 ∧ i + 1 ≤ ps.length := by omega
      obtain ⟨hp5', hp5⟩ := hp3
      clear hp1 hd1 hnv hps hD hpl f0 f1 hs eb
      have eb := (hH2.keep (hbr)).at_ (by omega)
      obtain ⟨bb2, ob2, he2, hcb2⟩ := eb
      cases he2
      have eb := hcb2 (i + 1) (by omega)
      rw [HKV.out] at eb
      clear hcb2
      have yc := cell_block yr 0
      go_wp2_with (first | ((with_reducible refine Calmly.is_fl ?_); refine Calmly.mix_fl rfl ?_ (fun _ _ => ?_); (first | exact .move _ | exact .load _ _ | exact .fieldAddr _ _ _ (by kernel_rfl) | exact .assign _ | exact .binOp _ _ _ _ _ rfl | exact .indexAddr _ _ _ | exact .len _ _ (by kernel_rfl) | exact .field _ _ _ | exact .extract _ _ | exact .pick _ _ _ | exact .build _ _ | exact .slice _ _ _ _ _ | exact .unOp _ _ _ rfl | exact .index _ _ _ | exact .max _ _ _ rfl rfl | exact .min _ _ _ rfl rfl | exact .nilCheck _ _ rfl)) | ((with_reducible refine Calmly.is_gl ?_); refine Calmly.mix_gl rfl rfl rfl ?_; first | ((first | with_reducible refine Calmly.gl_tt ?_ (fun _ _ => ?_) | with_reducible refine Calmly.gl_ff ?_ (fun _ _ => ?_)); (first | exact .move _ | exact .load _ _ | exact .fieldAddr _ _ _ (by kernel_rfl) | exact .assign _ | exact .binOp _ _ _ _ _ rfl | exact .indexAddr _ _ _ | exact .len _ _ (by kernel_rfl) | exact .field _ _ _ | exact .extract _ _ | exact .pick _ _ _ | exact .build _ _ | exact .slice _ _ _ _ _ | exact .unOp _ _ _ rfl | exact .index _ _ _ | exact .max _ _ _ rfl rfl | exact .min _ _ _ rfl rfl | exact .nilCheck _ _ rfl)) | with_reducible refine Calmly.gl_tf (fun _ _ => ?_) | with_reducible refine Calmly.gl_ft (fun _ _ => ?_)) | ((with_reducible refine Calmly.is_eff ?_); refine Calmly.mix_eff rfl (fun _ _ => ?_)) | ((with_reducible refine Calmly.is_gf ?_); refine Calmly.mix_gf rfl rfl rfl ?_; first | with_reducible refine Calmly.gf_tt (fun _ _ => ?_) | with_reducible refine Calmly.gf_ff (fun _ _ => ?_) | with_reducible refine Calmly.gf_tf (kept_of hk) (fun _ _ => ?_) | with_reducible refine Calmly.gf_ft (kept_of hk) (fun _ _ => ?_)) | ((with_reducible refine Calmly.is_tail ?_); first | refine Calmly.mix_tail_nil ?_ | refine Calmly.mix_tail rfl (fun _ _ => ?_)) | ((with_reducible refine Calmly.is_kept ?_); refine ⟨kept_of hk, ?_⟩) | (with_reducible refine Calmly.mix_alt ?_ ?_))
      obtain ⟨yk, hyk⟩ : ∃ v, y * kv = v := ⟨_, rfl⟩
      rw [hyk] at mb1 mb2 mb3 HP1 HD1 ⊢
      have HYK := Lib.hid hyk
      clear hyk yc
      have hg3 := hown.lt
      rename World => w5
      go_loopw [53] (fun z wr => ∃ (k : Nat), z = .int .i64 (k : Int) ∧ k ≤ i + 1 ∧ wr.heap[b9]? = some (.cells #[.slice (some ⟨g, 0, none⟩) (i + 1) c'] 22) ∧ OwI wr w3.heap.size (some ⟨g, 0, none⟩) (i + 1) c' (mulTo ps yk k) ∧ Below w3.heap.size w5 wr) (fun z _ => (i + 1) - (intOf z).toNat)
      case atStart => exact ⟨0, rfl, by omega, yr, by rw [mulTo_zero]; exact hown, Below.refl _ _⟩
      case round =>
        obtain ⟨k, rfl, hk1, yq, hownq, hbq⟩ := hrel
        rename World => wq
        have yc := cell_block yq 0
        by_cases hkl : k < i + 1
        · have hkp : k < ps.length := by omega
          have e5 := hownq.cell k hkl
          rw [mulTo_at ps yk k hkp] at e5
          have e6 := hownq.free k
          have hst := hownq.stored k (ps[k]?.getD 0 * yk)
          rw [mulTo_succ ps yk k hkp] at hst
          have spk := sp k
          have pb := mul_bd2 (a := ps[k]?.getD 0) (x := yk) (A := 2116000000) (C := 2000) (by omega) (by omega) (by omega) (by omega)
          obtain ⟨pb1, pb2⟩ := pb
          simp only [Int.reduceMul, Int.reduceNeg] at pb1 pb2
          obtain ⟨pv, hpv⟩ : ∃ v, ps[k]?.getD 0 = v := ⟨_, rfl⟩
          rw [hpv] at e5 hst spk pb1 pb2
          have HST := Lib.hid hst
          clear hst hkp hpv
          have hk2 : (k : Int) < ((i + 1 : Nat) : Int) := by omega
          have hk3 : (0 : Int) ≤ (k : Int) := by omega
          have hk4 : (k : Int) < (i : Int) + 1 := by omega
          go_wp2_with fail
          go_roundw
          case rel => exact ⟨k + 1, by go_num, by omega, blk_other' yq (fun h => hg9 h.symm) _ _, HST.out.1, hbq.trans HST.out.2⟩
          case measure => simp [intOf]; omega
        · obtain rfl : k = i + 1 := by omega
          rw [mulTo_all _ _ _ hp5'] at hownq
          have hlm : (ps.map (fun p => p * yk)).length = i + 1 := by rw [List.length_map]; omega
          have e5 := hownq.cell i (by omega)
          have hmi : (ps.map (fun p => p * yk))[i]?.getD 0 = ps[i]?.getD 0 * yk := by
            rw [List.getElem?_map, List.getElem?_eq_getElem (by omega : i < ps.length)]
            rfl
          rw [hmi] at e5
          have spk := sp i
          have pb := mul_bd2 (a := ps[i]?.getD 0) (x := yk) (A := 2116000000) (C := 2000) (by omega) (by omega) (by omega) (by omega)
          obtain ⟨pb1, pb2⟩ := pb
          have db := mul_bd2 (a := D) (x := yk) (A := 4000000) (C := 2000) (by omega) (by omega) (by omega) (by omega)
          obtain ⟨db1, db2⟩ := db
          simp only [Int.reduceMul, Int.reduceNeg] at pb1 pb2 db1 db2
          have hp1 := HP1.out
          obtain ⟨pv, hpv⟩ : ∃ v, ps[i]?.getD 0 * yk = v := ⟨_, rfl⟩
          rw [hpv] at e5 pb1 pb2 hp1
          have HP2 := Lib.hid hp1
          clear hp1 hpv hmi hlm HP1 hp5' hp5
          have hkn : ¬ (i : Int) + 1 < (i : Int) + 1 := by omega
          have hi9 : (i : Int) < (i : Int) + 1 := by omega
          have hB9 : w3.heap.size ≤ wq.heap.size := by have := hownq.lt; omega
          clear hkl hk1 hkn
          go_wp2_with fail
          refine Calmly.wp_region_mix 8 (.fl 0 <| .fl 1 <| .fl 2 <| .fl 3 <| .fl 4 <| .fl 5 <| .fl 6 <| .eff 7 <| .tail [8, 9]) (by kernel_rfl) (by kernel_rfl) ?_
          replace yq : wq.drew.heap[b9]? = some (.cells #[.slice (some ⟨g, 0, none⟩) (i + 1) c'] 22) := yq
          replace hownq := hownq.drew
          replace e5 : wq.drew.cell? ⟨g, i, none⟩ = some (.int .i64 pv) := e5
          replace hbq := hbq.drew
          replace hB9 : w3.heap.size ≤ wq.drew.heap.size := hB9
          clear yc
          generalize wq.drew = V2 at *
          have yc := cell_block yq 0
          have hk := Below.refl V2.heap.size V2
          go_wp2_with (first | ((with_reducible refine Calmly.is_tail ?_); refine Calmly.mix_tail_app rfl (fun rest hrest => ?_); refine appIx V2 rfl rfl _ _ rfl hownq rfl rfl (by omega) (by omega) ?_; intro g2 c2' w6 ho6 hb6 hs6 hat6 hg6; refine hrest _ _ ?_; have y6 := (hat6 b9 (blk_lt yq) (fun h => hg9 h.symm)).trans yq; have f3 := cell_block y6 0; have f4 := frozen_block y6 0) | ((with_reducible refine Calmly.is_fl ?_); refine Calmly.mix_fl rfl ?_ (fun _ _ => ?_); (first | exact .move _ | exact .load _ _ | exact .fieldAddr _ _ _ (by kernel_rfl) | exact .assign _ | exact .binOp _ _ _ _ _ rfl | exact .indexAddr _ _ _ | exact .len _ _ (by kernel_rfl) | exact .field _ _ _ | exact .extract _ _ | exact .pick _ _ _ | exact .build _ _ | exact .slice _ _ _ _ _ | exact .unOp _ _ _ rfl | exact .index _ _ _ | exact .max _ _ _ rfl rfl | exact .min _ _ _ rfl rfl | exact .nilCheck _ _ rfl)) | ((with_reducible refine Calmly.is_gl ?_); refine Calmly.mix_gl rfl rfl rfl ?_; first | ((first | with_reducible refine Calmly.gl_tt ?_ (fun _ _ => ?_) | with_reducible refine Calmly.gl_ff ?_ (fun _ _ => ?_)); (first | exact .move _ | exact .load _ _ | exact .fieldAddr _ _ _ (by kernel_rfl) | exact .assign _ | exact .binOp _ _ _ _ _ rfl | exact .indexAddr _ _ _ | exact .len _ _ (by kernel_rfl) | exact .field _ _ _ | exact .extract _ _ | exact .pick _ _ _ | exact .build _ _ | exact .slice _ _ _ _ _ | exact .unOp _ _ _ rfl | exact .index _ _ _ | exact .max _ _ _ rfl rfl | exact .min _ _ _ rfl rfl | exact .nilCheck _ _ rfl)) | with_reducible refine Calmly.gl_tf (fun _ _ => ?_) | with_reducible refine Calmly.gl_ft (fun _ _ => ?_)) | ((with_reducible refine Calmly.is_eff ?_); refine Calmly.mix_eff rfl (fun _ _ => ?_)) | ((with_reducible refine Calmly.is_gf ?_); refine Calmly.mix_gf rfl rfl rfl ?_; first | with_reducible refine Calmly.gf_tt (fun _ _ => ?_) | with_reducible refine Calmly.gf_ff (fun _ _ => ?_) | with_reducible refine Calmly.gf_tf (kept_of hk) (fun _ _ => ?_) | with_reducible refine Calmly.gf_ft (kept_of hk) (fun _ _ => ?_)) | ((with_reducible refine Calmly.is_tail ?_); first | refine Calmly.mix_tail_nil ?_ | refine Calmly.mix_tail rfl (fun _ _ => ?_)) | ((with_reducible refine Calmly.is_kept ?_); refine ⟨kept_of hk, ?_⟩) | (with_reducible refine Calmly.mix_alt ?_ ?_) | (refine kept_alloc hk (fun hk' hblk hge => ?_); replace hk := hk'; clear hk'))
          go_roundw
          case rel =>
            have hg2 : g2 ≠ b9 := by
              rcases hg6 with h | h
              · rw [h]; exact hg9
              · have := blk_lt yq
                omega
            refine ⟨i + 1, c2', g2, by go_num, by omega, by rw [HD1.out], blk_setAt y6 0 _, ?_, hg2, ?_⟩
            · rw [HP2.out]
              exact ho6.other (fun h => hg2 h.symm) _
            · exact (hbr.trans (hbq.trans hb6)).setCell (by show _ ≤ b9; omega) _
          case measure => simp [intOf]; omega
    · have hin : n - 1 = i := by omega
      have hle : (n : Int) - 1 ≤ (i : Int) := by omega
      have hR := HR.out
      have hX := HX.out
      have hS := HS.out
      rw [hin] at hR hX hS
      have hM : (46000 : Int) ^ i ≤ 97336000000000 := by
        rcases (by omega : i = 0 ∨ i = 1 ∨ i = 2 ∨ i = 3) with rfl | rfl | rfl | rfl <;> decide
      have hM0 : (0 : Int) ≤ 46000 ^ i := Int.pow_nonneg (by omega)
      have hD2 : (2000 : Int) ^ i ≤ 8000000000 := by
        rcases (by omega : i = 0 ∨ i = 1 ∨ i = 2 ∨ i = 3) with rfl | rfl | rfl | rfl <;> decide
      have hpb : ∀ z ∈ shP ms ks x y i, -9223372036854775807 ≤ z ∧ z ≤ 9223372036854775807 := by
        intro z hz
        obtain ⟨j, hj, rfl⟩ := List.getElem_of_mem hz
        have := sp j
        rw [List.getElem?_eq_getElem hj] at this
        simp only [Option.getD_some] at this
        omega
      have hxl : xs.length = i + 1 := by
        rw [← hX, List.length_map, shP_len]
      have HXL := Lib.hid hxl
      have HIN := Lib.hid hin
      clear hxl hlt hin
      go_wp2_with fail
      refine Calmly.wp_region_mix 9 (.fl 0 <| .fl 1 <| .fl 3 <| .fl 4 <| .fl 5 <| .fl 6 <| .eff 2 <| .eff 7 <| .eff 8 <| .tail [9, 10, 11]) (by kernel_rfl) (by kernel_rfl) ?_
      replace X2 : wi.drew.heap[w.heap.size + 1]? = some (.cells #[.int .i64 x, .int .i64 y] 39) := X2
      replace Y1 : wi.drew.heap[w1.heap.size]? = some (.cells #[.slice a n c, .slice b m d] 118) := Y1
      replace yr : wi.drew.heap[b9]? = some (.cells #[.slice (some ⟨g, 0, none⟩) (i + 1) c'] 22) := yr
      have X3 : wi.drew.heap[w.heap.size + 1 + 1]? = some (.cells #[.int .i64 0, .slice none 0 0] 65) := blk_keep x3 hbr.drew
      replace hown := hown.drew
      replace H1 := H1.drew
      replace H2 := H2.drew
      replace hbr := hbr.drew
      replace Bw := Bw.drew
      generalize wi.drew = V at *
      have yc := cell_block yr 0
      have hk := Below.refl V.heap.size V
      go_wp2_with (first | ((with_reducible refine Calmly.is_fl ?_); refine Calmly.mix_fl rfl ?_ (fun _ _ => ?_); (first | exact .move _ | exact .load _ _ | exact .fieldAddr _ _ _ (by kernel_rfl) | exact .assign _ | exact .binOp _ _ _ _ _ rfl | exact .indexAddr _ _ _ | exact .len _ _ (by kernel_rfl) | exact .field _ _ _ | exact .extract _ _ | exact .pick _ _ _ | exact .build _ _ | exact .slice _ _ _ _ _ | exact .unOp _ _ _ rfl | exact .index _ _ _ | exact .max _ _ _ rfl rfl | exact .min _ _ _ rfl rfl | exact .nilCheck _ _ rfl)) | ((with_reducible refine Calmly.is_gl ?_); refine Calmly.mix_gl rfl rfl rfl ?_; first | ((first | with_reducible refine Calmly.gl_tt ?_ (fun _ _ => ?_) | with_reducible refine Calmly.gl_ff ?_ (fun _ _ => ?_)); (first | exact .move _ | exact .load _ _ | exact .fieldAddr _ _ _ (by kernel_rfl) | exact .assign _ | exact .binOp _ _ _ _ _ rfl | exact .indexAddr _ _ _ | exact .len _ _ (by kernel_rfl) | exact .field _ _ _ | exact .extract _ _ | exact .pick _ _ _ | exact .build _ _ | exact .slice _ _ _ _ _ | exact .unOp _ _ _ rfl | exact .index _ _ _ | exact .max _ _ _ rfl rfl | exact .min _ _ _ rfl rfl | exact .nilCheck _ _ rfl)) | with_reducible refine Calmly.gl_tf (fun _ _ => ?_) | with_reducible refine Calmly.gl_ft (fun _ _ => ?_)) | ((with_reducible refine Calmly.is_eff ?_); refine Calmly.mix_eff rfl (fun _ _ => ?_)) | ((with_reducible refine Calmly.is_gf ?_); refine Calmly.mix_gf rfl rfl rfl ?_; first | with_reducible refine Calmly.gf_tt (fun _ _ => ?_) | with_reducible refine Calmly.gf_ff (fun _ _ => ?_) | with_reducible refine Calmly.gf_tf (kept_of hk) (fun _ _ => ?_) | with_reducible refine Calmly.gf_ft (kept_of hk) (fun _ _ => ?_)) | ((with_reducible refine Calmly.is_tail ?_); first | refine Calmly.mix_tail_nil ?_ | refine Calmly.mix_tail rfl (fun _ _ => ?_)) | ((with_reducible refine Calmly.is_kept ?_); refine ⟨kept_of hk, ?_⟩) | (with_reducible refine Calmly.mix_alt ?_ ?_))
      refine (shape_any (some ⟨g, 0, none⟩) (i + 1) c' (shP ms ks x y i) (shDen ks y i) V hown.si (by omega) (by omega) sd1 (by omega) hpb R xs hR hX).mono ?_
      rintro e w5 ⟨a9, c9, B9, rfl, ho9, hB9, hs⟩
      replace hk := step_of hk hs
      have hs5 := hs.size
      replace X2 := blk_keep X2 hs
      replace X3 := blk_keep X3 hs
      replace Y1 := blk_keep Y1 hs
      replace yr := blk_keep yr hs
      replace H1 := H1.keep hs
      replace H2 := H2.keep hs
      replace hown := hown.keep hs
      replace Bw := Bw.trans (hs.mono Bw.size)
      clear hs yc
      have yc := cell_block yr 0
      go_wp2_with (first | ((with_reducible refine Calmly.is_fl ?_); refine Calmly.mix_fl rfl ?_ (fun _ _ => ?_); (first | exact .move _ | exact .load _ _ | exact .fieldAddr _ _ _ (by kernel_rfl) | exact .assign _ | exact .binOp _ _ _ _ _ rfl | exact .indexAddr _ _ _ | exact .len _ _ (by kernel_rfl) | exact .field _ _ _ | exact .extract _ _ | exact .pick _ _ _ | exact .build _ _ | exact .slice _ _ _ _ _ | exact .unOp _ _ _ rfl | exact .index _ _ _ | exact .max _ _ _ rfl rfl | exact .min _ _ _ rfl rfl | exact .nilCheck _ _ rfl)) | ((with_reducible refine Calmly.is_gl ?_); refine Calmly.mix_gl rfl rfl rfl ?_; first | ((first | with_reducible refine Calmly.gl_tt ?_ (fun _ _ => ?_) | with_reducible refine Calmly.gl_ff ?_ (fun _ _ => ?_)); (first | exact .move _ | exact .load _ _ | exact .fieldAddr _ _ _ (by kernel_rfl) | exact .assign _ | exact .binOp _ _ _ _ _ rfl | exact .indexAddr _ _ _ | exact .len _ _ (by kernel_rfl) | exact .field _ _ _ | exact .extract _ _ | exact .pick _ _ _ | exact .build _ _ | exact .slice _ _ _ _ _ | exact .unOp _ _ _ rfl | exact .index _ _ _ | exact .max _ _ _ rfl rfl | exact .min _ _ _ rfl rfl | exact .nilCheck _ _ rfl)) | with_reducible refine Calmly.gl_tf (fun _ _ => ?_) | with_reducible refine Calmly.gl_ft (fun _ _ => ?_)) | ((with_reducible refine Calmly.is_eff ?_); refine Calmly.mix_eff rfl (fun _ _ => ?_)) | ((with_reducible refine Calmly.is_gf ?_); refine Calmly.mix_gf rfl rfl rfl ?_; first | with_reducible refine Calmly.gf_tt (fun _ _ => ?_) | with_reducible refine Calmly.gf_ff (fun _ _ => ?_) | with_reducible refine Calmly.gf_tf (kept_of hk) (fun _ _ => ?_) | with_reducible refine Calmly.gf_ft (kept_of hk) (fun _ _ => ?_)) | ((with_reducible refine Calmly.is_tail ?_); first | refine Calmly.mix_tail_nil ?_ | refine Calmly.mix_tail rfl (fun _ _ => ?_)) | ((with_reducible refine Calmly.is_kept ?_); refine ⟨kept_of hk, ?_⟩) | (with_reducible refine Calmly.mix_alt ?_ ?_))
      refine (pull_any b9 (w.heap.size + 1) w1.heap.size a b (some ⟨g, 0, none⟩) n c m d (i + 1) c' ms ks (shP ms ks x y i) x y i w5 (46000 ^ i) yr X2 Y1 H1 H2 hown.si (by omega) (by omega) (by omega) hq (Q5.out i (by omega)) (Q4.out i (by omega)) hM0 hM sp).mono ?_
      rintro e w6 ⟨rfl, hs⟩
      replace hk := step_of hk hs
      replace X3 := blk_keep X3 hs
      replace ho9 := ho9.keep hs
      replace Bw := Bw.trans (hs.mono Bw.size)
      clear hs yc
      go_wp2_with (first | ((with_reducible refine Calmly.is_fl ?_); refine Calmly.mix_fl rfl ?_ (fun _ _ => ?_); (first | exact .move _ | exact .load _ _ | exact .fieldAddr _ _ _ (by kernel_rfl) | exact .assign _ | exact .binOp _ _ _ _ _ rfl | exact .indexAddr _ _ _ | exact .len _ _ (by kernel_rfl) | exact .field _ _ _ | exact .extract _ _ | exact .pick _ _ _ | exact .build _ _ | exact .slice _ _ _ _ _ | exact .unOp _ _ _ rfl | exact .index _ _ _ | exact .max _ _ _ rfl rfl | exact .min _ _ _ rfl rfl | exact .nilCheck _ _ rfl)) | ((with_reducible refine Calmly.is_gl ?_); refine Calmly.mix_gl rfl rfl rfl ?_; first | ((first | with_reducible refine Calmly.gl_tt ?_ (fun _ _ => ?_) | with_reducible refine Calmly.gl_ff ?_ (fun _ _ => ?_)); (first | exact .move _ | exact .load _ _ | exact .fieldAddr _ _ _ (by kernel_rfl) | exact .assign _ | exact .binOp _ _ _ _ _ rfl | exact .indexAddr _ _ _ | exact .len _ _ (by kernel_rfl) | exact .field _ _ _ | exact .extract _ _ | exact .pick _ _ _ | exact .build _ _ | exact .slice _ _ _ _ _ | exact .unOp _ _ _ rfl | exact .index _ _ _ | exact .max _ _ _ rfl rfl | exact .min _ _ _ rfl rfl | exact .nilCheck _ _ rfl)) | with_reducible refine Calmly.gl_tf (fun _ _ => ?_) | with_reducible refine Calmly.gl_ft (fun _ _ => ?_)) | ((with_reducible refine Calmly.is_eff ?_); refine Calmly.mix_eff rfl (fun _ _ => ?_)) | ((with_reducible refine Calmly.is_gf ?_); refine Calmly.mix_gf rfl rfl rfl ?_; first | with_reducible refine Calmly.gf_tt (fun _ _ => ?_) | with_reducible refine Calmly.gf_ff (fun _ _ => ?_) | with_reducible refine Calmly.gf_tf (kept_of hk) (fun _ _ => ?_) | with_reducible refine Calmly.gf_ft (kept_of hk) (fun _ _ => ?_)) | ((with_reducible refine Calmly.is_tail ?_); first | refine Calmly.mix_tail_nil ?_ | refine Calmly.mix_tail rfl (fun _ _ => ?_)) | ((with_reducible refine Calmly.is_kept ?_); refine ⟨kept_of hk, ?_⟩) | (with_reducible refine Calmly.mix_alt ?_ ?_))
      refine (sign_any _ _).mono ?_
      rintro e w7 ⟨rfl, rfl⟩
      rw [hS]
      have t0 := cell_block X3 0
      have t1 := cell_block X3 1
      have t2 := frozen_block X3 0
      have t3 := frozen_block X3 1
      clear hR hX hS
      go_wp2_with (first | ((with_reducible refine Calmly.is_fl ?_); refine Calmly.mix_fl rfl ?_ (fun _ _ => ?_); (first | exact .move _ | exact .load _ _ | exact .fieldAddr _ _ _ (by kernel_rfl) | exact .assign _ | exact .binOp _ _ _ _ _ rfl | exact .indexAddr _ _ _ | exact .len _ _ (by kernel_rfl) | exact .field _ _ _ | exact .extract _ _ | exact .pick _ _ _ | exact .build _ _ | exact .slice _ _ _ _ _ | exact .unOp _ _ _ rfl | exact .index _ _ _ | exact .max _ _ _ rfl rfl | exact .min _ _ _ rfl rfl | exact .nilCheck _ _ rfl)) | ((with_reducible refine Calmly.is_gl ?_); refine Calmly.mix_gl rfl rfl rfl ?_; first | ((first | with_reducible refine Calmly.gl_tt ?_ (fun _ _ => ?_) | with_reducible refine Calmly.gl_ff ?_ (fun _ _ => ?_)); (first | exact .move _ | exact .load _ _ | exact .fieldAddr _ _ _ (by kernel_rfl) | exact .assign _ | exact .binOp _ _ _ _ _ rfl | exact .indexAddr _ _ _ | exact .len _ _ (by kernel_rfl) | exact .field _ _ _ | exact .extract _ _ | exact .pick _ _ _ | exact .build _ _ | exact .slice _ _ _ _ _ | exact .unOp _ _ _ rfl | exact .index _ _ _ | exact .max _ _ _ rfl rfl | exact .min _ _ _ rfl rfl | exact .nilCheck _ _ rfl)) | with_reducible refine Calmly.gl_tf (fun _ _ => ?_) | with_reducible refine Calmly.gl_ft (fun _ _ => ?_)) | ((with_reducible refine Calmly.is_eff ?_); refine Calmly.mix_eff rfl (fun _ _ => ?_)) | ((with_reducible refine Calmly.is_gf ?_); refine Calmly.mix_gf rfl rfl rfl ?_; first | with_reducible refine Calmly.gf_tt (fun _ _ => ?_) | with_reducible refine Calmly.gf_ff (fun _ _ => ?_) | with_reducible refine Calmly.gf_tf (kept_of hk) (fun _ _ => ?_) | with_reducible refine Calmly.gf_ft (kept_of hk) (fun _ _ => ?_)) | ((with_reducible refine Calmly.is_tail ?_); first | refine Calmly.mix_tail_nil ?_ | refine Calmly.mix_tail rfl (fun _ _ => ?_)) | ((with_reducible refine Calmly.is_kept ?_); refine ⟨kept_of hk, ?_⟩) | (with_reducible refine Calmly.mix_alt ?_ ?_))
      obtain ⟨s1, s2, s3, s4⟩ := set2 (x := .int .i64 R) (y := .slice a9 (i + 1) c9) t0 t1
      refine bodyPost_ret (v := .tuple #[.agg #[.int .i64 R, .slice a9 (i + 1) c9], .int .i64 S, .int .i64 0]) (by simp [results, Tryz.results29, go_sem, s1, s2]) rfl ⟨a9, c9, B9, by rw [HXL.out], ?_, by have := hbr.size; omega, ?_⟩
      · rw [HXL.out]
        have hvs : w.heap.size + 1 + 1 < V.heap.size := by
          have := hbr.size
          omega
        exact ho9.under2 (by omega) _ _
      · exact (Bw.setCell (by simp; omega) _).setCell (by simp; omega) _
end Go.Proofs.YteigmjlfpmdmoaaGreatDoor
