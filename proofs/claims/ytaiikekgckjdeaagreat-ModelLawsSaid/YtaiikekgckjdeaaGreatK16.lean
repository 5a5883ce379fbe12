/- The reference's beginning of a hold; whether holds are equal. The examples of chapter 5 hold. The arguments of a law of chapter 5, opened: numbers, fractions, arrays. The arguments of a law of chapter 5, opened: a pair of quantities, a number. The arguments of a law of chapter 5, opened: springs, holds. The reference's springs: their errors, copies. Appends of any records within a plan; the reference's copies of holds, its force and energy. The reference's force and energy of a hold. The reference's check of a hold. The reference's hold that has moved. Small laws that many texts of chapter 5 need. The reference's frames: their errors; the errors of motions. Few floors; the reference's copy of a frame. -/
import Derived.Test.YtaiikekgckjdeaaGreatK15
import Derived.ProofKit
import Derived.OpenShut
namespace Go.Proofs.YtaiikekgckjdeaaGreat
open Go.RowKit
open Calmly (Kept)
set_option maxRecDepth 100000 in
set_option maxHeartbeats 1000000 in
theorem rBegin_any (a : Option Addr) (n c : Nat) (l : List El) (w : World) (h1 : SEl w a n c l) (hn : n ≤ 1000) :
    Calls Tryz.prog 22 #[.slice a n c] w fun e w' => ∃ av, e = .returned (.agg #[.int .i64 0, .slice av n n]) ∧ OwS w' w.heap.size av n n (List.replicate n sp0) ∧ Below w.heap.size w w' := by
  have m1 := h1.max
  have c1 := h1.cap
  go_enter Tryz.func22, Tryz.ntmps22
  have y0 := alloc_new w (.cells #[.int .i64 0, .slice none 0 0] 57)
  have BW : Below w.heap.size w (w.alloc (.cells #[.int .i64 0, .slice none 0 0] 57)) := (Below.refl _ _).alloc (Nat.le_refl _) _
  have hsz : (w.alloc (.cells #[.int .i64 0, .slice none 0 0] 57)).heap.size = w.heap.size + 1 := by simp
  have HS := Lib.hid hsz
  clear hsz
  go_wp2_with (refine makeS (n := n) rfl _ _ rfl rfl rfl rfl (by omega) (fun w2 ho hb hlt => ?_); have k0 := blk_keep y0 hb; have c0 := cell_block k0 0; have c1 := cell_block k0 1; have f0 := frozen_block k0 0; have f1 := frozen_block k0 1)
  have hne2 : ∀ b, b ≠ w.heap.size → ((w2.setCell ⟨w.heap.size, 0, none⟩ (.int .i64 0)).setCell ⟨w.heap.size, 1, none⟩ (.slice (some ⟨w.heap.size + 1, 0, none⟩) n n)).heap[b]? = w2.heap[b]? := fun b hb => by
    rw [Below.heap_setCell _ _ _ _ hb, Below.heap_setCell _ _ _ _ hb]
  have q0 := setBlk (setBlk k0 0 (.int .i64 0)) 1 (.slice (some ⟨w.heap.size + 1, 0, none⟩) n n)
  simp at q0
  have e0 := cell_block q0 0
  have e1 := cell_block q0 1
  have BF : Below w.heap.size w ((w2.setCell ⟨w.heap.size, 0, none⟩ (.int .i64 0)).setCell ⟨w.heap.size, 1, none⟩ (.slice (some ⟨w.heap.size + 1, 0, none⟩) n n)) := ((BW.trans (hb.mono BW.size)).setCell (Nat.le_refl _) _).setCell (Nat.le_refl _) _
  have ho2 : OwS ((w2.setCell ⟨w.heap.size, 0, none⟩ (.int .i64 0)).setCell ⟨w.heap.size, 1, none⟩ (.slice (some ⟨w.heap.size + 1, 0, none⟩) n n)) w.heap.size (some ⟨w.heap.size + 1, 0, none⟩) n n (List.replicate n sp0) := by
    rw [HS.out] at ho
    exact owns_lower (owns_apart ho hne2 (by omega)) (by omega)
  refine bodyPost_ret (v := .agg #[.int .i64 0, .slice (some ⟨w.heap.size + 1, 0, none⟩) n n]) (by simp [results, Tryz.results22, go_sem, e0, e1]) rfl ⟨_, rfl, ho2, BF⟩
theorem takeG_step {α : Type} {xs ys : List α} (d : α) {k : Nat} (h : xs.take k = ys.take k) (h1 : k < xs.length) (h2 : k < ys.length) (he : xs[k]?.getD d = ys[k]?.getD d) : xs.take (k + 1) = ys.take (k + 1) := by
  rw [List.getElem?_eq_getElem h1, List.getElem?_eq_getElem h2] at he
  rw [List.take_succ_eq_append_getElem h1, List.take_succ_eq_append_getElem h2, h]
  have he' : xs[k] = ys[k] := by simpa using he
  rw [he']
set_option maxRecDepth 100000 in
set_option maxHeartbeats 1000000 in
theorem sameHold_any (A B : Int) (a b : Option Addr) (n m c d : Nat) (xs ys : List Sp) (w : World) (h1 : SSp w a n c xs) (h2 : SSp w b m d ys) :
    Calls Tryz.prog 26 #[.agg #[.int .i64 A, .slice a n c], .agg #[.int .i64 B, .slice b m d]] w fun e w' => e = .returned (.bool (decide (A = B ∧ xs = ys))) ∧ Below w.heap.size w w' := by
  have l1 := h1.len
  have k1 := h2.len
  have L1 := Lib.hid l1
  have K1 := Lib.hid k1
  have m1 := h1.max
  have m2 := h2.max
  have c1 := h1.cap
  have c2 := h2.cap
  have y0 := blk_keep (alloc_new w (.cells #[.int .i64 A, .slice a n c] 57)) ((Below.refl _ _).alloc (Nat.le_refl _) (.cells #[.int .i64 B, .slice b m d] 57))
  have y1 := alloc_new (w.alloc (.cells #[.int .i64 A, .slice a n c] 57)) (.cells #[.int .i64 B, .slice b m d] 57)
  have BW : Below w.heap.size w ((w.alloc (.cells #[.int .i64 A, .slice a n c] 57)).alloc (.cells #[.int .i64 B, .slice b m d] 57)) := ((Below.refl _ _).alloc (Nat.le_refl _) _).alloc (by simp) _
  simp only [World.size_alloc] at y1
  clear l1 k1
  obtain ⟨R, hR⟩ : ∃ R, decide (A = B ∧ xs = ys) = R := ⟨_, rfl⟩
  rw [hR]
  have HR := Lib.hid hR
  clear hR
  have f0 := cell_block y0 0
  have f1 := cell_block y0 1
  have g0 := cell_block y1 0
  have g1 := cell_block y1 1
  by_cases hAB : A = B
  · by_cases he : n = m
    · have b1 : (A != B) = false := by simpa using hAB
      have b2 : ((n : Int) != (m : Int)) = false := by rw [he]; simp
      have HAB := Lib.hid hAB
      have HE := Lib.hid he
      clear hAB he
      go_enter Tryz.func26, Tryz.ntmps26
      go_wp2_with fail
      generalize (w.alloc (.cells #[.int .i64 A, .slice a n c] 57)).alloc (.cells #[.int .i64 B, .slice b m d] 57) = W at *
      go_loopw [5] (fun i wr => ∃ k : Nat, k ≤ n ∧ i = .int .i64 k ∧ xs.take k = ys.take k ∧ Below W.heap.size W wr) (fun i _ => n - (intOf i).toNat)
      case atStart => exact ⟨0, by omega, rfl, rfl, Below.refl _ _⟩
      case round =>
        clear f0 f1 g0 g1
        obtain ⟨k, hk, rfl, ht, hb⟩ := hrel
        have HT := Lib.hid ht
        clear ht
        have z0 := blk_keep y0 hb
        have z1 := blk_keep y1 hb
        have f1 := cell_block z0 1
        have g1 := cell_block z1 1
        by_cases hlt : k < n
        · obtain ⟨b1', o1, rfl, hc1⟩ := (h1.keep (BW.trans (hb.mono BW.size))).at_ (by omega)
          obtain ⟨b2', o2, rfl, hc2⟩ := (h2.keep (BW.trans (hb.mono BW.size))).at_ (by have := HE.out; omega)
          obtain ⟨p0, p1⟩ := hc1 k hlt
          obtain ⟨q0, q1⟩ := hc2 k (by have := HE.out; omega)
          have hi : (k : Int) < (n : Int) := by omega
          have him : (k : Int) < (m : Int) := by have := HE.out; omega
          have hi0 : (0 : Int) ≤ (k : Int) := by omega
          obtain ⟨xx, hxx⟩ : ∃ x, xs[k]?.getD sp0 = x := ⟨_, rfl⟩
          obtain ⟨yy, hyy⟩ : ∃ x, ys[k]?.getD sp0 = x := ⟨_, rfl⟩
          obtain ⟨x0, x1⟩ := xx
          obtain ⟨v0, v1⟩ := yy
          rw [hxx] at p0 p1
          rw [hyy] at q0 q1
          dsimp only at p0 p1 q0 q1
          have HX := Lib.hid hxx
          have HY := Lib.hid hyy
          clear hc1 hc2 hxx hyy
          go_wp2_with fail
          refine Calmly.wp_region_mix 10 (.fl 0 <| .fl 1 <| .fl 2 <| .fl 3 <| .fl 4 <| .fl 5 <| .fl 6 <| .fl 7 <| .fl 8 <| .fl 9 <| .tail [10]) (by kernel_rfl) (by kernel_rfl) ?_
          have BD : Below wr.heap.size wr wr.drew := (Below.refl _ _).drew
          replace f1 := cell_block (blk_keep z0 BD) 1
          replace g1 := cell_block (blk_keep z1 BD) 1
          replace p0 := cell_keep p0 BD
          replace p1 := cell_keep p1 BD
          replace q0 := cell_keep q0 BD
          replace q1 := cell_keep q1 BD
          have hb2 := hb.trans (BD.mono hb.size)
          generalize wr.drew = V at *
          have hk5 := Below.refl V.heap.size V
          go_wp2_with (first | ((with_reducible refine Calmly.is_fl ?_); refine Calmly.mix_fl rfl ?_ (fun _ _ => ?_); (first | exact .move _ | exact .load _ _ | exact .fieldAddr _ _ _ (by kernel_rfl) | exact .assign _ | exact .binOp _ _ _ _ _ rfl | exact .indexAddr _ _ _ | exact .len _ _ (by kernel_rfl) | exact .field _ _ _ | exact .extract _ _ | exact .pick _ _ _ | exact .build _ _ | exact .slice _ _ _ _ _ | exact .unOp _ _ _ rfl | exact .index _ _ _ | exact .max _ _ _ rfl rfl | exact .min _ _ _ rfl rfl | exact .nilCheck _ _ rfl)) | ((with_reducible refine Calmly.is_gl ?_); refine Calmly.mix_gl rfl rfl rfl ?_; first | ((first | with_reducible refine Calmly.gl_tt ?_ (fun _ _ => ?_) | with_reducible refine Calmly.gl_ff ?_ (fun _ _ => ?_)); (first | exact .move _ | exact .load _ _ | exact .fieldAddr _ _ _ (by kernel_rfl) | exact .assign _ | exact .binOp _ _ _ _ _ rfl | exact .indexAddr _ _ _ | exact .len _ _ (by kernel_rfl) | exact .field _ _ _ | exact .extract _ _ | exact .pick _ _ _ | exact .build _ _ | exact .slice _ _ _ _ _ | exact .unOp _ _ _ rfl | exact .index _ _ _ | exact .max _ _ _ rfl rfl | exact .min _ _ _ rfl rfl | exact .nilCheck _ _ rfl)) | with_reducible refine Calmly.gl_tf (fun _ _ => ?_) | with_reducible refine Calmly.gl_ft (fun _ _ => ?_)) | ((with_reducible refine Calmly.is_eff ?_); refine Calmly.mix_eff rfl (fun _ _ => ?_)) | ((with_reducible refine Calmly.is_gf ?_); refine Calmly.mix_gf rfl rfl rfl ?_; first | with_reducible refine Calmly.gf_tt (fun _ _ => ?_) | with_reducible refine Calmly.gf_ff (fun _ _ => ?_) | with_reducible refine Calmly.gf_tf (kept_of hk) (fun _ _ => ?_) | with_reducible refine Calmly.gf_ft (kept_of hk) (fun _ _ => ?_)) | ((with_reducible refine Calmly.is_tail ?_); first | refine Calmly.mix_tail_nil ?_ | refine Calmly.mix_tail rfl (fun _ _ => ?_)) | ((with_reducible refine Calmly.is_kept ?_); refine ⟨kept_of hk, ?_⟩) | (with_reducible refine Calmly.mix_alt ?_ ?_))
          case roundEnd =>
            go_roundw
            case rel =>
              refine ⟨k + 1, by omega, by go_num, takeG_step sp0 HT.out (by rw [← L1.out]; exact hlt) (by rw [← K1.out, ← HE.out]; exact hlt) ?_, hb2⟩
              rw [HX.out, HY.out]
              first | rfl | simp [*]
            case measure => simp [intOf]; omega
          all_goals
            go_ret
            refine ⟨ret_bool ?_, BW.trans (hb2.mono BW.size)⟩
            have hne : ¬ xs = ys := fun h => by
              subst h
              have h5 := HX.out.symm.trans HY.out
              injection h5 with h6 h7
              first | contradiction | simp_all
            rw [← HR.out]
            simp [hne]
        · have hle : (n : Int) ≤ (k : Int) := by omega
          go_wp2_with fail
          go_ret
          refine ⟨ret_bool ?_, BW.trans (hb.mono BW.size)⟩
          have heq : xs = ys := by
            have h5 := HT.out
            rw [List.take_of_length_le (by have := L1.out; omega), List.take_of_length_le (by have := K1.out; have := HE.out; omega)] at h5
            exact h5
          rw [← HR.out]
          simp [heq, HAB.out]
    · have b1 : (A != B) = false := by simpa using hAB
      have b2 : ((n : Int) != (m : Int)) = true := by
        simp only [bne_iff_ne]
        omega
      have hne : ¬ xs = ys := fun h => by
        subst h
        exact he (L1.out.trans K1.out.symm)
      have HNE := Lib.hid hne
      clear hAB he hne
      go_enter Tryz.func26, Tryz.ntmps26
      go_wp2_with fail
      go_ret
      exact ⟨ret_bool (by rw [← HR.out]; simp [HNE.out]), BW⟩
  · have b1 : (A != B) = true := by simpa using hAB
    have HNE := Lib.hid hAB
    clear hAB
    go_enter Tryz.func26, Tryz.ntmps26
    go_wp2_with fail
    go_ret
    exact ⟨ret_bool (by rw [← HR.out]; simp [HNE.out]), BW⟩
end Go.Proofs.YtaiikekgckjdeaaGreat

namespace Go.Proofs.YtaiikekgckjdeaaGreat
open Go.RowKit
open Calmly (Kept)
set_option maxHeartbeats 400000 in
theorem lScales_any (w : World) : Calls Tryz.prog 18 #[] w fun e w' => e = .returned (.agg #[.int .i64 1, .int .i64 4, .int .i64 1, .int .i64 2, .int .i64 1, .int .i64 16]) ∧ Below w.heap.size w w' := by
  go_enter Tryz.func18, Tryz.ntmps18
  go_wp2_with fail
  have y0 := alloc_new w (.cells #[.int .i64 1, .int .i64 4, .int .i64 1, .int .i64 2, .int .i64 1, .int .i64 16] 28)
  have BW := (Below.refl w.heap.size w).alloc (Nat.le_refl _) (.cells #[.int .i64 1, .int .i64 4, .int .i64 1, .int .i64 2, .int .i64 1, .int .i64 16] 28)
  have e0 := cell_block y0 0
  have e1 := cell_block y0 1
  have e2 := cell_block y0 2
  have e3 := cell_block y0 3
  have e4 := cell_block y0 4
  have e5 := cell_block y0 5
  refine bodyPost_ret (v := .agg #[.int .i64 1, .int .i64 4, .int .i64 1, .int .i64 2, .int .i64 1, .int .i64 16]) (by simp [results, Tryz.results18, go_sem, e0, e1, e2, e3, e4, e5]) rfl ⟨rfl, BW⟩
set_option maxHeartbeats 400000 in
theorem rMass_any (w : World) : Calls Tryz.prog 19 #[] w fun e w' => e = .returned (.agg #[.int .i64 (-1), .int .i64 2, .int .i64 1]) ∧ Below w.heap.size w w' := by
  go_enter Tryz.func19, Tryz.ntmps19
  go_wp2_with fail
  have y0 := alloc_new w (.cells #[.int .i64 (-1), .int .i64 2, .int .i64 1] 53)
  have BW := (Below.refl w.heap.size w).alloc (Nat.le_refl _) (.cells #[.int .i64 (-1), .int .i64 2, .int .i64 1] 53)
  have e0 := cell_block y0 0
  have e1 := cell_block y0 1
  have e2 := cell_block y0 2
  refine bodyPost_ret (v := .agg #[.int .i64 (-1), .int .i64 2, .int .i64 1]) (by simp [results, Tryz.results19, go_sem, e0, e1, e2]) rfl ⟨rfl, BW⟩
def exSp : List El := [(10, 2, false), (5, 4, true)]
theorem SEl.two {w : World} {r : Nat} {e : TypeId} {k1 y1 k2 y2 : Int} {b1 b2 : Bool} (h : w.heap[r]? = some (.cells #[.int .i64 k1, .int .i64 y1, .bool b1, .int .i64 k2, .int .i64 y2, .bool b2] e)) : SEl w (some ⟨r, 0, none⟩) 2 2 [(k1, y1, b1), (k2, y2, b2)] := by
  refine ⟨rfl, by omega, by unfold maxLen; omega, .inr ⟨r, 0, rfl, fun i hi => ?_⟩⟩
  rw [cell_block h]
  rcases i with _ | _ | _ | _ | _ | _ | i
  all_goals first | rfl | omega
theorem SEl.one {w : World} {r : Nat} {e : TypeId} {k1 y1 : Int} {b1 : Bool} (h : w.heap[r]? = some (.cells #[.int .i64 k1, .int .i64 y1, .bool b1] e)) : SEl w (some ⟨r, 0, none⟩) 1 1 [(k1, y1, b1)] := by
  refine ⟨rfl, by omega, by unfold maxLen; omega, .inr ⟨r, 0, rfl, fun i hi => ?_⟩⟩
  rw [cell_block h]
  rcases i with _ | _ | _ | i
  all_goals first | rfl | omega
theorem SSp.two {w : World} {r : Nat} {e : TypeId} {k1 k2 : Int} {b1 b2 : Bool} (h : w.heap[r]? = some (.cells #[.int .i64 k1, .bool b1, .int .i64 k2, .bool b2] e)) : SSp w (some ⟨r, 0, none⟩) 2 2 [(k1, b1), (k2, b2)] := by
  refine ⟨rfl, by omega, by unfold maxLen; omega, .inr ⟨r, 0, rfl, fun i hi => ?_⟩⟩
  rw [cell_block h]
  rcases i with _ | _ | _ | _ | i
  all_goals first | rfl | omega
set_option maxHeartbeats 400000 in
theorem lSpring_any (w : World) : Calls Tryz.prog 21 #[] w fun e w' => ∃ a, e = .returned (.slice a 2 2) ∧ SEl w' a 2 2 exSp ∧ Below w.heap.size w w' := by
  go_enter Tryz.func21, Tryz.ntmps21
  go_wp2_with fail
  go_ret
  exact ⟨_, rfl, SEl.two (alloc_new w _), (Below.refl _ _).alloc (Nat.le_refl _) _⟩
def exFr : List Fl := [(2, 20, [(4, 10, false)]), (1, 20, [(2, 10, false)])]
set_option maxHeartbeats 400000 in
theorem lFrame_any (w : World) : Calls Tryz.prog 25 #[] w fun e w' => ∃ a raw, e = .returned (.agg #[.slice a 2 2]) ∧ FrV w' a 2 2 raw exFr ∧ Below w.heap.size w w' := by
  go_enter Tryz.func25, Tryz.ntmps25
  go_wp2_with fail
  have BE := (Below.refl w.heap.size w).alloc (Nat.le_refl _) (.cells #[.slice (some ⟨w.heap.size + 1 + 1 + 1, 0, none⟩) 2 2] 71)
  have x0 := alloc_new w (.cells #[.slice (some ⟨w.heap.size + 1 + 1 + 1, 0, none⟩) 2 2] 71)
  have hs1 : (w.alloc (.cells #[.slice (some ⟨w.heap.size + 1 + 1 + 1, 0, none⟩) 2 2] 71)).heap.size = w.heap.size + 1 := by simp
  generalize w.alloc (.cells #[.slice (some ⟨w.heap.size + 1 + 1 + 1, 0, none⟩) 2 2] 71) = W1 at *
  have x1 := alloc_new W1 (.cells #[.int .i64 4, .int .i64 10, .bool false] 110)
  have B1 := (Below.refl W1.heap.size W1).alloc (Nat.le_refl _) (.cells #[.int .i64 4, .int .i64 10, .bool false] 110)
  have hs2 : (W1.alloc (.cells #[.int .i64 4, .int .i64 10, .bool false] 110)).heap.size = w.heap.size + 1 + 1 := by simp [hs1]
  generalize W1.alloc (.cells #[.int .i64 4, .int .i64 10, .bool false] 110) = W2 at *
  have x2 := alloc_new W2 (.cells #[.int .i64 2, .int .i64 10, .bool false] 110)
  have B2 := (Below.refl W2.heap.size W2).alloc (Nat.le_refl _) (.cells #[.int .i64 2, .int .i64 10, .bool false] 110)
  have hs3 : (W2.alloc (.cells #[.int .i64 2, .int .i64 10, .bool false] 110)).heap.size = w.heap.size + 1 + 1 + 1 := by simp [hs2]
  generalize W2.alloc (.cells #[.int .i64 2, .int .i64 10, .bool false] 110) = W3 at *
  have x3 := alloc_new W3 (.cells #[.int .i64 2, .int .i64 20, .slice (some ⟨w.heap.size + 1, 0, none⟩) 1 1, .int .i64 1, .int .i64 20, .slice (some ⟨w.heap.size + 1 + 1, 0, none⟩) 1 1] 120)
  have B3 := (Below.refl W3.heap.size W3).alloc (Nat.le_refl _) (.cells #[.int .i64 2, .int .i64 20, .slice (some ⟨w.heap.size + 1, 0, none⟩) 1 1, .int .i64 1, .int .i64 20, .slice (some ⟨w.heap.size + 1 + 1, 0, none⟩) 1 1] 120)
  generalize W3.alloc (.cells #[.int .i64 2, .int .i64 20, .slice (some ⟨w.heap.size + 1, 0, none⟩) 1 1, .int .i64 1, .int .i64 20, .slice (some ⟨w.heap.size + 1 + 1, 0, none⟩) 1 1] 120) = W4 at *
  replace x0 := blk_keep (blk_keep (blk_keep x0 B1) B2) B3
  replace x1 := blk_keep (blk_keep x1 B2) B3
  replace x2 := blk_keep x2 B3
  rw [hs1] at x1
  rw [hs2] at x2
  rw [hs3] at x3
  have e0 := cell_block x0 0
  refine bodyPost_ret (v := .agg #[.slice (some ⟨w.heap.size + 1 + 1 + 1, 0, none⟩) 2 2]) (by simp [results, Tryz.results25, go_sem, e0]) rfl ⟨_, [(2, 20, (some ⟨w.heap.size + 1, 0, none⟩, 1, 1)), (1, 20, (some ⟨w.heap.size + 1 + 1, 0, none⟩, 1, 1))], rfl, ⟨?_, rfl, ?_⟩, ?_⟩
  · refine ⟨rfl, by omega, by unfold maxLen; omega, .inr ⟨w.heap.size + 1 + 1 + 1, 0, rfl, fun i hi => ?_⟩⟩
    rw [cell_block x3]
    rcases i with _ | _ | _ | _ | _ | _ | i
    all_goals first | rfl | omega
  · intro i hi
    have hi2 : i < 2 := hi
    rcases i with _ | _ | i
    · exact ⟨rfl, rfl, SEl.one x1⟩
    · exact ⟨rfl, rfl, SEl.one x2⟩
    · omega
  · exact ((BE.trans (B1.mono (by omega))).trans (B2.mono (by omega))).trans (B3.mono (by omega))
theorem ex_facE : facE 1 4 1 2 1 16 (-1) 2 1 = 0 := by decide +kernel
theorem ex_facV : facV 1 4 1 2 1 16 (-1) 2 1 = 1 / 16 := by decide +kernel
theorem ex_opnE : opnE exSp 0 (List.replicate 2 sp0) 3 = 0 := by decide +kernel
theorem ex_mvd : mvdS exSp (List.replicate 2 sp0) 3 = [(1, false), (0, false)] := by decide +kernel
theorem ex_wrk : wrkS exSp (List.replicate 2 sp0) 0 3 = 125 := by decide +kernel
theorem ex_los : losS exSp (List.replicate 2 sp0) 3 = 40 := by decide +kernel
theorem ex_run : runE exFr [-3, 0, 0] = 0 := by decide +kernel
theorem ex_pk : pkS (List.replicate exFr.length 0) (bgSt exFr :: (runS exFr (bgSt exFr) [-3, 0, 0]).1) = [3, 6] := by decide +kernel
set_option maxRecDepth 100000 in
set_option maxHeartbeats 2000000 in
theorem awake_any (w : World) : Calls Tryz.prog 4 #[] w fun e w' => e = .returned (.bool true) ∧ Below w.heap.size w w' := by
  have hA : ∀ (A : World) (o : Obj), Below A.heap.size A (A.alloc o) := fun A o => (Below.refl _ _).alloc (Nat.le_refl _) _
  go_enter Tryz.func4, Tryz.ntmps4
  go_wp2_with fail
  refine (lScales_any _).mono ?_
  rintro e w1 ⟨rfl, B1⟩
  go_wp2_with fail
  refine (rMass_any _).mono ?_
  rintro e w2 ⟨rfl, hs⟩
  replace B1 := B1.trans (hs.mono B1.size)
  clear hs
  go_wp2_with fail
  refine (FactorOf_any 1 4 1 2 1 16 (-1) 2 1 _ (by unfold F64; omega) (by unfold F64; omega) (by unfold F64; omega)).mono ?_
  rintro e w3 ⟨rfl, hs⟩
  replace B1 := B1.trans (hs.mono B1.size)
  clear hs
  rw [ex_facE, ex_facV, show qN 0 (1 / 16) = 1 by decide +kernel, show qD 0 (1 / 16) = 16 by decide +kernel]
  have x1 := alloc_new w3 (.cells #[.int .i64 1, .int .i64 16] 27)
  have hk := hA w3 (.cells #[.int .i64 1, .int .i64 16] 27)
  replace B1 := B1.trans (hk.mono B1.size)
  clear hk
  go_wp2_with fail
  obtain ⟨q1, hq1⟩ : ∃ q, w3.heap.size = q := ⟨_, rfl⟩
  rw [hq1] at x1 ⊢
  generalize w3.alloc (.cells #[.int .i64 1, .int .i64 16] 27) = W3 at *
  refine (lSpring_any _).mono ?_
  rintro e w4 ⟨a1, rfl, s1, hs⟩
  replace B1 := B1.trans (hs.mono B1.size)
  replace x1 := blk_keep x1 hs
  clear hs
  go_wp2_with fail
  refine (lSpring_any _).mono ?_
  rintro e w5 ⟨a2, rfl, s2, hs⟩
  replace B1 := B1.trans (hs.mono B1.size)
  replace x1 := blk_keep x1 hs
  replace s1 := s1.keep hs
  clear hs
  go_wp2_with fail
  refine (rBegin_any a2 2 2 exSp _ s2 (by omega)).mono ?_
  rintro e w6 ⟨av, rfl, ho, hs⟩
  replace B1 := B1.trans (hs.mono B1.size)
  replace x1 := blk_keep x1 hs
  replace s1 := s1.keep hs
  clear hs s2
  go_wp2_with fail
  refine (MovedTo_any a1 av 2 2 2 2 exSp 0 3 (List.replicate 2 sp0) _ s1 ho.ss).mono ?_
  rintro e w7 ⟨a3, n3, c3, rfl, ho3, hs⟩
  replace B1 := B1.trans (hs.mono B1.size)
  replace x1 := blk_keep x1 hs
  rw [ex_opnE, if_pos rfl, ex_mvd] at ho3
  rw [ex_opnE, if_pos rfl]
  have s3 := ho3.ss
  clear hs s1 ho ho3
  have x3 := alloc_new w7 (.cells #[.int .i64 3, .slice a3 n3 c3] 57)
  have hk := hA w7 (.cells #[.int .i64 3, .slice a3 n3 c3] 57)
  replace B1 := B1.trans (hk.mono B1.size)
  replace x1 := blk_keep x1 hk
  replace s3 := s3.keep hk
  clear hk
  go_wp2_with fail
  obtain ⟨q3, hq3⟩ : ∃ q, w7.heap.size = q := ⟨_, rfl⟩
  rw [hq3] at x3 ⊢
  generalize w7.alloc (.cells #[.int .i64 3, .slice a3 n3 c3] 57) = W7 at *
  refine (lSpring_any _).mono ?_
  rintro e w8 ⟨a4, rfl, s4, hs⟩
  replace B1 := B1.trans (hs.mono B1.size)
  replace x1 := blk_keep x1 hs
  replace x3 := blk_keep x3 hs
  replace s3 := s3.keep hs
  clear hs
  go_wp2_with fail
  refine (lSpring_any _).mono ?_
  rintro e w9 ⟨a5, rfl, s5, hs⟩
  replace B1 := B1.trans (hs.mono B1.size)
  replace x1 := blk_keep x1 hs
  replace x3 := blk_keep x3 hs
  replace s3 := s3.keep hs
  replace s4 := s4.keep hs
  clear hs
  go_wp2_with fail
  refine (rBegin_any a5 2 2 exSp _ s5 (by omega)).mono ?_
  rintro e w10 ⟨av2, rfl, ho, hs⟩
  replace B1 := B1.trans (hs.mono B1.size)
  replace x1 := blk_keep x1 hs
  replace x3 := blk_keep x3 hs
  replace s3 := s3.keep hs
  replace s4 := s4.keep hs
  clear hs s5
  go_wp2_with fail
  refine (WorkTo_any a4 av2 2 2 2 2 exSp 0 3 (List.replicate 2 sp0) _ s4 ho.ss).mono ?_
  rintro e w11 ⟨rfl, hs⟩
  replace B1 := B1.trans (hs.mono B1.size)
  replace x1 := blk_keep x1 hs
  replace x3 := blk_keep x3 hs
  replace s3 := s3.keep hs
  rw [ex_opnE, if_pos rfl, if_pos rfl, ex_wrk, ex_los]
  clear hs s4 ho
  have x5 := alloc_new w11 (.cells #[.int .i64 125, .int .i64 40] 64)
  have hk := hA w11 (.cells #[.int .i64 125, .int .i64 40] 64)
  replace B1 := B1.trans (hk.mono B1.size)
  replace x1 := blk_keep x1 hk
  replace x3 := blk_keep x3 hk
  replace s3 := s3.keep hk
  clear hk
  go_wp2_with fail
  obtain ⟨q5, hq5⟩ : ∃ q, w11.heap.size = q := ⟨_, rfl⟩
  rw [hq5] at x5 ⊢
  generalize w11.alloc (.cells #[.int .i64 125, .int .i64 40] 64) = W11 at *
  refine (lFrame_any _).mono ?_
  rintro e w12 ⟨a6, raw, rfl, hf, hs⟩
  replace B1 := B1.trans (hs.mono B1.size)
  replace x1 := blk_keep x1 hs
  replace x3 := blk_keep x3 hs
  replace x5 := blk_keep x5 hs
  replace s3 := s3.keep hs
  clear hs
  have hm := SI.three w12 (-3) 0 0 3 rfl
  have hk := hA w12 (.cells #[.int .i64 (-3), .int .i64 0, .int .i64 0] 3)
  replace B1 := B1.trans (hk.mono B1.size)
  replace x1 := blk_keep x1 hk
  replace x3 := blk_keep x3 hk
  replace x5 := blk_keep x5 hk
  replace s3 := s3.keep hk
  replace hf := hf.keep hk
  clear hk
  go_wp2_with fail
  generalize w12.alloc (.cells #[.int .i64 (-3), .int .i64 0, .int .i64 0] 3) = W12 at *
  refine (PeaksOf_any a6 _ 2 2 3 3 raw exFr [-3, 0, 0] _ hf hm).mono ?_
  rintro e w13 ⟨a7, n7, c7, rfl, hp, hs⟩
  replace B1 := B1.trans (hs.mono B1.size)
  replace x1 := blk_keep x1 hs
  replace x3 := blk_keep x3 hs
  replace x5 := blk_keep x5 hs
  replace s3 := s3.keep hs
  have hP := (hp.peaks ex_run).si
  rw [ex_pk] at hP
  rw [ex_run]
  clear hs hp hf hm
  have f0 := cell_block x1 0
  have f1 := cell_block x1 1
  have g0 := cell_block x3 0
  have g1 := cell_block x3 1
  have hs7 := alloc_new w13 (.cells #[.int .i64 1, .bool false, .int .i64 0, .bool false] 75)
  have hk := hA w13 (.cells #[.int .i64 1, .bool false, .int .i64 0, .bool false] 75)
  replace B1 := B1.trans (hk.mono B1.size)
  replace x5 := blk_keep x5 hk
  replace s3 := s3.keep hk
  replace hP := hP.keep hk
  clear hk
  have hS2 := SSp.two hs7
  go_wp2_with fail
  generalize w13.alloc (.cells #[.int .i64 1, .bool false, .int .i64 0, .bool false] 75) = W13 at *
  refine (sameHold_any 3 3 a3 _ n3 2 c3 2 [(1, false), (0, false)] [(1, false), (0, false)] _ s3 hS2).mono ?_
  rintro e w14 ⟨rfl, hs⟩
  rw [show decide ((3 : Int) = 3 ∧ [((1 : Int), false), (0, false)] = [(1, false), (0, false)]) = true by decide]
  replace B1 := B1.trans (hs.mono B1.size)
  replace x5 := blk_keep x5 hs
  replace hP := hP.keep hs
  clear hs s3 hS2 hs7 x3
  have h0 := cell_block x5 0
  have h1 := cell_block x5 1
  have hI2 := SI.two w14 3 6 3 rfl
  have hk := hA w14 (.cells #[.int .i64 3, .int .i64 6] 3)
  replace B1 := B1.trans (hk.mono B1.size)
  replace hP := hP.keep hk
  clear hk
  go_wp2_with fail
  refine (ints_any a7 _ n7 2 c7 2 [3, 6] [3, 6] _ hP hI2).mono ?_
  rintro e w15 ⟨rfl, k, rfl⟩
  go_wp2_with fail
  go_ret
  exact ⟨ret_bool (by simp), below_drewN B1 k⟩
end Go.Proofs.YtaiikekgckjdeaaGreat

namespace Go.Proofs.YtaiikekgckjdeaaGreat
set_option maxRecDepth 100000
open Go.ChangeShapes Go.WideShapes Go.ChangeAt Go.RowKit

theorem okWide_spot {P : Program} {w : World} {base : Nat} {t e : TypeId} {a : Addr} {n c : Nat} (ht : P.underlying t = some (.slice e)) (h : Value.okWide P w .any base t (.slice (some a) n c)) : a.spot = none := by
  simp only [Value.okWide, ht, Cell.okWide, Cell.ok, World.has] at h
  exact h.2.2.2.1
theorem add_none (b off i : Nat) : Addr.add ⟨b, off, none⟩ i = ⟨b, off + i, none⟩ := by
  unfold Addr.add
  split
  · simp_all
  · rfl
theorem Tryz.own' : ownKnob Tryz.prog.godebug = none := by kernel_rfl
theorem Tryz.laidOut' : laidOutB Tryz.prog = true := by kernel_rfl
theorem open_nums {H : Type} {enc : TypeId × Value → H} {w : World} {base : Nat} {v : Value} {d : DataW H} {p : List MemPlace}
    (hok : Value.okWide Tryz.prog w .any base 29 v) (h : DataW.Trod enc Tryz.prog w 0 (fun _ => true) true 29 v d p) :
    ∃ a n c l, v = .slice a n c ∧ SI w a n c l ∧ ∀ q ∈ l, (Lit.int .i64 q).wf = true := by
  obtain ⟨a, n, c, rfl⟩ := okWide_slice Tryz.underlying29 hok
  obtain ⟨fuel, hf⟩ := h
  rcases open_ints Tryz.underlying29 Tryz.underlying3 (by kernel_rfl) hf with ⟨hcs, _⟩ | ⟨x, l, c', zs, hcs, _, hl, hm, hz, _, hcell, hwz⟩
  · simp [Value.cells] at hcs
    obtain ⟨rfl, rfl, rfl⟩ := hcs
    exact ⟨none, 0, 0, [], rfl, Sl.nil w 1, by simp⟩
  · simp [Value.cells] at hcs
    obtain ⟨rfl, rfl, rfl⟩ := hcs
    have hs : x.spot = none := okWide_spot Tryz.underlying29 hok
    have hz' : zs.length = c := by simpa using hz
    refine ⟨some x, n, c, zs.take n, rfl, ⟨by simp; omega, hl, hm, .inr ?_⟩, fun q hq => hwz q (List.mem_of_mem_take hq)⟩
    obtain ⟨b, off, spot⟩ := x
    cases hs
    refine ⟨b, off, rfl, fun i hi => ?_⟩
    have := hcell i (by omega)
    rw [add_none] at this
    rw [this, List.getElem?_map, List.getElem?_take_of_lt (by omega), List.getElem?_eq_getElem (by omega)]
    simp [List.getD_eq_getElem?_getD, List.getElem?_eq_getElem (show i < zs.length by omega)]
theorem open_struct {H : Type} {enc : TypeId × Value → H} {P : Program} {w : World} {base : Nat} {t : TypeId} {fs : Array Field} {ts : List TypeId} {v : Value} {d : DataW H} {p : List MemPlace}
    (ht : P.underlying t = some (.struct fs)) (hts : P.cellTypes P.depth t = some ts) (hok : Value.okWide P w .any base t v) (h : DataW.Trod enc P w 0 (fun _ => true) true t v d p) :
    ∃ cs : Array Value, v = .agg cs ∧ cs.size = P.cellsOf t ∧ (∀ (i : Nat) (u : Value), cs[i]? = some u → ∃ ty, ts[i % ts.length]? = some ty ∧ Cell.okWide P w .any base ty u) ∧
      ∀ (i : Nat) (f : Field), fs[i]? = some f → ∃ fuel x, DataW.trod enc P w 0 (fun _ => true) true fuel f.type ((cs.toList.drop f.offset).take (P.cellsOf f.type)) = some x := by
  simp only [Value.okWide, ht] at hok
  obtain ⟨cs, rfl, hsz, ts', hts', _, hall⟩ := hok
  rw [hts] at hts'
  cases hts'
  obtain ⟨fuel, hf⟩ := h
  obtain ⟨xs, n, _, _, _, hxl, hx⟩ := DataW.trod_struct ht hf
  refine ⟨cs, rfl, hsz, hall, fun i f hfi => ?_⟩
  have := hx i f hfi
  have hlt : i < xs.length := by
    have := (Array.getElem?_eq_some_iff.1 hfi).1
    omega
  rw [List.getElem?_eq_getElem hlt] at this
  exact ⟨n, _, this⟩
theorem cell_of_int {H : Type} {enc : TypeId × Value → H} {P : Program} {w : World} {fuel : Nat} {t : TypeId} {k : IntKind} {u : Value} {x : DataW H × List MemPlace} (ht : P.underlying t = some (.int k))
    (h : DataW.trod enc P w 0 (fun _ => true) true fuel t [u] = some x) : ∃ n, u = .int k n ∧ (Lit.int k n).wf = true := by
  obtain ⟨n, hn, _, hw⟩ := DataW.trod_int ht h
  cases hn
  exact ⟨n, rfl, hw⟩
theorem cell_of_slice {H : Type} {enc : TypeId × Value → H} {P : Program} {w : World} {base fuel : Nat} {t e : TypeId} {u : Value} {x : DataW H × List MemPlace} (ht : P.underlying t = some (.slice e)) (hok : Cell.okWide P w .any base t u)
    (h : DataW.trod enc P w 0 (fun _ => true) true fuel t [u] = some x) : Value.okWide P w .any base t u ∧ ∃ d p, DataW.Trod enc P w 0 (fun _ => true) true t u d p := by
  have h1 : Value.okWide P w .any base t u := by
    simp only [Value.okWide, ht]
    exact hok
  obtain ⟨a, n, c, rfl⟩ := okWide_slice ht h1
  exact ⟨h1, x.1, x.2, fuel, by simpa [Value.cells] using h⟩
theorem two_cells {cs : Array Value} (h : cs.size = 2) : ∃ x y, cs = #[x, y] := by
  obtain ⟨l⟩ := cs
  match l, h with
  | [x, y], _ => exact ⟨x, y, rfl⟩
theorem open_frac {H : Type} {enc : TypeId × Value → H} {w : World} {base : Nat} {v : Value} {d : DataW H} {p : List MemPlace}
    (hok : Value.okWide Tryz.prog w .any base 27 v) (h : DataW.Trod enc Tryz.prog w 0 (fun _ => true) true 27 v d p) :
    ∃ x y, v = .agg #[.int .i64 x, .int .i64 y] ∧ (Lit.int .i64 x).wf = true ∧ (Lit.int .i64 y).wf = true := by
  obtain ⟨cs, rfl, hsz, hall, hf⟩ := open_struct (ts := [3, 3]) Tryz.underlying27 (by kernel_rfl) hok h
  obtain ⟨x, y, rfl⟩ := two_cells (hsz.trans (by kernel_rfl))
  obtain ⟨m0, x0, h0⟩ := hf 0 _ rfl
  obtain ⟨m1, x1, h1⟩ := hf 1 _ rfl
  simp only at h0 h1
  obtain ⟨n, rfl, hw⟩ := cell_of_int Tryz.underlying3 h0
  obtain ⟨m, rfl, hw'⟩ := cell_of_int Tryz.underlying3 h1
  exact ⟨n, m, rfl, hw, hw'⟩
theorem wf_i64 {x : Int} (h : (Lit.int .i64 x).wf = true) : -9223372036854775808 ≤ x ∧ x ≤ 9223372036854775807 := by
  unfold Lit.wf at h
  rw [Bool.and_eq_true] at h
  exact ⟨of_decide_eq_true h.1, of_decide_eq_true h.2⟩

theorem trod_frac {H : Type} {enc : TypeId × Value → H} {w : World} {fuel : Nat} {cs : List Value} {x : DataW H × List MemPlace} (h : DataW.trod enc Tryz.prog w 0 (fun _ => true) true fuel 27 cs = some x) :
    ∃ a b, cs = [.int .i64 a, .int .i64 b] ∧ F64 a b := by
  obtain ⟨xs, n, _, _, hl, hxl, hx⟩ := DataW.trod_struct Tryz.underlying27 h
  have c2 : Tryz.prog.cellsOf 27 = 2 := by kernel_rfl
  rw [c2] at hl
  match cs, hl with
  | [p, q], _ =>
    have h0 := hx 0 _ rfl
    have h1 := hx 1 _ rfl
    rw [List.getElem?_eq_getElem (by simp at hxl; omega)] at h0 h1
    obtain ⟨n, rfl, hw⟩ := cell_of_int Tryz.underlying3 h0
    obtain ⟨m, rfl, hw'⟩ := cell_of_int Tryz.underlying3 h1
    exact ⟨n, m, rfl, wf_i64 hw, wf_i64 hw'⟩
/-- Three fractions that came in. -/
theorem open_fracs3 {H : Type} {enc : TypeId × Value → H} {w : World} {base : Nat} {v : Value} {d : DataW H} {p : List MemPlace}
    (hok : Value.okWide Tryz.prog w .any base 28 v) (h : DataW.Trod enc Tryz.prog w 0 (fun _ => true) true 28 v d p) :
    ∃ n1 d1 n2 d2 n3 d3, v = .agg #[.int .i64 n1, .int .i64 d1, .int .i64 n2, .int .i64 d2, .int .i64 n3, .int .i64 d3] ∧ F64 n1 d1 ∧ F64 n2 d2 ∧ F64 n3 d3 := by
  simp only [Value.okWide, Tryz.underlying28] at hok
  obtain ⟨cs, rfl, hsz, _⟩ := hok
  obtain ⟨fuel, hf⟩ := h
  obtain ⟨xs, n, _, _, _, hxl, hx⟩ := DataW.trod_array Tryz.underlying28 hf
  have c2 : Tryz.prog.cellsOf 27 = 2 := by kernel_rfl
  have c6 : cs.size = 6 := hsz.trans (by kernel_rfl)
  have h0 := hx 0 (by omega)
  have h1 := hx 1 (by omega)
  have h2 := hx 2 (by omega)
  simp only [c2] at h0 h1 h2
  rw [List.getElem?_eq_getElem (by omega)] at h0 h1 h2
  obtain ⟨n1, d1, e1, f1⟩ := trod_frac h0
  obtain ⟨n2, d2, e2, f2⟩ := trod_frac h1
  obtain ⟨n3, d3, e3, f3⟩ := trod_frac h2
  obtain ⟨l⟩ := cs
  match l, c6 with
  | [a, b, c, d, e, f], _ =>
    simp [Value.cells] at e1 e2 e3
    obtain ⟨rfl, rfl⟩ := e1
    obtain ⟨rfl, rfl⟩ := e2
    obtain ⟨rfl, rfl⟩ := e3
    exact ⟨n1, d1, n2, d2, n3, d3, rfl, f1, f2, f3⟩
theorem trod_ints3 {H : Type} {enc : TypeId × Value → H} {w : World} {fuel : Nat} {cs : List Value} {x : DataW H × List MemPlace} (h : DataW.trod enc Tryz.prog w 0 (fun _ => true) true fuel 53 cs = some x) :
    ∃ a b c, cs = [.int .i64 a, .int .i64 b, .int .i64 c] ∧ ((Lit.int .i64 a).wf = true ∧ (Lit.int .i64 b).wf = true ∧ (Lit.int .i64 c).wf = true) := by
  obtain ⟨xs, n, _, _, hl, hxl, hx⟩ := DataW.trod_array Tryz.underlying53 h
  have c2 : Tryz.prog.cellsOf 53 = 3 := by kernel_rfl
  have c3 : Tryz.prog.cellsOf 3 = 1 := by kernel_rfl
  rw [c2] at hl
  match cs, hl with
  | [p, q, r], _ =>
    have h0 := hx 0 (by omega)
    have h1 := hx 1 (by omega)
    have h2 := hx 2 (by omega)
    simp only [c3] at h0 h1 h2
    rw [List.getElem?_eq_getElem (by omega)] at h0 h1 h2
    obtain ⟨n, rfl, hw⟩ := cell_of_int Tryz.underlying3 h0
    obtain ⟨m, rfl, hw'⟩ := cell_of_int Tryz.underlying3 h1
    obtain ⟨k, rfl, hw''⟩ := cell_of_int Tryz.underlying3 h2
    exact ⟨n, m, k, rfl, hw, hw', hw''⟩
/-- Three exponents that came in. -/
theorem open_ints3 {H : Type} {enc : TypeId × Value → H} {w : World} {base : Nat} {v : Value} {d : DataW H} {p : List MemPlace}
    (hok : Value.okWide Tryz.prog w .any base 53 v) (h : DataW.Trod enc Tryz.prog w 0 (fun _ => true) true 53 v d p) :
    ∃ a b c, v = .agg #[.int .i64 a, .int .i64 b, .int .i64 c] ∧ (Lit.int .i64 a).wf = true ∧ (Lit.int .i64 b).wf = true ∧ (Lit.int .i64 c).wf = true := by
  simp only [Value.okWide, Tryz.underlying53] at hok
  obtain ⟨cs, rfl, hsz, _⟩ := hok
  obtain ⟨fuel, hf⟩ := h
  obtain ⟨a, b, c, e, hw⟩ := trod_ints3 hf
  obtain ⟨l⟩ := cs
  have e' : l = [.int .i64 a, .int .i64 b, .int .i64 c] := by simpa [Value.cells] using e
  subst e'
  exact ⟨a, b, c, rfl, hw⟩
end Go.Proofs.YtaiikekgckjdeaaGreat

namespace Go.Proofs.YtaiikekgckjdeaaGreat
set_option maxRecDepth 100000
open Go.ChangeShapes Go.WideShapes Go.ChangeAt Go.RowKit

/-- A number that came in. -/
theorem open_num {H : Type} {enc : TypeId × Value → H} {w : World} {base : Nat} {v : Value} {d : DataW H} {p : List MemPlace}
    (hok : Value.okWide Tryz.prog w .any base 3 v) (h : DataW.Trod enc Tryz.prog w 0 (fun _ => true) true 3 v d p) : ∃ x, v = .int .i64 x ∧ (Lit.int .i64 x).wf = true := by
  obtain ⟨n, rfl⟩ := okWide_int Tryz.underlying3 hok
  obtain ⟨fuel, hf⟩ := h
  obtain ⟨z, hz, hw⟩ := cell_of_int (u := .int .i64 n) Tryz.underlying3 (by simpa [Value.cells] using hf)
  cases hz
  exact ⟨n, rfl, hw⟩
end Go.Proofs.YtaiikekgckjdeaaGreat

namespace Go.Proofs.YtaiikekgckjdeaaGreat
set_option maxRecDepth 100000
open Go.ChangeShapes Go.WideShapes Go.ChangeAt Go.RowKit

/-- A slice of records that came in. -/
theorem open_enc {H : Type} {enc : TypeId × Value → H} {P : Program} {w : World} {base : Nat} {t e k : Nat} {v : Value} {d : DataW H} {p : List MemPlace} {α : Type} (en : α → List Value) (hen : ∀ x, (en x).length = k) (x0 : α) (Q : α → Prop)
    (ht : P.underlying t = some (.slice e)) (hk : P.cellsOf e = k) (k0 : 0 < k)
    (hrec : ∀ m cs x, DataW.trod enc P w 0 (fun _ => true) true m e cs = some x → ∃ y : α, cs = en y ∧ Q y)
    (hok : Value.okWide P w .any base t v) (h : DataW.Trod enc P w 0 (fun _ => true) true t v d p) :
    ∃ (a : Option Addr) (n c : Nat) (l : List α), v = .slice a n c ∧ Sl w k a n c (l.flatMap en) ∧ ∀ y ∈ l, Q y := by
  obtain ⟨a, n, c, rfl⟩ := okWide_slice ht hok
  obtain ⟨fuel, hf⟩ := h
  rcases DataW.trod_slice ht hf with ⟨hcs, _⟩ | ⟨a', len, cap, elems, rest, m, _, hcs, _, hb, hl, hm, hlen, hel, _, _⟩
  · simp [Value.cells] at hcs
    obtain ⟨rfl, rfl, rfl⟩ := hcs
    exact ⟨none, 0, 0, [], rfl, Sl.nil w k, by simp⟩
  · simp [Value.cells] at hcs
    obtain ⟨rfl, rfl, rfl⟩ := hcs
    have hs : a'.spot = none := okWide_spot ht hok
    obtain ⟨b, off, spot⟩ := a'
    cases hs
    simp only [add_none] at hel
    have each : ∀ i, ∃ y : α, i < n → (∀ j, j < k → w.cell? ⟨b, off + i * k + j, none⟩ = (en y)[j]?) ∧ Q y := by
      intro i
      by_cases hi : i < n
      · have h1 := hel i hi
        obtain ⟨y, hy⟩ : ∃ y, elems[i]? = some y := ⟨elems[i], List.getElem?_eq_getElem (by omega)⟩
        rw [hy, hk, Option.bind_eq_some_iff] at h1
        obtain ⟨cs', hc', ht'⟩ := h1
        obtain ⟨z, hz, hq⟩ := hrec _ _ _ ht'
        refine ⟨z, fun _ => ⟨fun j hj => ?_, hq⟩⟩
        have h4 := (World.cells?_some hc').2.2 j hj
        rw [add_none] at h4
        rw [← hz]
        first | exact h4 | exact h4.symm
      · exact ⟨x0, fun h => absurd h hi⟩
    obtain ⟨g, hg⟩ := Classical.axiomOfChoice each
    have hget : ∀ i, i < n → ((List.range n).map g)[i]?.getD x0 = g i := fun i hi => by simp [hi]
    refine ⟨some ⟨b, off, none⟩, n, c, (List.range n).map g, rfl, ⟨?_, hl, hm, .inr ⟨b, off, rfl, fun i hi => ?_⟩⟩, ?_⟩
    · rw [fm_len hen]
      simp
    · have hq : i / k < n := (Nat.div_lt_iff_lt_mul k0).2 hi
      have hr : i % k < k := Nat.mod_lt _ k0
      have h7 : i / k * k + i % k = i := by rw [Nat.mul_comm]; exact Nat.div_add_mod i k
      have h8 := (hg (i / k) hq).1 (i % k) hr
      rw [Nat.add_assoc, h7] at h8
      rw [h8]
      have h9 := fm_get hen ((List.range n).map g) x0 (i / k) (by simpa using hq) (i % k) hr
      rw [h7, hget _ hq] at h9
      exact h9.symm
    · intro y hy
      obtain ⟨i, hi, rfl⟩ := List.mem_map.1 hy
      exact (hg i (by simpa using hi)).2
theorem trod_el {H : Type} {enc : TypeId × Value → H} {w : World} {m : Nat} {cs : List Value} {x : DataW H × List MemPlace} (h : DataW.trod enc Tryz.prog w 0 (fun _ => true) true m 110 cs = some x) :
    ∃ y : El, cs = encE y ∧ ((Lit.int .i64 y.1).wf = true ∧ (Lit.int .i64 y.2.1).wf = true) := by
  obtain ⟨xs, n, _, _, hl, hxl, hx⟩ := DataW.trod_struct Tryz.underlying110 h
  have c2 : Tryz.prog.cellsOf 110 = 3 := by kernel_rfl
  rw [c2] at hl
  match cs, hl with
  | [p, q, r], _ =>
    have h0 := hx 0 _ rfl
    have h1 := hx 1 _ rfl
    have h2 := hx 2 _ rfl
    rw [List.getElem?_eq_getElem (by simp at hxl; omega)] at h0 h1 h2
    obtain ⟨n, rfl, hw⟩ := cell_of_int Tryz.underlying3 h0
    obtain ⟨m, rfl, hw'⟩ := cell_of_int Tryz.underlying3 h1
    obtain ⟨b, hb, _⟩ := DataW.trod_bool Tryz.underlying4 h2
    have hb' : [r] = [Value.bool b] := hb
    injection hb' with hb'
    subst hb'
    exact ⟨(n, m, b), rfl, hw, hw'⟩
theorem trod_sp {H : Type} {enc : TypeId × Value → H} {w : World} {m : Nat} {cs : List Value} {x : DataW H × List MemPlace} (h : DataW.trod enc Tryz.prog w 0 (fun _ => true) true m 75 cs = some x) :
    ∃ y : Sp, cs = encS y ∧ (Lit.int .i64 y.1).wf = true := by
  obtain ⟨xs, n, _, _, hl, hxl, hx⟩ := DataW.trod_struct Tryz.underlying75 h
  have c2 : Tryz.prog.cellsOf 75 = 2 := by kernel_rfl
  rw [c2] at hl
  match cs, hl with
  | [p, q], _ =>
    have h0 := hx 0 _ rfl
    have h1 := hx 1 _ rfl
    rw [List.getElem?_eq_getElem (by simp at hxl; omega)] at h0 h1
    obtain ⟨n, rfl, hw⟩ := cell_of_int Tryz.underlying3 h0
    obtain ⟨b, hb, _⟩ := DataW.trod_bool Tryz.underlying4 h1
    have hb' : [q] = [Value.bool b] := hb
    injection hb' with hb'
    subst hb'
    exact ⟨(n, b), rfl, hw⟩
/-- A spring that came in. -/
theorem open_spring {H : Type} {enc : TypeId × Value → H} {w : World} {base : Nat} {v : Value} {d : DataW H} {p : List MemPlace}
    (hok : Value.okWide Tryz.prog w .any base 60 v) (h : DataW.Trod enc Tryz.prog w 0 (fun _ => true) true 60 v d p) :
    ∃ a n c l, v = .slice a n c ∧ SEl w a n c l ∧ ∀ y ∈ l, ((Lit.int .i64 y.1).wf = true ∧ (Lit.int .i64 y.2.1).wf = true) :=
  open_enc encE encE_len el0 (fun y => (Lit.int .i64 y.1).wf = true ∧ (Lit.int .i64 y.2.1).wf = true) Tryz.underlying60 (by kernel_rfl) (by decide) (fun _ _ _ => trod_el) hok h
/-- Slips that came in. -/
theorem open_slips {H : Type} {enc : TypeId × Value → H} {w : World} {base : Nat} {v : Value} {d : DataW H} {p : List MemPlace}
    (hok : Value.okWide Tryz.prog w .any base 55 v) (h : DataW.Trod enc Tryz.prog w 0 (fun _ => true) true 55 v d p) :
    ∃ a n c l, v = .slice a n c ∧ SSp w a n c l ∧ ∀ y ∈ l, (Lit.int .i64 y.1).wf = true :=
  open_enc encS encS_len sp0 (fun y => (Lit.int .i64 y.1).wf = true) Tryz.underlying55 (by kernel_rfl) (by decide) (fun _ _ _ => trod_sp) hok h
/-- A hold that came in. -/
theorem open_hold {H : Type} {enc : TypeId × Value → H} {w : World} {base : Nat} {v : Value} {d : DataW H} {p : List MemPlace}
    (hok : Value.okWide Tryz.prog w .any base 57 v) (h : DataW.Trod enc Tryz.prog w 0 (fun _ => true) true 57 v d p) :
    ∃ s a n c l, v = .agg #[.int .i64 s, .slice a n c] ∧ (Lit.int .i64 s).wf = true ∧ SSp w a n c l ∧ ∀ y ∈ l, (Lit.int .i64 y.1).wf = true := by
  obtain ⟨cs, rfl, hsz, hall, hf⟩ := open_struct (ts := [3, 55]) Tryz.underlying57 (by kernel_rfl) hok h
  obtain ⟨x, y, rfl⟩ := two_cells (hsz.trans (by kernel_rfl))
  obtain ⟨m0, x0, h0⟩ := hf 0 _ rfl
  obtain ⟨m1, x1, h1⟩ := hf 1 _ rfl

  simp only at h0 h1
  obtain ⟨s, rfl, hw⟩ := cell_of_int Tryz.underlying3 h0
  obtain ⟨ty, hty, ho⟩ := hall 1 y rfl
  cases hty
  obtain ⟨k1, d', p', k2⟩ := cell_of_slice Tryz.underlying55 ho h1
  obtain ⟨a, n, c, l, rfl, hs, hwl⟩ := open_slips k1 k2
  exact ⟨s, a, n, c, l, rfl, hw, hs, hwl⟩
end Go.Proofs.YtaiikekgckjdeaaGreat

namespace Go.Proofs.YtaiikekgckjdeaaGreat
open Go.RowKit
open Calmly (Kept)
end Go.Proofs.YtaiikekgckjdeaaGreat

namespace Go.Proofs.YtaiikekgckjdeaaGreat
open Go.RowKit
open Calmly (Kept)
theorem run_appS {P : Program} {w : World} (t ty : TypeId) (B : Nat) (e : TypeId) (i : TypeInfo) (z : Value) (k bytes : Nat) (ht : P.underlying t = some (.slice e)) (hi : P.info? e = some i) (hz : i.zero = some z)
    (hsize : i.size = k) (hby : i.bytes = bytes) (hzs : z.cells.size = k) (hsz : 0 < k)
    (av : Option Addr) (n c : Nat) (xs : List Value) (hown : w.ownsRow B e k (.slice av n c) n xs)
    (lv : Option Addr) (m lc : Nat) (vs : List Value) (hl : Sl w k lv m lc vs) (hone : ∀ u ∈ vs, u.oneCell' = true)
    (hb1 : n + m ≤ 140737488355328) (hb : (n + m) * bytes ≤ 140737488355328) (hB : B ≤ w.heap.size) :
    ∃ a' c' w', (Builtin.append_ #[t, t] ty #[.slice av n c, .slice lv m lc]).run P w = .ok (.slice a' (n + m) c') w' ∧ w'.ownsRow B e k (.slice a' (n + m) c') (n + m) (xs ++ vs) ∧ Below B w w' := by
  obtain ⟨g1, g2, g3, g4⟩ := hl
  have hrow : ∀ j, (Value.slice av n c).ownBlock = some j → B ≤ j := fun j hj => (hown.lt j hj).1
  rcases g4 with rfl | ⟨b, off, rfl, hc⟩
  · obtain rfl : m = 0 := by omega
    obtain rfl : vs = [] := by cases vs with | nil => rfl | cons _ _ => simp at g1
    cases lv with
    | none => exact ⟨av, c, w, run_append_owned_none (P := P) (w := w) B t ty e i k ht hi _ n xs hown, by simpa using hown, Below.refl _ _⟩
    | some p =>
      obtain ⟨v', w1, hrun, ho1, hg, _⟩ := run_append_own (P := P) w B t ty e i z k bytes ht hi hz hsize hby hzs hsz _ n xs hown p 0 0 [] g1 (by simp) hone (by unfold maxLen; omega) hb hB
      obtain ⟨a', c', rfl⟩ := owns_slice ho1
      exact ⟨a', c', w1, hrun, ho1, grown_below hg hB hrow⟩
  · obtain ⟨v', w1, hrun, ho1, hg, _⟩ := run_append_own (P := P) w B t ty e i z k bytes ht hi hz hsize hby hzs hsz _ n xs hown ⟨b, off, none⟩ m lc vs g1 (by
      intro j u hj
      have hjl : j < vs.length := (List.getElem?_eq_some_iff.1 hj).1
      rw [show ((⟨b, off, none⟩ : Addr).add j) = ⟨b, off + j, none⟩ by
        unfold Addr.add
        split
        · rename_i h0; subst h0; rfl
        · rfl, hc j (by omega)]
      exact hj) hone (by unfold maxLen; omega) hb hB
    obtain ⟨a', c', rfl⟩ := owns_slice ho1
    exact ⟨a', c', w1, hrun, ho1, grown_below hg hB hrow⟩
/-- A copy of slips, within a plan. -/
theorem mix_copyS (i : Nat) {w0 Wx : World} {k : Calmly.Plan} {dst : Option Tmp} {s x : Operand} {ty : TypeId} {pos : String} {after : Array Edge} {a : Act} {W0 : World} {ops : Array Oper} {Q : Exit → Act → World → Prop} {lv : Option Addr} {m lc : Nat} {l : List Sp}
    (hW : Wx = w0.alloc (.cells #[] 75)) (hi : ops[i]? = some ⟨dst, .call { callee := .builtin .append, args := #[s, x], argTypes := #[55, 55] }, ty, pos, after, none⟩)
    (hl : SSp w0 lv m lc l) (hs : a.eval s = .slice (some ⟨w0.heap.size, 0, none⟩) 0 0) (hx : a.eval x = .slice lv m lc) (hb1 : m ≤ 1099511627776)
    (h : ∀ a' c' w', OwS w' w0.heap.size a' m c' l → Below w0.heap.size w0 w' → Kept W0 w' ∧ Calmly.WpMix Tryz.prog ops Q W0 k (a.put dst (.slice a' m c')) w') :
    Calmly.WpMix Tryz.prog ops Q W0 (.eff i k) a Wx := by
  subst hW
  refine Calmly.mix_eff hi (fun K hK => ?_)
  have hA : Below w0.heap.size w0 (w0.alloc (.cells #[] 75)) := (Below.refl _ _).alloc (Nat.le_refl _) _
  obtain ⟨i0, hi0, hz0, hz1, hz2⟩ := info_parts Tryz.info_sp
  obtain ⟨a', c', w1, hrun, h1, h2⟩ := run_appS (P := Tryz.prog) 55 ty w0.heap.size _ i0 _ 2 16 Tryz.underlying55 hi0 hz0 hz1 hz2 rfl (by decide) _ 0 0 [] ⟨by simp, .inr ⟨w0.heap.size, 0, #[], rfl, Nat.le_refl _, alloc_new _ _, by simp, by simp, by simp, by simp⟩⟩ lv m lc _ (Sl.keep hl hA) (oneCell_S l) (by omega) (by omega) (by simp)
  rw [Nat.zero_add] at hrun h1
  unfold Oper.wp
  simp [execOp, resolve, invoke, builtin, hs, hx, hrun, Result.andThen]
  exact hK _ _ (h a' c' w1 (by unfold OwS; simpa using h1) (hA.trans h2))
end Go.Proofs.YtaiikekgckjdeaaGreat

namespace Go.Proofs.YtaiikekgckjdeaaGreat
open Go.RowKit
open Calmly (Kept)
theorem sumR_abs {f : Nat → Int} {M : Int} {n : Nat} (h : ∀ i, i < n → -M ≤ f i ∧ f i ≤ M) : -(M * n) ≤ sumR f n ∧ sumR f n ≤ M * n := by
  induction n with
  | zero => simp [sumR]
  | succ n ih =>
    have h1 := ih (fun i hi => h i (by omega))
    have h2 := h n (by omega)
    have h3 : M * ((n + 1 : Nat) : Int) = M * n + M := by push_cast; rw [Int.mul_add, Int.mul_one]
    rw [h3]
    show -(M * n + M) ≤ sumR f n + f n ∧ sumR f n + f n ≤ M * n + M
    omega
end Go.Proofs.YtaiikekgckjdeaaGreat

namespace Go.Proofs.YtaiikekgckjdeaaGreat
open Go.RowKit
open Calmly (Kept)
theorem slE_form {x y s at' : Int} {z br : Bool} (hp : plc s = true) (hf : (br = true ∧ z = false) ∨ (z = true ∧ s ≠ 0)) : slE (x, y, z) at' (s, br) = 3 := by
  unfold slE
  rw [if_pos hp]
  show firstE [unlessE (!((br && !z) || (z && (s != 0)))) 3, _] = 3
  have h : ((br && !z) || (z && (s != 0))) = true := by
    rcases hf with ⟨rfl, rfl⟩ | ⟨rfl, h⟩
    · rfl
    · simp [h]
  rw [h]
  rfl
theorem slE_rest {x y s at' : Int} {z br : Bool} (hp : plc s = true) (hf : (br = true ∧ z = true ∧ s = 0) ∨ (br = false ∧ (z = false ∨ s = 0))) : slE (x, y, z) at' (s, br) = unlessE (br || szd (at' - s) y) 22 := by
  unfold slE
  rw [if_pos hp]
  show firstE [unlessE (!((br && !z) || (z && (s != 0)))) 3, unlessE (br || szd (at' - s) y) 22] = _
  have h : ((br && !z) || (z && (s != 0))) = false := by
    rcases hf with ⟨rfl, rfl, rfl⟩ | ⟨rfl, rfl | rfl⟩
    · rfl
    · rfl
    · simp
  rw [h]
  show (if (0 : Int) = 0 then (if unlessE (br || szd (at' - s) y) 22 = 0 then 0 else unlessE (br || szd (at' - s) y) 22) else 0) = _
  rw [if_pos rfl]
  split
  · rename_i h2; exact h2.symm
  · rfl
theorem slE_place {x : El} {s : Sp} {at' : Int} (hp : plc s.1 = false) : slE x at' s = 2 := by
  unfold slE
  rw [hp]
  rfl
end Go.Proofs.YtaiikekgckjdeaaGreat

namespace Go.Proofs.YtaiikekgckjdeaaGreat
open Go.RowKit
open Calmly (Kept)
/-- What lies between two rounds. -/
structure RmI (w : World) (at1 at2 : Int) (a2 : Option Addr) (n c2 k : Nat) (rows : List Sp) (W : World) : Prop where
  bel : Below w.heap.size w W
  r4 : W.heap[w.heap.size]? = some (.cells #[.int .i64 at1, .slice a2 n c2] 57)
  r6 : W.heap[w.heap.size + 1]? = some (.cells #[.int .i64 0, .slice none 0 0] 57)
  out : ∃ av cv, W.heap[w.heap.size + 1 + 1]? = some (.cells #[.int .i64 at2, .slice av k cv] 57) ∧ OwS W (w.heap.size + 1 + 1 + 1) av k cv rows
  sz : w.heap.size + 1 + 1 + 1 ≤ W.heap.size
theorem RmI.app {w V w9 : World} {at1 at2 : Int} {a2 a' av : Option Addr} {n c2 k c' cv : Nat} {rows' : List Sp} (hb : Below w.heap.size w V) (r4 : V.heap[w.heap.size]? = some (.cells #[.int .i64 at1, .slice a2 n c2] 57)) (r6 : V.heap[w.heap.size + 1]? = some (.cells #[.int .i64 0, .slice none 0 0] 57))
    (r7 : V.heap[w.heap.size + 1 + 1]? = some (.cells #[.int .i64 at2, .slice av k cv] 57)) (hb9 : Below (w.heap.size + 1 + 1 + 1) V w9) (ho : OwS w9 (w.heap.size + 1 + 1 + 1) a' (k + 1) c' rows') (hs : w.heap.size + 1 + 1 + 1 ≤ V.heap.size) :
    RmI w at1 at2 a2 n c2 (k + 1) rows' (w9.setCell ⟨w.heap.size + 1 + 1, 1, none⟩ (.slice a' (k + 1) c')) := by
  have hne : ∀ b, b ≠ w.heap.size + 1 + 1 → (w9.setCell ⟨w.heap.size + 1 + 1, 1, none⟩ (.slice a' (k + 1) c')).heap[b]? = w9.heap[b]? := fun b hb => Below.heap_setCell _ _ _ _ hb
  have q := setBlk ((hb9.block _ (by omega)).trans r7) 1 (.slice a' (k + 1) c')
  simp at q
  refine ⟨(hb.trans (hb9.mono (by omega))).setCell (by show w.heap.size ≤ w.heap.size + 1 + 1; omega) _, ?_, ?_, ⟨a', c', q, owns_apart ho hne (by omega)⟩, ?_⟩
  · rw [hne _ (by omega), hb9.block _ (by omega)]; exact r4
  · rw [hne _ (by omega), hb9.block _ (by omega)]; exact r6
  · have := hb9.size
    simp
    omega
theorem ow_not {w w' : World} {B r : Nat} {av : Option Addr} {n c : Nat} {xs : List Sp} (h : OwS w B av n c xs) (ho : ∀ b, b ≠ r → w'.heap[b]? = w.heap[b]?) (hr : ∀ g o, av = some ⟨g, o, none⟩ → g ≠ r) : OwS w' B av n c xs := by
  obtain ⟨h1, h2⟩ := h
  refine ⟨h1, ?_⟩
  rcases h2 with h2 | ⟨g, cap, cur, hv, hg, hh, r'⟩
  · exact .inl h2
  · injection hv with e1 e2 e3
    exact .inr ⟨g, cap, cur, by rw [e1, e2, e3], hg, (ho g (hr g 0 e1)).trans hh, r'⟩
theorem appS1z {ops : Array Oper} {rest : List Oper} {o : Oper} {a : Act} {Q : Exit → Act → World → Prop} {Wx : World} (w0 : World) {z B : Nat} {av : Option Addr} {n c : Nat} {l : List Sp} {x : Int} {y : Bool} (hz : w0.heap.size = z) (hW : Wx = w0.alloc (.cells #[.int .i64 x, .bool y] 75)) (hgd : o.guard = none) (s x' : Operand)
    (ho : o.op = .call { callee := .builtin .append, args := #[s, x'], argTypes := #[55, 55] })
    (hown : OwS w0 B av n c l) (hs : a.eval s = .slice av n c) (hx : a.eval x' = .slice (some ⟨z, 0, none⟩) 1 1)
    (hb1 : n + 1 ≤ 1099511627776) (hB : B ≤ z)
    (h : ∀ a' c' w', OwS w' B a' (n + 1) c' (l ++ [(x, y)]) → Below B w0 w' → z < w'.heap.size → wpList Tryz.prog ops Q rest (a.put o.dst (.slice a' (n + 1) c')) w') :
    wpList Tryz.prog ops Q (o :: rest) a Wx := by
  subst hz
  exact appS1 w0 hW hgd s x' ho hown hs hx hb1 hB h
end Go.Proofs.YtaiikekgckjdeaaGreat

namespace Go.Proofs.YtaiikekgckjdeaaGreat
open Go.RowKit
open Calmly (Kept)
theorem ow_ge {w : World} {B : Nat} {av : Option Addr} {n c : Nat} {xs : List Sp} (h : OwS w B av n c xs) {g o : Nat} (e : av = some ⟨g, o, none⟩) : B ≤ g := by
  subst e
  exact (World.ownsRow.lt h g rfl).1
theorem first_bad {a b : Int} (h : a ≠ 0) : firstE [a, b] = a := by
  show (if a = 0 then _ else a) = a
  rw [if_neg h]
theorem first_ok {a b : Int} (h : a = 0) : firstE [a, b] = b := by
  subst h
  show (if (0 : Int) = 0 then (if b = 0 then 0 else b) else 0) = b
  rw [if_pos rfl]
  split
  · rename_i h; exact h.symm
  · rfl
theorem kept_st3M {W w : World} {r : Nat} {x y z u0 u1 u2 : Value} {t : TypeId} {G : Prop} (h : Below W.heap.size W w) (hr : W.heap.size ≤ r) (p : w.heap[r]? = some (.cells #[u0, u1, u2] t))
    (k : Below W.heap.size W (((w.setCell ⟨r, 0, none⟩ x).setCell ⟨r, 1, none⟩ y).setCell ⟨r, 2, none⟩ z) → (∀ b, b ≠ r → (((w.setCell ⟨r, 0, none⟩ x).setCell ⟨r, 1, none⟩ y).setCell ⟨r, 2, none⟩ z).heap[b]? = w.heap[b]?) →
      (((w.setCell ⟨r, 0, none⟩ x).setCell ⟨r, 1, none⟩ y).setCell ⟨r, 2, none⟩ z).heap[r]? = some (.cells #[x, y, z] t) → G) : Kept W (((w.setCell ⟨r, 0, none⟩ x).setCell ⟨r, 1, none⟩ y).setCell ⟨r, 2, none⟩ z) ∧ G := by
  have h1 := ((h.setCell (p := ⟨r, 0, none⟩) hr x).setCell (p := ⟨r, 1, none⟩) hr y).setCell (p := ⟨r, 2, none⟩) hr z
  refine ⟨kept_of h1, k h1 (fun b hb => ?_) ?_⟩
  · rw [Below.heap_setCell _ _ _ _ hb, Below.heap_setCell _ _ _ _ hb, Below.heap_setCell _ _ _ _ hb]
  · have := setBlk (setBlk (setBlk p 0 x) 1 y) 2 z
    simpa using this
theorem But.set3 {W : World} {r : Nat} {x y z : Value} {cs : Array Value} {t : TypeId} (p : W.heap[r]? = some (.cells cs t)) : But t W (((W.setCell ⟨r, 0, none⟩ x).setCell ⟨r, 1, none⟩ y).setCell ⟨r, 2, none⟩ z) :=
  ⟨by simp, fun b _ hn => by
    have hb : b ≠ r := by rintro rfl; exact hn ⟨_, p⟩
    rw [Below.heap_setCell _ _ _ _ hb, Below.heap_setCell _ _ _ _ hb, Below.heap_setCell _ _ _ _ hb]⟩
end Go.Proofs.YtaiikekgckjdeaaGreat

namespace Go.Proofs.YtaiikekgckjdeaaGreat
open Go.RowKit
open Calmly (Kept)
/-- The error of a motion. -/
def rmoE (l : List Int) : Int := if (l.length : Int) ≤ 60 then motE l else 8
end Go.Proofs.YtaiikekgckjdeaaGreat

namespace Go.Proofs.YtaiikekgckjdeaaGreat
open Go.RowKit
open Calmly (Kept)
end Go.Proofs.YtaiikekgckjdeaaGreat
