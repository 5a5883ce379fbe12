/- The reference's hold that has moved. Small laws that many texts of chapter 5 need. The reference's frames: their errors; the errors of motions. Few floors; the reference's copy of a frame. -/
import Derived.Test.YtaiikekgckjdeaaK20
namespace Go.Proofs.Ytaiikekgckjdeaa
open Go.RowKit
open Calmly (Kept)
/-- What lies between two rounds. -/
structure RmI (w : World) (at1 at2 : Int) (a2 : Option Addr) (n c2 k : Nat) (rows : List Sp) (W : World) : Prop where
  bel : Below w.heap.size w W
  r4 : W.heap[w.heap.size]? = some (.cells #[.int .i64 at1, .slice a2 n c2] 49)
  r6 : W.heap[w.heap.size + 1]? = some (.cells #[.int .i64 0, .slice none 0 0] 49)
  out : ∃ av cv, W.heap[w.heap.size + 1 + 1]? = some (.cells #[.int .i64 at2, .slice av k cv] 49) ∧ OwS W (w.heap.size + 1 + 1 + 1) av k cv rows
  sz : w.heap.size + 1 + 1 + 1 ≤ W.heap.size
theorem RmI.app {w V w9 : World} {at1 at2 : Int} {a2 a' av : Option Addr} {n c2 k c' cv : Nat} {rows' : List Sp} (hb : Below w.heap.size w V) (r4 : V.heap[w.heap.size]? = some (.cells #[.int .i64 at1, .slice a2 n c2] 49)) (r6 : V.heap[w.heap.size + 1]? = some (.cells #[.int .i64 0, .slice none 0 0] 49))
    (r7 : V.heap[w.heap.size + 1 + 1]? = some (.cells #[.int .i64 at2, .slice av k cv] 49)) (hb9 : Below (w.heap.size + 1 + 1 + 1) V w9) (ho : OwS w9 (w.heap.size + 1 + 1 + 1) a' (k + 1) c' rows') (hs : w.heap.size + 1 + 1 + 1 ≤ V.heap.size) :
    RmI w at1 at2 a2 n c2 (k + 1) rows' (w9.setCell ⟨w.heap.size + 1 + 1, 1, none⟩ (.slice a' (k + 1) c')) := by
  have hne : ∀ b, b ≠ w.heap.size + 1 + 1 → (w9.setCell ⟨w.heap.size + 1 + 1, 1, none⟩ (.slice a' (k + 1) c')).heap[b]? = w9.heap[b]? := fun b hb => Below.heap_setCell _ _ _ _ hb
  have q := setBlk ((hb9.block _ (by omega)).trans r7) 1 (.slice a' (k + 1) c')
  simp at q
  refine ⟨(hb.trans (hb9.mono (by omega))).setCell (by show w.heap.size ≤ w.heap.size + 1 + 1; omega) _, ?_, ?_, ⟨a', c', q, owns_apart ho hne (by omega)⟩, ?_⟩
  · rw [hne _ (by omega), hb9.block _ (by omega)]; exact r4
  · rw [hne _ (by omega), hb9.block _ (by omega)]; exact r6
  · have := hb9.size
    simp
    omega
theorem ow_not {w w' : World} {B r : Nat} {av : Option Addr} {n c : Nat} {xs : List Sp} (h : OwS w B av n c xs) (ho : ∀ b, b ≠ r → w'.heap[b]? = w.heap[b]?) (hr : ∀ g o, av = some ⟨g, o, none⟩ → g ≠ r) : OwS w' B av n c xs := by
  obtain ⟨h1, h2⟩ := h
  refine ⟨h1, ?_⟩
  rcases h2 with h2 | ⟨g, cap, cur, hv, hg, hh, r'⟩
  · exact .inl h2
  · injection hv with e1 e2 e3
    exact .inr ⟨g, cap, cur, by rw [e1, e2, e3], hg, (ho g (hr g 0 e1)).trans hh, r'⟩
theorem appS1z {ops : Array Oper} {rest : List Oper} {o : Oper} {a : Act} {Q : Exit → Act → World → Prop} {Wx : World} (w0 : World) {z B : Nat} {av : Option Addr} {n c : Nat} {l : List Sp} {x : Int} {y : Bool} (hz : w0.heap.size = z) (hW : Wx = w0.alloc (.cells #[.int .i64 x, .bool y] 64)) (hgd : o.guard = none) (s x' : Operand)
    (ho : o.op = .call { callee := .builtin .append, args := #[s, x'], argTypes := #[47, 47] })
    (hown : OwS w0 B av n c l) (hs : a.eval s = .slice av n c) (hx : a.eval x' = .slice (some ⟨z, 0, none⟩) 1 1)
    (hb1 : n + 1 ≤ 1099511627776) (hB : B ≤ z)
    (h : ∀ a' c' w', OwS w' B a' (n + 1) c' (l ++ [(x, y)]) → Below B w0 w' → z < w'.heap.size → wpList Try.prog ops Q rest (a.put o.dst (.slice a' (n + 1) c')) w') :
    wpList Try.prog ops Q (o :: rest) a Wx := by
  subst hz
  exact appS1 w0 hW hgd s x' ho hown hs hx hb1 hB h
set_option maxRecDepth 100000 in
set_option maxHeartbeats 4000000 in
theorem rMoved_any (a a2 : Option Addr) (n c c2 : Nat) (l : List El) (at1 at2 : Int) (sl : List Sp) (w : World) (h1 : SEl w a n c l) (h2 : SSp w a2 n c2 sl) (hn : n ≤ 6) (hB : ∀ i, i < n → ElB (l[i]?.getD el0).1 (l[i]?.getD el0).2.1 (sl[i]?.getD sp0).1 at2) :
    Calls Try.prog 41 #[.slice a n c, .agg #[.int .i64 at1, .slice a2 n c2], .int .i64 at2] w fun e w' => ∃ av cv, e = .returned (.agg #[.int .i64 at2, .slice av n cv]) ∧ OwS w' w.heap.size av n cv ((List.range n).map (mvRow l sl at2)) ∧ Below w.heap.size w w' := by
  have m1 := h1.max
  have cc1 := h1.cap
  have m2 := h2.max
  have cc2 := h2.cap
  have y4 := blk_keep (blk_keep (alloc_new w (.cells #[.int .i64 at1, .slice a2 n c2] 49)) ((Below.refl _ _).alloc (Nat.le_refl _) (.cells #[.int .i64 0, .slice none 0 0] 49))) ((Below.refl _ _).alloc (Nat.le_refl _) (.cells #[.int .i64 at2, .slice none 0 0] 49))
  have y6 := blk_keep (alloc_new (w.alloc (.cells #[.int .i64 at1, .slice a2 n c2] 49)) (.cells #[.int .i64 0, .slice none 0 0] 49)) ((Below.refl _ _).alloc (Nat.le_refl _) (.cells #[.int .i64 at2, .slice none 0 0] 49))
  have y7 := alloc_new ((w.alloc (.cells #[.int .i64 at1, .slice a2 n c2] 49)).alloc (.cells #[.int .i64 0, .slice none 0 0] 49)) (.cells #[.int .i64 at2, .slice none 0 0] 49)
  have BW : Below w.heap.size w (((w.alloc (.cells #[.int .i64 at1, .slice a2 n c2] 49)).alloc (.cells #[.int .i64 0, .slice none 0 0] 49)).alloc (.cells #[.int .i64 at2, .slice none 0 0] 49)) := (((Below.refl _ _).alloc (Nat.le_refl _) _).alloc (by simp) _).alloc (by simp; omega) _
  have hsz : (((w.alloc (.cells #[.int .i64 at1, .slice a2 n c2] 49)).alloc (.cells #[.int .i64 0, .slice none 0 0] 49)).alloc (.cells #[.int .i64 at2, .slice none 0 0] 49)).heap.size = w.heap.size + 1 + 1 + 1 := by simp
  simp only [World.size_alloc] at y6 y7
  have HB := Lib.hid hB
  have HSZ := Lib.hid hsz
  clear hB hsz
  go_enter Try.func41, Try.ntmps41
  go_wp2_with fail
  generalize ((w.alloc (.cells #[.int .i64 at1, .slice a2 n c2] 49)).alloc (.cells #[.int .i64 0, .slice none 0 0] 49)).alloc (.cells #[.int .i64 at2, .slice none 0 0] 49) = W at *
  go_loopw [8] (fun i wr => ∃ k : Nat, k ≤ n ∧ i = .int .i64 (k : Int) ∧ RmI w at1 at2 a2 n c2 k ((List.range k).map (mvRow l sl at2)) wr) (fun i _ => n - (intOf i).toNat)
  case atStart => exact ⟨0, by omega, rfl, ⟨BW, y4, y6, ⟨none, 0, y7, OwS.nil _ _⟩, by rw [HSZ.out]; omega⟩⟩
  case round =>
    clear y4 y6 y7 BW HSZ
    obtain ⟨k, hk, rfl, hb, z4, z6, ⟨av, cv, z7, hO⟩, hsz⟩ := hrel
    by_cases hlt : k < n
    · obtain ⟨b1', o1, rfl, hc1⟩ := (h1.keep hb).at_ (by omega)
      obtain ⟨b2', o2, rfl, hc2⟩ := (h2.keep hb).at_ (by omega)
      obtain ⟨p0, p1, p2⟩ := hc1 k hlt
      obtain ⟨q0, q1⟩ := hc2 k hlt
      have hi : (k : Int) < (n : Int) := by omega
      have hi0 : (0 : Int) ≤ (k : Int) := by omega
      have hEB := HB.out k hlt
      obtain ⟨r, hr⟩ : ∃ r, mvRow l sl at2 k = r := ⟨_, rfl⟩
      have hrows : (List.range (k + 1)).map (mvRow l sl at2) = (List.range k).map (mvRow l sl at2) ++ [r] := by rw [List.range_succ, List.map_append, ← hr]; rfl
      have hr2 : r = (mvSlip (l[k]?.getD el0).2.1 (l[k]?.getD el0).2.2 (sl[k]?.getD sp0).1 (sl[k]?.getD sp0).2 at2, mvBr (l[k]?.getD el0).2.1 (l[k]?.getD el0).2.2 (sl[k]?.getD sp0).1 (sl[k]?.getD sp0).2 at2) := hr.symm
      have HROWS := Lib.hid hrows
      clear hr hrows
      obtain ⟨xx, hxx⟩ : ∃ x, l[k]?.getD el0 = x := ⟨_, rfl⟩
      obtain ⟨yy, hyy⟩ : ∃ x, sl[k]?.getD sp0 = x := ⟨_, rfl⟩
      obtain ⟨x, y, z⟩ := xx
      obtain ⟨s, br⟩ := yy
      rw [hxx] at p0 p1 p2 hEB hr2
      rw [hyy] at q0 q1 hEB hr2
      dsimp only at p0 p1 p2 q0 q1 hEB hr2
      have HR2 := Lib.hid hr2
      obtain ⟨⟨k1, k2⟩, ⟨k3, k4⟩, ⟨k5, k6⟩, ⟨k7, k8⟩⟩ := hEB
      clear hc1 hc2 hxx hyy hr2
      obtain ⟨rs, rb⟩ := r
      have f0 := cell_block z4 0
      have f1 := cell_block z4 1
      have z9 := alloc_new wr (.cells #[.int .i64 s, .bool br] 64)
      have hA : Below wr.heap.size wr (wr.alloc (.cells #[.int .i64 s, .bool br] 64)) := (Below.refl _ _).alloc (Nat.le_refl _) _
      go_wp2_with fail
      replace z4 := blk_keep z4 hA
      replace z6 := blk_keep z6 hA
      replace z7 := blk_keep z7 hA
      have hoq : ∀ g o, av = some ⟨g, o, none⟩ → g ≠ wr.heap.size := fun g o e => by have := hO.lt g o e; omega
      replace hO := hO.keep hA
      replace hb := hb.trans (hA.mono hb.size)
      replace p0 := cell_keep p0 hA
      replace p1 := cell_keep p1 hA
      replace p2 := cell_keep p2 hA
      have hsq : w.heap.size + 1 + 1 + 1 ≤ wr.heap.size := hsz
      have hsz2 : wr.heap.size < (wr.alloc (.cells #[.int .i64 s, .bool br] 64)).heap.size := by simp
      clear f0 f1 q0 q1 hA hsz
      generalize hq : wr.heap.size = q at *
      generalize wr.alloc (.cells #[.int .i64 s, .bool br] 64) = V at *
      clear hq
      have HOQ := Lib.hid hoq
      clear hoq
      cases br
      · as_aux_lemma =>
          obtain ⟨N, hN⟩ : ∃ N : Int, ((at2 - s).natAbs : Int) = N := ⟨_, rfl⟩
          have hW : ∀ w, Calls Try.prog 92 #[.int .i64 (at2 - s)] w fun e w' => e = .returned (.int .i64 N) ∧ w = w' := fun w => by
            have h := size_any (at2 - s) w (by omega) (by omega)
            rw [hN] at h
            exact h
          have HW := Lib.hid hW
          clear hW
          by_cases hgt : y < N
          · have ho0 : ¬ ovr y (at2 - s) = 0 := by unfold ovr; omega
            cases z
            · by_cases hd : 0 < at2 - s
              · have ho1 : ovr y (at2 - s) = at2 - s - y := by unfold ovr; omega
                have hd2 : ¬ at2 - s < 0 := by omega
                clear hN
                go_wp2_with fail
                refine Calmly.wp_region_mix 12 (.fl 0 <| .fl 1 <| .fl 2 <| .fl 3 <| .gl 4 <| .gl 6 <| .gl 7 <| .gl 8 <| .gl 9 <| .gl 10 <| .gf 5 <| .gl 11 <| .tail [12]) (by kernel_rfl) (by kernel_rfl) ?_
                have BD : Below V.heap.size V V.drew := (Below.refl _ _).drew
                replace z4 := blk_keep z4 BD
                replace z6 := blk_keep z6 BD
                replace z7 := blk_keep z7 BD
                replace z9 := blk_keep z9 BD
                replace hO := hO.keep BD
                replace p0 := cell_keep p0 BD
                replace p1 := cell_keep p1 BD
                replace p2 := cell_keep p2 BD
                replace hb := hb.trans (BD.mono hb.size)
                replace hsz2 := Nat.lt_of_lt_of_le hsz2 BD.size
                clear BD
                generalize V.drew = V2 at *
                have g0 := cell_block z9 0
                have g1 := cell_block z9 1
                have n0 := frozen_block z9 0
                have n1 := frozen_block z9 1
                have g7 := cell_block z7 0
                have g7' := cell_block z7 1
                have hk := Below.refl V2.heap.size V2
                have HMV := Lib.hid (show (rs, rb) = (at2 - y, false) by rw [HR2.out]; rw [mvSlip, mvBr, if_neg (by decide), if_neg ho0, if_neg (by decide), if_neg (by omega), ho1]; simp; omega)
                have hne9 : ∀ b, b ≠ q → (V2.setCell ⟨q, 0, none⟩ (.int .i64 (at2 - y))).heap[b]? = V2.heap[b]? := fun b hb => by rw [Below.heap_setCell _ _ _ _ hb]
                have z4' := (hne9 w.heap.size (by omega)).trans z4
                have z6' := (hne9 (w.heap.size + 1) (by omega)).trans z6
                have z7' := (hne9 (w.heap.size + 1 + 1) (by omega)).trans z7
                have z79 := z7'
                have hO9 : OwS (V2.setCell ⟨q, 0, none⟩ (.int .i64 (at2 - y))) (w.heap.size + 1 + 1 + 1) av k cv ((List.range k).map (mvRow l sl at2)) := ow_not hO hne9 (HOQ.out)
                have hb9' : Below w.heap.size w (V2.setCell ⟨q, 0, none⟩ (.int .i64 (at2 - y))) := hb.setCell (by show w.heap.size ≤ q; omega) _
                have z99 := setBlk z9 0 (.int .i64 (at2 - y))
                simp at z99
                have g90 := cell_block z99 0
                have g91 := cell_block z99 1
                have g97 := cell_block z7' 1
                have hq9 : q < (V2.setCell ⟨q, 0, none⟩ (.int .i64 (at2 - y))).heap.size := by simpa using hsz2
                go_wp2_with (first | ((with_reducible refine Calmly.is_fl ?_); refine Calmly.mix_fl rfl ?_ (fun _ _ => ?_); (first | exact .move _ | exact .load _ _ | exact .fieldAddr _ _ _ (by kernel_rfl) | exact .assign _ | exact .binOp _ _ _ _ _ rfl | exact .indexAddr _ _ _ | exact .len _ _ (by kernel_rfl) | exact .field _ _ _ | exact .extract _ _ | exact .pick _ _ _ | exact .build _ _ | exact .slice _ _ _ _ _ | exact .unOp _ _ _ rfl | exact .index _ _ _ | exact .max _ _ _ rfl rfl | exact .min _ _ _ rfl rfl | exact .nilCheck _ _ rfl)) | ((with_reducible refine Calmly.is_gl ?_); refine Calmly.mix_gl rfl rfl rfl ?_; first | ((first | with_reducible refine Calmly.gl_tt ?_ (fun _ _ => ?_) | with_reducible refine Calmly.gl_ff ?_ (fun _ _ => ?_)); (first | exact .move _ | exact .load _ _ | exact .fieldAddr _ _ _ (by kernel_rfl) | exact .assign _ | exact .binOp _ _ _ _ _ rfl | exact .indexAddr _ _ _ | exact .len _ _ (by kernel_rfl) | exact .field _ _ _ | exact .extract _ _ | exact .pick _ _ _ | exact .build _ _ | exact .slice _ _ _ _ _ | exact .unOp _ _ _ rfl | exact .index _ _ _ | exact .max _ _ _ rfl rfl | exact .min _ _ _ rfl rfl | exact .nilCheck _ _ rfl)) | with_reducible refine Calmly.gl_tf (fun _ _ => ?_) | with_reducible refine Calmly.gl_ft (fun _ _ => ?_)) | ((with_reducible refine Calmly.is_eff ?_); refine Calmly.mix_eff rfl (fun _ _ => ?_)) | ((with_reducible refine Calmly.is_gf ?_); refine Calmly.mix_gf rfl rfl rfl ?_; first | with_reducible refine Calmly.gf_tt (fun _ _ => ?_) | with_reducible refine Calmly.gf_ff (fun _ _ => ?_) | with_reducible refine Calmly.gf_tf (kept_of hk) (fun _ _ => ?_) | with_reducible refine Calmly.gf_ft (kept_of hk) (fun _ _ => ?_)) | ((with_reducible refine Calmly.is_tail ?_); first | refine Calmly.mix_tail_nil ?_ | refine Calmly.mix_tail rfl (fun _ _ => ?_)) | ((with_reducible refine Calmly.is_kept ?_); refine ⟨kept_of hk, ?_⟩) | (with_reducible refine Calmly.mix_alt ?_ ?_) | (go_at_call 92; refine (HW.out _).mono ?_; rintro e w1 ⟨rfl, rfl⟩) | (refine appS1z (V2.setCell ⟨q, 0, none⟩ (.int .i64 (at2 - y))) (z := V2.heap.size) (B := w.heap.size + 1 + 1 + 1) (by simp) rfl rfl _ _ rfl hO9 rfl rfl (by omega) (by omega) (fun a' c' w9 ho hb9 hlt9 => ?_); have z79 := (hb9.block _ (by omega)).trans z79; have e70 := cell_block z79 0; have e71 := cell_block z79 1; have x71 := frozen_block z79 1))
                have hrr : (rs, rb) = (at2 - y, false) := HMV.out
                injection hrr with rr1 rr2
                go_roundw
                case rel => exact ⟨k + 1, by omega, by go_num, by rw [HROWS.out, rr1, rr2]; exact RmI.app hb9' z4' z6' z7' hb9 ho (by omega)⟩
                case measure => simp [intOf]; omega
              · have hd2 : at2 - s < 0 := by omega
                have ho1 : ovr y (at2 - s) = -(at2 - s) - y := by unfold ovr; omega
                clear hN
                go_wp2_with fail
                refine Calmly.wp_region_mix 12 (.fl 0 <| .fl 1 <| .fl 2 <| .fl 3 <| .gl 4 <| .gl 6 <| .gl 7 <| .gl 8 <| .gl 9 <| .gl 10 <| .gf 5 <| .gl 11 <| .tail [12]) (by kernel_rfl) (by kernel_rfl) ?_
                have BD : Below V.heap.size V V.drew := (Below.refl _ _).drew
                replace z4 := blk_keep z4 BD
                replace z6 := blk_keep z6 BD
                replace z7 := blk_keep z7 BD
                replace z9 := blk_keep z9 BD
                replace hO := hO.keep BD
                replace p0 := cell_keep p0 BD
                replace p1 := cell_keep p1 BD
                replace p2 := cell_keep p2 BD
                replace hb := hb.trans (BD.mono hb.size)
                replace hsz2 := Nat.lt_of_lt_of_le hsz2 BD.size
                clear BD
                generalize V.drew = V2 at *
                have g0 := cell_block z9 0
                have g1 := cell_block z9 1
                have n0 := frozen_block z9 0
                have n1 := frozen_block z9 1
                have g7 := cell_block z7 0
                have g7' := cell_block z7 1
                have hk := Below.refl V2.heap.size V2
                have HMV := Lib.hid (show (rs, rb) = (at2 + y, false) by rw [HR2.out]; rw [mvSlip, mvBr, if_neg (by decide), if_neg ho0, if_neg (by decide), if_pos (by omega), ho1]; simp; omega)
                have hne9 : ∀ b, b ≠ q → (V2.setCell ⟨q, 0, none⟩ (.int .i64 (at2 + y))).heap[b]? = V2.heap[b]? := fun b hb => by rw [Below.heap_setCell _ _ _ _ hb]
                have z4' := (hne9 w.heap.size (by omega)).trans z4
                have z6' := (hne9 (w.heap.size + 1) (by omega)).trans z6
                have z7' := (hne9 (w.heap.size + 1 + 1) (by omega)).trans z7
                have z79 := z7'
                have hO9 : OwS (V2.setCell ⟨q, 0, none⟩ (.int .i64 (at2 + y))) (w.heap.size + 1 + 1 + 1) av k cv ((List.range k).map (mvRow l sl at2)) := ow_not hO hne9 (HOQ.out)
                have hb9' : Below w.heap.size w (V2.setCell ⟨q, 0, none⟩ (.int .i64 (at2 + y))) := hb.setCell (by show w.heap.size ≤ q; omega) _
                have z99 := setBlk z9 0 (.int .i64 (at2 + y))
                simp at z99
                have g90 := cell_block z99 0
                have g91 := cell_block z99 1
                have g97 := cell_block z7' 1
                have hq9 : q < (V2.setCell ⟨q, 0, none⟩ (.int .i64 (at2 + y))).heap.size := by simpa using hsz2
                go_wp2_with (first | ((with_reducible refine Calmly.is_fl ?_); refine Calmly.mix_fl rfl ?_ (fun _ _ => ?_); (first | exact .move _ | exact .load _ _ | exact .fieldAddr _ _ _ (by kernel_rfl) | exact .assign _ | exact .binOp _ _ _ _ _ rfl | exact .indexAddr _ _ _ | exact .len _ _ (by kernel_rfl) | exact .field _ _ _ | exact .extract _ _ | exact .pick _ _ _ | exact .build _ _ | exact .slice _ _ _ _ _ | exact .unOp _ _ _ rfl | exact .index _ _ _ | exact .max _ _ _ rfl rfl | exact .min _ _ _ rfl rfl | exact .nilCheck _ _ rfl)) | ((with_reducible refine Calmly.is_gl ?_); refine Calmly.mix_gl rfl rfl rfl ?_; first | ((first | with_reducible refine Calmly.gl_tt ?_ (fun _ _ => ?_) | with_reducible refine Calmly.gl_ff ?_ (fun _ _ => ?_)); (first | exact .move _ | exact .load _ _ | exact .fieldAddr _ _ _ (by kernel_rfl) | exact .assign _ | exact .binOp _ _ _ _ _ rfl | exact .indexAddr _ _ _ | exact .len _ _ (by kernel_rfl) | exact .field _ _ _ | exact .extract _ _ | exact .pick _ _ _ | exact .build _ _ | exact .slice _ _ _ _ _ | exact .unOp _ _ _ rfl | exact .index _ _ _ | exact .max _ _ _ rfl rfl | exact .min _ _ _ rfl rfl | exact .nilCheck _ _ rfl)) | with_reducible refine Calmly.gl_tf (fun _ _ => ?_) | with_reducible refine Calmly.gl_ft (fun _ _ => ?_)) | ((with_reducible refine Calmly.is_eff ?_); refine Calmly.mix_eff rfl (fun _ _ => ?_)) | ((with_reducible refine Calmly.is_gf ?_); refine Calmly.mix_gf rfl rfl rfl ?_; first | with_reducible refine Calmly.gf_tt (fun _ _ => ?_) | with_reducible refine Calmly.gf_ff (fun _ _ => ?_) | with_reducible refine Calmly.gf_tf (kept_of hk) (fun _ _ => ?_) | with_reducible refine Calmly.gf_ft (kept_of hk) (fun _ _ => ?_)) | ((with_reducible refine Calmly.is_tail ?_); first | refine Calmly.mix_tail_nil ?_ | refine Calmly.mix_tail rfl (fun _ _ => ?_)) | ((with_reducible refine Calmly.is_kept ?_); refine ⟨kept_of hk, ?_⟩) | (with_reducible refine Calmly.mix_alt ?_ ?_) | (go_at_call 92; refine (HW.out _).mono ?_; rintro e w1 ⟨rfl, rfl⟩) | (refine appS1z (V2.setCell ⟨q, 0, none⟩ (.int .i64 (at2 + y))) (z := V2.heap.size) (B := w.heap.size + 1 + 1 + 1) (by simp) rfl rfl _ _ rfl hO9 rfl rfl (by omega) (by omega) (fun a' c' w9 ho hb9 hlt9 => ?_); have z79 := (hb9.block _ (by omega)).trans z79; have e70 := cell_block z79 0; have e71 := cell_block z79 1; have x71 := frozen_block z79 1))
                have hrr : (rs, rb) = (at2 + y, false) := HMV.out
                injection hrr with rr1 rr2
                go_roundw
                case rel => exact ⟨k + 1, by omega, by go_num, by rw [HROWS.out, rr1, rr2]; exact RmI.app hb9' z4' z6' z7' hb9 ho (by omega)⟩
                case measure => simp [intOf]; omega
            · clear hN
              go_wp2_with fail
              refine Calmly.wp_region_mix 12 (.fl 0 <| .fl 1 <| .fl 2 <| .fl 3 <| .gl 4 <| .gl 6 <| .gl 7 <| .gl 8 <| .gl 9 <| .gl 10 <| .gf 5 <| .gl 11 <| .tail [12]) (by kernel_rfl) (by kernel_rfl) ?_
              have BD : Below V.heap.size V V.drew := (Below.refl _ _).drew
              replace z4 := blk_keep z4 BD
              replace z6 := blk_keep z6 BD
              replace z7 := blk_keep z7 BD
              replace z9 := blk_keep z9 BD
              replace hO := hO.keep BD
              replace p0 := cell_keep p0 BD
              replace p1 := cell_keep p1 BD
              replace p2 := cell_keep p2 BD
              replace hb := hb.trans (BD.mono hb.size)
              replace hsz2 := Nat.lt_of_lt_of_le hsz2 BD.size
              clear BD
              generalize V.drew = V2 at *
              have g0 := cell_block z9 0
              have g1 := cell_block z9 1
              have n0 := frozen_block z9 0
              have n1 := frozen_block z9 1
              have g7 := cell_block z7 0
              have g7' := cell_block z7 1
              have hk := Below.refl V2.heap.size V2
              have HMV := Lib.hid (show (rs, rb) = (0, true) by rw [HR2.out]; rw [mvSlip, mvBr, if_neg (by decide), if_neg ho0, if_pos rfl]; simp [ho0])
              have hne9 : ∀ b, b ≠ q → ((V2.setCell ⟨q, 0, none⟩ (.int .i64 0)).setCell ⟨q, 1, none⟩ (.bool true)).heap[b]? = V2.heap[b]? := fun b hb => by rw [Below.heap_setCell _ _ _ _ hb, Below.heap_setCell _ _ _ _ hb]
              have z4' := (hne9 w.heap.size (by omega)).trans z4
              have z6' := (hne9 (w.heap.size + 1) (by omega)).trans z6
              have z7' := (hne9 (w.heap.size + 1 + 1) (by omega)).trans z7
              have z79 := z7'
              have hO9 : OwS ((V2.setCell ⟨q, 0, none⟩ (.int .i64 0)).setCell ⟨q, 1, none⟩ (.bool true)) (w.heap.size + 1 + 1 + 1) av k cv ((List.range k).map (mvRow l sl at2)) := ow_not hO hne9 (HOQ.out)
              have hb9' : Below w.heap.size w ((V2.setCell ⟨q, 0, none⟩ (.int .i64 0)).setCell ⟨q, 1, none⟩ (.bool true)) := (hb.setCell (by show w.heap.size ≤ q; omega) _).setCell (by show w.heap.size ≤ q; omega) _
              have z99 := setBlk (setBlk z9 0 (.int .i64 (0))) 1 (.bool true)
              simp at z99
              have g90 := cell_block z99 0
              have g91 := cell_block z99 1
              have g97 := cell_block z7' 1
              have hq9 : q < ((V2.setCell ⟨q, 0, none⟩ (.int .i64 0)).setCell ⟨q, 1, none⟩ (.bool true)).heap.size := by simpa using hsz2
              go_wp2_with (first | ((with_reducible refine Calmly.is_fl ?_); refine Calmly.mix_fl rfl ?_ (fun _ _ => ?_); (first | exact .move _ | exact .load _ _ | exact .fieldAddr _ _ _ (by kernel_rfl) | exact .assign _ | exact .binOp _ _ _ _ _ rfl | exact .indexAddr _ _ _ | exact .len _ _ (by kernel_rfl) | exact .field _ _ _ | exact .extract _ _ | exact .pick _ _ _ | exact .build _ _ | exact .slice _ _ _ _ _ | exact .unOp _ _ _ rfl | exact .index _ _ _ | exact .max _ _ _ rfl rfl | exact .min _ _ _ rfl rfl | exact .nilCheck _ _ rfl)) | ((with_reducible refine Calmly.is_gl ?_); refine Calmly.mix_gl rfl rfl rfl ?_; first | ((first | with_reducible refine Calmly.gl_tt ?_ (fun _ _ => ?_) | with_reducible refine Calmly.gl_ff ?_ (fun _ _ => ?_)); (first | exact .move _ | exact .load _ _ | exact .fieldAddr _ _ _ (by kernel_rfl) | exact .assign _ | exact .binOp _ _ _ _ _ rfl | exact .indexAddr _ _ _ | exact .len _ _ (by kernel_rfl) | exact .field _ _ _ | exact .extract _ _ | exact .pick _ _ _ | exact .build _ _ | exact .slice _ _ _ _ _ | exact .unOp _ _ _ rfl | exact .index _ _ _ | exact .max _ _ _ rfl rfl | exact .min _ _ _ rfl rfl | exact .nilCheck _ _ rfl)) | with_reducible refine Calmly.gl_tf (fun _ _ => ?_) | with_reducible refine Calmly.gl_ft (fun _ _ => ?_)) | ((with_reducible refine Calmly.is_eff ?_); refine Calmly.mix_eff rfl (fun _ _ => ?_)) | ((with_reducible refine Calmly.is_gf ?_); refine Calmly.mix_gf rfl rfl rfl ?_; first | with_reducible refine Calmly.gf_tt (fun _ _ => ?_) | with_reducible refine Calmly.gf_ff (fun _ _ => ?_) | with_reducible refine Calmly.gf_tf (kept_of hk) (fun _ _ => ?_) | with_reducible refine Calmly.gf_ft (kept_of hk) (fun _ _ => ?_)) | ((with_reducible refine Calmly.is_tail ?_); first | refine Calmly.mix_tail_nil ?_ | refine Calmly.mix_tail rfl (fun _ _ => ?_)) | ((with_reducible refine Calmly.is_kept ?_); refine ⟨kept_of hk, ?_⟩) | (with_reducible refine Calmly.mix_alt ?_ ?_) | (go_at_call 92; refine (HW.out _).mono ?_; rintro e w1 ⟨rfl, rfl⟩) | (refine appS1z ((V2.setCell ⟨q, 0, none⟩ (.int .i64 0)).setCell ⟨q, 1, none⟩ (.bool true)) (z := V2.heap.size) (B := w.heap.size + 1 + 1 + 1) (by simp) rfl rfl _ _ rfl hO9 rfl rfl (by omega) (by omega) (fun a' c' w9 ho hb9 hlt9 => ?_); have z79 := (hb9.block _ (by omega)).trans z79; have e70 := cell_block z79 0; have e71 := cell_block z79 1; have x71 := frozen_block z79 1))
              have hrr : (rs, rb) = (0, true) := HMV.out
              injection hrr with rr1 rr2
              go_roundw
              case rel => exact ⟨k + 1, by omega, by go_num, by rw [HROWS.out, rr1, rr2]; exact RmI.app hb9' z4' z6' z7' hb9 ho (by omega)⟩
              case measure => simp [intOf]; omega
          · have ho0 : ovr y (at2 - s) = 0 := by unfold ovr; omega
            have hgt2 : N ≤ y := by omega
            clear hN
            go_wp2_with fail
            refine Calmly.wp_region_mix 12 (.fl 0 <| .fl 1 <| .fl 2 <| .fl 3 <| .gl 4 <| .gl 6 <| .gl 7 <| .gl 8 <| .gl 9 <| .gl 10 <| .gf 5 <| .gl 11 <| .tail [12]) (by kernel_rfl) (by kernel_rfl) ?_
            have BD : Below V.heap.size V V.drew := (Below.refl _ _).drew
            replace z4 := blk_keep z4 BD
            replace z6 := blk_keep z6 BD
            replace z7 := blk_keep z7 BD
            replace z9 := blk_keep z9 BD
            replace hO := hO.keep BD
            replace p0 := cell_keep p0 BD
            replace p1 := cell_keep p1 BD
            replace p2 := cell_keep p2 BD
            replace hb := hb.trans (BD.mono hb.size)
            replace hsz2 := Nat.lt_of_lt_of_le hsz2 BD.size
            clear BD
            generalize V.drew = V2 at *
            have g0 := cell_block z9 0
            have g1 := cell_block z9 1
            have n0 := frozen_block z9 0
            have n1 := frozen_block z9 1
            have g7 := cell_block z7 0
            have g7' := cell_block z7 1
            have hk := Below.refl V2.heap.size V2
            have HMV := Lib.hid (show (rs, rb) = (s, false) by rw [HR2.out]; rw [mvSlip, mvBr, if_neg (by decide), if_pos ho0]; simp [ho0])
            have hO9 := hO
            have z79 := z7
            have hb9' := hb
            have z4' := z4
            have z6' := z6
            have z7' := z7
            have hq9 : q < V2.heap.size := hsz2
            go_wp2_with (first | ((with_reducible refine Calmly.is_fl ?_); refine Calmly.mix_fl rfl ?_ (fun _ _ => ?_); (first | exact .move _ | exact .load _ _ | exact .fieldAddr _ _ _ (by kernel_rfl) | exact .assign _ | exact .binOp _ _ _ _ _ rfl | exact .indexAddr _ _ _ | exact .len _ _ (by kernel_rfl) | exact .field _ _ _ | exact .extract _ _ | exact .pick _ _ _ | exact .build _ _ | exact .slice _ _ _ _ _ | exact .unOp _ _ _ rfl | exact .index _ _ _ | exact .max _ _ _ rfl rfl | exact .min _ _ _ rfl rfl | exact .nilCheck _ _ rfl)) | ((with_reducible refine Calmly.is_gl ?_); refine Calmly.mix_gl rfl rfl rfl ?_; first | ((first | with_reducible refine Calmly.gl_tt ?_ (fun _ _ => ?_) | with_reducible refine Calmly.gl_ff ?_ (fun _ _ => ?_)); (first | exact .move _ | exact .load _ _ | exact .fieldAddr _ _ _ (by kernel_rfl) | exact .assign _ | exact .binOp _ _ _ _ _ rfl | exact .indexAddr _ _ _ | exact .len _ _ (by kernel_rfl) | exact .field _ _ _ | exact .extract _ _ | exact .pick _ _ _ | exact .build _ _ | exact .slice _ _ _ _ _ | exact .unOp _ _ _ rfl | exact .index _ _ _ | exact .max _ _ _ rfl rfl | exact .min _ _ _ rfl rfl | exact .nilCheck _ _ rfl)) | with_reducible refine Calmly.gl_tf (fun _ _ => ?_) | with_reducible refine Calmly.gl_ft (fun _ _ => ?_)) | ((with_reducible refine Calmly.is_eff ?_); refine Calmly.mix_eff rfl (fun _ _ => ?_)) | ((with_reducible refine Calmly.is_gf ?_); refine Calmly.mix_gf rfl rfl rfl ?_; first | with_reducible refine Calmly.gf_tt (fun _ _ => ?_) | with_reducible refine Calmly.gf_ff (fun _ _ => ?_) | with_reducible refine Calmly.gf_tf (kept_of hk) (fun _ _ => ?_) | with_reducible refine Calmly.gf_ft (kept_of hk) (fun _ _ => ?_)) | ((with_reducible refine Calmly.is_tail ?_); first | refine Calmly.mix_tail_nil ?_ | refine Calmly.mix_tail rfl (fun _ _ => ?_)) | ((with_reducible refine Calmly.is_kept ?_); refine ⟨kept_of hk, ?_⟩) | (with_reducible refine Calmly.mix_alt ?_ ?_) | (go_at_call 92; refine (HW.out _).mono ?_; rintro e w1 ⟨rfl, rfl⟩) | (refine appS1z (V2) (z := V2.heap.size) (B := w.heap.size + 1 + 1 + 1) (by simp) rfl rfl _ _ rfl hO9 rfl rfl (by omega) (by omega) (fun a' c' w9 ho hb9 hlt9 => ?_); have z79 := (hb9.block _ (by omega)).trans z79; have e70 := cell_block z79 0; have e71 := cell_block z79 1; have x71 := frozen_block z79 1))
            have hrr : (rs, rb) = (s, false) := HMV.out
            injection hrr with rr1 rr2
            go_roundw
            case rel => exact ⟨k + 1, by omega, by go_num, by rw [HROWS.out, rr1, rr2]; exact RmI.app hb9' z4' z6' z7' hb9 ho (by omega)⟩
            case measure => simp [intOf]; omega
      · as_aux_lemma =>
          go_wp2_with fail
          refine Calmly.wp_region_mix 12 (.fl 0 <| .fl 1 <| .fl 2 <| .fl 3 <| .gl 4 <| .gl 6 <| .gl 7 <| .gl 8 <| .gl 9 <| .gl 10 <| .gf 5 <| .gl 11 <| .tail [12]) (by kernel_rfl) (by kernel_rfl) ?_
          have BD : Below V.heap.size V V.drew := (Below.refl _ _).drew
          replace z4 := blk_keep z4 BD
          replace z6 := blk_keep z6 BD
          replace z7 := blk_keep z7 BD
          replace z9 := blk_keep z9 BD
          replace hO := hO.keep BD
          replace p0 := cell_keep p0 BD
          replace p1 := cell_keep p1 BD
          replace p2 := cell_keep p2 BD
          replace hb := hb.trans (BD.mono hb.size)
          replace hsz2 := Nat.lt_of_lt_of_le hsz2 BD.size
          clear BD
          generalize V.drew = V2 at *
          have g0 := cell_block z9 0
          have g1 := cell_block z9 1
          have n0 := frozen_block z9 0
          have n1 := frozen_block z9 1
          have g7 := cell_block z7 0
          have g7' := cell_block z7 1
          have hk := Below.refl V2.heap.size V2
          have HMV := Lib.hid (show (rs, rb) = (s, true) by rw [HR2.out]; rw [mvSlip, mvBr, if_pos rfl]; rfl)
          have hO9 := hO
          have z79 := z7
          have hb9' := hb
          have z4' := z4
          have z6' := z6
          have z7' := z7
          have hq9 : q < V2.heap.size := hsz2
          go_wp2_with (first | ((with_reducible refine Calmly.is_fl ?_); refine Calmly.mix_fl rfl ?_ (fun _ _ => ?_); (first | exact .move _ | exact .load _ _ | exact .fieldAddr _ _ _ (by kernel_rfl) | exact .assign _ | exact .binOp _ _ _ _ _ rfl | exact .indexAddr _ _ _ | exact .len _ _ (by kernel_rfl) | exact .field _ _ _ | exact .extract _ _ | exact .pick _ _ _ | exact .build _ _ | exact .slice _ _ _ _ _ | exact .unOp _ _ _ rfl | exact .index _ _ _ | exact .max _ _ _ rfl rfl | exact .min _ _ _ rfl rfl | exact .nilCheck _ _ rfl)) | ((with_reducible refine Calmly.is_gl ?_); refine Calmly.mix_gl rfl rfl rfl ?_; first | ((first | with_reducible refine Calmly.gl_tt ?_ (fun _ _ => ?_) | with_reducible refine Calmly.gl_ff ?_ (fun _ _ => ?_)); (first | exact .move _ | exact .load _ _ | exact .fieldAddr _ _ _ (by kernel_rfl) | exact .assign _ | exact .binOp _ _ _ _ _ rfl | exact .indexAddr _ _ _ | exact .len _ _ (by kernel_rfl) | exact .field _ _ _ | exact .extract _ _ | exact .pick _ _ _ | exact .build _ _ | exact .slice _ _ _ _ _ | exact .unOp _ _ _ rfl | exact .index _ _ _ | exact .max _ _ _ rfl rfl | exact .min _ _ _ rfl rfl | exact .nilCheck _ _ rfl)) | with_reducible refine Calmly.gl_tf (fun _ _ => ?_) | with_reducible refine Calmly.gl_ft (fun _ _ => ?_)) | ((with_reducible refine Calmly.is_eff ?_); refine Calmly.mix_eff rfl (fun _ _ => ?_)) | ((with_reducible refine Calmly.is_gf ?_); refine Calmly.mix_gf rfl rfl rfl ?_; first | with_reducible refine Calmly.gf_tt (fun _ _ => ?_) | with_reducible refine Calmly.gf_ff (fun _ _ => ?_) | with_reducible refine Calmly.gf_tf (kept_of hk) (fun _ _ => ?_) | with_reducible refine Calmly.gf_ft (kept_of hk) (fun _ _ => ?_)) | ((with_reducible refine Calmly.is_tail ?_); first | refine Calmly.mix_tail_nil ?_ | refine Calmly.mix_tail rfl (fun _ _ => ?_)) | ((with_reducible refine Calmly.is_kept ?_); refine ⟨kept_of hk, ?_⟩) | (with_reducible refine Calmly.mix_alt ?_ ?_) | (refine appS1z (V2) (z := V2.heap.size) (B := w.heap.size + 1 + 1 + 1) (by simp) rfl rfl _ _ rfl hO9 rfl rfl (by omega) (by omega) (fun a' c' w9 ho hb9 hlt9 => ?_); have z79 := (hb9.block _ (by omega)).trans z79; have e70 := cell_block z79 0; have e71 := cell_block z79 1; have x71 := frozen_block z79 1))
          have hrr : (rs, rb) = (s, true) := HMV.out
          injection hrr with rr1 rr2
          go_roundw
          case rel => exact ⟨k + 1, by omega, by go_num, by rw [HROWS.out, rr1, rr2]; exact RmI.app hb9' z4' z6' z7' hb9 ho (by omega)⟩
          case measure => simp [intOf]; omega
    · have hle : (n : Int) ≤ (k : Int) := by omega
      obtain rfl : n = k := by omega
      clear hlt hk
      have g0 := cell_block z7 0
      have g1 := cell_block z7 1
      have e0 := cell_block z6 0
      have e1 := cell_block z6 1
      have x0 := frozen_block z6 0
      have x1 := frozen_block z6 1
      go_wp2_with fail
      have hne2 : ∀ b, b ≠ w.heap.size + 1 → ((wr.setCell ⟨w.heap.size + 1, 0, none⟩ (.int .i64 at2)).setCell ⟨w.heap.size + 1, 1, none⟩ (.slice av n cv)).heap[b]? = wr.heap[b]? := fun b hb => by
        rw [Below.heap_setCell _ _ _ _ hb, Below.heap_setCell _ _ _ _ hb]
      have q0 := setBlk (setBlk z6 0 (.int .i64 at2)) 1 (.slice av n cv)
      simp at q0
      have r0 := cell_block q0 0
      have r1 := cell_block q0 1
      refine bodyPost_ret (v := .agg #[.int .i64 at2, .slice av n cv]) (by simp [results, Try.results41, go_sem, r0, r1]) rfl ⟨_, _, rfl, owns_lower (owns_apart hO hne2 (by omega)) (by omega), (hb.setCell (by show w.heap.size ≤ w.heap.size + 1; omega) _).setCell (by show w.heap.size ≤ w.heap.size + 1; omega) _⟩
end Go.Proofs.Ytaiikekgckjdeaa

namespace Go.Proofs.Ytaiikekgckjdeaa
open Go.RowKit
open Calmly (Kept)
theorem ow_ge {w : World} {B : Nat} {av : Option Addr} {n c : Nat} {xs : List Sp} (h : OwS w B av n c xs) {g o : Nat} (e : av = some ⟨g, o, none⟩) : B ≤ g := by
  subst e
  exact (World.ownsRow.lt h g rfl).1
theorem first_bad {a b : Int} (h : a ≠ 0) : firstE [a, b] = a := by
  show (if a = 0 then _ else a) = a
  rw [if_neg h]
theorem first_ok {a b : Int} (h : a = 0) : firstE [a, b] = b := by
  subst h
  show (if (0 : Int) = 0 then (if b = 0 then 0 else b) else 0) = b
  rw [if_pos rfl]
  split
  · rename_i h; exact h.symm
  · rfl
theorem kept_st3M {W w : World} {r : Nat} {x y z u0 u1 u2 : Value} {t : TypeId} {G : Prop} (h : Below W.heap.size W w) (hr : W.heap.size ≤ r) (p : w.heap[r]? = some (.cells #[u0, u1, u2] t))
    (k : Below W.heap.size W (((w.setCell ⟨r, 0, none⟩ x).setCell ⟨r, 1, none⟩ y).setCell ⟨r, 2, none⟩ z) → (∀ b, b ≠ r → (((w.setCell ⟨r, 0, none⟩ x).setCell ⟨r, 1, none⟩ y).setCell ⟨r, 2, none⟩ z).heap[b]? = w.heap[b]?) →
      (((w.setCell ⟨r, 0, none⟩ x).setCell ⟨r, 1, none⟩ y).setCell ⟨r, 2, none⟩ z).heap[r]? = some (.cells #[x, y, z] t) → G) : Kept W (((w.setCell ⟨r, 0, none⟩ x).setCell ⟨r, 1, none⟩ y).setCell ⟨r, 2, none⟩ z) ∧ G := by
  have h1 := ((h.setCell (p := ⟨r, 0, none⟩) hr x).setCell (p := ⟨r, 1, none⟩) hr y).setCell (p := ⟨r, 2, none⟩) hr z
  refine ⟨kept_of h1, k h1 (fun b hb => ?_) ?_⟩
  · rw [Below.heap_setCell _ _ _ _ hb, Below.heap_setCell _ _ _ _ hb, Below.heap_setCell _ _ _ _ hb]
  · have := setBlk (setBlk (setBlk p 0 x) 1 y) 2 z
    simpa using this
theorem But.set3 {W : World} {r : Nat} {x y z : Value} {cs : Array Value} {t : TypeId} (p : W.heap[r]? = some (.cells cs t)) : But t W (((W.setCell ⟨r, 0, none⟩ x).setCell ⟨r, 1, none⟩ y).setCell ⟨r, 2, none⟩ z) :=
  ⟨by simp, fun b _ hn => by
    have hb : b ≠ r := by rintro rfl; exact hn ⟨_, p⟩
    rw [Below.heap_setCell _ _ _ _ hb, Below.heap_setCell _ _ _ _ hb, Below.heap_setCell _ _ _ _ hb]⟩
set_option maxRecDepth 100000 in
set_option maxHeartbeats 1000000 in
theorem rHoldErr_any (a a2 : Option Addr) (n c n2 c2 : Nat) (l : List El) (at' : Int) (sl : List Sp) (w : World) (h1 : SEl w a n c l) (h2 : SSp w a2 n2 c2 sl) (hl : ∀ j, j < n → elErr (l[j]?.getD el0) = 0) :
    Calls Try.prog 32 #[.slice a n c, .agg #[.int .i64 at', .slice a2 n2 c2]] w fun e w' => e = .returned (.int .i64 (hldE l at' sl).2) ∧ Below w.heap.size w w' := by
  have y1 := alloc_new w (.cells #[.int .i64 at', .slice a2 n2 c2] 49)
  have BW : Below w.heap.size w (w.alloc (.cells #[.int .i64 at', .slice a2 n2 c2] 49)) := (Below.refl _ _).alloc (Nat.le_refl _) _
  have f0 := cell_block y1 0
  have f1 := cell_block y1 1
  go_enter Try.func32, Try.ntmps32
  go_wp2_with fail
  refine (rCheckHold_any a a2 n c n2 c2 l at' sl _ (h1.keep BW) (h2.keep BW) hl).mono ?_
  rintro e w1 ⟨rfl, hb⟩
  go_wp2_with fail
  go_ret
  exact ⟨rfl, BW.trans (hb.mono BW.size)⟩
end Go.Proofs.Ytaiikekgckjdeaa

namespace Go.Proofs.Ytaiikekgckjdeaa
open Go.RowKit
open Calmly (Kept)
set_option maxRecDepth 100000 in
set_option maxHeartbeats 1000000 in
theorem rCheckFrame_any (a : Option Addr) (n c : Nat) (raw : List FlR) (fs : List Fl) (w : World) (h1 : FrV w a n c raw fs) :
    Calls Try.prog 59 #[.agg #[.slice a n c]] w fun e w' => e = .returned (.tuple #[.int .i64 (frmE fs).1, .int .i64 (frmE fs).2]) ∧ Below w.heap.size w w' := by
  have hln := h1.n_
  have m1 := h1.row.max
  have c1 := h1.row.cap
  have y1 := alloc_new w (.cells #[.slice a n c] 24)
  have BW : Below w.heap.size w (w.alloc (.cells #[.slice a n c] 24)) := (Below.refl _ _).alloc (Nat.le_refl _) _
  have f0 := cell_block y1 0
  have hS : frmE fs = if frmH n = 0 then eaF (fun i => flErr (fs[i]?.getD fl0)) 0 n else (0, frmH n) := by rw [frmE, ← hln]
  have HLN := Lib.hid hln
  clear hln
  by_cases h0 : n = 0
  · have hR : frmE fs = (0, 10) := by rw [hS, h0]; rfl
    rw [hR]
    have b1 : ((n : Int) == 0) = true := by simp; omega
    clear hS hR h0
    go_enter Try.func59, Try.ntmps59
    go_wp2_with fail
    refine bodyPost_ret (v := .tuple #[.int .i64 0, .int .i64 10]) (by simp [results, Try.results59]) rfl ⟨rfl, BW⟩
  have b1 : ((n : Int) == 0) = false := by simp; omega
  have d1 : decide (0 < n) = true := by rw [decide_eq_true_eq]; omega
  by_cases h4 : 5 < n
  · have d2 : decide ((n : Int) ≤ 5) = false := by rw [decide_eq_false_iff_not]; omega
    have hR : frmE fs = (0, 8) := by
      have h5 : frmH n = 8 := by rw [frmH, d1, d2]; rfl
      rw [hS, h5]
      rfl
    rw [hR]
    have b2 : (5 : Int) < (n : Int) := by omega
    clear hS hR h0 h4 d1 d2
    go_enter Try.func59, Try.ntmps59
    go_wp2_with fail
    refine bodyPost_ret (v := .tuple #[.int .i64 0, .int .i64 8]) (by simp [results, Try.results59]) rfl ⟨rfl, BW⟩
  have d2 : decide ((n : Int) ≤ 5) = true := by rw [decide_eq_true_eq]; omega
  have hE : frmE fs = eaF (fun i => flErr (fs[i]?.getD fl0)) 0 n := by
    have h5 : frmH n = 0 := by rw [frmH, d1, d2]; rfl
    rw [hS, if_pos h5]
  obtain ⟨I, E, hR⟩ : ∃ I E, frmE fs = (I, E) := ⟨_, _, rfl⟩
  rw [hR]
  have HR := Lib.hid (show eaF (fun i => flErr (fs[i]?.getD fl0)) 0 (n - 0) = (I, E) from hE.symm.trans hR)
  have b2 : ¬ (5 : Int) < (n : Int) := by omega
  clear hS hR hE h0 h4 d1 d2
  go_enter Try.func59, Try.ntmps59
  go_wp2_with fail
  generalize w.alloc (.cells #[.slice a n c] 24) = W at *
  go_loopw [4] (fun i wr => ∃ k : Nat, k ≤ n ∧ i = .int .i64 k ∧ eaF (fun i => flErr (fs[i]?.getD fl0)) k (n - k) = (I, E) ∧ Below W.heap.size W wr) (fun i _ => n - (intOf i).toNat)
  case atStart => exact ⟨0, by omega, rfl, HR.out, Below.refl _ _⟩
  case round =>
    clear f0
    obtain ⟨k, hk, rfl, ht, hb⟩ := hrel
    have HT := Lib.hid ht
    clear ht
    have hB2 := BW.trans (hb.mono BW.size)
    have z1 := blk_keep y1 hb
    have f0 := cell_block z1 0
    by_cases hlt : k < n
    · have hF := h1.keep hB2
      obtain ⟨b1', o1, rfl, hc1⟩ := hF.row.at_ (by omega)
      obtain ⟨p0, p1, p2⟩ := hc1 k hlt
      obtain ⟨e0, e1, e2⟩ := hF.fl k (by have := HLN.out; omega)
      have hi : (k : Int) < (n : Int) := by omega
      have hi0 : (0 : Int) ≤ (k : Int) := by omega
      have hrow : ∀ e, flErr (fs[k]?.getD fl0) = e → e ≠ 0 → (I, E) = ((k : Int), e) := fun e h h0 => by
        rw [← HT.out, eaF_bad hlt (by show flErr _ ≠ 0; rw [h]; exact h0), h]
      have hgo : flErr (fs[k]?.getD fl0) = 0 → eaF (fun i => flErr (fs[i]?.getD fl0)) (k + 1) (n - (k + 1)) = (I, E) := fun h => (eaF_ok (err := fun i => flErr (fs[i]?.getD fl0)) hlt h).symm.trans HT.out
      obtain ⟨xx, hxx⟩ : ∃ x, fs[k]?.getD fl0 = x := ⟨_, rfl⟩
      obtain ⟨yy, hyy⟩ : ∃ x, raw[k]?.getD flr0 = x := ⟨_, rfl⟩
      obtain ⟨x, y, l⟩ := xx
      obtain ⟨x', y', a', n', c'⟩ := yy
      rw [hxx] at e0 e1 e2 hrow hgo
      rw [hyy] at e0 e1 e2 p0 p1 p2
      dsimp only [hv] at e0 e1 e2 p0 p1 p2
      subst e0 e1
      have HROW := Lib.hid hrow
      have HGO := Lib.hid hgo
      clear hc1 hxx hyy hrow hgo
      have z5 := alloc_new wr (.cells #[.int .i64 x', .int .i64 y', .slice a' n' c'] 130)
      have hA : Below wr.heap.size wr (wr.alloc (.cells #[.int .i64 x', .int .i64 y', .slice a' n' c'] 130)) := (Below.refl _ _).alloc (Nat.le_refl _) _
      go_wp2_with fail
      have hb2 := hb.trans (hA.mono hb.size)
      replace f0 := cell_block (blk_keep z1 hA) 0
      replace e2 := e2.keep hA
      have g0 := cell_block z5 0
      have g1 := cell_block z5 1
      have g2 := cell_block z5 2
      clear hA p0 p1 p2 z1 hF
      generalize hq : wr.heap.size = q at *
      generalize wr.alloc (.cells #[.int .i64 x', .int .i64 y', .slice a' n' c'] 130) = V at *
      refine (within_any x' 1 10000 _).mono ?_
      rintro e w1 ⟨rfl, rfl⟩
      cases hx : wIn x' 1 10000
      · have hbad := HROW.out 2 (by show firstE [unlessE (wIn x' 1 10000 && _) 2, _] = 2; rw [hx]; rfl) (by decide)
        injection hbad with e1 e2
        have E1 := Lib.hid e1
        have E2 := Lib.hid e2
        clear e1 e2
        go_wp2_with fail
        refine bodyPost_ret (v := .tuple #[.int .i64 (k : Int), .int .i64 2]) (by simp [results, Try.results59]) rfl ⟨by rw [E1.out, E2.out], BW.trans (hb2.mono BW.size)⟩
      · go_wp2_with fail
        refine (within_any y' 1 1000 _).mono ?_
        rintro e w1 ⟨rfl, rfl⟩
        cases hy : wIn y' 1 1000
        · have hbad := HROW.out 2 (by show firstE [unlessE (wIn x' 1 10000 && wIn y' 1 1000) 2, _] = 2; rw [hx, hy]; rfl) (by decide)
          injection hbad with e1 e2
          have E1 := Lib.hid e1
          have E2 := Lib.hid e2
          clear e1 e2
          go_wp2_with fail
          refine bodyPost_ret (v := .tuple #[.int .i64 (k : Int), .int .i64 2]) (by simp [results, Try.results59]) rfl ⟨by rw [E1.out, E2.out], BW.trans (hb2.mono BW.size)⟩
        · have hfl : flErr (x', y', l) = (sprE l).2 := by
            show firstE [unlessE (wIn x' 1 10000 && wIn y' 1 1000) 2, (sprE l).2] = _
            rw [hx, hy]
            exact first_ok rfl
          have HFL := Lib.hid hfl
          clear hfl
          go_wp2_with fail
          refine (rSpringErr_any a' n' c' l _ e2).mono ?_
          rintro e w1 ⟨rfl, hs⟩
          obtain ⟨S, hS⟩ : ∃ S, (sprE l).2 = S := ⟨_, rfl⟩
          rw [hS]
          have HS := Lib.hid hS
          clear hS
          by_cases hz : S = 0
          · have HG := Lib.hid (HGO.out (by rw [HFL.out, HS.out, hz]))
            have b3 : (S != 0) = false := by rw [hz]; rfl
            clear hz
            go_wp2_with fail
            go_roundw
            case rel => exact ⟨k + 1, by omega, by go_num, HG.out, hb2.trans (hs.mono hb2.size)⟩
            case measure => simp [intOf]; omega
          · have hbad := HROW.out S (by rw [HFL.out, HS.out]) hz
            injection hbad with e1 e2
            have E1 := Lib.hid e1
            have E2 := Lib.hid e2
            have b3 : (S != 0) = true := by simpa using hz
            clear e1 e2 hz
            go_wp2_with fail
            refine bodyPost_ret (v := .tuple #[.int .i64 (k : Int), .int .i64 S]) (by simp [results, Try.results59]) rfl ⟨by rw [E1.out, E2.out], BW.trans ((hb2.trans (hs.mono hb2.size)).mono BW.size)⟩
    · have hle : (n : Int) ≤ (k : Int) := by omega
      have hR0 : (I, E) = (0, 0) := by rw [← HT.out, eaF_end (by omega)]
      injection hR0 with e1 e2
      subst e1 e2
      go_wp2_with fail
      refine bodyPost_ret (v := .tuple #[.int .i64 0, .int .i64 0]) (by simp [results, Try.results59]) rfl ⟨rfl, hB2⟩
set_option maxRecDepth 100000 in
theorem rFrameErr_any (a : Option Addr) (n c : Nat) (raw : List FlR) (fs : List Fl) (w : World) (h1 : FrV w a n c raw fs) :
    Calls Try.prog 17 #[.agg #[.slice a n c]] w fun e w' => e = .returned (.int .i64 (frmE fs).2) ∧ Below w.heap.size w w' := by
  have y1 := alloc_new w (.cells #[.slice a n c] 24)
  have BW : Below w.heap.size w (w.alloc (.cells #[.slice a n c] 24)) := (Below.refl _ _).alloc (Nat.le_refl _) _
  have f0 := cell_block y1 0
  go_enter Try.func17, Try.ntmps17
  go_wp2_with fail
  refine (rCheckFrame_any a n c raw fs _ (h1.keep BW)).mono ?_
  rintro e w1 ⟨rfl, hb⟩
  go_wp2_with fail
  go_ret
  exact ⟨rfl, BW.trans (hb.mono BW.size)⟩
/-- The error of a motion. -/
def rmoE (l : List Int) : Int := if (l.length : Int) ≤ 60 then motE l else 8
set_option maxRecDepth 100000 in
set_option maxHeartbeats 1000000 in
theorem rMotionErr_any (a : Option Addr) (n c : Nat) (l : List Int) (w : World) (h1 : SI w a n c l) :
    Calls Try.prog 18 #[.slice a n c] w fun e w' => e = .returned (.int .i64 (rmoE l)) ∧ w = w' := by
  have hln : n = l.length := h1.len
  have m1 := h1.max
  have c1 := h1.cap
  by_cases h6 : 60 < n
  · have hR : rmoE l = 8 := by rw [rmoE, if_neg (by omega)]
    rw [hR]
    have b1 : (60 : Int) < (n : Int) := by omega
    clear hR h6 hln
    go_enter Try.func18, Try.ntmps18
    go_wp2_with fail
    go_ret
    exact ⟨rfl, rfl⟩
  · have hR : rmoE l = (eaF (fun i => unlessE (grd (l[i]?.getD 0)) 2) 0 n).2 := by rw [rmoE, if_pos (by omega), motE, ← hln]
    obtain ⟨I, E, hE⟩ : ∃ I E, eaF (fun i => unlessE (grd (l[i]?.getD 0)) 2) 0 n = (I, E) := ⟨_, _, rfl⟩
    rw [hR, hE]
    have HR := Lib.hid (show eaF (fun i => unlessE (grd (l[i]?.getD 0)) 2) 0 (n - 0) = (I, E) from hE)
    have b1 : ¬ (60 : Int) < (n : Int) := by omega
    clear hR h6 hln hE
    go_enter Try.func18, Try.ntmps18
    go_wp2_with fail
    go_loopw [3] (fun i wr => ∃ k : Nat, k ≤ n ∧ i = .int .i64 k ∧ eaF (fun i => unlessE (grd (l[i]?.getD 0)) 2) k (n - k) = (I, E) ∧ w = wr) (fun i _ => n - (intOf i).toNat)
    case atStart => exact ⟨0, by omega, rfl, HR.out, rfl⟩
    case round =>
      obtain ⟨k, hk, rfl, ht, rfl⟩ := hrel
      have HT := Lib.hid ht
      clear ht
      by_cases hlt : k < n
      · obtain ⟨b1', o1, rfl, hc1⟩ := h1.at_ (by omega)
        have p0 := hc1 k hlt
        have hi : (k : Int) < (n : Int) := by omega
        have hi0 : (0 : Int) ≤ (k : Int) := by omega
        obtain ⟨x, hxx⟩ : ∃ x, l[k]?.getD 0 = x := ⟨_, rfl⟩
        have hrow : unlessE (grd x) 2 ≠ 0 → (I, E) = ((k : Int), unlessE (grd x) 2) := fun h0 => by
          rw [← HT.out, eaF_bad hlt (by show unlessE (grd (l[k]?.getD 0)) 2 ≠ 0; rw [hxx]; exact h0), hxx]
        have hgo : unlessE (grd x) 2 = 0 → eaF (fun i => unlessE (grd (l[i]?.getD 0)) 2) (k + 1) (n - (k + 1)) = (I, E) := fun h => (eaF_ok (err := fun i => unlessE (grd (l[i]?.getD 0)) 2) hlt (by show unlessE (grd (l[k]?.getD 0)) 2 = 0; rw [hxx]; exact h)).symm.trans HT.out
        rw [hxx] at p0
        have HROW := Lib.hid hrow
        have HGO := Lib.hid hgo
        clear hc1 hxx hrow hgo
        go_wp2_with fail
        refine (rGroundErr_any x _).mono ?_
        rintro e w1 ⟨rfl, rfl⟩
        obtain ⟨S, hS⟩ : ∃ S, unlessE (grd x) 2 = S := ⟨_, rfl⟩
        rw [hS]
        have HS := Lib.hid hS
        clear hS
        by_cases hz : S = 0
        · have HG := Lib.hid (HGO.out (HS.out.trans hz))
          have b3 : (S != 0) = false := by rw [hz]; rfl
          clear hz
          go_wp2_with fail
          go_roundw
          case rel => exact ⟨k + 1, by omega, by go_num, HG.out, trivial⟩
          case measure => simp [intOf]; omega
        · have hbad := HROW.out (by rw [HS.out]; exact hz)
          injection hbad with e1 e2
          have E2 := Lib.hid e2
          have b3 : (S != 0) = true := by simpa using hz
          clear e1 e2 hz
          go_wp2_with fail
          go_ret
          exact ⟨ret_int (by rw [E2.out, HS.out]), rfl⟩
      · have hle : (n : Int) ≤ (k : Int) := by omega
        have hR0 : (I, E) = (0, 0) := by rw [← HT.out, eaF_end (by omega)]
        injection hR0 with e1 e2
        subst e1 e2
        go_wp2_with fail
        go_ret
        exact ⟨rfl, rfl⟩
end Go.Proofs.Ytaiikekgckjdeaa

namespace Go.Proofs.Ytaiikekgckjdeaa
open Go.RowKit
open Calmly (Kept)
set_option maxRecDepth 100000 in
set_option maxHeartbeats 1000000 in
theorem Few_any (a : Option Addr) (n c : Nat) (raw : List FlR) (fs : List Fl) (w : World) (h1 : FrV w a n c raw fs) :
    Calls Try.prog 12 #[.agg #[.slice a n c]] w fun e w' => ∃ B, e = .returned (.bool B) ∧ (B = true → fs.length ≤ 7 ∧ ∀ i, i < fs.length → (fs[i]?.getD fl0).2.2.length ≤ 6) ∧ Below w.heap.size w w' := by
  have hln := h1.n_
  have HLN := Lib.hid hln
  have m1 := h1.row.max
  have c1 := h1.row.cap
  have y1 := alloc_new w (.cells #[.slice a n c] 24)
  have BW : Below w.heap.size w (w.alloc (.cells #[.slice a n c] 24)) := (Below.refl _ _).alloc (Nat.le_refl _) _
  have f0 := cell_block y1 0
  clear hln
  by_cases h7 : 7 < n
  · have b1 : (7 : Int) < (n : Int) := by omega
    clear h7
    go_enter Try.func12, Try.ntmps12
    go_wp2_with fail
    go_ret
    exact ⟨false, rfl, (fun h => by cases h), BW⟩
  · have b1 : ¬ (7 : Int) < (n : Int) := by omega
    go_enter Try.func12, Try.ntmps12
    go_wp2_with fail
    generalize w.alloc (.cells #[.slice a n c] 24) = W at *
    go_loopw [3] (fun i wr => ∃ k : Nat, k ≤ n ∧ i = .int .i64 k ∧ (∀ i, i < k → (fs[i]?.getD fl0).2.2.length ≤ 6) ∧ W = wr) (fun i _ => n - (intOf i).toNat)
    case atStart => exact ⟨0, by omega, rfl, fun i hi => absurd hi (by omega), rfl⟩
    case round =>
      obtain ⟨k, hk, rfl, ht, rfl⟩ := hrel
      have HT := Lib.hid ht
      clear ht
      by_cases hlt : k < n
      · have hF := h1.keep BW
        obtain ⟨b1', o1, rfl, hc1⟩ := hF.row.at_ (by omega)
        obtain ⟨p0, p1, p2⟩ := hc1 k hlt
        have e2 := (hF.fl k (by have := HLN.out; omega)).2.2
        have hi : (k : Int) < (n : Int) := by omega
        have hi0 : (0 : Int) ≤ (k : Int) := by omega
        have hl2 := e2.len
        have hc2 := e2.cap
        have hm2 := e2.max
        obtain ⟨yy, hyy⟩ : ∃ x, raw[k]?.getD flr0 = x := ⟨_, rfl⟩
        obtain ⟨x', y', a', n', c'⟩ := yy
        rw [hyy] at hl2 hc2 hm2 p0 p1 p2
        dsimp only [hv] at hl2 hc2 hm2 p0 p1 p2
        have HL2 := Lib.hid hl2
        clear hc1 hyy hF e2 hl2
        by_cases h6 : 6 < n'
        · have b3 : (6 : Int) < (n' : Int) := by omega
          go_wp2_with fail
          go_ret
          exact ⟨false, rfl, (fun h => by cases h), BW⟩
        · have b3 : ¬ (6 : Int) < (n' : Int) := by omega
          go_wp2_with fail
          go_roundw
          case rel =>
            refine ⟨k + 1, by omega, by go_num, fun i hi => ?_, trivial⟩
            rcases Nat.lt_or_ge i k with h | h
            · exact HT.out i h
            · obtain rfl : i = k := by omega
              have := HL2.out
              omega
          case measure => simp [intOf]; omega
      · have hle : (n : Int) ≤ (k : Int) := by omega
        go_wp2_with fail
        go_ret
        exact ⟨true, rfl, fun _ => ⟨by have := HLN.out; omega, fun i hi => HT.out i (by have := HLN.out; omega)⟩, BW⟩
end Go.Proofs.Ytaiikekgckjdeaa
