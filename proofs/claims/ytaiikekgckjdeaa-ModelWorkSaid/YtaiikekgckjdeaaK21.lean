/- The reference's hold that has moved. The reference's work of a move. -/
import Derived.Test.YtaiikekgckjdeaaK20
namespace Go.Proofs.Ytaiikekgckjdeaa
open Go.RowKit
open Calmly (Kept)
/-- What lies between two rounds. -/
structure RmI (w : World) (at1 at2 : Int) (a2 : Option Addr) (n c2 k : Nat) (rows : List Sp) (W : World) : Prop where
  bel : Below w.heap.size w W
  r4 : W.heap[w.heap.size]? = some (.cells #[.int .i64 at1, .slice a2 n c2] 49)
  r6 : W.heap[w.heap.size + 1]? = some (.cells #[.int .i64 0, .slice none 0 0] 49)
  out : ∃ av cv, W.heap[w.heap.size + 1 + 1]? = some (.cells #[.int .i64 at2, .slice av k cv] 49) ∧ OwS W (w.heap.size + 1 + 1 + 1) av k cv rows
  sz : w.heap.size + 1 + 1 + 1 ≤ W.heap.size
theorem RmI.app {w V w9 : World} {at1 at2 : Int} {a2 a' av : Option Addr} {n c2 k c' cv : Nat} {rows' : List Sp} (hb : Below w.heap.size w V) (r4 : V.heap[w.heap.size]? = some (.cells #[.int .i64 at1, .slice a2 n c2] 49)) (r6 : V.heap[w.heap.size + 1]? = some (.cells #[.int .i64 0, .slice none 0 0] 49))
    (r7 : V.heap[w.heap.size + 1 + 1]? = some (.cells #[.int .i64 at2, .slice av k cv] 49)) (hb9 : Below (w.heap.size + 1 + 1 + 1) V w9) (ho : OwS w9 (w.heap.size + 1 + 1 + 1) a' (k + 1) c' rows') (hs : w.heap.size + 1 + 1 + 1 ≤ V.heap.size) :
    RmI w at1 at2 a2 n c2 (k + 1) rows' (w9.setCell ⟨w.heap.size + 1 + 1, 1, none⟩ (.slice a' (k + 1) c')) := by
  have hne : ∀ b, b ≠ w.heap.size + 1 + 1 → (w9.setCell ⟨w.heap.size + 1 + 1, 1, none⟩ (.slice a' (k + 1) c')).heap[b]? = w9.heap[b]? := fun b hb => Below.heap_setCell _ _ _ _ hb
  have q := setBlk ((hb9.block _ (by omega)).trans r7) 1 (.slice a' (k + 1) c')
  simp at q
  refine ⟨(hb.trans (hb9.mono (by omega))).setCell (by show w.heap.size ≤ w.heap.size + 1 + 1; omega) _, ?_, ?_, ⟨a', c', q, owns_apart ho hne (by omega)⟩, ?_⟩
  · rw [hne _ (by omega), hb9.block _ (by omega)]; exact r4
  · rw [hne _ (by omega), hb9.block _ (by omega)]; exact r6
  · have := hb9.size
    simp
    omega
theorem ow_not {w w' : World} {B r : Nat} {av : Option Addr} {n c : Nat} {xs : List Sp} (h : OwS w B av n c xs) (ho : ∀ b, b ≠ r → w'.heap[b]? = w.heap[b]?) (hr : ∀ g o, av = some ⟨g, o, none⟩ → g ≠ r) : OwS w' B av n c xs := by
  obtain ⟨h1, h2⟩ := h
  refine ⟨h1, ?_⟩
  rcases h2 with h2 | ⟨g, cap, cur, hv, hg, hh, r'⟩
  · exact .inl h2
  · injection hv with e1 e2 e3
    exact .inr ⟨g, cap, cur, by rw [e1, e2, e3], hg, (ho g (hr g 0 e1)).trans hh, r'⟩
theorem appS1z {ops : Array Oper} {rest : List Oper} {o : Oper} {a : Act} {Q : Exit → Act → World → Prop} {Wx : World} (w0 : World) {z B : Nat} {av : Option Addr} {n c : Nat} {l : List Sp} {x : Int} {y : Bool} (hz : w0.heap.size = z) (hW : Wx = w0.alloc (.cells #[.int .i64 x, .bool y] 64)) (hgd : o.guard = none) (s x' : Operand)
    (ho : o.op = .call { callee := .builtin .append, args := #[s, x'], argTypes := #[47, 47] })
    (hown : OwS w0 B av n c l) (hs : a.eval s = .slice av n c) (hx : a.eval x' = .slice (some ⟨z, 0, none⟩) 1 1)
    (hb1 : n + 1 ≤ 1099511627776) (hB : B ≤ z)
    (h : ∀ a' c' w', OwS w' B a' (n + 1) c' (l ++ [(x, y)]) → Below B w0 w' → z < w'.heap.size → wpList Try.prog ops Q rest (a.put o.dst (.slice a' (n + 1) c')) w') :
    wpList Try.prog ops Q (o :: rest) a Wx := by
  subst hz
  exact appS1 w0 hW hgd s x' ho hown hs hx hb1 hB h
set_option maxRecDepth 100000 in
set_option maxHeartbeats 4000000 in
theorem rMoved_any (a a2 : Option Addr) (n c c2 : Nat) (l : List El) (at1 at2 : Int) (sl : List Sp) (w : World) (h1 : SEl w a n c l) (h2 : SSp w a2 n c2 sl) (hn : n ≤ 6) (hB : ∀ i, i < n → ElB (l[i]?.getD el0).1 (l[i]?.getD el0).2.1 (sl[i]?.getD sp0).1 at2) :
    Calls Try.prog 41 #[.slice a n c, .agg #[.int .i64 at1, .slice a2 n c2], .int .i64 at2] w fun e w' => ∃ av cv, e = .returned (.agg #[.int .i64 at2, .slice av n cv]) ∧ OwS w' w.heap.size av n cv ((List.range n).map (mvRow l sl at2)) ∧ Below w.heap.size w w' := by
  have m1 := h1.max
  have cc1 := h1.cap
  have m2 := h2.max
  have cc2 := h2.cap
  have y4 := blk_keep (blk_keep (alloc_new w (.cells #[.int .i64 at1, .slice a2 n c2] 49)) ((Below.refl _ _).alloc (Nat.le_refl _) (.cells #[.int .i64 0, .slice none 0 0] 49))) ((Below.refl _ _).alloc (Nat.le_refl _) (.cells #[.int .i64 at2, .slice none 0 0] 49))
  have y6 := blk_keep (alloc_new (w.alloc (.cells #[.int .i64 at1, .slice a2 n c2] 49)) (.cells #[.int .i64 0, .slice none 0 0] 49)) ((Below.refl _ _).alloc (Nat.le_refl _) (.cells #[.int .i64 at2, .slice none 0 0] 49))
  have y7 := alloc_new ((w.alloc (.cells #[.int .i64 at1, .slice a2 n c2] 49)).alloc (.cells #[.int .i64 0, .slice none 0 0] 49)) (.cells #[.int .i64 at2, .slice none 0 0] 49)
  have BW : Below w.heap.size w (((w.alloc (.cells #[.int .i64 at1, .slice a2 n c2] 49)).alloc (.cells #[.int .i64 0, .slice none 0 0] 49)).alloc (.cells #[.int .i64 at2, .slice none 0 0] 49)) := (((Below.refl _ _).alloc (Nat.le_refl _) _).alloc (by simp) _).alloc (by simp; omega) _
  have hsz : (((w.alloc (.cells #[.int .i64 at1, .slice a2 n c2] 49)).alloc (.cells #[.int .i64 0, .slice none 0 0] 49)).alloc (.cells #[.int .i64 at2, .slice none 0 0] 49)).heap.size = w.heap.size + 1 + 1 + 1 := by simp
  simp only [World.size_alloc] at y6 y7
  have HB := Lib.hid hB
  have HSZ := Lib.hid hsz
  clear hB hsz
  go_enter Try.func41, Try.ntmps41
  go_wp2_with fail
  generalize ((w.alloc (.cells #[.int .i64 at1, .slice a2 n c2] 49)).alloc (.cells #[.int .i64 0, .slice none 0 0] 49)).alloc (.cells #[.int .i64 at2, .slice none 0 0] 49) = W at *
  go_loopw [8] (fun i wr => ∃ k : Nat, k ≤ n ∧ i = .int .i64 (k : Int) ∧ RmI w at1 at2 a2 n c2 k ((List.range k).map (mvRow l sl at2)) wr) (fun i _ => n - (intOf i).toNat)
  case atStart => exact ⟨0, by omega, rfl, ⟨BW, y4, y6, ⟨none, 0, y7, OwS.nil _ _⟩, by rw [HSZ.out]; omega⟩⟩
  case round =>
    clear y4 y6 y7 BW HSZ
    obtain ⟨k, hk, rfl, hb, z4, z6, ⟨av, cv, z7, hO⟩, hsz⟩ := hrel
    by_cases hlt : k < n
    · obtain ⟨b1', o1, rfl, hc1⟩ := (h1.keep hb).at_ (by omega)
      obtain ⟨b2', o2, rfl, hc2⟩ := (h2.keep hb).at_ (by omega)
      obtain ⟨p0, p1, p2⟩ := hc1 k hlt
      obtain ⟨q0, q1⟩ := hc2 k hlt
      have hi : (k : Int) < (n : Int) := by omega
      have hi0 : (0 : Int) ≤ (k : Int) := by omega
      have hEB := HB.out k hlt
      obtain ⟨r, hr⟩ : ∃ r, mvRow l sl at2 k = r := ⟨_, rfl⟩
      have hrows : (List.range (k + 1)).map (mvRow l sl at2) = (List.range k).map (mvRow l sl at2) ++ [r] := by rw [List.range_succ, List.map_append, ← hr]; rfl
      have hr2 : r = (mvSlip (l[k]?.getD el0).2.1 (l[k]?.getD el0).2.2 (sl[k]?.getD sp0).1 (sl[k]?.getD sp0).2 at2, mvBr (l[k]?.getD el0).2.1 (l[k]?.getD el0).2.2 (sl[k]?.getD sp0).1 (sl[k]?.getD sp0).2 at2) := hr.symm
      have HROWS := Lib.hid hrows
      clear hr hrows
      obtain ⟨xx, hxx⟩ : ∃ x, l[k]?.getD el0 = x := ⟨_, rfl⟩
      obtain ⟨yy, hyy⟩ : ∃ x, sl[k]?.getD sp0 = x := ⟨_, rfl⟩
      obtain ⟨x, y, z⟩ := xx
      obtain ⟨s, br⟩ := yy
      rw [hxx] at p0 p1 p2 hEB hr2
      rw [hyy] at q0 q1 hEB hr2
      dsimp only at p0 p1 p2 q0 q1 hEB hr2
      have HR2 := Lib.hid hr2
      obtain ⟨⟨k1, k2⟩, ⟨k3, k4⟩, ⟨k5, k6⟩, ⟨k7, k8⟩⟩ := hEB
      clear hc1 hc2 hxx hyy hr2
      obtain ⟨rs, rb⟩ := r
      have f0 := cell_block z4 0
      have f1 := cell_block z4 1
      have z9 := alloc_new wr (.cells #[.int .i64 s, .bool br] 64)
      have hA : Below wr.heap.size wr (wr.alloc (.cells #[.int .i64 s, .bool br] 64)) := (Below.refl _ _).alloc (Nat.le_refl _) _
      go_wp2_with fail
      replace z4 := blk_keep z4 hA
      replace z6 := blk_keep z6 hA
      replace z7 := blk_keep z7 hA
      have hoq : ∀ g o, av = some ⟨g, o, none⟩ → g ≠ wr.heap.size := fun g o e => by have := hO.lt g o e; omega
      replace hO := hO.keep hA
      replace hb := hb.trans (hA.mono hb.size)
      replace p0 := cell_keep p0 hA
      replace p1 := cell_keep p1 hA
      replace p2 := cell_keep p2 hA
      have hsq : w.heap.size + 1 + 1 + 1 ≤ wr.heap.size := hsz
      have hsz2 : wr.heap.size < (wr.alloc (.cells #[.int .i64 s, .bool br] 64)).heap.size := by simp
      clear f0 f1 q0 q1 hA hsz
      generalize hq : wr.heap.size = q at *
      generalize wr.alloc (.cells #[.int .i64 s, .bool br] 64) = V at *
      clear hq
      have HOQ := Lib.hid hoq
      clear hoq
      cases br
      · as_aux_lemma =>
          obtain ⟨N, hN⟩ : ∃ N : Int, ((at2 - s).natAbs : Int) = N := ⟨_, rfl⟩
          have hW : ∀ w, Calls Try.prog 92 #[.int .i64 (at2 - s)] w fun e w' => e = .returned (.int .i64 N) ∧ w = w' := fun w => by
            have h := size_any (at2 - s) w (by omega) (by omega)
            rw [hN] at h
            exact h
          have HW := Lib.hid hW
          clear hW
          by_cases hgt : y < N
          · have ho0 : ¬ ovr y (at2 - s) = 0 := by unfold ovr; omega
            cases z
            · by_cases hd : 0 < at2 - s
              · have ho1 : ovr y (at2 - s) = at2 - s - y := by unfold ovr; omega
                have hd2 : ¬ at2 - s < 0 := by omega
                clear hN
                go_wp2_with fail
                refine Calmly.wp_region_mix 12 (.fl 0 <| .fl 1 <| .fl 2 <| .fl 3 <| .gl 4 <| .gl 6 <| .gl 7 <| .gl 8 <| .gl 9 <| .gl 10 <| .gf 5 <| .gl 11 <| .tail [12]) (by kernel_rfl) (by kernel_rfl) ?_
                have BD : Below V.heap.size V V.drew := (Below.refl _ _).drew
                replace z4 := blk_keep z4 BD
                replace z6 := blk_keep z6 BD
                replace z7 := blk_keep z7 BD
                replace z9 := blk_keep z9 BD
                replace hO := hO.keep BD
                replace p0 := cell_keep p0 BD
                replace p1 := cell_keep p1 BD
                replace p2 := cell_keep p2 BD
                replace hb := hb.trans (BD.mono hb.size)
                replace hsz2 := Nat.lt_of_lt_of_le hsz2 BD.size
                clear BD
                generalize V.drew = V2 at *
                have g0 := cell_block z9 0
                have g1 := cell_block z9 1
                have n0 := frozen_block z9 0
                have n1 := frozen_block z9 1
                have g7 := cell_block z7 0
                have g7' := cell_block z7 1
                have hk := Below.refl V2.heap.size V2
                have HMV := Lib.hid (show (rs, rb) = (at2 - y, false) by rw [HR2.out]; rw [mvSlip, mvBr, if_neg (by decide), if_neg ho0, if_neg (by decide), if_neg (by omega), ho1]; simp; omega)
                have hne9 : ∀ b, b ≠ q → (V2.setCell ⟨q, 0, none⟩ (.int .i64 (at2 - y))).heap[b]? = V2.heap[b]? := fun b hb => by rw [Below.heap_setCell _ _ _ _ hb]
                have z4' := (hne9 w.heap.size (by omega)).trans z4
                have z6' := (hne9 (w.heap.size + 1) (by omega)).trans z6
                have z7' := (hne9 (w.heap.size + 1 + 1) (by omega)).trans z7
                have z79 := z7'
                have hO9 : OwS (V2.setCell ⟨q, 0, none⟩ (.int .i64 (at2 - y))) (w.heap.size + 1 + 1 + 1) av k cv ((List.range k).map (mvRow l sl at2)) := ow_not hO hne9 (HOQ.out)
                have hb9' : Below w.heap.size w (V2.setCell ⟨q, 0, none⟩ (.int .i64 (at2 - y))) := hb.setCell (by show w.heap.size ≤ q; omega) _
                have z99 := setBlk z9 0 (.int .i64 (at2 - y))
                simp at z99
                have g90 := cell_block z99 0
                have g91 := cell_block z99 1
                have g97 := cell_block z7' 1
                have hq9 : q < (V2.setCell ⟨q, 0, none⟩ (.int .i64 (at2 - y))).heap.size := by simpa using hsz2
                go_wp2_with (first | ((with_reducible refine Calmly.is_fl ?_); refine Calmly.mix_fl rfl ?_ (fun _ _ => ?_); (first | exact .move _ | exact .load _ _ | exact .fieldAddr _ _ _ (by kernel_rfl) | exact .assign _ | exact .binOp _ _ _ _ _ rfl | exact .indexAddr _ _ _ | exact .len _ _ (by kernel_rfl) | exact .field _ _ _ | exact .extract _ _ | exact .pick _ _ _ | exact .build _ _ | exact .slice _ _ _ _ _ | exact .unOp _ _ _ rfl | exact .index _ _ _ | exact .max _ _ _ rfl rfl | exact .min _ _ _ rfl rfl | exact .nilCheck _ _ rfl)) | ((with_reducible refine Calmly.is_gl ?_); refine Calmly.mix_gl rfl rfl rfl ?_; first | ((first | with_reducible refine Calmly.gl_tt ?_ (fun _ _ => ?_) | with_reducible refine Calmly.gl_ff ?_ (fun _ _ => ?_)); (first | exact .move _ | exact .load _ _ | exact .fieldAddr _ _ _ (by kernel_rfl) | exact .assign _ | exact .binOp _ _ _ _ _ rfl | exact .indexAddr _ _ _ | exact .len _ _ (by kernel_rfl) | exact .field _ _ _ | exact .extract _ _ | exact .pick _ _ _ | exact .build _ _ | exact .slice _ _ _ _ _ | exact .unOp _ _ _ rfl | exact .index _ _ _ | exact .max _ _ _ rfl rfl | exact .min _ _ _ rfl rfl | exact .nilCheck _ _ rfl)) | with_reducible refine Calmly.gl_tf (fun _ _ => ?_) | with_reducible refine Calmly.gl_ft (fun _ _ => ?_)) | ((with_reducible refine Calmly.is_eff ?_); refine Calmly.mix_eff rfl (fun _ _ => ?_)) | ((with_reducible refine Calmly.is_gf ?_); refine Calmly.mix_gf rfl rfl rfl ?_; first | with_reducible refine Calmly.gf_tt (fun _ _ => ?_) | with_reducible refine Calmly.gf_ff (fun _ _ => ?_) | with_reducible refine Calmly.gf_tf (kept_of hk) (fun _ _ => ?_) | with_reducible refine Calmly.gf_ft (kept_of hk) (fun _ _ => ?_)) | ((with_reducible refine Calmly.is_tail ?_); first | refine Calmly.mix_tail_nil ?_ | refine Calmly.mix_tail rfl (fun _ _ => ?_)) | ((with_reducible refine Calmly.is_kept ?_); refine ⟨kept_of hk, ?_⟩) | (with_reducible refine Calmly.mix_alt ?_ ?_) | (go_at_call 92; refine (HW.out _).mono ?_; rintro e w1 ⟨rfl, rfl⟩) | (refine appS1z (V2.setCell ⟨q, 0, none⟩ (.int .i64 (at2 - y))) (z := V2.heap.size) (B := w.heap.size + 1 + 1 + 1) (by simp) rfl rfl _ _ rfl hO9 rfl rfl (by omega) (by omega) (fun a' c' w9 ho hb9 hlt9 => ?_); have z79 := (hb9.block _ (by omega)).trans z79; have e70 := cell_block z79 0; have e71 := cell_block z79 1; have x71 := frozen_block z79 1))
                have hrr : (rs, rb) = (at2 - y, false) := HMV.out
                injection hrr with rr1 rr2
                go_roundw
                case rel => exact ⟨k + 1, by omega, by go_num, by rw [HROWS.out, rr1, rr2]; exact RmI.app hb9' z4' z6' z7' hb9 ho (by omega)⟩
                case measure => simp [intOf]; omega
              · have hd2 : at2 - s < 0 := by omega
                have ho1 : ovr y (at2 - s) = -(at2 - s) - y := by unfold ovr; omega
                clear hN
                go_wp2_with fail
                refine Calmly.wp_region_mix 12 (.fl 0 <| .fl 1 <| .fl 2 <| .fl 3 <| .gl 4 <| .gl 6 <| .gl 7 <| .gl 8 <| .gl 9 <| .gl 10 <| .gf 5 <| .gl 11 <| .tail [12]) (by kernel_rfl) (by kernel_rfl) ?_
                have BD : Below V.heap.size V V.drew := (Below.refl _ _).drew
                replace z4 := blk_keep z4 BD
                replace z6 := blk_keep z6 BD
                replace z7 := blk_keep z7 BD
                replace z9 := blk_keep z9 BD
                replace hO := hO.keep BD
                replace p0 := cell_keep p0 BD
                replace p1 := cell_keep p1 BD
                replace p2 := cell_keep p2 BD
                replace hb := hb.trans (BD.mono hb.size)
                replace hsz2 := Nat.lt_of_lt_of_le hsz2 BD.size
                clear BD
                generalize V.drew = V2 at *
                have g0 := cell_block z9 0
                have g1 := cell_block z9 1
                have n0 := frozen_block z9 0
                have n1 := frozen_block z9 1
                have g7 := cell_block z7 0
                have g7' := cell_block z7 1
                have hk := Below.refl V2.heap.size V2
                have HMV := Lib.hid (show (rs, rb) = (at2 + y, false) by rw [HR2.out]; rw [mvSlip, mvBr, if_neg (by decide), if_neg ho0, if_neg (by decide), if_pos (by omega), ho1]; simp; omega)
                have hne9 : ∀ b, b ≠ q → (V2.setCell ⟨q, 0, none⟩ (.int .i64 (at2 + y))).heap[b]? = V2.heap[b]? := fun b hb => by rw [Below.heap_setCell _ _ _ _ hb]
                have z4' := (hne9 w.heap.size (by omega)).trans z4
                have z6' := (hne9 (w.heap.size + 1) (by omega)).trans z6
                have z7' := (hne9 (w.heap.size + 1 + 1) (by omega)).trans z7
                have z79 := z7'
                have hO9 : OwS (V2.setCell ⟨q, 0, none⟩ (.int .i64 (at2 + y))) (w.heap.size + 1 + 1 + 1) av k cv ((List.range k).map (mvRow l sl at2)) := ow_not hO hne9 (HOQ.out)
                have hb9' : Below w.heap.size w (V2.setCell ⟨q, 0, none⟩ (.int .i64 (at2 + y))) := hb.setCell (by show w.heap.size ≤ q; omega) _
                have z99 := setBlk z9 0 (.int .i64 (at2 + y))
                simp at z99
                have g90 := cell_block z99 0
                have g91 := cell_block z99 1
                have g97 := cell_block z7' 1
                have hq9 : q < (V2.setCell ⟨q, 0, none⟩ (.int .i64 (at2 + y))).heap.size := by simpa using hsz2
                go_wp2_with (first | ((with_reducible refine Calmly.is_fl ?_); refine Calmly.mix_fl rfl ?_ (fun _ _ => ?_); (first | exact .move _ | exact .load _ _ | exact .fieldAddr _ _ _ (by kernel_rfl) | exact .assign _ | exact .binOp _ _ _ _ _ rfl | exact .indexAddr _ _ _ | exact .len _ _ (by kernel_rfl) | exact .field _ _ _ | exact .extract _ _ | exact .pick _ _ _ | exact .build _ _ | exact .slice _ _ _ _ _ | exact .unOp _ _ _ rfl | exact .index _ _ _ | exact .max _ _ _ rfl rfl | exact .min _ _ _ rfl rfl | exact .nilCheck _ _ rfl)) | ((with_reducible refine Calmly.is_gl ?_); refine Calmly.mix_gl rfl rfl rfl ?_; first | ((first | with_reducible refine Calmly.gl_tt ?_ (fun _ _ => ?_) | with_reducible refine Calmly.gl_ff ?_ (fun _ _ => ?_)); (first | exact .move _ | exact .load _ _ | exact .fieldAddr _ _ _ (by kernel_rfl) | exact .assign _ | exact .binOp _ _ _ _ _ rfl | exact .indexAddr _ _ _ | exact .len _ _ (by kernel_rfl) | exact .field _ _ _ | exact .extract _ _ | exact .pick _ _ _ | exact .build _ _ | exact .slice _ _ _ _ _ | exact .unOp _ _ _ rfl | exact .index _ _ _ | exact .max _ _ _ rfl rfl | exact .min _ _ _ rfl rfl | exact .nilCheck _ _ rfl)) | with_reducible refine Calmly.gl_tf (fun _ _ => ?_) | with_reducible refine Calmly.gl_ft (fun _ _ => ?_)) | ((with_reducible refine Calmly.is_eff ?_); refine Calmly.mix_eff rfl (fun _ _ => ?_)) | ((with_reducible refine Calmly.is_gf ?_); refine Calmly.mix_gf rfl rfl rfl ?_; first | with_reducible refine Calmly.gf_tt (fun _ _ => ?_) | with_reducible refine Calmly.gf_ff (fun _ _ => ?_) | with_reducible refine Calmly.gf_tf (kept_of hk) (fun _ _ => ?_) | with_reducible refine Calmly.gf_ft (kept_of hk) (fun _ _ => ?_)) | ((with_reducible refine Calmly.is_tail ?_); first | refine Calmly.mix_tail_nil ?_ | refine Calmly.mix_tail rfl (fun _ _ => ?_)) | ((with_reducible refine Calmly.is_kept ?_); refine ⟨kept_of hk, ?_⟩) | (with_reducible refine Calmly.mix_alt ?_ ?_) | (go_at_call 92; refine (HW.out _).mono ?_; rintro e w1 ⟨rfl, rfl⟩) | (refine appS1z (V2.setCell ⟨q, 0, none⟩ (.int .i64 (at2 + y))) (z := V2.heap.size) (B := w.heap.size + 1 + 1 + 1) (by simp) rfl rfl _ _ rfl hO9 rfl rfl (by omega) (by omega) (fun a' c' w9 ho hb9 hlt9 => ?_); have z79 := (hb9.block _ (by omega)).trans z79; have e70 := cell_block z79 0; have e71 := cell_block z79 1; have x71 := frozen_block z79 1))
                have hrr : (rs, rb) = (at2 + y, false) := HMV.out
                injection hrr with rr1 rr2
                go_roundw
                case rel => exact ⟨k + 1, by omega, by go_num, by rw [HROWS.out, rr1, rr2]; exact RmI.app hb9' z4' z6' z7' hb9 ho (by omega)⟩
                case measure => simp [intOf]; omega
            · clear hN
              go_wp2_with fail
              refine Calmly.wp_region_mix 12 (.fl 0 <| .fl 1 <| .fl 2 <| .fl 3 <| .gl 4 <| .gl 6 <| .gl 7 <| .gl 8 <| .gl 9 <| .gl 10 <| .gf 5 <| .gl 11 <| .tail [12]) (by kernel_rfl) (by kernel_rfl) ?_
              have BD : Below V.heap.size V V.drew := (Below.refl _ _).drew
              replace z4 := blk_keep z4 BD
              replace z6 := blk_keep z6 BD
              replace z7 := blk_keep z7 BD
              replace z9 := blk_keep z9 BD
              replace hO := hO.keep BD
              replace p0 := cell_keep p0 BD
              replace p1 := cell_keep p1 BD
              replace p2 := cell_keep p2 BD
              replace hb := hb.trans (BD.mono hb.size)
              replace hsz2 := Nat.lt_of_lt_of_le hsz2 BD.size
              clear BD
              generalize V.drew = V2 at *
              have g0 := cell_block z9 0
              have g1 := cell_block z9 1
              have n0 := frozen_block z9 0
              have n1 := frozen_block z9 1
              have g7 := cell_block z7 0
              have g7' := cell_block z7 1
              have hk := Below.refl V2.heap.size V2
              have HMV := Lib.hid (show (rs, rb) = (0, true) by rw [HR2.out]; rw [mvSlip, mvBr, if_neg (by decide), if_neg ho0, if_pos rfl]; simp [ho0])
              have hne9 : ∀ b, b ≠ q → ((V2.setCell ⟨q, 0, none⟩ (.int .i64 0)).setCell ⟨q, 1, none⟩ (.bool true)).heap[b]? = V2.heap[b]? := fun b hb => by rw [Below.heap_setCell _ _ _ _ hb, Below.heap_setCell _ _ _ _ hb]
              have z4' := (hne9 w.heap.size (by omega)).trans z4
              have z6' := (hne9 (w.heap.size + 1) (by omega)).trans z6
              have z7' := (hne9 (w.heap.size + 1 + 1) (by omega)).trans z7
              have z79 := z7'
              have hO9 : OwS ((V2.setCell ⟨q, 0, none⟩ (.int .i64 0)).setCell ⟨q, 1, none⟩ (.bool true)) (w.heap.size + 1 + 1 + 1) av k cv ((List.range k).map (mvRow l sl at2)) := ow_not hO hne9 (HOQ.out)
              have hb9' : Below w.heap.size w ((V2.setCell ⟨q, 0, none⟩ (.int .i64 0)).setCell ⟨q, 1, none⟩ (.bool true)) := (hb.setCell (by show w.heap.size ≤ q; omega) _).setCell (by show w.heap.size ≤ q; omega) _
              have z99 := setBlk (setBlk z9 0 (.int .i64 (0))) 1 (.bool true)
              simp at z99
              have g90 := cell_block z99 0
              have g91 := cell_block z99 1
              have g97 := cell_block z7' 1
              have hq9 : q < ((V2.setCell ⟨q, 0, none⟩ (.int .i64 0)).setCell ⟨q, 1, none⟩ (.bool true)).heap.size := by simpa using hsz2
              go_wp2_with (first | ((with_reducible refine Calmly.is_fl ?_); refine Calmly.mix_fl rfl ?_ (fun _ _ => ?_); (first | exact .move _ | exact .load _ _ | exact .fieldAddr _ _ _ (by kernel_rfl) | exact .assign _ | exact .binOp _ _ _ _ _ rfl | exact .indexAddr _ _ _ | exact .len _ _ (by kernel_rfl) | exact .field _ _ _ | exact .extract _ _ | exact .pick _ _ _ | exact .build _ _ | exact .slice _ _ _ _ _ | exact .unOp _ _ _ rfl | exact .index _ _ _ | exact .max _ _ _ rfl rfl | exact .min _ _ _ rfl rfl | exact .nilCheck _ _ rfl)) | ((with_reducible refine Calmly.is_gl ?_); refine Calmly.mix_gl rfl rfl rfl ?_; first | ((first | with_reducible refine Calmly.gl_tt ?_ (fun _ _ => ?_) | with_reducible refine Calmly.gl_ff ?_ (fun _ _ => ?_)); (first | exact .move _ | exact .load _ _ | exact .fieldAddr _ _ _ (by kernel_rfl) | exact .assign _ | exact .binOp _ _ _ _ _ rfl | exact .indexAddr _ _ _ | exact .len _ _ (by kernel_rfl) | exact .field _ _ _ | exact .extract _ _ | exact .pick _ _ _ | exact .build _ _ | exact .slice _ _ _ _ _ | exact .unOp _ _ _ rfl | exact .index _ _ _ | exact .max _ _ _ rfl rfl | exact .min _ _ _ rfl rfl | exact .nilCheck _ _ rfl)) | with_reducible refine Calmly.gl_tf (fun _ _ => ?_) | with_reducible refine Calmly.gl_ft (fun _ _ => ?_)) | ((with_reducible refine Calmly.is_eff ?_); refine Calmly.mix_eff rfl (fun _ _ => ?_)) | ((with_reducible refine Calmly.is_gf ?_); refine Calmly.mix_gf rfl rfl rfl ?_; first | with_reducible refine Calmly.gf_tt (fun _ _ => ?_) | with_reducible refine Calmly.gf_ff (fun _ _ => ?_) | with_reducible refine Calmly.gf_tf (kept_of hk) (fun _ _ => ?_) | with_reducible refine Calmly.gf_ft (kept_of hk) (fun _ _ => ?_)) | ((with_reducible refine Calmly.is_tail ?_); first | refine Calmly.mix_tail_nil ?_ | refine Calmly.mix_tail rfl (fun _ _ => ?_)) | ((with_reducible refine Calmly.is_kept ?_); refine ⟨kept_of hk, ?_⟩) | (with_reducible refine Calmly.mix_alt ?_ ?_) | (go_at_call 92; refine (HW.out _).mono ?_; rintro e w1 ⟨rfl, rfl⟩) | (refine appS1z ((V2.setCell ⟨q, 0, none⟩ (.int .i64 0)).setCell ⟨q, 1, none⟩ (.bool true)) (z := V2.heap.size) (B := w.heap.size + 1 + 1 + 1) (by simp) rfl rfl _ _ rfl hO9 rfl rfl (by omega) (by omega) (fun a' c' w9 ho hb9 hlt9 => ?_); have z79 := (hb9.block _ (by omega)).trans z79; have e70 := cell_block z79 0; have e71 := cell_block z79 1; have x71 := frozen_block z79 1))
              have hrr : (rs, rb) = (0, true) := HMV.out
              injection hrr with rr1 rr2
              go_roundw
              case rel => exact ⟨k + 1, by omega, by go_num, by rw [HROWS.out, rr1, rr2]; exact RmI.app hb9' z4' z6' z7' hb9 ho (by omega)⟩
              case measure => simp [intOf]; omega
          · have ho0 : ovr y (at2 - s) = 0 := by unfold ovr; omega
            have hgt2 : N ≤ y := by omega
            clear hN
            go_wp2_with fail
            refine Calmly.wp_region_mix 12 (.fl 0 <| .fl 1 <| .fl 2 <| .fl 3 <| .gl 4 <| .gl 6 <| .gl 7 <| .gl 8 <| .gl 9 <| .gl 10 <| .gf 5 <| .gl 11 <| .tail [12]) (by kernel_rfl) (by kernel_rfl) ?_
            have BD : Below V.heap.size V V.drew := (Below.refl _ _).drew
            replace z4 := blk_keep z4 BD
            replace z6 := blk_keep z6 BD
            replace z7 := blk_keep z7 BD
            replace z9 := blk_keep z9 BD
            replace hO := hO.keep BD
            replace p0 := cell_keep p0 BD
            replace p1 := cell_keep p1 BD
            replace p2 := cell_keep p2 BD
            replace hb := hb.trans (BD.mono hb.size)
            replace hsz2 := Nat.lt_of_lt_of_le hsz2 BD.size
            clear BD
            generalize V.drew = V2 at *
            have g0 := cell_block z9 0
            have g1 := cell_block z9 1
            have n0 := frozen_block z9 0
            have n1 := frozen_block z9 1
            have g7 := cell_block z7 0
            have g7' := cell_block z7 1
            have hk := Below.refl V2.heap.size V2
            have HMV := Lib.hid (show (rs, rb) = (s, false) by rw [HR2.out]; rw [mvSlip, mvBr, if_neg (by decide), if_pos ho0]; simp [ho0])
            have hO9 := hO
            have z79 := z7
            have hb9' := hb
            have z4' := z4
            have z6' := z6
            have z7' := z7
            have hq9 : q < V2.heap.size := hsz2
            go_wp2_with (first | ((with_reducible refine Calmly.is_fl ?_); refine Calmly.mix_fl rfl ?_ (fun _ _ => ?_); (first | exact .move _ | exact .load _ _ | exact .fieldAddr _ _ _ (by kernel_rfl) | exact .assign _ | exact .binOp _ _ _ _ _ rfl | exact .indexAddr _ _ _ | exact .len _ _ (by kernel_rfl) | exact .field _ _ _ | exact .extract _ _ | exact .pick _ _ _ | exact .build _ _ | exact .slice _ _ _ _ _ | exact .unOp _ _ _ rfl | exact .index _ _ _ | exact .max _ _ _ rfl rfl | exact .min _ _ _ rfl rfl | exact .nilCheck _ _ rfl)) | ((with_reducible refine Calmly.is_gl ?_); refine Calmly.mix_gl rfl rfl rfl ?_; first | ((first | with_reducible refine Calmly.gl_tt ?_ (fun _ _ => ?_) | with_reducible refine Calmly.gl_ff ?_ (fun _ _ => ?_)); (first | exact .move _ | exact .load _ _ | exact .fieldAddr _ _ _ (by kernel_rfl) | exact .assign _ | exact .binOp _ _ _ _ _ rfl | exact .indexAddr _ _ _ | exact .len _ _ (by kernel_rfl) | exact .field _ _ _ | exact .extract _ _ | exact .pick _ _ _ | exact .build _ _ | exact .slice _ _ _ _ _ | exact .unOp _ _ _ rfl | exact .index _ _ _ | exact .max _ _ _ rfl rfl | exact .min _ _ _ rfl rfl | exact .nilCheck _ _ rfl)) | with_reducible refine Calmly.gl_tf (fun _ _ => ?_) | with_reducible refine Calmly.gl_ft (fun _ _ => ?_)) | ((with_reducible refine Calmly.is_eff ?_); refine Calmly.mix_eff rfl (fun _ _ => ?_)) | ((with_reducible refine Calmly.is_gf ?_); refine Calmly.mix_gf rfl rfl rfl ?_; first | with_reducible refine Calmly.gf_tt (fun _ _ => ?_) | with_reducible refine Calmly.gf_ff (fun _ _ => ?_) | with_reducible refine Calmly.gf_tf (kept_of hk) (fun _ _ => ?_) | with_reducible refine Calmly.gf_ft (kept_of hk) (fun _ _ => ?_)) | ((with_reducible refine Calmly.is_tail ?_); first | refine Calmly.mix_tail_nil ?_ | refine Calmly.mix_tail rfl (fun _ _ => ?_)) | ((with_reducible refine Calmly.is_kept ?_); refine ⟨kept_of hk, ?_⟩) | (with_reducible refine Calmly.mix_alt ?_ ?_) | (go_at_call 92; refine (HW.out _).mono ?_; rintro e w1 ⟨rfl, rfl⟩) | (refine appS1z (V2) (z := V2.heap.size) (B := w.heap.size + 1 + 1 + 1) (by simp) rfl rfl _ _ rfl hO9 rfl rfl (by omega) (by omega) (fun a' c' w9 ho hb9 hlt9 => ?_); have z79 := (hb9.block _ (by omega)).trans z79; have e70 := cell_block z79 0; have e71 := cell_block z79 1; have x71 := frozen_block z79 1))
            have hrr : (rs, rb) = (s, false) := HMV.out
            injection hrr with rr1 rr2
            go_roundw
            case rel => exact ⟨k + 1, by omega, by go_num, by rw [HROWS.out, rr1, rr2]; exact RmI.app hb9' z4' z6' z7' hb9 ho (by omega)⟩
            case measure => simp [intOf]; omega
      · as_aux_lemma =>
          go_wp2_with fail
          refine Calmly.wp_region_mix 12 (.fl 0 <| .fl 1 <| .fl 2 <| .fl 3 <| .gl 4 <| .gl 6 <| .gl 7 <| .gl 8 <| .gl 9 <| .gl 10 <| .gf 5 <| .gl 11 <| .tail [12]) (by kernel_rfl) (by kernel_rfl) ?_
          have BD : Below V.heap.size V V.drew := (Below.refl _ _).drew
          replace z4 := blk_keep z4 BD
          replace z6 := blk_keep z6 BD
          replace z7 := blk_keep z7 BD
          replace z9 := blk_keep z9 BD
          replace hO := hO.keep BD
          replace p0 := cell_keep p0 BD
          replace p1 := cell_keep p1 BD
          replace p2 := cell_keep p2 BD
          replace hb := hb.trans (BD.mono hb.size)
          replace hsz2 := Nat.lt_of_lt_of_le hsz2 BD.size
          clear BD
          generalize V.drew = V2 at *
          have g0 := cell_block z9 0
          have g1 := cell_block z9 1
          have n0 := frozen_block z9 0
          have n1 := frozen_block z9 1
          have g7 := cell_block z7 0
          have g7' := cell_block z7 1
          have hk := Below.refl V2.heap.size V2
          have HMV := Lib.hid (show (rs, rb) = (s, true) by rw [HR2.out]; rw [mvSlip, mvBr, if_pos rfl]; rfl)
          have hO9 := hO
          have z79 := z7
          have hb9' := hb
          have z4' := z4
          have z6' := z6
          have z7' := z7
          have hq9 : q < V2.heap.size := hsz2
          go_wp2_with (first | ((with_reducible refine Calmly.is_fl ?_); refine Calmly.mix_fl rfl ?_ (fun _ _ => ?_); (first | exact .move _ | exact .load _ _ | exact .fieldAddr _ _ _ (by kernel_rfl) | exact .assign _ | exact .binOp _ _ _ _ _ rfl | exact .indexAddr _ _ _ | exact .len _ _ (by kernel_rfl) | exact .field _ _ _ | exact .extract _ _ | exact .pick _ _ _ | exact .build _ _ | exact .slice _ _ _ _ _ | exact .unOp _ _ _ rfl | exact .index _ _ _ | exact .max _ _ _ rfl rfl | exact .min _ _ _ rfl rfl | exact .nilCheck _ _ rfl)) | ((with_reducible refine Calmly.is_gl ?_); refine Calmly.mix_gl rfl rfl rfl ?_; first | ((first | with_reducible refine Calmly.gl_tt ?_ (fun _ _ => ?_) | with_reducible refine Calmly.gl_ff ?_ (fun _ _ => ?_)); (first | exact .move _ | exact .load _ _ | exact .fieldAddr _ _ _ (by kernel_rfl) | exact .assign _ | exact .binOp _ _ _ _ _ rfl | exact .indexAddr _ _ _ | exact .len _ _ (by kernel_rfl) | exact .field _ _ _ | exact .extract _ _ | exact .pick _ _ _ | exact .build _ _ | exact .slice _ _ _ _ _ | exact .unOp _ _ _ rfl | exact .index _ _ _ | exact .max _ _ _ rfl rfl | exact .min _ _ _ rfl rfl | exact .nilCheck _ _ rfl)) | with_reducible refine Calmly.gl_tf (fun _ _ => ?_) | with_reducible refine Calmly.gl_ft (fun _ _ => ?_)) | ((with_reducible refine Calmly.is_eff ?_); refine Calmly.mix_eff rfl (fun _ _ => ?_)) | ((with_reducible refine Calmly.is_gf ?_); refine Calmly.mix_gf rfl rfl rfl ?_; first | with_reducible refine Calmly.gf_tt (fun _ _ => ?_) | with_reducible refine Calmly.gf_ff (fun _ _ => ?_) | with_reducible refine Calmly.gf_tf (kept_of hk) (fun _ _ => ?_) | with_reducible refine Calmly.gf_ft (kept_of hk) (fun _ _ => ?_)) | ((with_reducible refine Calmly.is_tail ?_); first | refine Calmly.mix_tail_nil ?_ | refine Calmly.mix_tail rfl (fun _ _ => ?_)) | ((with_reducible refine Calmly.is_kept ?_); refine ⟨kept_of hk, ?_⟩) | (with_reducible refine Calmly.mix_alt ?_ ?_) | (refine appS1z (V2) (z := V2.heap.size) (B := w.heap.size + 1 + 1 + 1) (by simp) rfl rfl _ _ rfl hO9 rfl rfl (by omega) (by omega) (fun a' c' w9 ho hb9 hlt9 => ?_); have z79 := (hb9.block _ (by omega)).trans z79; have e70 := cell_block z79 0; have e71 := cell_block z79 1; have x71 := frozen_block z79 1))
          have hrr : (rs, rb) = (s, true) := HMV.out
          injection hrr with rr1 rr2
          go_roundw
          case rel => exact ⟨k + 1, by omega, by go_num, by rw [HROWS.out, rr1, rr2]; exact RmI.app hb9' z4' z6' z7' hb9 ho (by omega)⟩
          case measure => simp [intOf]; omega
    · have hle : (n : Int) ≤ (k : Int) := by omega
      obtain rfl : n = k := by omega
      clear hlt hk
      have g0 := cell_block z7 0
      have g1 := cell_block z7 1
      have e0 := cell_block z6 0
      have e1 := cell_block z6 1
      have x0 := frozen_block z6 0
      have x1 := frozen_block z6 1
      go_wp2_with fail
      have hne2 : ∀ b, b ≠ w.heap.size + 1 → ((wr.setCell ⟨w.heap.size + 1, 0, none⟩ (.int .i64 at2)).setCell ⟨w.heap.size + 1, 1, none⟩ (.slice av n cv)).heap[b]? = wr.heap[b]? := fun b hb => by
        rw [Below.heap_setCell _ _ _ _ hb, Below.heap_setCell _ _ _ _ hb]
      have q0 := setBlk (setBlk z6 0 (.int .i64 at2)) 1 (.slice av n cv)
      simp at q0
      have r0 := cell_block q0 0
      have r1 := cell_block q0 1
      refine bodyPost_ret (v := .agg #[.int .i64 at2, .slice av n cv]) (by simp [results, Try.results41, go_sem, r0, r1]) rfl ⟨_, _, rfl, owns_lower (owns_apart hO hne2 (by omega)) (by omega), (hb.setCell (by show w.heap.size ≤ w.heap.size + 1; omega) _).setCell (by show w.heap.size ≤ w.heap.size + 1; omega) _⟩
end Go.Proofs.Ytaiikekgckjdeaa

namespace Go.Proofs.Ytaiikekgckjdeaa
open Go.RowKit
open Calmly (Kept)
theorem sq_le {d y : Int} (h1 : -y ≤ d) (h2 : d ≤ y) : d * d ≤ y * y := by
  have h3 : d.natAbs * d.natAbs ≤ y.natAbs * y.natAbs := Nat.mul_le_mul (by omega) (by omega)
  have h4 : ((d.natAbs * d.natAbs : Nat) : Int) = d * d := Int.natAbs_mul_self
  have h5 : ((y.natAbs * y.natAbs : Nat) : Int) = y * y := Int.natAbs_mul_self
  omega
theorem mvWork_in {k y s at1 at2 : Int} {b : Bool} (h1 : -y ≤ at2 - s) (h2 : at2 - s ≤ y) : mvWork k y b s false at1 at2 = k * ((at2 - s) * (at2 - s) - (at1 - s) * (at1 - s)) ∧ mvLoss k y b s false at2 = 0 := by
  have ho : ovr y (at2 - s) = 0 := by unfold ovr; omega
  have hq := sq_le h1 h2
  show k * min ((at2 - s) * (at2 - s)) (y * y) - k * (at1 - s) * (at1 - s) + (if b = true then 0 else 2 * k * y * ovr y (at2 - s)) = _ ∧ (if ovr y (at2 - s) = 0 then 0 else if b = true then k * y * y else 2 * k * y * ovr y (at2 - s)) = 0
  rw [ho, if_pos rfl, Int.min_eq_left hq, Int.mul_zero, ite_self]
  refine ⟨?_, rfl⟩
  generalize at2 - s = d
  generalize at1 - s = e
  rw [Int.mul_sub, Int.mul_assoc k e e]
  omega
theorem mvWork_brittle {k y s at1 at2 : Int} (hy : 0 ≤ y) (h : at2 - s < -y ∨ y < at2 - s) : mvWork k y true s false at1 at2 = k * (y * y - (at1 - s) * (at1 - s)) ∧ mvLoss k y true s false at2 = k * y * y := by
  have ho : ¬ ovr y (at2 - s) = 0 := by unfold ovr; omega
  have hq : y * y ≤ (at2 - s) * (at2 - s) := by
    rcases h with h | h
    · have := sq_le (d := y) (y := -(at2 - s)) (by omega) (by omega)
      rw [Int.neg_mul_neg] at this
      exact this
    · exact sq_le (by omega) (by omega)
  show k * min ((at2 - s) * (at2 - s)) (y * y) - k * (at1 - s) * (at1 - s) + 0 = _ ∧ (if ovr y (at2 - s) = 0 then 0 else k * y * y) = k * y * y
  rw [if_neg ho, Int.min_eq_right hq]
  refine ⟨?_, rfl⟩
  generalize at1 - s = e
  rw [Int.mul_sub, Int.mul_assoc k e e]
  omega
theorem mvWork_bends {k y s at1 at2 N : Int} (hy : 0 ≤ y) (h : at2 - s < -y ∨ y < at2 - s) (hN : ((at2 - s).natAbs : Int) = N) : mvWork k y false s false at1 at2 = k * (y * y - (at1 - s) * (at1 - s)) + 2 * k * y * (N - y) ∧ mvLoss k y false s false at2 = 2 * k * y * (N - y) := by
  have ho : ¬ ovr y (at2 - s) = 0 := by unfold ovr; omega
  have ho2 : ovr y (at2 - s) = N - y := by unfold ovr; omega
  have hq : y * y ≤ (at2 - s) * (at2 - s) := by
    rcases h with h | h
    · have := sq_le (d := y) (y := -(at2 - s)) (by omega) (by omega)
      rw [Int.neg_mul_neg] at this
      exact this
    · exact sq_le (by omega) (by omega)
  show k * min ((at2 - s) * (at2 - s)) (y * y) - k * (at1 - s) * (at1 - s) + 2 * k * y * ovr y (at2 - s) = _ ∧ (if ovr y (at2 - s) = 0 then 0 else 2 * k * y * ovr y (at2 - s)) = _
  rw [if_neg ho, Int.min_eq_right hq, ho2]
  refine ⟨?_, rfl⟩
  generalize at1 - s = e
  rw [Int.mul_sub k (y * y) (e * e), Int.mul_assoc k e e]
structure RwI (w : World) (at1 : Int) (a2 : Option Addr) (n c2 : Nat) (S L : Int) (W : World) : Prop where
  bel : Below w.heap.size w W
  r4 : W.heap[w.heap.size]? = some (.cells #[.int .i64 at1, .slice a2 n c2] 49)
  r6 : W.heap[w.heap.size + 1]? = some (.cells #[.int .i64 0, .int .i64 0] 59)
  r7 : W.heap[w.heap.size + 1 + 1]? = some (.cells #[.int .i64 S, .int .i64 L] 59)
theorem RwI.set {w W : World} {at1 S L S' L' : Int} {a2 : Option Addr} {n c2 : Nat} (h : RwI w at1 a2 n c2 S L W) (i : Nat) (v : Int) (h1 : (#[Value.int .i64 S, Value.int .i64 L]).setIfInBounds i (.int .i64 v) = #[.int .i64 S', .int .i64 L']) : RwI w at1 a2 n c2 S' L' (W.setCell ⟨w.heap.size + 1 + 1, i, none⟩ (.int .i64 v)) := by
  have hne : ∀ b, b ≠ w.heap.size + 1 + 1 → (W.setCell ⟨w.heap.size + 1 + 1, i, none⟩ (.int .i64 v)).heap[b]? = W.heap[b]? := fun b hb => Below.heap_setCell _ _ _ _ hb
  refine ⟨h.bel.setCell (by show w.heap.size ≤ w.heap.size + 1 + 1; omega) _, (hne _ (by omega)).trans h.r4, (hne _ (by omega)).trans h.r6, ?_⟩
  have q := setBlk h.r7 i (.int .i64 v)
  rw [h1] at q
  exact q
theorem RwI.keep {w W W' : World} {at1 S L : Int} {a2 : Option Addr} {n c2 : Nat} (h : RwI w at1 a2 n c2 S L W) (hb : Below W.heap.size W W') : RwI w at1 a2 n c2 S L W' := ⟨h.bel.trans (hb.mono h.bel.size), blk_keep h.r4 hb, blk_keep h.r6 hb, blk_keep h.r7 hb⟩
set_option maxRecDepth 100000 in
set_option maxHeartbeats 4000000 in
theorem rWork_any (a a2 : Option Addr) (n c c2 : Nat) (l : List El) (at1 at2 : Int) (sl : List Sp) (w : World) (h1 : SEl w a n c l) (h2 : SSp w a2 n c2 sl) (hn : n ≤ 6) (hB : ∀ i, i < n → ElB (l[i]?.getD el0).1 (l[i]?.getD el0).2.1 (sl[i]?.getD sp0).1 at1) (hB2 : ∀ i, i < n → ElB (l[i]?.getD el0).1 (l[i]?.getD el0).2.1 (sl[i]?.getD sp0).1 at2) :
    Calls Try.prog 44 #[.slice a n c, .agg #[.int .i64 at1, .slice a2 n c2], .int .i64 at2] w fun e w' => e = .returned (.agg #[.int .i64 (sumR (mvW l sl at1 at2) n), .int .i64 (sumR (mvL l sl at2) n)]) ∧ Below w.heap.size w w' := by
  have m1 := h1.max
  have cc1 := h1.cap
  have m2 := h2.max
  have cc2 := h2.cap
  obtain ⟨f, hf⟩ : ∃ f : Nat → Int, mvW l sl at1 at2 = f := ⟨_, rfl⟩
  obtain ⟨g, hg⟩ : ∃ g : Nat → Int, mvL l sl at2 = g := ⟨_, rfl⟩
  have hfg : ∀ i, i < n → (f i = mvWork (l[i]?.getD el0).1 (l[i]?.getD el0).2.1 (l[i]?.getD el0).2.2 (sl[i]?.getD sp0).1 (sl[i]?.getD sp0).2 at1 at2 ∧ g i = mvLoss (l[i]?.getD el0).1 (l[i]?.getD el0).2.1 (l[i]?.getD el0).2.2 (sl[i]?.getD sp0).1 (sl[i]?.getD sp0).2 at2) ∧ (-3000000000000 ≤ f i ∧ f i ≤ 3000000000000) ∧ -100000000000 ≤ g i ∧ g i ≤ 100000000000 := fun i hi => by
    have e1 : f i = mvWork (l[i]?.getD el0).1 (l[i]?.getD el0).2.1 (l[i]?.getD el0).2.2 (sl[i]?.getD sp0).1 (sl[i]?.getD sp0).2 at1 at2 := by rw [← hf]; rfl
    have e2 : g i = mvLoss (l[i]?.getD el0).1 (l[i]?.getD el0).2.1 (l[i]?.getD el0).2.2 (sl[i]?.getD sp0).1 (sl[i]?.getD sp0).2 at2 := by rw [← hg]; rfl
    have h := mvWork_bd (b := (l[i]?.getD el0).2.2) (br := (sl[i]?.getD sp0).2) (hB i hi) (hB2 i hi)
    exact ⟨⟨e1, e2⟩, by rw [e1]; exact ⟨h.1, h.2.1⟩, by rw [e2]; omega⟩
  rw [hf, hg]
  have HFG := Lib.hid hfg
  have HB := Lib.hid hB
  have HB2 := Lib.hid hB2
  clear hf hg hfg hB hB2
  have y4 := blk_keep (blk_keep (alloc_new w (.cells #[.int .i64 at1, .slice a2 n c2] 49)) ((Below.refl _ _).alloc (Nat.le_refl _) (.cells #[.int .i64 0, .int .i64 0] 59))) ((Below.refl _ _).alloc (Nat.le_refl _) (.cells #[.int .i64 0, .int .i64 0] 59))
  have y6 := blk_keep (alloc_new (w.alloc (.cells #[.int .i64 at1, .slice a2 n c2] 49)) (.cells #[.int .i64 0, .int .i64 0] 59)) ((Below.refl _ _).alloc (Nat.le_refl _) (.cells #[.int .i64 0, .int .i64 0] 59))
  have y7 := alloc_new ((w.alloc (.cells #[.int .i64 at1, .slice a2 n c2] 49)).alloc (.cells #[.int .i64 0, .int .i64 0] 59)) (.cells #[.int .i64 0, .int .i64 0] 59)
  have BW : Below w.heap.size w (((w.alloc (.cells #[.int .i64 at1, .slice a2 n c2] 49)).alloc (.cells #[.int .i64 0, .int .i64 0] 59)).alloc (.cells #[.int .i64 0, .int .i64 0] 59)) := (((Below.refl _ _).alloc (Nat.le_refl _) _).alloc (by simp) _).alloc (by simp; omega) _
  simp only [World.size_alloc] at y6 y7
  go_enter Try.func44, Try.ntmps44
  go_wp2_with fail
  generalize ((w.alloc (.cells #[.int .i64 at1, .slice a2 n c2] 49)).alloc (.cells #[.int .i64 0, .int .i64 0] 59)).alloc (.cells #[.int .i64 0, .int .i64 0] 59) = W at *
  go_loopw [8] (fun i wr => ∃ k : Nat, k ≤ n ∧ i = .int .i64 (k : Int) ∧ RwI w at1 a2 n c2 (sumR f k) (sumR g k) wr) (fun i _ => n - (intOf i).toNat)
  case atStart => exact ⟨0, by omega, rfl, ⟨BW, y4, y6, y7⟩⟩
  case round =>
    clear y4 y6 y7 BW
    obtain ⟨k, hk, rfl, hI⟩ := hrel
    by_cases hlt : k < n
    · obtain ⟨b1', o1, rfl, hc1⟩ := (h1.keep hI.bel).at_ (by omega)
      obtain ⟨b2', o2, rfl, hc2⟩ := (h2.keep hI.bel).at_ (by omega)
      obtain ⟨p0, p1, p2⟩ := hc1 k hlt
      obtain ⟨q0, q1⟩ := hc2 k hlt
      have hi : (k : Int) < (n : Int) := by omega
      have hi0 : (0 : Int) ≤ (k : Int) := by omega
      have hEB := HB.out k hlt
      have hEB2 := HB2.out k hlt
      obtain ⟨⟨hfk, hgk⟩, _⟩ := HFG.out k hlt
      have hSb := sumR_abs (f := f) (M := 3000000000000) (n := k) (fun i hi => (HFG.out i (by omega)).2.1)
      have hLb := sumR_abs (f := g) (M := 100000000000) (n := k) (fun i hi => (HFG.out i (by omega)).2.2)
      obtain ⟨xx, hxx⟩ : ∃ x, l[k]?.getD el0 = x := ⟨_, rfl⟩
      obtain ⟨yy, hyy⟩ : ∃ x, sl[k]?.getD sp0 = x := ⟨_, rfl⟩
      obtain ⟨x, y, z⟩ := xx
      obtain ⟨s, br⟩ := yy
      rw [hxx] at p0 p1 p2 hEB hEB2 hfk hgk
      rw [hyy] at q0 q1 hEB hEB2 hfk hgk
      dsimp only at p0 p1 p2 q0 q1 hEB hEB2 hfk hgk
      obtain ⟨S, hS⟩ : ∃ S, sumR f k = S := ⟨_, rfl⟩
      obtain ⟨L, hL⟩ : ∃ S, sumR g k = S := ⟨_, rfl⟩
      have hS1 : sumR f (k + 1) = S + f k := by show sumR f k + f k = S + f k; rw [hS]
      have hL1 : sumR g (k + 1) = L + g k := by show sumR g k + g k = L + g k; rw [hL]
      rw [hS, hL] at hI
      rw [hS] at hSb
      rw [hL] at hLb
      have HS1 := Lib.hid hS1
      have HL1 := Lib.hid hL1
      have HFK := Lib.hid hfk
      have HGK := Lib.hid hgk
      obtain ⟨⟨k1, k2⟩, ⟨k3, k4⟩, ⟨k5, k6⟩, ⟨k7, k8⟩⟩ := hEB
      obtain ⟨_, _, _, ⟨k9, k10⟩⟩ := hEB2
      have s1 : -18000000000000 ≤ S := by omega
      have s2 : S ≤ 18000000000000 := by omega
      have s3 : -600000000000 ≤ L := by omega
      have s4 : L ≤ 600000000000 := by omega
      have HX := Lib.hid hxx
      clear hc1 hc2 hxx hyy hS hL hS1 hL1 hSb hLb hfk hgk
      have z4 := hI.r4
      have f0 := cell_block z4 0
      have f1 := cell_block z4 1
      cases br
      · as_aux_lemma =>
          have d1 : -50000 ≤ at2 - s ∧ at2 - s ≤ 50000 := by omega
          have d2 : -50000 ≤ at1 - s ∧ at1 - s ≤ 50000 := by omega
          have dd := mul_abs (a := at2 - s) (x := at2 - s) (A := 50000) (C := 50000) d1.1 d1.2 d1.1 d1.2
          have ee := mul_abs (a := at1 - s) (x := at1 - s) (A := 50000) (C := 50000) d2.1 d2.2 d2.1 d2.2
          have yy := mul_abs (a := y) (x := y) (A := 1000) (C := 1000) (by omega) (by omega) (by omega) (by omega)
          obtain ⟨dd1, dd2⟩ := dd
          obtain ⟨ee1, ee2⟩ := ee
          obtain ⟨yy1, yy2⟩ := yy
          simp only [show (50000 : Int) * 50000 = 2500000000 from rfl, show (1000 : Int) * 1000 = 1000000 from rfl] at dd1 dd2 ee1 ee2 yy1 yy2
          obtain ⟨N, hN⟩ : ∃ N : Int, ((at2 - s).natAbs : Int) = N := ⟨_, rfl⟩
          have hW : ∀ w, Calls Try.prog 92 #[.int .i64 (at2 - s)] w fun e w' => e = .returned (.int .i64 N) ∧ w = w' := fun w => by
            have h := size_any (at2 - s) w (by omega) (by omega)
            rw [hN] at h
            exact h
          have HW := Lib.hid hW
          have hN1 : 0 ≤ N ∧ N ≤ 50000 := by omega
          have HN := Lib.hid hN
          clear hW hN
          go_wp2_with fail
          refine Calmly.wp_region_mix 11 (.fl 0 <| .fl 1 <| .fl 2 <| .fl 3 <| .fl 4 <| .fl 5 <| .fl 6 <| .fl 7 <| .fl 8 <| .fl 9 <| .fl 10 <| .tail [11]) (by kernel_rfl) (by kernel_rfl) ?_
          have BD : Below wr.heap.size wr wr.drew := (Below.refl _ _).drew
          replace hI := hI.keep BD
          replace p0 := cell_keep p0 BD
          replace p1 := cell_keep p1 BD
          replace p2 := cell_keep p2 BD
          replace q0 := cell_keep q0 BD
          replace q1 := cell_keep q1 BD
          clear z4
          have z4 := hI.r4
          replace f0 := cell_block z4 0
          replace f1 := cell_block z4 1
          clear BD
          generalize wr.drew = V1 at *
          have hk5 := Below.refl V1.heap.size V1
          go_wp2_with (first | ((with_reducible refine Calmly.is_fl ?_); refine Calmly.mix_fl rfl ?_ (fun _ _ => ?_); (first | exact .move _ | exact .load _ _ | exact .fieldAddr _ _ _ (by kernel_rfl) | exact .assign _ | exact .binOp _ _ _ _ _ rfl | exact .indexAddr _ _ _ | exact .len _ _ (by kernel_rfl) | exact .field _ _ _ | exact .extract _ _ | exact .pick _ _ _ | exact .build _ _ | exact .slice _ _ _ _ _ | exact .unOp _ _ _ rfl | exact .index _ _ _ | exact .max _ _ _ rfl rfl | exact .min _ _ _ rfl rfl | exact .nilCheck _ _ rfl)) | ((with_reducible refine Calmly.is_gl ?_); refine Calmly.mix_gl rfl rfl rfl ?_; first | ((first | with_reducible refine Calmly.gl_tt ?_ (fun _ _ => ?_) | with_reducible refine Calmly.gl_ff ?_ (fun _ _ => ?_)); (first | exact .move _ | exact .load _ _ | exact .fieldAddr _ _ _ (by kernel_rfl) | exact .assign _ | exact .binOp _ _ _ _ _ rfl | exact .indexAddr _ _ _ | exact .len _ _ (by kernel_rfl) | exact .field _ _ _ | exact .extract _ _ | exact .pick _ _ _ | exact .build _ _ | exact .slice _ _ _ _ _ | exact .unOp _ _ _ rfl | exact .index _ _ _ | exact .max _ _ _ rfl rfl | exact .min _ _ _ rfl rfl | exact .nilCheck _ _ rfl)) | with_reducible refine Calmly.gl_tf (fun _ _ => ?_) | with_reducible refine Calmly.gl_ft (fun _ _ => ?_)) | ((with_reducible refine Calmly.is_eff ?_); refine Calmly.mix_eff rfl (fun _ _ => ?_)) | ((with_reducible refine Calmly.is_gf ?_); refine Calmly.mix_gf rfl rfl rfl ?_; first | with_reducible refine Calmly.gf_tt (fun _ _ => ?_) | with_reducible refine Calmly.gf_ff (fun _ _ => ?_) | with_reducible refine Calmly.gf_tf (kept_of hk) (fun _ _ => ?_) | with_reducible refine Calmly.gf_ft (kept_of hk) (fun _ _ => ?_)) | ((with_reducible refine Calmly.is_tail ?_); first | refine Calmly.mix_tail_nil ?_ | refine Calmly.mix_tail rfl (fun _ _ => ?_)) | ((with_reducible refine Calmly.is_kept ?_); refine ⟨kept_of hk, ?_⟩) | (with_reducible refine Calmly.mix_alt ?_ ?_))
          clear hk5
          refine Calmly.wp_region_mix 18 (.fl 0 <| .fl 1 <| .fl 2 <| .fl 3 <| .fl 4 <| .fl 5 <| .fl 6 <| .fl 7 <| .fl 8 <| .fl 9 <| .fl 10 <| .fl 11 <| .fl 12 <| .fl 13 <| .fl 14 <| .fl 15 <| .fl 16 <| .fl 17 <| .tail [18]) (by kernel_rfl) (by kernel_rfl) ?_
          have BD : Below V1.heap.size V1 V1.drew := (Below.refl _ _).drew
          replace hI := hI.keep BD
          replace p0 := cell_keep p0 BD
          replace p1 := cell_keep p1 BD
          replace p2 := cell_keep p2 BD
          replace q0 := cell_keep q0 BD
          replace q1 := cell_keep q1 BD
          clear z4
          have z4 := hI.r4
          replace f0 := cell_block z4 0
          replace f1 := cell_block z4 1
          clear BD
          generalize V1.drew = V2 at *
          have hk5 := Below.refl V2.heap.size V2
          go_wp2_with (first | ((with_reducible refine Calmly.is_fl ?_); refine Calmly.mix_fl rfl ?_ (fun _ _ => ?_); (first | exact .move _ | exact .load _ _ | exact .fieldAddr _ _ _ (by kernel_rfl) | exact .assign _ | exact .binOp _ _ _ _ _ rfl | exact .indexAddr _ _ _ | exact .len _ _ (by kernel_rfl) | exact .field _ _ _ | exact .extract _ _ | exact .pick _ _ _ | exact .build _ _ | exact .slice _ _ _ _ _ | exact .unOp _ _ _ rfl | exact .index _ _ _ | exact .max _ _ _ rfl rfl | exact .min _ _ _ rfl rfl | exact .nilCheck _ _ rfl)) | ((with_reducible refine Calmly.is_gl ?_); refine Calmly.mix_gl rfl rfl rfl ?_; first | ((first | with_reducible refine Calmly.gl_tt ?_ (fun _ _ => ?_) | with_reducible refine Calmly.gl_ff ?_ (fun _ _ => ?_)); (first | exact .move _ | exact .load _ _ | exact .fieldAddr _ _ _ (by kernel_rfl) | exact .assign _ | exact .binOp _ _ _ _ _ rfl | exact .indexAddr _ _ _ | exact .len _ _ (by kernel_rfl) | exact .field _ _ _ | exact .extract _ _ | exact .pick _ _ _ | exact .build _ _ | exact .slice _ _ _ _ _ | exact .unOp _ _ _ rfl | exact .index _ _ _ | exact .max _ _ _ rfl rfl | exact .min _ _ _ rfl rfl | exact .nilCheck _ _ rfl)) | with_reducible refine Calmly.gl_tf (fun _ _ => ?_) | with_reducible refine Calmly.gl_ft (fun _ _ => ?_)) | ((with_reducible refine Calmly.is_eff ?_); refine Calmly.mix_eff rfl (fun _ _ => ?_)) | ((with_reducible refine Calmly.is_gf ?_); refine Calmly.mix_gf rfl rfl rfl ?_; first | with_reducible refine Calmly.gf_tt (fun _ _ => ?_) | with_reducible refine Calmly.gf_ff (fun _ _ => ?_) | with_reducible refine Calmly.gf_tf (kept_of hk) (fun _ _ => ?_) | with_reducible refine Calmly.gf_ft (kept_of hk) (fun _ _ => ?_)) | ((with_reducible refine Calmly.is_tail ?_); first | refine Calmly.mix_tail_nil ?_ | refine Calmly.mix_tail rfl (fun _ _ => ?_)) | ((with_reducible refine Calmly.is_kept ?_); refine ⟨kept_of hk, ?_⟩) | (with_reducible refine Calmly.mix_alt ?_ ?_))
          clear hk5
          refine (HW.out _).mono ?_
          rintro e w1 ⟨rfl, rfl⟩
          have z7 := hI.r7
          have g0 := cell_block z7 0
          have g1 := cell_block z7 1
          have n0 := frozen_block z7 0
          have n1 := frozen_block z7 1
          by_cases hgt : N ≤ y
          · have hw := mvWork_in (k := x) (y := y) (b := z) (at1 := at1) (s := s) (at2 := at2) (by have := HN.out; omega) (by have := HN.out; omega)
            have mm := mul_abs (a := x) (x := (at2 - s) * (at2 - s) - (at1 - s) * (at1 - s)) (A := 1000) (C := 5000000000) (by omega) (by omega) (by omega) (by omega)
            obtain ⟨mm1, mm2⟩ := mm
            simp only [show (1000 : Int) * 5000000000 = 5000000000000 from rfl] at mm1 mm2
            have HWK := Lib.hid hw
            clear hw
            have hJ := hI.set 0 (S + x * ((at2 - s) * (at2 - s) - (at1 - s) * (at1 - s))) (S' := S + x * ((at2 - s) * (at2 - s) - (at1 - s) * (at1 - s))) (L' := L + 0) (by simp)
            go_wp2_with fail
            go_roundw
            case rel => exact ⟨k + 1, by omega, by go_num, by rw [HS1.out, HL1.out, HFK.out, HGK.out, HWK.out.1, HWK.out.2]; exact hJ⟩
            case measure => simp [intOf]; omega
          · have hout : at2 - s < -y ∨ y < at2 - s := by have := HN.out; omega
            have mm := mul_abs (a := x) (x := y * y - (at1 - s) * (at1 - s)) (A := 1000) (C := 5000000000) (by omega) (by omega) (by omega) (by omega)
            obtain ⟨mm1, mm2⟩ := mm
            simp only [show (1000 : Int) * 5000000000 = 5000000000000 from rfl] at mm1 mm2
            have hJ1 := hI.set 0 (S + x * (y * y - (at1 - s) * (at1 - s))) (S' := S + x * (y * y - (at1 - s) * (at1 - s))) (L' := L) (by simp)
            have j7 := hJ1.r7
            have j0 := cell_block j7 0
            have j1 := cell_block j7 1
            have i0 := frozen_block j7 0
            have i1 := frozen_block j7 1
            have hJ1 := hI.set 0 (S + x * (y * y - (at1 - s) * (at1 - s))) (S' := S + x * (y * y - (at1 - s) * (at1 - s))) (L' := L) (by simp)
            have j7 := hJ1.r7
            have j0 := cell_block j7 0
            have j1 := cell_block j7 1
            have i0 := frozen_block j7 0
            have i1 := frozen_block j7 1
            obtain ⟨b3, o3, e3, hc3⟩ := (h1.keep hJ1.bel).at_ (by omega)
            injection e3 with e3
            injection e3 with e31 e32 e33
            subst e31 e32
            have p2' := (hc3 k hlt).2.2
            rw [HX.out] at p2'
            dsimp only at p2'
            clear hc3 e33
            have ky := mul_abs (a := x) (x := y) (A := 1000) (C := 1000) (by omega) (by omega) (by omega) (by omega)
            obtain ⟨ky1, ky2⟩ := ky
            simp only [show (1000 : Int) * 1000 = 1000000 from rfl] at ky1 ky2
            cases z
            · have hw := mvWork_bends (k := x) (at1 := at1) (s := s) (at2 := at2) k3 hout HN.out
              have HWK := Lib.hid hw
              clear hw hout
              have k2y := mul_abs (a := 2 * x) (x := y) (A := 2000) (C := 1000) (by omega) (by omega) (by omega) (by omega)
              obtain ⟨k2y1, k2y2⟩ := k2y
              simp only [show (2000 : Int) * 1000 = 2000000 from rfl] at k2y1 k2y2
              have bb := mul_abs (a := 2 * x * y) (x := N - y) (A := 2000000) (C := 50000) (by omega) (by omega) (by omega) (by omega)
              obtain ⟨bb1, bb2⟩ := bb
              simp only [show (2000000 : Int) * 50000 = 100000000000 from rfl] at bb1 bb2
              have hJ2 := hJ1.set 0 (S + x * (y * y - (at1 - s) * (at1 - s)) + 2 * x * y * (N - y)) (S' := S + (x * (y * y - (at1 - s) * (at1 - s)) + 2 * x * y * (N - y))) (L' := L) (by simp; omega)
              have hJ := hJ2.set 1 (L + 2 * x * y * (N - y)) (S' := S + (x * (y * y - (at1 - s) * (at1 - s)) + 2 * x * y * (N - y))) (L' := L + 2 * x * y * (N - y)) (by simp)
              have l7 := hJ2.r7
              have l0 := cell_block l7 0
              have l1 := cell_block l7 1
              have t0 := frozen_block l7 0
              have t1 := frozen_block l7 1
              go_wp2_with (first | (go_at_call 92; refine (HW.out _).mono ?_; rintro e w1 ⟨rfl, rfl⟩))
              go_roundw
              case rel => exact ⟨k + 1, by omega, by go_num, by rw [HS1.out, HL1.out, HFK.out, HGK.out, HWK.out.1, HWK.out.2]; exact hJ⟩
              case measure => simp [intOf]; omega
            · have hw := mvWork_brittle (k := x) (at1 := at1) (s := s) (at2 := at2) k3 hout
              have HWK := Lib.hid hw
              clear hw hout
              have kyy := mul_abs (a := x * y) (x := y) (A := 1000000) (C := 1000) (by omega) (by omega) (by omega) (by omega)
              obtain ⟨kyy1, kyy2⟩ := kyy
              simp only [show (1000000 : Int) * 1000 = 1000000000 from rfl] at kyy1 kyy2
              have hJ := hJ1.set 1 (L + x * y * y) (S' := S + x * (y * y - (at1 - s) * (at1 - s))) (L' := L + x * y * y) (by simp)
              go_wp2_with fail
              go_roundw
              case rel => exact ⟨k + 1, by omega, by go_num, by rw [HS1.out, HL1.out, HFK.out, HGK.out, HWK.out.1, HWK.out.2]; exact hJ⟩
              case measure => simp [intOf]; omega
      · as_aux_lemma =>
          go_wp2_with fail
          go_roundw
          case rel => exact ⟨k + 1, by omega, by go_num, by rw [HS1.out, HL1.out, HFK.out, HGK.out, mvWork, mvLoss, if_pos rfl, if_pos rfl, Int.add_zero, Int.add_zero]; exact hI⟩
          case measure => simp [intOf]; omega
    · have hle : (n : Int) ≤ (k : Int) := by omega
      obtain rfl : n = k := by omega
      clear hlt hk
      obtain ⟨hb, z4, z6, z7⟩ := hI
      have g0 := cell_block z7 0
      have g1 := cell_block z7 1
      have e0 := cell_block z6 0
      have e1 := cell_block z6 1
      have x0 := frozen_block z6 0
      have x1 := frozen_block z6 1
      go_wp2_with fail
      have q0 := setBlk (setBlk z6 0 (.int .i64 (sumR f n))) 1 (.int .i64 (sumR g n))
      simp at q0
      have r0 := cell_block q0 0
      have r1 := cell_block q0 1
      refine bodyPost_ret (v := .agg #[.int .i64 (sumR f n), .int .i64 (sumR g n)]) (by simp [results, Try.results44, go_sem, r0, r1]) rfl ⟨rfl, (hb.setCell (by show w.heap.size ≤ w.heap.size + 1; omega) _).setCell (by show w.heap.size ≤ w.heap.size + 1; omega) _⟩
end Go.Proofs.Ytaiikekgckjdeaa
