/- The balance of a step: the reference's. A copy of a state. -/
import Derived.Test.YtaiikekgckjdeaaK27
namespace Go.Proofs.Ytaiikekgckjdeaa
open Go.RowKit
open Calmly (Kept)
/-- What lies between two rounds. -/
structure BrI (w : World) (OF OS : Obj) (ua : Option Addr) (n uc : Nat) (us : List Int) (K S G R : Int) (W : World) : Prop where
  bel : Below w.heap.size w W
  y3 : W.heap[w.heap.size]? = some OF
  y4 : W.heap[w.heap.size + 1]? = some OS
  y6 : W.heap[w.heap.size + 1 + 1]? = some (.cells #[.int .i64 0, .int .i64 0, .int .i64 0, .int .i64 0] 103)
  y7 : W.heap[w.heap.size + 1 + 1 + 1]? = some (.cells #[.int .i64 K, .int .i64 S, .int .i64 G, .int .i64 R] 103)
  u : OwI W w.heap.size ua n uc us
theorem BrI.keep {w W W' : World} {OF OS : Obj} {ua : Option Addr} {n uc : Nat} {us : List Int} {K S G R : Int} (h : BrI w OF OS ua n uc us K S G R W) (hb : Below W.heap.size W W') : BrI w OF OS ua n uc us K S G R W' :=
  ⟨h.bel.trans (hb.mono h.bel.size), blk_keep h.y3 hb, blk_keep h.y4 hb, blk_keep h.y6 hb, blk_keep h.y7 hb, OwI.keepM h.u hb⟩
theorem BrI.set0 {w W : World} {OF OS : Obj} {ua : Option Addr} {n uc : Nat} {us : List Int} {K S G R : Int} (h : BrI w OF OS ua n uc us K S G R W) (x : Int) : BrI w OF OS ua n uc us x S G R (W.setCell ⟨w.heap.size + 1 + 1 + 1, 0, none⟩ (.int .i64 x)) := by
  have hB : But 103 W (W.setCell ⟨w.heap.size + 1 + 1 + 1, 0, none⟩ (.int .i64 x)) := But.setCell ⟨_, h.y7⟩
  have hne : ∀ b, b ≠ w.heap.size + 1 + 1 + 1 → (W.setCell ⟨w.heap.size + 1 + 1 + 1, 0, none⟩ (.int .i64 x)).heap[b]? = W.heap[b]? := fun b hb => Below.heap_setCell _ _ _ _ hb
  exact ⟨h.bel.setCell (by show w.heap.size ≤ w.heap.size + 1 + 1 + 1; omega) _, (hne _ (by omega)).trans h.y3, (hne _ (by omega)).trans h.y4, (hne _ (by omega)).trans h.y6, by have q := setBlk h.y7 0 (.int .i64 x); simpa using q, owns_but h.u hB (by decide)⟩
theorem BrI.set1 {w W : World} {OF OS : Obj} {ua : Option Addr} {n uc : Nat} {us : List Int} {K S G R : Int} (h : BrI w OF OS ua n uc us K S G R W) (x : Int) : BrI w OF OS ua n uc us K x G R (W.setCell ⟨w.heap.size + 1 + 1 + 1, 1, none⟩ (.int .i64 x)) := by
  have hB : But 103 W (W.setCell ⟨w.heap.size + 1 + 1 + 1, 1, none⟩ (.int .i64 x)) := But.setCell ⟨_, h.y7⟩
  have hne : ∀ b, b ≠ w.heap.size + 1 + 1 + 1 → (W.setCell ⟨w.heap.size + 1 + 1 + 1, 1, none⟩ (.int .i64 x)).heap[b]? = W.heap[b]? := fun b hb => Below.heap_setCell _ _ _ _ hb
  exact ⟨h.bel.setCell (by show w.heap.size ≤ w.heap.size + 1 + 1 + 1; omega) _, (hne _ (by omega)).trans h.y3, (hne _ (by omega)).trans h.y4, (hne _ (by omega)).trans h.y6, by have q := setBlk h.y7 1 (.int .i64 x); simpa using q, owns_but h.u hB (by decide)⟩
theorem BrI.set2 {w W : World} {OF OS : Obj} {ua : Option Addr} {n uc : Nat} {us : List Int} {K S G R : Int} (h : BrI w OF OS ua n uc us K S G R W) (x : Int) : BrI w OF OS ua n uc us K S x R (W.setCell ⟨w.heap.size + 1 + 1 + 1, 2, none⟩ (.int .i64 x)) := by
  have hB : But 103 W (W.setCell ⟨w.heap.size + 1 + 1 + 1, 2, none⟩ (.int .i64 x)) := But.setCell ⟨_, h.y7⟩
  have hne : ∀ b, b ≠ w.heap.size + 1 + 1 + 1 → (W.setCell ⟨w.heap.size + 1 + 1 + 1, 2, none⟩ (.int .i64 x)).heap[b]? = W.heap[b]? := fun b hb => Below.heap_setCell _ _ _ _ hb
  exact ⟨h.bel.setCell (by show w.heap.size ≤ w.heap.size + 1 + 1 + 1; omega) _, (hne _ (by omega)).trans h.y3, (hne _ (by omega)).trans h.y4, (hne _ (by omega)).trans h.y6, by have q := setBlk h.y7 2 (.int .i64 x); simpa using q, owns_but h.u hB (by decide)⟩
theorem BrI.set3 {w W : World} {OF OS : Obj} {ua : Option Addr} {n uc : Nat} {us : List Int} {K S G R : Int} (h : BrI w OF OS ua n uc us K S G R W) (x : Int) : BrI w OF OS ua n uc us K S G x (W.setCell ⟨w.heap.size + 1 + 1 + 1, 3, none⟩ (.int .i64 x)) := by
  have hB : But 103 W (W.setCell ⟨w.heap.size + 1 + 1 + 1, 3, none⟩ (.int .i64 x)) := But.setCell ⟨_, h.y7⟩
  have hne : ∀ b, b ≠ w.heap.size + 1 + 1 + 1 → (W.setCell ⟨w.heap.size + 1 + 1 + 1, 3, none⟩ (.int .i64 x)).heap[b]? = W.heap[b]? := fun b hb => Below.heap_setCell _ _ _ _ hb
  exact ⟨h.bel.setCell (by show w.heap.size ≤ w.heap.size + 1 + 1 + 1; omega) _, (hne _ (by omega)).trans h.y3, (hne _ (by omega)).trans h.y4, (hne _ (by omega)).trans h.y6, by have q := setBlk h.y7 3 (.int .i64 x); simpa using q, owns_but h.u hB (by decide)⟩
set_option maxRecDepth 100000 in
set_option maxHeartbeats 4000000 in
theorem rBalance_any (a a1 a2 a3 : Option Addr) (n c n1 c1 n2 c2 n3 c3 : Nat) (g : Int) (raw : List FlR) (fs : List Fl) (s : St) (w : World) (h1 : FrV w a n c raw fs) (h2 : StW w ((a1, n1, c1), (a2, n2, c2), (a3, n3, c3)) s) (ok : StOk fs s) (hg : -100 ≤ g ∧ g ≤ 100)
    (hp1 : ∀ i : Nat, -10000 ≤ s.1[i]?.getD 0 ∧ s.1[i]?.getD 0 ≤ 10000) (hp2 : ∀ i : Nat, -10000 ≤ s.2.1[i]?.getD 0 ∧ s.2.1[i]?.getD 0 ≤ 10000) :
    Calls Try.prog 64 #[.agg #[.slice a n c], .agg #[.slice a1 n1 c1, .slice a2 n2 c2, .slice a3 n3 c3], .int .i64 g] w fun e w' => e = .returned (.agg #[.int .i64 (sumR (baK fs s g) n), .int .i64 (sumR (baS fs s g) n), .int .i64 (-sumR (baG fs s g) n), .int .i64 (sumR (baR fs s g) n)]) ∧ Below w.heap.size w w' := by
  have hn := h1.n_
  have m0 := h1.row.max
  have q0 := h1.row.cap
  have m1 := h2.now.max
  have q1 := h2.now.cap
  have m2 := h2.bef.max
  have q2 := h2.bef.cap
  have l1 := h2.now.len
  have l2 := h2.bef.len
  dsimp only at m1 q1 m2 q2 l1 l2
  have e1 : n1 = n := by rw [l1, hn, ok.now]
  have e2 : n2 = n := by rw [l2, hn, ok.bef]
  have e3 : n3 = n := by
    obtain ⟨hraw, hH⟩ := h2.hol
    have h5 := hH.row.len; have h6 := hH.len; have h7 := ok.hol
    dsimp only at h5
    omega
  subst e1 e2
  have e3' : n3 = n2 := e3
  subst e3'
  have HN := Lib.hid hn
  have HOK := Lib.hid ok
  have HAT := Lib.hid (fun (i : Nat) (hi : i < fs.length) => baF_at (g := g) ok hg hp1 hp2 hi)
  have HBD := Lib.hid (fun (k : Nat) (hk : k ≤ fs.length) => bal_bd (g := g) ok hg hp1 hp2 hk)
  clear hn ok hp1 hp2 l1 l2 e3
  have y3 := blk_keep (blk_keep (alloc_new w (.cells #[.slice a n3 c] 24)) ((Below.refl _ _).alloc (Nat.le_refl _) (.cells #[.slice a1 n3 c1, .slice a2 n3 c2, .slice a3 n3 c3] 97))) ((Below.refl _ _).alloc (Nat.le_refl _) (.cells #[.int .i64 0, .int .i64 0, .int .i64 0, .int .i64 0] 103))
  have y4 := blk_keep (alloc_new (w.alloc (.cells #[.slice a n3 c] 24)) (.cells #[.slice a1 n3 c1, .slice a2 n3 c2, .slice a3 n3 c3] 97)) ((Below.refl _ _).alloc (Nat.le_refl _) (.cells #[.int .i64 0, .int .i64 0, .int .i64 0, .int .i64 0] 103))
  have y6 := alloc_new ((w.alloc (.cells #[.slice a n3 c] 24)).alloc (.cells #[.slice a1 n3 c1, .slice a2 n3 c2, .slice a3 n3 c3] 97)) (.cells #[.int .i64 0, .int .i64 0, .int .i64 0, .int .i64 0] 103)
  have BW : Below w.heap.size w (((w.alloc (.cells #[.slice a n3 c] 24)).alloc (.cells #[.slice a1 n3 c1, .slice a2 n3 c2, .slice a3 n3 c3] 97)).alloc (.cells #[.int .i64 0, .int .i64 0, .int .i64 0, .int .i64 0] 103)) := (((Below.refl _ _).alloc (Nat.le_refl _) _).alloc (by simp) _).alloc (by simp; omega) _
  have hsz : (((w.alloc (.cells #[.slice a n3 c] 24)).alloc (.cells #[.slice a1 n3 c1, .slice a2 n3 c2, .slice a3 n3 c3] 97)).alloc (.cells #[.int .i64 0, .int .i64 0, .int .i64 0, .int .i64 0] 103)).heap.size = w.heap.size + 1 + 1 + 1 := by simp
  simp only [World.size_alloc] at y4 y6
  have y7 := alloc_new (((w.alloc (.cells #[.slice a n3 c] 24)).alloc (.cells #[.slice a1 n3 c1, .slice a2 n3 c2, .slice a3 n3 c3] 97)).alloc (.cells #[.int .i64 0, .int .i64 0, .int .i64 0, .int .i64 0] 103)) (.cells #[.int .i64 0, .int .i64 0, .int .i64 0, .int .i64 0] 103)
  rw [hsz] at y7
  have hA : Below (((w.alloc (.cells #[.slice a n3 c] 24)).alloc (.cells #[.slice a1 n3 c1, .slice a2 n3 c2, .slice a3 n3 c3] 97)).alloc (.cells #[.int .i64 0, .int .i64 0, .int .i64 0, .int .i64 0] 103)).heap.size (((w.alloc (.cells #[.slice a n3 c] 24)).alloc (.cells #[.slice a1 n3 c1, .slice a2 n3 c2, .slice a3 n3 c3] 97)).alloc (.cells #[.int .i64 0, .int .i64 0, .int .i64 0, .int .i64 0] 103)) ((((w.alloc (.cells #[.slice a n3 c] 24)).alloc (.cells #[.slice a1 n3 c1, .slice a2 n3 c2, .slice a3 n3 c3] 97)).alloc (.cells #[.int .i64 0, .int .i64 0, .int .i64 0, .int .i64 0] 103)).alloc (.cells #[.int .i64 0, .int .i64 0, .int .i64 0, .int .i64 0] 103)) := (Below.refl _ _).alloc (Nat.le_refl _) _
  replace y3 := blk_keep y3 hA
  replace y4 := blk_keep y4 hA
  replace y6 := blk_keep y6 hA
  replace BW := BW.trans (hA.mono BW.size)
  have f0 := cell_block y3 0
  have g0 := cell_block y4 0
  have g1 := cell_block y4 1
  have g2 := cell_block y4 2
  clear hA hsz
  go_enter Try.func64, Try.ntmps64
  go_wp2_with fail
  generalize (((w.alloc (.cells #[.slice a n3 c] 24)).alloc (.cells #[.slice a1 n3 c1, .slice a2 n3 c2, .slice a3 n3 c3] 97)).alloc (.cells #[.int .i64 0, .int .i64 0, .int .i64 0, .int .i64 0] 103)).alloc (.cells #[.int .i64 0, .int .i64 0, .int .i64 0, .int .i64 0] 103) = W at *
  refine (rNext_any a a1 a2 a3 n3 c n3 c1 n3 c2 n3 c3 g raw fs s _ (h1.keep BW) (h2.keep BW) HOK.out hg).mono ?_
  rintro e w1 ⟨ua, uc, rfl, hu, hs⟩
  dsimp only
  have hI0 : BrI w (.cells #[.slice a n3 c] 24) (.cells #[.slice a1 n3 c1, .slice a2 n3 c2, .slice a3 n3 c3] 97) ua n3 uc (nxts fs s g) 0 0 0 0 w1 := ⟨BW.trans (hs.mono BW.size), blk_keep y3 hs, blk_keep y4 hs, blk_keep y6 hs, blk_keep y7 hs, owns_lower hu BW.size⟩
  clear y3 y4 y6 y7 BW f0 g0 g1 g2 hu hs
  go_wp2_with fail
  go_loopw [9] (fun i wr => ∃ k : Nat, k ≤ n3 ∧ i = .int .i64 (k : Int) ∧ BrI w (.cells #[.slice a n3 c] 24) (.cells #[.slice a1 n3 c1, .slice a2 n3 c2, .slice a3 n3 c3] 97) ua n3 uc (nxts fs s g) (sumR (baK fs s g) k) (sumR (baS fs s g) k) (-sumR (baG fs s g) k) (sumR (baR fs s g) k) wr) (fun i _ => n3 - (intOf i).toNat)
  case atStart => exact ⟨0, by omega, rfl, hI0⟩
  case round =>
    clear hI0
    obtain ⟨k, hk, rfl, hI⟩ := hrel
    by_cases hlt : k < n3
    · have hkl : k < fs.length := by have := HN.out; omega
      obtain ⟨V, U, Wv, VV, UU, DV, KF, SF, MG, GF, FQ, MQ, RR, RF, hF, e1, e2, e3, e4⟩ := HAT.out k hkl
      obtain ⟨bK, bS, bG, bR⟩ := HBD.out k (by omega)
      have s1 : sumR (baK fs s g) (k + 1) = sumR (baK fs s g) k + KF := by rw [sumR, e1]
      have s2 : sumR (baS fs s g) (k + 1) = sumR (baS fs s g) k + SF := by rw [sumR, e2]
      have s3 : -sumR (baG fs s g) (k + 1) = -sumR (baG fs s g) k - GF := by rw [sumR, e3]; omega
      have s4 : sumR (baR fs s g) (k + 1) = sumR (baR fs s g) k + RF := by rw [sumR, e4]
      have bG2 : -3000000000000000000 ≤ -sumR (baG fs s g) k ∧ -sumR (baG fs s g) k ≤ 3000000000000000000 := by omega
      obtain ⟨K0, hK0⟩ : ∃ x, sumR (baK fs s g) k = x := ⟨_, rfl⟩
      obtain ⟨S0, hS0⟩ : ∃ x, sumR (baS fs s g) k = x := ⟨_, rfl⟩
      obtain ⟨G0, hG0⟩ : ∃ x, -sumR (baG fs s g) k = x := ⟨_, rfl⟩
      obtain ⟨R0, hR0⟩ : ∃ x, sumR (baR fs s g) k = x := ⟨_, rfl⟩
      rw [hK0] at hI bK
      rw [hS0] at hI bS
      rw [hG0] at hI bG2
      rw [hR0] at hI bR
      have T1 := Lib.hid (s1.trans (by rw [hK0]))
      have T2 := Lib.hid (s2.trans (by rw [hS0]))
      have T3 := Lib.hid (s3.trans (by rw [hG0]))
      have T4 := Lib.hid (s4.trans (by rw [hR0]))
      clear e1 e2 e3 e4 s1 s2 s3 s4 bG hK0 hS0 hG0 hR0
      obtain ⟨fb, fo, rfl, hcf⟩ := h1.row.at_ (by omega)
      obtain ⟨z0, -, -⟩ := hcf k hlt
      obtain ⟨d0, -, -⟩ := h1.fl k hkl
      obtain ⟨gb1, o1, e1', hc1⟩ := h2.now.at_ (show 0 < n3 by omega)
      obtain ⟨gb2, o2, e2', hc2⟩ := h2.bef.at_ (show 0 < n3 by omega)
      dsimp only at e1' e2'
      subst e1' e2'
      obtain ⟨gb4, o4, rfl, hc4⟩ := hI.u.si.at_ (by omega)
      have r1 := hc1 k hlt
      have r2 := hc2 k hlt
      have hnx : (nxts fs s g)[k]?.getD 0 = nxS fs s g k := by simp [nxts, hkl]
      rw [d0] at z0
      obtain ⟨x0, hx0⟩ : ∃ x, (fs[k]?.getD fl0).1 = x := ⟨_, rfl⟩
      have hmm : baM fs k = x0 := hx0
      rw [hx0] at z0
      rw [hmm] at hF
      obtain ⟨X, hX⟩ : ∃ x, nxS fs s g k = x := ⟨_, rfl⟩
      obtain ⟨NW, hNW⟩ : ∃ x, s.1[k]?.getD 0 = x := ⟨_, rfl⟩
      obtain ⟨BF, hBF⟩ : ∃ x, s.2.1[k]?.getD 0 = x := ⟨_, rfl⟩
      obtain ⟨P, hP⟩ : ∃ x, baP fs s k = x := ⟨_, rfl⟩
      rw [hX] at hF hnx
      rw [hNW] at r1 hF
      rw [hBF] at r2 hF
      rw [hP] at hF
      have HNX := Lib.hid hnx
      have HP := Lib.hid (show psA (frS fs s) fs.length k = P from hP)
      clear hcf hc1 hc2 hc4 hnx hx0 hmm d0 hX hNW hBF hP
      obtain ⟨q1', q2', q3', q4', q5', q6', q7', q8', q9', q10', q11', q12', q13', q14', q15', bv, bu, bw, bvv, buu, bkf, bsf, bmg, bgf, bfq, bmq, brr, brf, bm, bp, bg, bx, bnw, bbf⟩ := hF
      obtain ⟨bK1, bK2⟩ := bK
      obtain ⟨bS1, bS2⟩ := bS
      obtain ⟨bG1, bG2⟩ := bG2
      obtain ⟨bR1, bR2⟩ := bR
      have hi1 : (k : Int) < (n3 : Int) := by omega
      have hi0 : (0 : Int) ≤ (k : Int) := by omega
      have hk9 := hlt
      have hkk := hk
      clear hk hlt
      go_wp2_with fail
      refine Calmly.wp_region_mix 10 (.fl 0 <| .fl 1 <| .fl 2 <| .fl 3 <| .fl 4 <| .fl 5 <| .fl 6 <| .fl 7 <| .fl 8 <| .eff 9 <| .tail [10, 11]) (by kernel_rfl) (by kernel_rfl) ?_
      replace hI := hI.keep ((Below.refl _ _).drew)
      generalize wr.drew = V5 at *
      have hBV := hI.bel
      have hFr := h1.keep hBV
      have hSt := h2.keep hBV
      have z0' := cell_keep z0 hBV
      have f0 := cell_block hI.y3 0
      have g0 := cell_block hI.y4 0
      have g1 := cell_block hI.y4 1
      have g2 := cell_block hI.y4 2
      have hk := Below.refl V5.heap.size V5
      go_wp2_with (first | ((with_reducible refine Calmly.is_fl ?_); refine Calmly.mix_fl rfl ?_ (fun _ _ => ?_); (first | exact .move _ | exact .load _ _ | exact .fieldAddr _ _ _ (by kernel_rfl) | exact .assign _ | exact .binOp _ _ _ _ _ rfl | exact .indexAddr _ _ _ | exact .len _ _ (by kernel_rfl) | exact .field _ _ _ | exact .extract _ _ | exact .pick _ _ _ | exact .build _ _ | exact .slice _ _ _ _ _ | exact .unOp _ _ _ rfl | exact .index _ _ _ | exact .max _ _ _ rfl rfl | exact .min _ _ _ rfl rfl | exact .nilCheck _ _ rfl)) | ((with_reducible refine Calmly.is_gl ?_); refine Calmly.mix_gl rfl rfl rfl ?_; first | ((first | with_reducible refine Calmly.gl_tt ?_ (fun _ _ => ?_) | with_reducible refine Calmly.gl_ff ?_ (fun _ _ => ?_)); (first | exact .move _ | exact .load _ _ | exact .fieldAddr _ _ _ (by kernel_rfl) | exact .assign _ | exact .binOp _ _ _ _ _ rfl | exact .indexAddr _ _ _ | exact .len _ _ (by kernel_rfl) | exact .field _ _ _ | exact .extract _ _ | exact .pick _ _ _ | exact .build _ _ | exact .slice _ _ _ _ _ | exact .unOp _ _ _ rfl | exact .index _ _ _ | exact .max _ _ _ rfl rfl | exact .min _ _ _ rfl rfl | exact .nilCheck _ _ rfl)) | with_reducible refine Calmly.gl_tf (fun _ _ => ?_) | with_reducible refine Calmly.gl_ft (fun _ _ => ?_)) | ((with_reducible refine Calmly.is_eff ?_); refine Calmly.mix_eff rfl (fun _ _ => ?_)) | ((with_reducible refine Calmly.is_gf ?_); refine Calmly.mix_gf rfl rfl rfl ?_; first | with_reducible refine Calmly.gf_tt (fun _ _ => ?_) | with_reducible refine Calmly.gf_ff (fun _ _ => ?_) | with_reducible refine Calmly.gf_tf (kept_of hk) (fun _ _ => ?_) | with_reducible refine Calmly.gf_ft (kept_of hk) (fun _ _ => ?_)) | ((with_reducible refine Calmly.is_tail ?_); first | refine Calmly.mix_tail_nil ?_ | refine Calmly.mix_tail rfl (fun _ _ => ?_)) | ((with_reducible refine Calmly.is_kept ?_); refine ⟨kept_of hk, ?_⟩) | (with_reducible refine Calmly.mix_alt ?_ ?_))
      refine (rPush_any _ _ _ _ n3 c n3 c1 n3 c2 n3 c3 k raw fs s _ (hFr.keep hk) (hSt.keep hk) HOK.out hk9).mono ?_
      rintro e w5 ⟨rfl, hb5⟩
      replace hk := step_of hk hb5
      rw [HP.out]
      dsimp only
      go_wp2_with (first | ((with_reducible refine Calmly.is_fl ?_); refine Calmly.mix_fl rfl ?_ (fun _ _ => ?_); (first | exact .move _ | exact .load _ _ | exact .fieldAddr _ _ _ (by kernel_rfl) | exact .assign _ | exact .binOp _ _ _ _ _ rfl | exact .indexAddr _ _ _ | exact .len _ _ (by kernel_rfl) | exact .field _ _ _ | exact .extract _ _ | exact .pick _ _ _ | exact .build _ _ | exact .slice _ _ _ _ _ | exact .unOp _ _ _ rfl | exact .index _ _ _ | exact .max _ _ _ rfl rfl | exact .min _ _ _ rfl rfl | exact .nilCheck _ _ rfl)) | ((with_reducible refine Calmly.is_gl ?_); refine Calmly.mix_gl rfl rfl rfl ?_; first | ((first | with_reducible refine Calmly.gl_tt ?_ (fun _ _ => ?_) | with_reducible refine Calmly.gl_ff ?_ (fun _ _ => ?_)); (first | exact .move _ | exact .load _ _ | exact .fieldAddr _ _ _ (by kernel_rfl) | exact .assign _ | exact .binOp _ _ _ _ _ rfl | exact .indexAddr _ _ _ | exact .len _ _ (by kernel_rfl) | exact .field _ _ _ | exact .extract _ _ | exact .pick _ _ _ | exact .build _ _ | exact .slice _ _ _ _ _ | exact .unOp _ _ _ rfl | exact .index _ _ _ | exact .max _ _ _ rfl rfl | exact .min _ _ _ rfl rfl | exact .nilCheck _ _ rfl)) | with_reducible refine Calmly.gl_tf (fun _ _ => ?_) | with_reducible refine Calmly.gl_ft (fun _ _ => ?_)) | ((with_reducible refine Calmly.is_eff ?_); refine Calmly.mix_eff rfl (fun _ _ => ?_)) | ((with_reducible refine Calmly.is_gf ?_); refine Calmly.mix_gf rfl rfl rfl ?_; first | with_reducible refine Calmly.gf_tt (fun _ _ => ?_) | with_reducible refine Calmly.gf_ff (fun _ _ => ?_) | with_reducible refine Calmly.gf_tf (kept_of hk) (fun _ _ => ?_) | with_reducible refine Calmly.gf_ft (kept_of hk) (fun _ _ => ?_)) | ((with_reducible refine Calmly.is_tail ?_); first | refine Calmly.mix_tail_nil ?_ | refine Calmly.mix_tail rfl (fun _ _ => ?_)) | ((with_reducible refine Calmly.is_kept ?_); refine ⟨kept_of hk, ?_⟩) | (with_reducible refine Calmly.mix_alt ?_ ?_))
      replace hI := hI.keep hk
      clear hk hb5 f0 g0 g1 g2 z0' hFr hSt hBV
      generalize w5 = V6 at *
      refine Calmly.wp_region_mix 22 (.fl 0 <| .fl 1 <| .fl 2 <| .fl 3 <| .fl 4 <| .fl 5 <| .fl 6 <| .fl 7 <| .fl 8 <| .fl 9 <| .fl 10 <| .fl 11 <| .fl 12 <| .fl 13 <| .fl 14 <| .fl 15 <| .fl 16 <| .fl 17 <| .fl 18 <| .fl 19 <| .fl 20 <| .fl 21 <| .tail [22]) (by kernel_rfl) (by kernel_rfl) ?_
      replace hI := hI.keep ((Below.refl _ _).drew)
      generalize V6.drew = V7 at *
      have hBV := hI.bel
      have w1' := cell_keep r1 hBV
      have w2' := cell_keep r2 hBV
      obtain ⟨gb5, o5, e5, hc5⟩ := hI.u.si.at_ (show 0 < n3 by omega)
      injection e5 with e5
      injection e5 with e5 e6
      subst e5 e6
      have w4' := hc5 k hk9
      rw [HNX.out] at w4'
      clear hc5
      have g0 := cell_block hI.y4 0
      have g1 := cell_block hI.y4 1
      have c30 := cell_block hI.y7 0
      have c31 := cell_block hI.y7 1
      have c32 := cell_block hI.y7 2
      have c33 := cell_block hI.y7 3
      have n30 := frozen_block hI.y7 0
      have n31 := frozen_block hI.y7 1
      have n32 := frozen_block hI.y7 2
      have n33 := frozen_block hI.y7 3
      have hJ1 := hI.set0 (K0 + KF)
      have c40 := cell_block hJ1.y7 0
      have c41 := cell_block hJ1.y7 1
      have c42 := cell_block hJ1.y7 2
      have n41 := frozen_block hJ1.y7 1
      have n42 := frozen_block hJ1.y7 2
      have hJ2 := hJ1.set1 (S0 + SF)
      have c52 := cell_block hJ2.y7 2
      have n52 := frozen_block hJ2.y7 2
      have hJ3 := hJ2.set2 (G0 - GF)
      have hk := Below.refl V7.heap.size V7
      go_wp2_with (first | ((with_reducible refine Calmly.is_fl ?_); refine Calmly.mix_fl rfl ?_ (fun _ _ => ?_); (first | exact .move _ | exact .load _ _ | exact .fieldAddr _ _ _ (by kernel_rfl) | exact .assign _ | exact .binOp _ _ _ _ _ rfl | exact .indexAddr _ _ _ | exact .len _ _ (by kernel_rfl) | exact .field _ _ _ | exact .extract _ _ | exact .pick _ _ _ | exact .build _ _ | exact .slice _ _ _ _ _ | exact .unOp _ _ _ rfl | exact .index _ _ _ | exact .max _ _ _ rfl rfl | exact .min _ _ _ rfl rfl | exact .nilCheck _ _ rfl)) | ((with_reducible refine Calmly.is_gl ?_); refine Calmly.mix_gl rfl rfl rfl ?_; first | ((first | with_reducible refine Calmly.gl_tt ?_ (fun _ _ => ?_) | with_reducible refine Calmly.gl_ff ?_ (fun _ _ => ?_)); (first | exact .move _ | exact .load _ _ | exact .fieldAddr _ _ _ (by kernel_rfl) | exact .assign _ | exact .binOp _ _ _ _ _ rfl | exact .indexAddr _ _ _ | exact .len _ _ (by kernel_rfl) | exact .field _ _ _ | exact .extract _ _ | exact .pick _ _ _ | exact .build _ _ | exact .slice _ _ _ _ _ | exact .unOp _ _ _ rfl | exact .index _ _ _ | exact .max _ _ _ rfl rfl | exact .min _ _ _ rfl rfl | exact .nilCheck _ _ rfl)) | with_reducible refine Calmly.gl_tf (fun _ _ => ?_) | with_reducible refine Calmly.gl_ft (fun _ _ => ?_)) | ((with_reducible refine Calmly.is_eff ?_); refine Calmly.mix_eff rfl (fun _ _ => ?_)) | ((with_reducible refine Calmly.is_gf ?_); refine Calmly.mix_gf rfl rfl rfl ?_; first | with_reducible refine Calmly.gf_tt (fun _ _ => ?_) | with_reducible refine Calmly.gf_ff (fun _ _ => ?_) | with_reducible refine Calmly.gf_tf (kept_of hk) (fun _ _ => ?_) | with_reducible refine Calmly.gf_ft (kept_of hk) (fun _ _ => ?_)) | ((with_reducible refine Calmly.is_tail ?_); first | refine Calmly.mix_tail_nil ?_ | refine Calmly.mix_tail rfl (fun _ _ => ?_)) | ((with_reducible refine Calmly.is_kept ?_); refine ⟨kept_of hk, ?_⟩) | (with_reducible refine Calmly.mix_alt ?_ ?_))
      clear hk w1' w2' w4' g0 g1 c30 c31 c32 c33 n30 n31 n32 n33 c40 c41 c42 n41 n42 c52 n52 hI hJ1 hJ2 hBV
      refine Calmly.wp_region_mix 7 (.fl 0 <| .fl 1 <| .fl 2 <| .fl 3 <| .fl 5 <| .eff 4 <| .fl 6 <| .tail [7, 8, 9]) (by kernel_rfl) (by kernel_rfl) ?_
      have hI := hJ3.keep ((Below.refl _ _).drew)
      clear hJ3
      generalize World.drew _ = V8 at *
      have c33 := cell_block hI.y7 3
      have n33 := frozen_block hI.y7 3
      have hk := Below.refl V8.heap.size V8
      go_wp2_with (first | ((with_reducible refine Calmly.is_fl ?_); refine Calmly.mix_fl rfl ?_ (fun _ _ => ?_); (first | exact .move _ | exact .load _ _ | exact .fieldAddr _ _ _ (by kernel_rfl) | exact .assign _ | exact .binOp _ _ _ _ _ rfl | exact .indexAddr _ _ _ | exact .len _ _ (by kernel_rfl) | exact .field _ _ _ | exact .extract _ _ | exact .pick _ _ _ | exact .build _ _ | exact .slice _ _ _ _ _ | exact .unOp _ _ _ rfl | exact .index _ _ _ | exact .max _ _ _ rfl rfl | exact .min _ _ _ rfl rfl | exact .nilCheck _ _ rfl)) | ((with_reducible refine Calmly.is_gl ?_); refine Calmly.mix_gl rfl rfl rfl ?_; first | ((first | with_reducible refine Calmly.gl_tt ?_ (fun _ _ => ?_) | with_reducible refine Calmly.gl_ff ?_ (fun _ _ => ?_)); (first | exact .move _ | exact .load _ _ | exact .fieldAddr _ _ _ (by kernel_rfl) | exact .assign _ | exact .binOp _ _ _ _ _ rfl | exact .indexAddr _ _ _ | exact .len _ _ (by kernel_rfl) | exact .field _ _ _ | exact .extract _ _ | exact .pick _ _ _ | exact .build _ _ | exact .slice _ _ _ _ _ | exact .unOp _ _ _ rfl | exact .index _ _ _ | exact .max _ _ _ rfl rfl | exact .min _ _ _ rfl rfl | exact .nilCheck _ _ rfl)) | with_reducible refine Calmly.gl_tf (fun _ _ => ?_) | with_reducible refine Calmly.gl_ft (fun _ _ => ?_)) | ((with_reducible refine Calmly.is_eff ?_); refine Calmly.mix_eff rfl (fun _ _ => ?_)) | ((with_reducible refine Calmly.is_gf ?_); refine Calmly.mix_gf rfl rfl rfl ?_; first | with_reducible refine Calmly.gf_tt (fun _ _ => ?_) | with_reducible refine Calmly.gf_ff (fun _ _ => ?_) | with_reducible refine Calmly.gf_tf (kept_of hk) (fun _ _ => ?_) | with_reducible refine Calmly.gf_ft (kept_of hk) (fun _ _ => ?_)) | ((with_reducible refine Calmly.is_tail ?_); first | refine Calmly.mix_tail_nil ?_ | refine Calmly.mix_tail rfl (fun _ _ => ?_)) | ((with_reducible refine Calmly.is_kept ?_); refine ⟨kept_of hk, ?_⟩) | (with_reducible refine Calmly.mix_alt ?_ ?_))
      refine (mod_any P x0 _ (by omega) (by omega) (by omega) (by omega)).mono ?_
      rintro e w5 ⟨rfl, rfl⟩
      rw [q14']
      dsimp only
      go_wp2_with (first | ((with_reducible refine Calmly.is_fl ?_); refine Calmly.mix_fl rfl ?_ (fun _ _ => ?_); (first | exact .move _ | exact .load _ _ | exact .fieldAddr _ _ _ (by kernel_rfl) | exact .assign _ | exact .binOp _ _ _ _ _ rfl | exact .indexAddr _ _ _ | exact .len _ _ (by kernel_rfl) | exact .field _ _ _ | exact .extract _ _ | exact .pick _ _ _ | exact .build _ _ | exact .slice _ _ _ _ _ | exact .unOp _ _ _ rfl | exact .index _ _ _ | exact .max _ _ _ rfl rfl | exact .min _ _ _ rfl rfl | exact .nilCheck _ _ rfl)) | ((with_reducible refine Calmly.is_gl ?_); refine Calmly.mix_gl rfl rfl rfl ?_; first | ((first | with_reducible refine Calmly.gl_tt ?_ (fun _ _ => ?_) | with_reducible refine Calmly.gl_ff ?_ (fun _ _ => ?_)); (first | exact .move _ | exact .load _ _ | exact .fieldAddr _ _ _ (by kernel_rfl) | exact .assign _ | exact .binOp _ _ _ _ _ rfl | exact .indexAddr _ _ _ | exact .len _ _ (by kernel_rfl) | exact .field _ _ _ | exact .extract _ _ | exact .pick _ _ _ | exact .build _ _ | exact .slice _ _ _ _ _ | exact .unOp _ _ _ rfl | exact .index _ _ _ | exact .max _ _ _ rfl rfl | exact .min _ _ _ rfl rfl | exact .nilCheck _ _ rfl)) | with_reducible refine Calmly.gl_tf (fun _ _ => ?_) | with_reducible refine Calmly.gl_ft (fun _ _ => ?_)) | ((with_reducible refine Calmly.is_eff ?_); refine Calmly.mix_eff rfl (fun _ _ => ?_)) | ((with_reducible refine Calmly.is_gf ?_); refine Calmly.mix_gf rfl rfl rfl ?_; first | with_reducible refine Calmly.gf_tt (fun _ _ => ?_) | with_reducible refine Calmly.gf_ff (fun _ _ => ?_) | with_reducible refine Calmly.gf_tf (kept_of hk) (fun _ _ => ?_) | with_reducible refine Calmly.gf_ft (kept_of hk) (fun _ _ => ?_)) | ((with_reducible refine Calmly.is_tail ?_); first | refine Calmly.mix_tail_nil ?_ | refine Calmly.mix_tail rfl (fun _ _ => ?_)) | ((with_reducible refine Calmly.is_kept ?_); refine ⟨kept_of hk, ?_⟩) | (with_reducible refine Calmly.mix_alt ?_ ?_))
      go_roundw
      case rel =>
        refine ⟨k + 1, by omega, by go_num, ?_⟩
        rw [T1.out, T2.out, T3.out, T4.out]
        exact hI.set3 (R0 + RF)
      case measure => simp [intOf]; omega
    · have hle : (n3 : Int) ≤ (k : Int) := by omega
      obtain rfl : n3 = k := by omega
      have t30 := cell_block hI.y7 0
      have t31 := cell_block hI.y7 1
      have t32 := cell_block hI.y7 2
      have t33 := cell_block hI.y7 3
      have t20 := cell_block hI.y6 0
      have t21 := cell_block hI.y6 1
      have t22 := cell_block hI.y6 2
      have t23 := cell_block hI.y6 3
      have n20 := frozen_block hI.y6 0
      have n21 := frozen_block hI.y6 1
      have n22 := frozen_block hI.y6 2
      have n23 := frozen_block hI.y6 3
      obtain ⟨K0, hK0⟩ : ∃ x, sumR (baK fs s g) n3 = x := ⟨_, rfl⟩
      obtain ⟨S0, hS0⟩ : ∃ x, sumR (baS fs s g) n3 = x := ⟨_, rfl⟩
      obtain ⟨G0, hG0⟩ : ∃ x, -sumR (baG fs s g) n3 = x := ⟨_, rfl⟩
      obtain ⟨R0, hR0⟩ : ∃ x, sumR (baR fs s g) n3 = x := ⟨_, rfl⟩
      rw [hK0, hS0, hG0, hR0] at hI
      rw [hK0] at t30
      rw [hS0] at t31
      rw [hG0] at t32
      rw [hR0] at t33
      have HK0 := Lib.hid hK0
      have HS0 := Lib.hid hS0
      have HG0 := Lib.hid hG0
      have HR0 := Lib.hid hR0
      clear hK0 hS0 hG0 hR0
      go_wp2_with fail
      have q0 := setBlk (setBlk (setBlk (setBlk hI.y6 0 (.int .i64 K0)) 1 (.int .i64 S0)) 2 (.int .i64 G0)) 3 (.int .i64 R0)
      simp at q0
      have e0 := cell_block q0 0
      have e1 := cell_block q0 1
      have e2 := cell_block q0 2
      have e3 := cell_block q0 3
      have hw : w.heap.size ≤ w.heap.size + 1 + 1 := by omega
      have B4 := (((hI.bel.setCell (p := ⟨w.heap.size + 1 + 1, 0, none⟩) hw (.int .i64 K0)).setCell (p := ⟨w.heap.size + 1 + 1, 1, none⟩) hw (.int .i64 S0)).setCell (p := ⟨w.heap.size + 1 + 1, 2, none⟩) hw (.int .i64 G0)).setCell (p := ⟨w.heap.size + 1 + 1, 3, none⟩) hw (.int .i64 R0)
      exact bodyPost_ret (v := .agg #[.int .i64 K0, .int .i64 S0, .int .i64 G0, .int .i64 R0]) (by simp [results, Try.results64, go_sem, e0, e1, e2, e3]) rfl ⟨by rw [HK0.out, HS0.out, HG0.out, HR0.out], B4⟩
end Go.Proofs.Ytaiikekgckjdeaa

namespace Go.Proofs.Ytaiikekgckjdeaa
open Go.RowKit
open Calmly (Kept)
/-- What lies between two rounds. -/
structure CsI (w : World) (N b3 : Nat) (O1 : Array Value) (ua ca : Option Addr) (n uc m cc : Nat) (us now : List Int) (hs : List Ho) (W : World) : Prop where
  bel : Below w.heap.size w W
  t1 : W.heap[w.heap.size]? = some (.cells O1 97)
  t2 : W.heap[w.heap.size + 1]? = some (.cells #[.slice none 0 0, .slice none 0 0, .slice none 0 0] 97)
  ul : OwI W w.heap.size ua n uc us
  cl : OwI W w.heap.size ca m cc now
  hol : ∃ ha hc rw, W.heap[b3]? = some (.cells #[.slice ua n uc, .slice ca m cc, .slice ha hs.length hc] 97) ∧ OwHoR W N ha hs.length hc rw ∧ rw.length = hs.length ∧ ∀ i, i < hs.length → (rw[i]?.getD hor0).1 = (hs[i]?.getD ho0).1 ∧ SSp W (rw[i]?.getD hor0).2.1 (rw[i]?.getD hor0).2.2.1 (rw[i]?.getD hor0).2.2.2 (hs[i]?.getD ho0).2 ∧ In W 64 (rw[i]?.getD hor0).2.1
  sz : N ≤ W.heap.size
theorem CsI.keep {w : World} {N b3 : Nat} {O1 : Array Value} {ua ca : Option Addr} {n uc m cc : Nat} {us now : List Int} {hs : List Ho} {Z W : World} (h : CsI w N b3 O1 ua ca n uc m cc us now hs Z) (hb : Below Z.heap.size Z W) : CsI w N b3 O1 ua ca n uc m cc us now hs W := by
  obtain ⟨i1, i2, i4, i5, i6, ⟨ha, hc, rw', i7, i8, i9, i10⟩, i11⟩ := h
  exact ⟨i1.trans (hb.mono i1.size), blk_keep i2 hb, blk_keep i4 hb, OwI.keepM i5 hb, OwI.keepM i6 hb, ⟨ha, hc, rw', blk_keep i7 hb, i8.keep hb, i9, fun i hi => ⟨(i10 i hi).1, (i10 i hi).2.1.keep hb, (i10 i hi).2.2.keep hb⟩⟩, Nat.le_trans i11 hb.size⟩
theorem CsI.step {w : World} {N b3 : Nat} {O1 : Array Value} {ua ca : Option Addr} {n uc m cc : Nat} {us now : List Int} {hs : List Ho} {Z w9 : World} (h : CsI w N b3 O1 ua ca n uc m cc us now hs Z) (hb3 : w.heap.size + 1 < b3) (hNw : w.heap.size ≤ N) (h9 : Below N Z w9) (hB : But 49 Z w9)
    {a9 ha av : Option Addr} {c9 hc e2 cv : Nat} {d : Int} {rows : List Sp} {rw' : List HoR} (k9 : w9.heap[b3]? = some (.cells #[.slice ua n uc, .slice ca m cc, .slice ha hs.length hc] 97)) (i7 : rw'.length = hs.length)
    (i8 : ∀ i, i < hs.length → (rw'[i]?.getD hor0).1 = (hs[i]?.getD ho0).1 ∧ SSp Z (rw'[i]?.getD hor0).2.1 (rw'[i]?.getD hor0).2.2.1 (rw'[i]?.getD hor0).2.2.2 (hs[i]?.getD ho0).2 ∧ In Z 64 (rw'[i]?.getD hor0).2.1)
    (ho9 : w9.ownsRow N 49 2 (.slice a9 (hs.length + 1) c9) (hs.length + 1) (rw'.flatMap encHoR ++ [.int .i64 d, .slice av e2 cv])) (hS : SSp Z av e2 cv rows) (hSi : In Z 64 av) :
    CsI w N b3 O1 ua ca n uc m cc us now (hs ++ [(d, rows)]) (w9.setCell ⟨b3, 2, none⟩ (.slice a9 (hs.length + 1) c9)) := by
  obtain ⟨i1, i2, i3', i4', i4, _, i9⟩ := h
  have hB6 : But 97 w9 (w9.setCell ⟨b3, 2, none⟩ (.slice a9 (hs.length + 1) c9)) := But.setCell ⟨_, k9⟩
  have hne : ∀ b, b ≠ b3 → (w9.setCell ⟨b3, 2, none⟩ (.slice a9 (hs.length + 1) c9)).heap[b]? = w9.heap[b]? := fun b hb => Below.heap_setCell _ _ _ _ hb
  have ks : ∀ (aa : Option Addr) (nn cc : Nat) (l : List Sp), SSp Z aa nn cc l → In Z 64 aa → SSp (w9.setCell ⟨b3, 2, none⟩ (.slice a9 (hs.length + 1) c9)) aa nn cc l ∧ In (w9.setCell ⟨b3, 2, none⟩ (.slice a9 (hs.length + 1) c9)) 64 aa := fun aa nn cc l h1 h2 =>
    ⟨(h1.but h2 hB (by decide)).but (h2.but hB (by decide)) hB6 (by decide), (h2.but hB (by decide)).but hB6 (by decide)⟩
  have q6 := setBlk k9 2 (.slice a9 (hs.length + 1) c9)
  refine ⟨(i1.trans (h9.mono hNw)).setCell (by show w.heap.size ≤ b3; omega) _, ?_, ?_, ?_, ?_, ⟨a9, c9, rw' ++ [(d, (av, e2, cv))], ?_, ?_, ?_, ?_⟩, ?_⟩
  · exact (hne _ (by omega)).trans (blk_but i2 hB (by decide))
  · exact (hne _ (by omega)).trans (blk_but i3' hB (by decide))
  · exact owns_other (owns_but i4' hB (by decide)) hne ⟨_, k9⟩ (by decide)
  · exact owns_other (owns_but i4 hB (by decide)) hne ⟨_, k9⟩ (by decide)
  · rw [List.length_append]
    simpa using q6
  · rw [List.length_append]
    unfold OwHoR
    rw [List.flatMap_append]
    exact owns_other ho9 hne ⟨_, k9⟩ (by decide)
  · rw [List.length_append, List.length_append, i7]; rfl
  · intro i hi
    rcases Nat.lt_or_ge i hs.length with hik | hik
    · rw [List.getElem?_append_left (by omega), List.getElem?_append_left hik]
      obtain ⟨r1, r2, r3⟩ := i8 i hik
      obtain ⟨r4, r5⟩ := ks _ _ _ _ r2 r3
      exact ⟨r1, r4, r5⟩
    · have hi' : i = hs.length := by
        rw [List.length_append] at hi
        simp at hi
        omega
      subst hi'
      rw [List.getElem?_append_right (by omega), List.getElem?_append_right (by omega), i7, Nat.sub_self]
      obtain ⟨r4, r5⟩ := ks _ _ _ _ hS hSi
      exact ⟨rfl, r4, r5⟩
  · simp only [World.size_setCell]
    have := h9.size
    omega
theorem CsI.start {w W : World} {b3 : Nat} {O1 : Array Value} {ua ca : Option Addr} {n uc m cc : Nat} {us now : List Int} (hb : Below w.heap.size w W) (y1 : W.heap[w.heap.size]? = some (.cells O1 97)) (y2 : W.heap[w.heap.size + 1]? = some (.cells #[.slice none 0 0, .slice none 0 0, .slice none 0 0] 97)) (hu : OwI W w.heap.size ua n uc us) (hc : OwI W w.heap.size ca m cc now) (y6 : W.heap[b3]? = some (.cells #[.slice none 0 0, .slice none 0 0, .slice none 0 0] 97)) (hb3 : w.heap.size + 1 < b3) :
    CsI w (b3 + 1) b3 O1 ua ca n uc m cc us now [] (((W.setCell ⟨b3, 0, none⟩ (.slice ua n uc)).setCell ⟨b3, 1, none⟩ (.slice ca m cc)).setCell ⟨b3, 2, none⟩ (.slice none 0 0)) := by
  have hw : w.heap.size ≤ b3 := by omega
  have hB : But 97 W (((W.setCell ⟨b3, 0, none⟩ (.slice ua n uc)).setCell ⟨b3, 1, none⟩ (.slice ca m cc)).setCell ⟨b3, 2, none⟩ (.slice none 0 0)) := But.set3 y6
  have hne : ∀ b, b ≠ b3 → (((W.setCell ⟨b3, 0, none⟩ (.slice ua n uc)).setCell ⟨b3, 1, none⟩ (.slice ca m cc)).setCell ⟨b3, 2, none⟩ (.slice none 0 0)).heap[b]? = W.heap[b]? := fun b hb => by
    rw [Below.heap_setCell _ _ _ _ hb, Below.heap_setCell _ _ _ _ hb, Below.heap_setCell _ _ _ _ hb]
  have q6 := setBlk (setBlk (setBlk y6 0 (.slice ua n uc)) 1 (.slice ca m cc)) 2 (.slice none 0 0)
  have hlt := blk_lt y6
  exact ⟨((hb.setCell hw _).setCell hw _).setCell hw _, (hne _ (by omega)).trans y1, (hne _ (by omega)).trans y2, owns_but hu hB (by decide), owns_but hc hB (by decide), ⟨none, 0, [], by simpa using q6, OwHoR.nil _ _, rfl, fun i hi => by cases hi⟩, by simp; omega⟩
set_option maxRecDepth 100000 in
set_option maxHeartbeats 4000000 in
theorem CopyState_any (a1 a2 a3 : Option Addr) (n1 c1 n2 c2 n3 c3 : Nat) (s : St) (w : World) (h2 : StW w ((a1, n1, c1), (a2, n2, c2), (a3, n3, c3)) s) (hn1 : n1 ≤ 1000) (hn2 : n2 ≤ 1000) (hn3 : n3 ≤ 1000) (hsl : ∀ i, i < n3 → (s.2.2[i]?.getD ho0).2.length ≤ 1000) :
    Calls Try.prog 56 #[.agg #[.slice a1 n1 c1, .slice a2 n2 c2, .slice a3 n3 c3]] w fun e w' => ∃ x : StR, e = .returned (.agg #[hv x.1, hv x.2.1, hv x.2.2]) ∧ StV w' x s ∧ Below w.heap.size w w' := by
  have q1 := h2.now.cap
  have q2 := h2.bef.cap
  have m1 := h2.now.max
  have m2 := h2.bef.max
  dsimp only at q1 q2 m1 m2
  have hl3 : n3 = s.2.2.length ∧ n3 ≤ c3 ∧ c3 ≤ 9223372036854775807 := by
    obtain ⟨hraw, hH⟩ := h2.hol
    exact ⟨by have := hH.row.len; have := hH.len; dsimp only at *; omega, hH.row.cap, hH.row.max⟩
  obtain ⟨l3, q3, m3⟩ := hl3
  have HL3 := Lib.hid l3
  have HSL := Lib.hid hsl
  clear l3 hsl
  have y1 := blk_keep (alloc_new w (.cells #[.slice a1 n1 c1, .slice a2 n2 c2, .slice a3 n3 c3] 97)) ((Below.refl _ _).alloc (Nat.le_refl _) (.cells #[.slice none 0 0, .slice none 0 0, .slice none 0 0] 97))
  have y2 := alloc_new (w.alloc (.cells #[.slice a1 n1 c1, .slice a2 n2 c2, .slice a3 n3 c3] 97)) (.cells #[.slice none 0 0, .slice none 0 0, .slice none 0 0] 97)
  have BW : Below w.heap.size w ((w.alloc (.cells #[.slice a1 n1 c1, .slice a2 n2 c2, .slice a3 n3 c3] 97)).alloc (.cells #[.slice none 0 0, .slice none 0 0, .slice none 0 0] 97)) := ((Below.refl _ _).alloc (Nat.le_refl _) _).alloc (by simp) _
  simp only [World.size_alloc] at y2
  have f0 := cell_block y1 0
  have f1 := cell_block y1 1
  go_enter Try.func56, Try.ntmps56
  go_wp2_with fail
  generalize (w.alloc (.cells #[.slice a1 n1 c1, .slice a2 n2 c2, .slice a3 n3 c3] 97)).alloc (.cells #[.slice none 0 0, .slice none 0 0, .slice none 0 0] 97) = W at *
  refine Calmly.wp_region_mix 8 (.fl 0 <| .fl 1 <| .fl 3 <| .fl 4 <| .alt 2 (.alt 5 (.fl 6 <| .eff 7 <| .tail [8]) (.eff 7 (.eff 5 <| .fl 6 <| .tail [8]))) (.eff 7 (.eff 2 <| .eff 5 <| .fl 6 <| .tail [8]))) (by kernel_rfl) (by kernel_rfl) ?_
  replace y1 := blk_keep y1 (Below.refl _ _).drew
  replace y2 := blk_keep y2 (Below.refl _ _).drew
  replace BW := BW.drew
  clear f0 f1
  generalize W.drew = V at *
  rename_i K hK
  have hK' := fun a w (h : Stop _) => hK a w h.out
  clear hK
  have hV2 := blk_lt y2
  have hlh : ∀ k, k ≤ n3 → (s.2.2.take k).length = k := fun k hk => by rw [List.length_take, Nat.min_eq_left (by have := HL3.out; omega)]
  have HLH := Lib.hid hlh
  clear hlh
  have HKK : ∀ (b3 : Nat) (na ba : Option Addr) (nc bc : Nat) (y5 y6 y7 y8 y9 y10 y11 : Value) (X : World), CsI w (b3 + 1) b3 #[.slice a1 n1 c1, .slice a2 n2 c2, .slice a3 n3 c3] na ba n1 nc n2 bc s.1 s.2.1 [] X → w.heap.size + 1 < b3 → K { tmps := #[.agg #[.slice a1 n1 c1, .slice a2 n2 c2, .slice a3 n3 c3], .pointer (some ⟨w.heap.size, 0, none⟩), .pointer (some ⟨w.heap.size + 1, 0, none⟩), .pointer (some ⟨b3, 0, none⟩), undef, y5, y6, y7, y8, y9, y10, y11, undef, undef, undef, undef, undef, undef, undef, undef, undef, undef, undef, undef, undef, undef, undef, undef, undef, undef, undef], defers := [] } X := by
    intro b3 na ba nc bc y5 y6 y7 y8 y9 y10 y11 X hI hb3
    refine hK' _ _ ⟨?_⟩
    clear hK'
    go_wp2_with fail
    go_loopw [4] (fun i wr => ∃ k : Nat, k ≤ n3 ∧ i = .int .i64 (k : Int) ∧ CsI w (b3 + 1) b3 #[.slice a1 n1 c1, .slice a2 n2 c2, .slice a3 n3 c3] na ba n1 nc n2 bc s.1 s.2.1 (s.2.2.take k) wr) (fun i _ => n3 - (intOf i).toNat)
    case atStart => exact ⟨0, by omega, rfl, by rw [List.take_zero]; exact hI⟩
    case round =>
      clear hI
      obtain ⟨k, hk, rfl, hI⟩ := hrel
      have f2 := cell_block hI.t1 2
      by_cases hlt : k < n3
      · have hi : (k : Int) < (n3 : Int) := by omega
        have hi0 : (0 : Int) ≤ (k : Int) := by omega
        have hkb := hk
        clear hk
        go_wp2_with fail
        refine Calmly.wp_region_mix 9 (.fl 0 <| .fl 1 <| .fl 2 <| .fl 3 <| .fl 4 <| .fl 5 <| .fl 6 <| .eff 7 <| .eff 8 <| .tail [9, 10, 11]) (by kernel_rfl) (by kernel_rfl) ?_
        have hI4 := hI.keep ((Below.refl _ _).drew)
        clear hI f2
        generalize wr.drew = V8 at *
        have HI4 := Lib.hid hI4
        obtain ⟨j1, j2, j3', j4', j4, ⟨ja, jc, jw, j6, j7, j8, j9⟩, j10⟩ := hI4
        have H8' := Lib.hid j8
        have H9' := Lib.hid j9
        clear j8 j9
        rw [HLH.out k hkb] at j6 j7
        obtain ⟨hraw, hH⟩ := (h2.keep j1).hol
        dsimp only at hH
        obtain ⟨hb, ho, rfl, hch⟩ := hH.row.at_ (by omega)
        obtain ⟨p0, p1⟩ := hch k hlt
        obtain ⟨g0, g1⟩ := hH.hl k (by have := HL3.out; omega)
        obtain ⟨hh, hhh⟩ : ∃ rr, hraw[k]?.getD hor0 = rr := ⟨_, rfl⟩
        obtain ⟨t', ⟨v1, v2, v3⟩⟩ := hh
        rw [hhh] at p0 p1 g0 g1
        dsimp only [hv] at p0 p1 g0 g1
        have hv2 : v2 ≤ 1000 := by rw [g1.len]; exact HSL.out k hlt
        have HG0 := Lib.hid g0
        have hms := g1.max
        have hsn : s.2.2.take (k + 1) = s.2.2.take k ++ [(t', (s.2.2[k]?.getD ho0).2)] := by
          have hk3 : k < s.2.2.length := by have := HL3.out; omega
          rw [List.take_add_one, List.getElem?_eq_getElem hk3]
          have e5 : s.2.2[k]?.getD ho0 = s.2.2[k] := by rw [List.getElem?_eq_getElem hk3]; rfl
          rw [g0, e5]
          rfl
        have HSN := Lib.hid hsn
        clear hch hhh hH g0 hsn
        have f2 := cell_block j2 2
        have f6 := cell_block j6 2
        have hk := Below.refl V8.heap.size V8
        go_wp2_with (first | ((with_reducible refine Calmly.is_fl ?_); refine Calmly.mix_fl rfl ?_ (fun _ _ => ?_); (first | exact .move _ | exact .load _ _ | exact .fieldAddr _ _ _ (by kernel_rfl) | exact .assign _ | exact .binOp _ _ _ _ _ rfl | exact .indexAddr _ _ _ | exact .len _ _ (by kernel_rfl) | exact .field _ _ _ | exact .extract _ _ | exact .pick _ _ _ | exact .build _ _ | exact .slice _ _ _ _ _ | exact .unOp _ _ _ rfl | exact .index _ _ _ | exact .max _ _ _ rfl rfl | exact .min _ _ _ rfl rfl | exact .nilCheck _ _ rfl)) | ((with_reducible refine Calmly.is_gl ?_); refine Calmly.mix_gl rfl rfl rfl ?_; first | ((first | with_reducible refine Calmly.gl_tt ?_ (fun _ _ => ?_) | with_reducible refine Calmly.gl_ff ?_ (fun _ _ => ?_)); (first | exact .move _ | exact .load _ _ | exact .fieldAddr _ _ _ (by kernel_rfl) | exact .assign _ | exact .binOp _ _ _ _ _ rfl | exact .indexAddr _ _ _ | exact .len _ _ (by kernel_rfl) | exact .field _ _ _ | exact .extract _ _ | exact .pick _ _ _ | exact .build _ _ | exact .slice _ _ _ _ _ | exact .unOp _ _ _ rfl | exact .index _ _ _ | exact .max _ _ _ rfl rfl | exact .min _ _ _ rfl rfl | exact .nilCheck _ _ rfl)) | with_reducible refine Calmly.gl_tf (fun _ _ => ?_) | with_reducible refine Calmly.gl_ft (fun _ _ => ?_)) | ((with_reducible refine Calmly.is_eff ?_); refine Calmly.mix_eff rfl (fun _ _ => ?_)) | ((with_reducible refine Calmly.is_gf ?_); refine Calmly.mix_gf rfl rfl rfl ?_; first | with_reducible refine Calmly.gf_tt (fun _ _ => ?_) | with_reducible refine Calmly.gf_ff (fun _ _ => ?_) | with_reducible refine Calmly.gf_tf (kept_of hk) (fun _ _ => ?_) | with_reducible refine Calmly.gf_ft (kept_of hk) (fun _ _ => ?_)) | ((with_reducible refine Calmly.is_tail ?_); first | refine Calmly.mix_tail_nil ?_ | refine Calmly.mix_tail rfl (fun _ _ => ?_)) | ((with_reducible refine Calmly.is_kept ?_); refine ⟨kept_of hk, ?_⟩) | (with_reducible refine Calmly.mix_alt ?_ ?_))
        refine (CopyHold_any t' v1 v2 v3 _ _ (g1.keep hk) (by omega)).mono ?_
        rintro e w7 ⟨av, cv, rfl, hoM, hb7⟩
        replace hk := step_of hk hb7
        dsimp only
        have hkM := hk
        have k6 := blk_keep j6 hk
        have k7 := j7.keep hk
        have hms2 := hoM.ss.max
        have hks := hk.size
        go_wp2_with (first | ((with_reducible refine Calmly.is_tail ?_); refine Calmly.mix_tail_app rfl (fun rest hrest => ?_); refine appRec w7 95 49 (new := [.int .i64 t', .slice av v2 cv]) rfl rfl _ _ rfl Try.underlying95 Try.info_hor rfl (by decide) (by decide) k7 rfl rfl rfl (oneCell_HoR (t', (av, v2, cv))) (by omega) (by omega) (fun a9 c9 w9 ho9 hb9 hko9 hsm9 => ?_); refine hrest _ _ ?_; have k9 := (hsm9 b3 (blk_lt k6) (BlkT.not ⟨_, k6⟩ (by decide))).trans k6; have f5 := cell_block k9 2; have f7 := frozen_block k9 2) | ((with_reducible refine Calmly.is_fl ?_); refine Calmly.mix_fl rfl ?_ (fun _ _ => ?_); (first | exact .move _ | exact .load _ _ | exact .fieldAddr _ _ _ (by kernel_rfl) | exact .assign _ | exact .binOp _ _ _ _ _ rfl | exact .indexAddr _ _ _ | exact .len _ _ (by kernel_rfl) | exact .field _ _ _ | exact .extract _ _ | exact .pick _ _ _ | exact .build _ _ | exact .slice _ _ _ _ _ | exact .unOp _ _ _ rfl | exact .index _ _ _ | exact .max _ _ _ rfl rfl | exact .min _ _ _ rfl rfl | exact .nilCheck _ _ rfl)) | ((with_reducible refine Calmly.is_gl ?_); refine Calmly.mix_gl rfl rfl rfl ?_; first | ((first | with_reducible refine Calmly.gl_tt ?_ (fun _ _ => ?_) | with_reducible refine Calmly.gl_ff ?_ (fun _ _ => ?_)); (first | exact .move _ | exact .load _ _ | exact .fieldAddr _ _ _ (by kernel_rfl) | exact .assign _ | exact .binOp _ _ _ _ _ rfl | exact .indexAddr _ _ _ | exact .len _ _ (by kernel_rfl) | exact .field _ _ _ | exact .extract _ _ | exact .pick _ _ _ | exact .build _ _ | exact .slice _ _ _ _ _ | exact .unOp _ _ _ rfl | exact .index _ _ _ | exact .max _ _ _ rfl rfl | exact .min _ _ _ rfl rfl | exact .nilCheck _ _ rfl)) | with_reducible refine Calmly.gl_tf (fun _ _ => ?_) | with_reducible refine Calmly.gl_ft (fun _ _ => ?_)) | ((with_reducible refine Calmly.is_eff ?_); refine Calmly.mix_eff rfl (fun _ _ => ?_)) | ((with_reducible refine Calmly.is_gf ?_); refine Calmly.mix_gf rfl rfl rfl ?_; first | with_reducible refine Calmly.gf_tt (fun _ _ => ?_) | with_reducible refine Calmly.gf_ff (fun _ _ => ?_) | with_reducible refine Calmly.gf_tf (kept_of hk) (fun _ _ => ?_) | with_reducible refine Calmly.gf_ft (kept_of hk) (fun _ _ => ?_)) | ((with_reducible refine Calmly.is_tail ?_); first | refine Calmly.mix_tail_nil ?_ | refine Calmly.mix_tail rfl (fun _ _ => ?_)) | ((with_reducible refine Calmly.is_kept ?_); refine ⟨kept_of hk, ?_⟩) | (with_reducible refine Calmly.mix_alt ?_ ?_) | (refine kept_alloc hk (fun hk' hblk hge => ?_); replace hk := hk'; clear hk'))
        go_roundw
        case rel =>
          have hI7 := HI4.out.keep hkM
          have hst := CsI.step hI7 (by omega) (by omega) hb9 ⟨hb9.size, hsm9⟩ (rw' := jw) (ha := ja) (hc := jc) (by rw [HLH.out k hkb]; exact k9) H8'.out (fun i hi => ⟨(H9'.out i hi).1, (H9'.out i hi).2.1.keep hkM, (H9'.out i hi).2.2.keep hkM⟩) (by rw [HLH.out k hkb]; exact ho9) hoM.ss (In.of_owns hoM)
          rw [HLH.out k hkb] at hst
          refine ⟨k + 1, by omega, by go_num, ?_⟩
          rw [HSN.out]
          exact hst
        case measure => simp [intOf]; omega
      · have hle : (n3 : Int) ≤ (k : Int) := by omega
        obtain rfl : n3 = k := by omega
        have htk : s.2.2.take n3 = s.2.2 := List.take_of_length_le (by have := HL3.out; omega)
        rw [htk] at hI
        obtain ⟨i1, i2, i4, i5, i6, ⟨ha, hc, rw', i7, i8, i9, i10⟩, i11⟩ := hI
        rw [← HL3.out] at i7 i8
        have t0 := cell_block i7 0
        have t1 := cell_block i7 1
        have t2 := cell_block i7 2
        have g1 := cell_block i4 0
        have g2 := cell_block i4 1
        have g3 := cell_block i4 2
        have g4 := frozen_block i4 0
        have g5 := frozen_block i4 1
        have g6 := frozen_block i4 2
        clear hlt hk htk
        go_wp2_with fail
        have hw : w.heap.size ≤ w.heap.size + 1 := by omega
        have q0 := setBlk (setBlk (setBlk i4 0 (.slice na n1 nc)) 1 (.slice ba n2 bc)) 2 (.slice ha n3 hc)
        simp at q0
        have e0 := cell_block q0 0
        have e1 := cell_block q0 1
        have e2 := cell_block q0 2
        have B4 := ((i1.setCell (p := ⟨w.heap.size + 1, 0, none⟩) hw (.slice na n1 nc)).setCell (p := ⟨w.heap.size + 1, 1, none⟩) hw (.slice ba n2 bc)).setCell (p := ⟨w.heap.size + 1, 2, none⟩) hw (.slice ha n3 hc)
        have hBt : But 97 wr (((wr.setCell ⟨w.heap.size + 1, 0, none⟩ (.slice na n1 nc)).setCell ⟨w.heap.size + 1, 1, none⟩ (.slice ba n2 bc)).setCell ⟨w.heap.size + 1, 2, none⟩ (.slice ha n3 hc)) := But.set3 i4
        refine bodyPost_ret (v := .agg #[.slice na n1 nc, .slice ba n2 bc, .slice ha n3 hc]) (by simp [results, Try.results56, go_sem, e0, e1, e2]) rfl ⟨((na, n1, nc), (ba, n2, bc), (ha, n3, hc)), rfl, ?_, B4⟩
        have k5 := owns_but i5 hBt (by decide)
        have k6 := owns_but i6 hBt (by decide)
        have k8 := owns_but i8 hBt (by decide)
        refine ⟨OwI.si k5, In.of_owns k5, OwI.si k6, In.of_owns k6, ⟨rw', OwHoR.sr k8, i9, ?_⟩, In.of_owns k8⟩
        intro i hi
        obtain ⟨r1, r2, r3⟩ := i10 i hi
        exact ⟨r1, r2.but r3 hBt (by decide), r3.but hBt (by decide)⟩
  clear hK'
  have HKK' := Lib.hid HKK
  clear HKK
  have f0 := cell_block y1 0
  have f1 := cell_block y1 1
  have hk := Below.refl V.heap.size V
  have hSV := h2.keep BW
  have s1 := hSV.now
  have s2 := hSV.bef
  dsimp only at s1 s2
  have S1 := Lib.hid True.intro
  have hBs := BW.size
  go_wp2_with (first | (go_at_call 15; (have _ := S1.out); clear S1; refine (copyInts_any a1 n1 c1 s.1 _ (s1.keep hk) (by omega)).mono ?_; rintro e w5 ⟨na, nc, rfl, hna, hs5⟩; dsimp only; (try replace y6 := blk_keep y6 hs5); have hg1 := hk.size; replace hk := step_of hk hs5; (try have z0 := cell_block y6 0); (try have z1 := cell_block y6 1); (try have z2 := cell_block y6 2); (try have z3 := frozen_block y6 0); (try have z4 := frozen_block y6 1); (try have z5 := frozen_block y6 2); clear hs5) | (go_at_call 15; refine (copyInts_any a2 n2 c2 s.2.1 _ (s2.keep hk) (by omega)).mono ?_; rintro e w6 ⟨ba, bc, rfl, hba, hs6⟩; dsimp only; replace hna := OwI.keepM hna hs6; (try replace y6 := blk_keep y6 hs6); have hg2 := hk.size; replace hk := step_of hk hs6; (try have z0 := cell_block y6 0); (try have z1 := cell_block y6 1); (try have z2 := cell_block y6 2); (try have z3 := frozen_block y6 0); (try have z4 := frozen_block y6 1); (try have z5 := frozen_block y6 2); clear hs6) | (refine kept_allocR hk (fun hb hk2 y6 hge6 => ?_); (try replace hna := OwI.keepM hna hb); (try replace hba := OwI.keepM hba hb); replace hk := hk2; clear hb hk2; generalize World.alloc _ (.cells #[.slice none 0 0, .slice none 0 0, .slice none 0 0] 97) = W' at *; (have z0 := cell_block y6 0); (have z1 := cell_block y6 1); (have z2 := cell_block y6 2); (have z3 := frozen_block y6 0); (have z4 := frozen_block y6 1); (have z5 := frozen_block y6 2)) | ((with_reducible refine Calmly.is_fl ?_); refine Calmly.mix_fl rfl ?_ (fun _ _ => ?_); (first | exact .move _ | exact .load _ _ | exact .fieldAddr _ _ _ (by kernel_rfl) | exact .assign _ | exact .binOp _ _ _ _ _ rfl | exact .indexAddr _ _ _ | exact .len _ _ (by kernel_rfl) | exact .field _ _ _ | exact .extract _ _ | exact .pick _ _ _ | exact .build _ _ | exact .slice _ _ _ _ _ | exact .unOp _ _ _ rfl | exact .index _ _ _ | exact .max _ _ _ rfl rfl | exact .min _ _ _ rfl rfl | exact .nilCheck _ _ rfl)) | ((with_reducible refine Calmly.is_gl ?_); refine Calmly.mix_gl rfl rfl rfl ?_; first | ((first | with_reducible refine Calmly.gl_tt ?_ (fun _ _ => ?_) | with_reducible refine Calmly.gl_ff ?_ (fun _ _ => ?_)); (first | exact .move _ | exact .load _ _ | exact .fieldAddr _ _ _ (by kernel_rfl) | exact .assign _ | exact .binOp _ _ _ _ _ rfl | exact .indexAddr _ _ _ | exact .len _ _ (by kernel_rfl) | exact .field _ _ _ | exact .extract _ _ | exact .pick _ _ _ | exact .build _ _ | exact .slice _ _ _ _ _ | exact .unOp _ _ _ rfl | exact .index _ _ _ | exact .max _ _ _ rfl rfl | exact .min _ _ _ rfl rfl | exact .nilCheck _ _ rfl)) | with_reducible refine Calmly.gl_tf (fun _ _ => ?_) | with_reducible refine Calmly.gl_ft (fun _ _ => ?_)) | ((with_reducible refine Calmly.is_eff ?_); refine Calmly.mix_eff rfl (fun _ _ => ?_)) | ((with_reducible refine Calmly.is_gf ?_); refine Calmly.mix_gf rfl rfl rfl ?_; first | with_reducible refine Calmly.gf_tt (fun _ _ => ?_) | with_reducible refine Calmly.gf_ff (fun _ _ => ?_) | with_reducible refine Calmly.gf_tf (kept_of hk) (fun _ _ => ?_) | with_reducible refine Calmly.gf_ft (kept_of hk) (fun _ _ => ?_)) | ((with_reducible refine Calmly.is_tail ?_); first | refine Calmly.mix_tail_nil ?_ | refine Calmly.mix_tail rfl (fun _ _ => ?_)) | ((with_reducible refine Calmly.is_kept ?_); refine ⟨kept_of hk, ?_⟩) | (with_reducible refine Calmly.mix_alt ?_ ?_))
  all_goals
    apply HKK'.out
    · exact CsI.start (BW.trans (hk.mono BW.size)) (blk_keep y1 hk) (blk_keep y2 hk) (owns_lower hna (by omega)) (owns_lower hba (by omega)) y6 (by omega)
    · omega
end Go.Proofs.Ytaiikekgckjdeaa
