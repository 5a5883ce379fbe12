/- The law ModalTrue, walked. -/
import Derived.Test.YtmaidjankakppaaTa
namespace Go.Proofs.Ytmaidjankakppaa
open Go.RowKit
open Calmly (Kept)

/-- A true sample. -/
def ownE (xs es : List Int) (off : Int) (t : Nat) : Int := xs[t]?.getD 0 + es[t % es.length]?.getD 0 % (2 * off + 1) - off
def ownL (xs es : List Int) (off : Int) (k : Nat) : List Int := (List.range k).map (ownE xs es off)
theorem ownL_succ (xs es : List Int) (off : Int) (k : Nat) : ownL xs es off (k + 1) = ownL xs es off k ++ [ownE xs es off k] := by simp [ownL, List.range_succ]
theorem ownL_len (xs es : List Int) (off : Int) (k : Nat) : (ownL xs es off k).length = k := by simp [ownL]
theorem ownL_at (xs es : List Int) (off : Int) (k j : Nat) (h : j < k) : (ownL xs es off k)[j]?.getD 0 = ownE xs es off j := by simp [ownL, h]
theorem own_near {xs es : List Int} {off : Int} (h : 0 ≤ off) : Near off xs (ownL xs es off xs.length) := by
  refine ⟨ownL_len _ _ _ _, fun j hj => ?_⟩
  rw [ownL_at _ _ _ _ _ hj]
  unfold ownE
  have h1 := Int.emod_nonneg (es[j % es.length]?.getD 0) (by omega : 2 * off + 1 ≠ 0)
  have h2 := Int.emod_lt_of_pos (es[j % es.length]?.getD 0) (by omega : 0 < 2 * off + 1)
  omega
theorem own_decay {xs es : List Int} {off : Int} (h0 : 0 < xs.length) (h1 : xs.length ≤ 60) (h : ∀ j, j < xs.length → wIn (ownE xs es off j) (-10000) 10000 = true) : decayE (ownL xs es off xs.length) 0 = 0 := by
  rw [decayE_cases, ownL_len, if_neg (by omega), if_neg (by omega)]
  have : (ownL xs es off xs.length).any odd1 = false := by
    rw [List.any_eq_false]
    intro x hx
    obtain ⟨j, hj, rfl⟩ := List.mem_iff_getElem.1 hx
    rw [ownL_len] at hj
    have h2 := ownL_at xs es off xs.length j hj
    rw [List.getElem?_eq_getElem (by rw [ownL_len]; exact hj)] at h2
    simp only [Option.getD_some] at h2
    rw [h2]
    unfold odd1
    rw [h j hj]
    decide
  rw [this]
  rfl

/-- An append to a row of numbers, the world being that of the new number up to what is drawn. -/
theorem appIg {ops : Array Oper} {rest : List Oper} {o : Oper} {a : Act} {Q : Exit → Act → World → Prop} {Wx : World} (w0 : World) {B : Nat} {av : Option Addr} {n c : Nat} {xs : List Int} {v : Int}
    (hW : Wx = w0.alloc (.cells #[.int .i64 v] 3)) (hgd : o.guard = none) (s x : Operand)
    (ho : o.op = .call { callee := .builtin .append, args := #[s, x], argTypes := #[22, 22] })
    (hown : OwI w0 B av n c xs) (hs : a.eval s = .slice av n c) (hx : a.eval x = .slice (some ⟨w0.heap.size, 0, none⟩) 1 1)
    (hb1 : n + 1 ≤ 17592186044416) (hB : B ≤ w0.heap.size)
    (h : ∀ a' c' w', OwI w' B a' (n + 1) c' (xs ++ [v]) → Below B w0 w' → w0.heap.size < w'.heap.size → wpList Try.prog ops Q rest (a.put o.dst (.slice a' (n + 1) c')) w') :
    wpList Try.prog ops Q (o :: rest) a Wx := by
  subst hW
  exact appI hgd s x ho hown hs hx hb1 hB h

theorem kept_allocT {W w : World} {o : Obj} {G : Prop} (h : Below W.heap.size W w) (k : Below w.heap.size w (w.alloc o) → Below W.heap.size W (w.alloc o) → (w.alloc o).heap[w.heap.size]? = some o → G) : Kept W (w.alloc o) ∧ G :=
  ⟨kept_of (h.alloc h.size o), k ((Below.refl _ _).alloc (Nat.le_refl _) _) (h.alloc h.size o) (alloc_new w o)⟩
theorem kept_setT {W w : World} {b b' : Nat} {x y u0 u1 : Value} {cs' : Array Value} {t t' : TypeId} {G : Prop} (h : Below W.heap.size W w) (hb : W.heap.size ≤ b) (p : w.heap[b]? = some (.cells #[u0, u1] t)) (p' : w.heap[b']? = some (.cells cs' t')) (hne : b' ≠ b)
    (k : Below W.heap.size W ((w.setCell ⟨b, 0, none⟩ x).setCell ⟨b, 1, none⟩ y) → ((w.setCell ⟨b, 0, none⟩ x).setCell ⟨b, 1, none⟩ y).heap[b]? = some (.cells #[x, y] t) → ((w.setCell ⟨b, 0, none⟩ x).setCell ⟨b, 1, none⟩ y).heap[b']? = some (.cells cs' t') → G) :
    Kept W ((w.setCell ⟨b, 0, none⟩ x).setCell ⟨b, 1, none⟩ y) ∧ G := by
  have h2 := (h.setCell (p := ⟨b, 0, none⟩) hb x).setCell (p := ⟨b, 1, none⟩) hb y
  exact ⟨kept_of h2, k h2 (blk_setAt (blk_setAt p 0 _) 1 _) ((Below.heap_setCell _ _ _ _ hne).trans ((Below.heap_setCell _ _ _ _ hne).trans p'))⟩
/-- A crossing lies in another one. -/
structure Ins (c d : Int × Int) : Prop where
  lo : c.1 ≤ d.1
  lt : d.1 < d.2
  hi : d.2 ≤ c.2

set_option maxRecDepth 100000 in
set_option maxHeartbeats 40000000 in
theorem ModalTrue_walk (sa ea : Option Addr) (sn sc en ec : Nat) (xs es : List Int) (off : Int) (w : World) (h3 : SI w sa sn sc xs) (h4 : SI w ea en ec es) (hev : ∀ j : Nat, -9223372036854775808 ≤ es[j]?.getD 0 ∧ es[j]?.getD 0 ≤ 9223372036854775807) :
    Calls Try.prog 8 #[.agg #[.slice sa sn sc, .int .i64 off], .slice ea en ec] w fun e w' => e = .returned (.bool true) ∧ Below w.heap.size w w' := by
  have m1 := h3.max
  have c1 := h3.cap
  have m2 := h4.max
  have c2 := h4.cap
  have hbx : ∀ o, Below w.heap.size w (w.alloc o) := fun o => (Below.refl _ _).alloc (Nat.le_refl _) _
  have hA : ∀ (A : World) (o : Obj), Below A.heap.size A (A.alloc o) := fun A o => (Below.refl _ _).alloc (Nat.le_refl _) _
  have HEV := Lib.hid hev
  clear hev
  by_cases hz : decayE xs off = 0
  case neg =>
    obtain ⟨D, hD⟩ : ∃ D, decayE xs off = D := ⟨_, rfl⟩
    rw [hD] at hz
    have hz1 : (D != 0) = true := by simpa using hz
    have HD := Lib.hid hD
    clear hD hz
    go_enter Try.func8, Try.ntmps8
    go_wp2_with fail
    refine (awake_any _).mono ?_
    rintro e w1 ⟨rfl, hb1⟩
    have x1 := box1 (w := w) hb1
    have f0 : w1.cell? ⟨w.heap.size, 0, none⟩ = some (.slice sa sn sc) := cell_block x1 0
    have f1 : w1.cell? ⟨w.heap.size, 1, none⟩ = some (.int .i64 off) := cell_block x1 1
    have B1 := (hbx _).trans (hb1.mono (hbx _).size)
    go_wp2_with fail
    refine (DecayErr_any sa sn sc xs off _ (h3.keep B1)).mono ?_
    rintro e w2 ⟨he, hb2⟩
    rw [HD.out] at he
    subst he
    go_wp2_with fail
    go_ret
    exact ⟨rfl, B1.trans (hb2.mono B1.size)⟩
  obtain ⟨v1, v2, v3, v4, v5⟩ := decayE_ok hz
  have V := Lib.hid v3
  have HZ := Lib.hid hz
  clear v3 hz
  have hbody : ∀ (w1 : World), True := fun _ => trivial
  obtain ⟨l1, l2⟩ : sn ≤ xs.length ∧ xs.length ≤ sn := by have := h3.len; omega
  obtain ⟨l3, l4⟩ : en ≤ es.length ∧ es.length ≤ en := by have := h4.len; omega
  go_enter Try.func8, Try.ntmps8
  go_wp2_with fail
  refine (awake_any _).mono ?_
  rintro e w1 ⟨rfl, hb1⟩
  have x1 := box1 (w := w) hb1
  have f0 : w1.cell? ⟨w.heap.size, 0, none⟩ = some (.slice sa sn sc) := cell_block x1 0
  have f1 : w1.cell? ⟨w.heap.size, 1, none⟩ = some (.int .i64 off) := cell_block x1 1
  have B1 := (hbx _).trans (hb1.mono (hbx _).size)
  go_wp2_with fail
  refine (DecayErr_any sa sn sc xs off _ (h3.keep B1)).mono ?_
  rintro e w2 ⟨he, hb2⟩
  rw [HZ.out] at he
  subst he
  replace x1 := blk_keep x1 hb2
  have B2 := B1.trans (hb2.mono B1.size)
  clear hb1 hb2 hbx B1 f0 f1 hbody
  rcases Nat.eq_zero_or_pos en with he0 | he0
  · subst he0
    go_wp2_with fail
    go_ret
    exact ⟨rfl, B2⟩
  have t0 : ((en : Int) == 0) = false := by simp; omega
  by_cases h60 : 60 < en
  · have t1 : (60 : Int) < (en : Int) := by omega
    go_wp2_with fail
    go_ret
    exact ⟨rfl, B2⟩
  have t1 : (en : Int) ≤ 60 := by omega
  have hs2 := blk_lt x1
  obtain ⟨wx, hwx⟩ : ∃ x, x = w2.alloc (.cells #[.slice none 0 0, .int .i64 0] 87) := ⟨_, rfl⟩
  have hb3 : Below w2.heap.size w2 wx := hwx ▸ hA _ _
  have x5 : wx.heap[w2.heap.size]? = some (.cells #[.slice none 0 0, .int .i64 0] 87) := hwx ▸ alloc_new _ _
  go_wp2_with fail
  rw [← hwx]
  clear hwx
  go_loopw [6] (fun z wr => ∃ (k c' : Nat) (a' : Option Addr), k ≤ sn ∧ z = .int .i64 k ∧ wr.heap[w2.heap.size]? = some (.cells #[.slice a' k c', .int .i64 0] 87) ∧ OwI wr (w2.heap.size + 1) a' k c' (ownL xs es off k) ∧ (∀ j, j < k → wIn (ownE xs es off j) (-10000) 10000 = true) ∧ Below w2.heap.size w2 wr) (fun z _ => sn - (intOf z).toNat)
  case atStart => exact ⟨0, 0, none, by omega, rfl, x5, OwI.nil _ _, fun j hj => absurd hj (by omega), hb3⟩
  case round =>
    obtain ⟨k, c', a', hk, rfl, x5r, hown, hall, hbr⟩ := hrel
    have x1r := blk_keep x1 hbr
    have hs5 := blk_lt x5r
    have g0 : wr.cell? ⟨w.heap.size, 0, none⟩ = some (.slice sa sn sc) := cell_block x1r 0
    have g1 : wr.cell? ⟨w.heap.size, 1, none⟩ = some (.int .i64 off) := cell_block x1r 1
    have g5 : wr.cell? ⟨w2.heap.size, 0, none⟩ = some (.slice a' k c') := cell_block x5r 0
    have HALL := Lib.hid hall
    clear hall x5 hb3
    by_cases hlt : k < sn
    · as_aux_lemma =>
      obtain ⟨b3, o3, rfl, hc3⟩ := h3.at_ (by omega)
      obtain ⟨b4, o4, rfl, hc4⟩ := h4.at_ (by omega)
      obtain ⟨r, hr⟩ : ∃ r, k % en = r := ⟨_, rfl⟩
      have hr1 : r < en := hr ▸ Nat.mod_lt _ (by omega)
      have hrem : (k : Int).tmod (en : Int) = (r : Int) := by rw [← hr]; exact (Int.ofNat_tmod k en).symm
      have e3 := cell_keep (hc3 k hlt) (B2.trans (hbr.mono B2.size))
      have e4 := cell_keep (hc4 r hr1) (B2.trans (hbr.mono B2.size))
      have hv := V.out k
      have hv4 := HEV.out r
      have hE : ownE xs es off k = xs[k]?.getD 0 + es[r]?.getD 0 % (2 * off + 1) - off := by
        unfold ownE
        rw [show k % es.length = r by rw [← hr]; congr 1; omega]
      clear hc3 hc4 hr
      obtain ⟨x, hx⟩ : ∃ x, xs[k]?.getD 0 = x := ⟨_, rfl⟩
      obtain ⟨y, hy⟩ : ∃ y, es[r]?.getD 0 = y := ⟨_, rfl⟩
      rw [hx] at e3 hv hE
      rw [hy] at e4 hv4 hE
      clear hx hy
      have hm1 := Int.emod_nonneg y (by omega : 2 * off + 1 ≠ 0)
      have hm2 := Int.emod_lt_of_pos y (by omega : 0 < 2 * off + 1)
      have hMOD := fun w => mod_any y (2 * off + 1) w (by omega) (by omega) hv4.1 hv4.2
      obtain ⟨m, hm⟩ : ∃ m, y % (2 * off + 1) = m := ⟨_, rfl⟩
      rw [hm] at hm1 hm2 hE
      simp only [hm] at hMOD
      have HMOD := Lib.hid hMOD
      have HE := Lib.hid hE
      clear hMOD hE hm hv4
      have hi : (k : Int) < (sn : Int) := by omega
      have hi0 : (0 : Int) ≤ (k : Int) := by omega
      have hr0 : (0 : Int) ≤ (r : Int) := by omega
      have hr2 : (r : Int) < (en : Int) := by omega
      go_wp2_with fail
      refine Calmly.wp_region_mix 20 (.fl 0 <| .fl 1 <| .fl 2 <| .fl 3 <| .fl 4 <| .fl 5 <| .fl 6 <| .fl 7 <| .fl 8 <| .fl 9 <| .fl 10 <| .fl 11 <| .fl 12 <| .fl 13 <| .fl 14 <| .fl 15 <| .fl 18 <| .fl 19 <| .eff 16 <| .fl 17 <| .tail [20, 21]) (by kernel_rfl) (by kernel_rfl) ?_
      have hk := Below.refl wr.drew.heap.size wr.drew
      go_wp2_with (first | ((with_reducible refine Calmly.is_fl ?_); refine Calmly.mix_fl rfl ?_ (fun _ _ => ?_); (first | exact .move _ | exact .load _ _ | exact .fieldAddr _ _ _ (by kernel_rfl) | exact .assign _ | exact .binOp _ _ _ _ _ rfl | exact .indexAddr _ _ _ | exact .len _ _ (by kernel_rfl) | exact .field _ _ _ | exact .extract _ _ | exact .pick _ _ _ | exact .build _ _ | exact .slice _ _ _ _ _ | exact .unOp _ _ _ rfl | exact .index _ _ _ | exact .max _ _ _ rfl rfl | exact .min _ _ _ rfl rfl)) | ((with_reducible refine Calmly.is_gl ?_); refine Calmly.mix_gl rfl rfl rfl ?_; first | ((first | with_reducible refine Calmly.gl_tt ?_ (fun _ _ => ?_) | with_reducible refine Calmly.gl_ff ?_ (fun _ _ => ?_)); (first | exact .move _ | exact .load _ _ | exact .fieldAddr _ _ _ (by kernel_rfl) | exact .assign _ | exact .binOp _ _ _ _ _ rfl | exact .indexAddr _ _ _ | exact .len _ _ (by kernel_rfl) | exact .field _ _ _ | exact .extract _ _ | exact .pick _ _ _ | exact .build _ _ | exact .slice _ _ _ _ _ | exact .unOp _ _ _ rfl | exact .index _ _ _ | exact .max _ _ _ rfl rfl | exact .min _ _ _ rfl rfl)) | with_reducible refine Calmly.gl_tf (fun _ _ => ?_) | with_reducible refine Calmly.gl_ft (fun _ _ => ?_)) | ((with_reducible refine Calmly.is_eff ?_); refine Calmly.mix_eff rfl (fun _ _ => ?_)) | ((with_reducible refine Calmly.is_gf ?_); refine Calmly.mix_gf rfl rfl rfl ?_; first | with_reducible refine Calmly.gf_tt (fun _ _ => ?_) | with_reducible refine Calmly.gf_ff (fun _ _ => ?_) | with_reducible refine Calmly.gf_tf (kept_of hk) (fun _ _ => ?_) | with_reducible refine Calmly.gf_ft (kept_of hk) (fun _ _ => ?_)) | ((with_reducible refine Calmly.is_tail ?_); first | refine Calmly.mix_tail_nil ?_ | refine Calmly.mix_tail rfl (fun _ _ => ?_)) | ((with_reducible refine Calmly.is_kept ?_); refine ⟨kept_of hk, ?_⟩) | (with_reducible refine Calmly.mix_alt ?_ ?_) | (go_at_call 35; refine (HMOD.out _).mono ?_; rintro e w' ⟨rfl, rfl⟩))
      cases hw : wIn (x + m - off) (-10000) 10000
      · refine (within_any _ _ _ _).mono ?_
        rintro e w' ⟨rfl, rfl⟩
        rw [hw]
        go_wp2_with fail
        go_ret
        exact ⟨rfl, B2.trans (hbr.drew.mono B2.size)⟩
      · refine (within_any _ _ _ _).mono ?_
        rintro e w' ⟨rfl, rfl⟩
        rw [hw]
        go_wp2_with (refine appIg wr.drew (xs := ownL xs es off k) rfl rfl _ _ rfl hown.drew rfl rfl (by omega) (by show _ ≤ wr.heap.size; omega) ?_; intro a3 c3 w6 ho6 hb6 hs6; have x56 := (hb6.block w2.heap.size (by omega)).trans x5r; have g6 := cell_block x56 0; have r6 := frozen_block x56 0)
        go_roundw
        case rel =>
          refine ⟨k + 1, c3, a3, by omega, by go_num, blk_setAt x56 0 _, ?_, ?_, (hbr.drew.trans (hb6.mono (by omega))).setCell (Nat.le_refl _) _⟩
          · rw [ownL_succ, HE.out]
            exact ho6.under (by omega) _
          · intro j hj
            rcases Nat.lt_or_ge j k with h | h
            · exact HALL.out j h
            · obtain rfl : j = k := by omega
              rw [HE.out]
              exact hw
        case measure => simp [intOf]; omega
    · obtain rfl : sn = k := by omega
      have hnear : Near off xs (ownL xs es off sn) := by
        rw [show sn = xs.length by omega]
        exact own_near v4
      have hdec : decayE (ownL xs es off sn) 0 = 0 := by
        rw [show sn = xs.length by omega]
        exact own_decay v1 v2 (fun j hj => HALL.out j (by omega))
      have z5 := hown.si
      obtain ⟨ys, hys⟩ : ∃ ys, ownL xs es off sn = ys := ⟨_, rfl⟩
      rw [hys] at hnear hdec z5
      have HN := Lib.hid hnear
      have HY := Lib.hid hdec
      have yb : ∀ j : Nat, -10000 ≤ ys[j]?.getD 0 ∧ ys[j]?.getD 0 ≤ 10000 := by
        obtain ⟨_, _, h, _⟩ := decayE_ok hdec
        exact h
      have YB := Lib.hid yb
      clear hnear hdec hys hown HALL yb
      obtain ⟨v, hv⟩ : ∃ x, x = wr := ⟨_, rfl⟩
      subst hv
      have BV := B2.trans (hbr.mono B2.size)
      obtain ⟨b5, hb5⟩ : ∃ b5, w2.heap.size = b5 := ⟨_, rfl⟩
      rw [hb5] at x5r g5 hs5 ⊢
      clear hb5 hbr x1 B2 hA
      have hle : (sn : Int) ≤ (sn : Int) := Int.le_refl _
      have hcx : crF xs off = crossF off 0 (-1) xs := by unfold crF; rw [HZ.out, if_pos rfl]
      have hcd : crF ys 0 = crossF 0 0 (-1) ys := by unfold crF; rw [HY.out, if_pos rfl]
      obtain ⟨C, hC⟩ : ∃ C, crossF off 0 (-1) xs = C := ⟨_, rfl⟩
      obtain ⟨D, hD⟩ : ∃ D, crossF 0 0 (-1) ys = D := ⟨_, rfl⟩
      rw [hC] at hcx
      rw [hD] at hcd
      have HC := Lib.hid hC
      have HD := Lib.hid hD
      have HCX := Lib.hid hcx
      have HCD := Lib.hid hcd
      clear hC hD hcx hcd
      go_wp2_with fail
      refine (CopyDecay_any sa sn sc xs off _ (h3.keep BV) (by omega)).mono ?_
      rintro e v1 ⟨a1, cc1, rfl, o1, hb⟩
      replace x1r := blk_keep x1r hb
      replace x5r := blk_keep x5r hb
      replace z5 := z5.keep hb
      replace BV := BV.trans (hb.mono BV.size)
      clear hb g0 g1 g5 hs5
      go_wp2_with fail
      refine (CrossingsIn_any a1 sn cc1 xs off 0 _ o1 HZ.out).mono ?_
      rintro e v2 ⟨aC, nC, cC, rfl, sC, hb⟩
      rw [HCX.out] at sC
      replace x1r := blk_keep x1r hb
      replace x5r := blk_keep x5r hb
      replace z5 := z5.keep hb
      replace BV := BV.trans (hb.mono BV.size)
      clear hb o1
      have g5 : v2.cell? ⟨b5, 0, none⟩ = some (.slice a' sn c') := cell_block x5r 0
      have g6 : v2.cell? ⟨b5, 1, none⟩ = some (.int .i64 0) := cell_block x5r 1
      go_wp2_with fail
      refine (CopyDecay_any a' sn c' ys 0 _ z5 (by omega)).mono ?_
      rintro e v3 ⟨a3, cc3, rfl, o3, hb⟩
      replace x1r := blk_keep x1r hb
      replace x5r := blk_keep x5r hb
      replace z5 := z5.keep hb
      replace sC := sC.keep hb
      replace BV := BV.trans (hb.mono BV.size)
      clear hb g5 g6
      go_wp2_with fail
      refine (CrossingsIn_any a3 sn cc3 ys 0 0 _ o3 HY.out).mono ?_
      rintro e v4' ⟨aD, nD, cD, rfl, sD, hb⟩
      rw [HCD.out] at sD
      replace x1r := blk_keep x1r hb
      replace x5r := blk_keep x5r hb
      replace z5 := z5.keep hb
      replace sC := sC.keep hb
      replace BV := BV.trans (hb.mono BV.size)
      clear hb o3
      have g0 : v4'.cell? ⟨w.heap.size, 0, none⟩ = some (.slice sa sn sc) := cell_block x1r 0
      have g1 : v4'.cell? ⟨w.heap.size, 1, none⟩ = some (.int .i64 off) := cell_block x1r 1
      go_wp2_with fail
      refine (CopyDecay_any sa sn sc xs off _ (h3.keep BV) (by omega)).mono ?_
      rintro e v5' ⟨a5, cc5, rfl, o5, hb⟩
      replace x1r := blk_keep x1r hb
      replace x5r := blk_keep x5r hb
      replace z5 := z5.keep hb
      replace sC := sC.keep hb
      replace sD := sD.keep hb
      replace BV := BV.trans (hb.mono BV.size)
      clear hb g0 g1
      go_wp2_with fail
      refine (SwingsIn_any a5 sn cc5 xs off 0 _ o5 HZ.out).mono ?_
      rintro e v6 ⟨aS, nS, cS, rfl, sS, hb⟩
      replace x1r := blk_keep x1r hb
      replace x5r := blk_keep x5r hb
      replace z5 := z5.keep hb
      replace sC := sC.keep hb
      replace sD := sD.keep hb
      replace BV := BV.trans (hb.mono BV.size)
      clear hb o5
      obtain ⟨l7, l8⟩ : nC ≤ C.length ∧ C.length ≤ nC := by have := sC.len; omega
      obtain ⟨l9, l10⟩ : nD ≤ D.length ∧ D.length ≤ nD := by have := sD.len; omega
      have hC60 : nC ≤ 60 := by have := crF_len xs off; rw [HCX.out] at this; omega
      have hD60 : nD ≤ 60 := by have := crF_len ys 0; rw [HCD.out] at this; omega
      obtain ⟨l11, l12⟩ : nS ≤ nC - 1 ∧ nC - 1 ≤ nS := by have := sS.len; have := sgF_len xs off; rw [HCX.out] at this; omega
      have hcok := crossF_ok off xs
      rw [HC.out] at hcok
      have hdok := crossF_ok 0 ys
      rw [HD.out] at hdok
      have htc := fun i => true_crossing HN.out i
      rw [HC.out, HD.out] at htc
      have COK := Lib.hid hcok
      have DOK := Lib.hid hdok
      have TC := Lib.hid htc
      clear hcok hdok htc
      have hM1 : (if (0 : Int) < wrap64 ((nC : Int) - 1) then wrap64 ((nC : Int) - 1) else 0) = (nS : Int) := by
        rw [show wrap64 ((nC : Int) - 1) = (nC : Int) - 1 by unfold wrap64; omega]
        split <;> omega
      have hM3 : (if (1 : Int) < (nC : Int) then (nC : Int) - 1 else 0) = (nS : Int) := by split <;> omega
      have hM2 : (if (0 : Int) < (nC : Int) - 1 then (nC : Int) - 1 else 0) = (nS : Int) := by split <;> omega
      go_wp2_with fail
      clear hM1 hM2 hM3
      all_goals
        go_loopw [14, 15, 16, 17] (fun x14 x15 _ _ wr => ∃ (i L c2 : Nat) (a2 : Option Addr) (acc : List (Int × Int)), i ≤ nC ∧ x14 = .slice a2 L c2 ∧ x15 = .int .i64 i ∧ OwR wr v6.heap.size a2 L c2 acc ∧ L ≤ i ∧ i ≤ L ∧ (∀ j, j < i → Ins (C[j]?.getD (0, 0)) (acc[j]?.getD (0, 0))) ∧ Below v6.heap.size v6 wr) (fun _ x _ _ _ => nC - (intOf x).toNat)
        case atStart => exact ⟨0, 0, 0, none, [], by omega, rfl, rfl, OwR.nil _ _, by omega, by omega, fun j hj => absurd hj (by omega), Below.refl _ _⟩
        case round =>
          obtain ⟨i, L, c2, a2, acc, hi, rfl, rfl, hown, hL1, hL2, hins, hbr⟩ := hrel
          have HINS := Lib.hid hins
          clear hins
          by_cases hlt : i < nC
          · obtain ⟨bC, oC, rfl, hcC⟩ := sC.at_ (by omega)
            obtain ⟨bD, oD, rfl, hcD⟩ := sD.at_ (by obtain ⟨k, hk, _⟩ := TC.out i (by omega); omega)
            have hcD' := fun j hj => (⟨cell_keep (hcD j hj).1 hbr, cell_keep (hcD j hj).2 hbr⟩ : _ ∧ _)
            obtain ⟨e1, e2⟩ := hcC i hlt
            replace e1 := cell_keep e1 hbr
            replace e2 := cell_keep e2 hbr
            have HDC := Lib.hid hcD
            obtain ⟨q1, q2, q3, _, _⟩ := COK.out i (by omega)
            obtain ⟨p, hp⟩ : ∃ p, C[i]?.getD (0, 0) = p := ⟨_, rfl⟩
            obtain ⟨h1e, h2e⟩ := hcC i hlt
            have HP := Lib.hid hp
            rw [hp] at e1 e2 q1 q2 q3 h1e h2e
            clear hp hcD hcD'
            obtain ⟨lo, hi'⟩ := p
            dsimp only at e1 e2 q1 q2 q3 h1e h2e
            have E1 := Lib.hid h1e
            have E2 := Lib.hid h2e
            clear h1e h2e
            have x1w := blk_keep x1r hbr
            have g0 : wr.cell? ⟨w.heap.size, 0, none⟩ = some (.slice sa sn sc) := cell_block x1w 0
            have hzr : v6.heap.size ≤ wr.heap.size := hbr.size
            have i1 : (i : Int) < (nC : Int) := by omega
            have i0 : (0 : Int) ≤ (i : Int) := by omega
            have hge : decide ((sn : Int) ≤ hi') = false := by simp; omega
            have hal := hown.len
            obtain ⟨l13, l14⟩ : acc.length ≤ i ∧ i ≤ acc.length := by omega
            have hWI : ∀ w, Calls Try.prog 44 #[.int .i64 lo, .int .i64 0, .int .i64 (hi' - 1)] w fun e w' => e = .returned (.bool true) ∧ w = w' := fun w => by
              have := within_any lo 0 (hi' - 1) w
              rwa [show wIn lo 0 (hi' - 1) = true by simp [wIn]; omega] at this
            have HWI := Lib.hid hWI
            have hins0 := trivial
            clear hal hWI
            rcases Nat.eq_zero_or_pos i with h0 | h0
            · as_aux_lemma =>
              have hd0 : decide (0 < i) = false := by simp; omega
              have hd1 : decide (0 < (i : Int)) = false := by simp; omega
              clear h0 hcC
              go_wp2_with fail
              refine Calmly.wp_region_mix 41 (.fl 0 <| .fl 1 <| .fl 2 <| .fl 3 <| .fl 4 <| .fl 5 <| .fl 6 <| .fl 7 <| .fl 8 <| .fl 9 <| .fl 10 <| .eff 11 <| .fl 12 <| .fl 13 <| .gl 14 <| .gl 15 <| .gl 16 <| .gl 17 <| .gl 18 <| .gl 19 <| .gl 20 <| .gl 21 <| .gl 22 <| .fl 23 <| .fl 24 <| .gl 25 <| .gl 26 <| .gl 27 <| .gl 28 <| .gl 29 <| .gl 30 <| .gl 31 <| .gl 32 <| .gl 33 <| .gl 34 <| .gl 35 <| .gl 36 <| .gl 37 <| .gl 38 <| .gl 39 <| .gl 40 <| .tail [41]) (by kernel_rfl) (by kernel_rfl) ?_
              have hk := Below.refl wr.drew.heap.size wr.drew
              go_wp2_with (first | ((with_reducible refine Calmly.is_fl ?_); refine Calmly.mix_fl rfl ?_ (fun _ _ => ?_); (first | exact .move _ | exact .load _ _ | exact .fieldAddr _ _ _ (by kernel_rfl) | exact .assign _ | exact .binOp _ _ _ _ _ rfl | exact .indexAddr _ _ _ | exact .len _ _ (by kernel_rfl) | exact .field _ _ _ | exact .extract _ _ | exact .pick _ _ _ | exact .build _ _ | exact .slice _ _ _ _ _ | exact .unOp _ _ _ rfl | exact .index _ _ _ | exact .max _ _ _ rfl rfl | exact .min _ _ _ rfl rfl)) | ((with_reducible refine Calmly.is_gl ?_); refine Calmly.mix_gl rfl rfl rfl ?_; first | ((first | with_reducible refine Calmly.gl_tt ?_ (fun _ _ => ?_) | with_reducible refine Calmly.gl_ff ?_ (fun _ _ => ?_)); (first | exact .move _ | exact .load _ _ | exact .fieldAddr _ _ _ (by kernel_rfl) | exact .assign _ | exact .binOp _ _ _ _ _ rfl | exact .indexAddr _ _ _ | exact .len _ _ (by kernel_rfl) | exact .field _ _ _ | exact .extract _ _ | exact .pick _ _ _ | exact .build _ _ | exact .slice _ _ _ _ _ | exact .unOp _ _ _ rfl | exact .index _ _ _ | exact .max _ _ _ rfl rfl | exact .min _ _ _ rfl rfl)) | with_reducible refine Calmly.gl_tf (fun _ _ => ?_) | with_reducible refine Calmly.gl_ft (fun _ _ => ?_)) | ((with_reducible refine Calmly.is_eff ?_); refine Calmly.mix_eff rfl (fun _ _ => ?_)) | ((with_reducible refine Calmly.is_gf ?_); refine Calmly.mix_gf rfl rfl rfl ?_; first | with_reducible refine Calmly.gf_tt (fun _ _ => ?_) | with_reducible refine Calmly.gf_ff (fun _ _ => ?_) | with_reducible refine Calmly.gf_tf (kept_of hk) (fun _ _ => ?_) | with_reducible refine Calmly.gf_ft (kept_of hk) (fun _ _ => ?_)) | ((with_reducible refine Calmly.is_tail ?_); first | refine Calmly.mix_tail_nil ?_ | refine Calmly.mix_tail rfl (fun _ _ => ?_)) | ((with_reducible refine Calmly.is_kept ?_); refine ⟨kept_of hk, ?_⟩) | (with_reducible refine Calmly.mix_alt ?_ ?_) | (go_at_call 44; refine (HWI.out _).mono ?_; rintro e w' ⟨rfl, rfl⟩))
              clear hk e1 e2 g0 x1w hins0
              go_loopw [14, 16, 17] (fun x14 x16 x17 wz => ∃ (k : Nat), k ≤ nD ∧ x17 = .int .i64 k ∧ ((x16 = .bool false ∧ x14 = .slice a2 L c2 ∧ OwR wz v6.heap.size a2 L c2 acc ∧ ∀ j, j < k → ¬ Ins (lo, hi') (D[j]?.getD (0, 0))) ∨ (x16 = .bool true ∧ ∃ (c3 : Nat) (a3 : Option Addr) (d : Int × Int), x14 = .slice a3 (L + 1) c3 ∧ OwR wz v6.heap.size a3 (L + 1) c3 (acc ++ [d]) ∧ Ins (lo, hi') d)) ∧ Below v6.heap.size v6 wz) (fun _ _ x17 _ => nD - (intOf x17).toNat)
              case atStart => exact ⟨0, by omega, rfl, .inl ⟨rfl, rfl, hown.drew, fun j hj => absurd hj (by omega)⟩, hbr.drew⟩
              case round =>
                clear hown hbr hzr
                obtain ⟨wz, hwz⟩ : ∃ x, x = wr := ⟨_, rfl⟩
                subst hwz
                obtain ⟨k, hkk, rfl, hcase, hbz⟩ := hrel
                have hzs : v6.heap.size ≤ wz.heap.size := hbz.size
                have k0 : (0 : Int) ≤ (k : Int) := by omega
                rcases hcase with ⟨rfl, rfl, hown, hnone⟩ | ⟨rfl, c3, a3, d, rfl, hown, hd⟩
                · have HNO := Lib.hid hnone
                  clear hnone
                  by_cases hlt2 : k < nD
                  · have e1 := cell_keep E1.out hbz
                    have e2 := cell_keep E2.out hbz
                    obtain ⟨d1, d2⟩ := HDC.out k hlt2
                    replace d1 := cell_keep d1 hbz
                    replace d2 := cell_keep d2 hbz
                    obtain ⟨q4, q5, q6, _, _⟩ := DOK.out k (by omega)
                    obtain ⟨dd, hdd⟩ : ∃ dd, D[k]?.getD (0, 0) = dd := ⟨_, rfl⟩
                    rw [hdd] at d1 d2 q4 q5 q6
                    have HDD := Lib.hid hdd
                    clear hdd
                    obtain ⟨dlo, dhi⟩ := dd
                    dsimp only at d1 d2 q4 q5 q6
                    have k1 : (k : Int) < (nD : Int) := by omega
                    by_cases t1 : lo ≤ dlo
                    · by_cases t2 : dhi ≤ hi'
                      · go_wp2_with fail
                        refine Calmly.wp_region_mix 23 (.fl 0 <| .fl 1 <| .fl 2 <| .fl 3 <| .fl 4 <| .fl 5 <| .fl 6 <| .fl 7 <| .fl 8 <| .fl 9 <| .fl 10 <| .fl 11 <| .gl 12 <| .gl 13 <| .gl 14 <| .gl 15 <| .gl 16 <| .gl 17 <| .gl 18 <| .gl 19 <| .gl 20 <| .gl 21 <| .gl 22 <| .tail [23]) (by kernel_rfl) (by kernel_rfl) ?_
                        go_wp2_with (first | (refine appRg wz.drew (l := acc) rfl rfl _ _ rfl hown.drew rfl rfl (by omega) (by show _ ≤ wz.heap.size; omega) ?_; intro a4 c4 w6 ho6 hb6 hs6) | ((with_reducible refine Calmly.is_fl ?_); refine Calmly.mix_fl rfl ?_ (fun _ _ => ?_); (first | exact .move _ | exact .load _ _ | exact .fieldAddr _ _ _ (by kernel_rfl) | exact .assign _ | exact .binOp _ _ _ _ _ rfl | exact .indexAddr _ _ _ | exact .len _ _ (by kernel_rfl) | exact .field _ _ _ | exact .extract _ _ | exact .pick _ _ _ | exact .build _ _ | exact .slice _ _ _ _ _ | exact .unOp _ _ _ rfl | exact .index _ _ _ | exact .max _ _ _ rfl rfl | exact .min _ _ _ rfl rfl)) | ((with_reducible refine Calmly.is_gl ?_); refine Calmly.mix_gl rfl rfl rfl ?_; first | ((first | with_reducible refine Calmly.gl_tt ?_ (fun _ _ => ?_) | with_reducible refine Calmly.gl_ff ?_ (fun _ _ => ?_)); (first | exact .move _ | exact .load _ _ | exact .fieldAddr _ _ _ (by kernel_rfl) | exact .assign _ | exact .binOp _ _ _ _ _ rfl | exact .indexAddr _ _ _ | exact .len _ _ (by kernel_rfl) | exact .field _ _ _ | exact .extract _ _ | exact .pick _ _ _ | exact .build _ _ | exact .slice _ _ _ _ _ | exact .unOp _ _ _ rfl | exact .index _ _ _ | exact .max _ _ _ rfl rfl | exact .min _ _ _ rfl rfl)) | with_reducible refine Calmly.gl_tf (fun _ _ => ?_) | with_reducible refine Calmly.gl_ft (fun _ _ => ?_)) | ((with_reducible refine Calmly.is_eff ?_); refine Calmly.mix_eff rfl (fun _ _ => ?_)) | ((with_reducible refine Calmly.is_gf ?_); refine Calmly.mix_gf rfl rfl rfl ?_; first | with_reducible refine Calmly.gf_tt (fun _ _ => ?_) | with_reducible refine Calmly.gf_ff (fun _ _ => ?_) | with_reducible refine Calmly.gf_tf (kept_of hk) (fun _ _ => ?_) | with_reducible refine Calmly.gf_ft (kept_of hk) (fun _ _ => ?_)) | ((with_reducible refine Calmly.is_tail ?_); first | refine Calmly.mix_tail_nil ?_ | refine Calmly.mix_tail rfl (fun _ _ => ?_)) | ((with_reducible refine Calmly.is_kept ?_); refine ⟨kept_of hk, ?_⟩) | (with_reducible refine Calmly.mix_alt ?_ ?_))
                        go_roundw
                        case rel => exact ⟨k + 1, by omega, by go_num, .inr ⟨rfl, c4, a4, (dlo, dhi), rfl, ho6, ⟨t1, q5, t2⟩⟩, hbz.drew.trans hb6⟩
                        case measure => simp [intOf]; omega
                      · have t2' : decide (dhi ≤ hi') = false := by simp; omega
                        go_wp2_with fail
                        refine Calmly.wp_region_mix 23 (.fl 0 <| .fl 1 <| .fl 2 <| .fl 3 <| .fl 4 <| .fl 5 <| .fl 6 <| .fl 7 <| .fl 8 <| .fl 9 <| .fl 10 <| .fl 11 <| .gl 12 <| .gl 13 <| .gl 14 <| .gl 15 <| .gl 16 <| .gl 17 <| .gl 18 <| .gl 19 <| .gl 20 <| .gl 21 <| .gl 22 <| .tail [23]) (by kernel_rfl) (by kernel_rfl) ?_
                        go_wp2_with (first | ((with_reducible refine Calmly.is_fl ?_); refine Calmly.mix_fl rfl ?_ (fun _ _ => ?_); (first | exact .move _ | exact .load _ _ | exact .fieldAddr _ _ _ (by kernel_rfl) | exact .assign _ | exact .binOp _ _ _ _ _ rfl | exact .indexAddr _ _ _ | exact .len _ _ (by kernel_rfl) | exact .field _ _ _ | exact .extract _ _ | exact .pick _ _ _ | exact .build _ _ | exact .slice _ _ _ _ _ | exact .unOp _ _ _ rfl | exact .index _ _ _ | exact .max _ _ _ rfl rfl | exact .min _ _ _ rfl rfl)) | ((with_reducible refine Calmly.is_gl ?_); refine Calmly.mix_gl rfl rfl rfl ?_; first | ((first | with_reducible refine Calmly.gl_tt ?_ (fun _ _ => ?_) | with_reducible refine Calmly.gl_ff ?_ (fun _ _ => ?_)); (first | exact .move _ | exact .load _ _ | exact .fieldAddr _ _ _ (by kernel_rfl) | exact .assign _ | exact .binOp _ _ _ _ _ rfl | exact .indexAddr _ _ _ | exact .len _ _ (by kernel_rfl) | exact .field _ _ _ | exact .extract _ _ | exact .pick _ _ _ | exact .build _ _ | exact .slice _ _ _ _ _ | exact .unOp _ _ _ rfl | exact .index _ _ _ | exact .max _ _ _ rfl rfl | exact .min _ _ _ rfl rfl)) | with_reducible refine Calmly.gl_tf (fun _ _ => ?_) | with_reducible refine Calmly.gl_ft (fun _ _ => ?_)) | ((with_reducible refine Calmly.is_eff ?_); refine Calmly.mix_eff rfl (fun _ _ => ?_)) | ((with_reducible refine Calmly.is_gf ?_); refine Calmly.mix_gf rfl rfl rfl ?_; first | with_reducible refine Calmly.gf_tt (fun _ _ => ?_) | with_reducible refine Calmly.gf_ff (fun _ _ => ?_) | with_reducible refine Calmly.gf_tf (kept_of hk) (fun _ _ => ?_) | with_reducible refine Calmly.gf_ft (kept_of hk) (fun _ _ => ?_)) | ((with_reducible refine Calmly.is_tail ?_); first | refine Calmly.mix_tail_nil ?_ | refine Calmly.mix_tail rfl (fun _ _ => ?_)) | ((with_reducible refine Calmly.is_kept ?_); refine ⟨kept_of hk, ?_⟩) | (with_reducible refine Calmly.mix_alt ?_ ?_))
                        go_roundw
                        case rel =>
                          refine ⟨k + 1, by omega, by go_num, .inl ⟨rfl, rfl, hown.drew, fun j hj => ?_⟩, hbz.drew⟩
                          rcases Nat.lt_or_ge j k with h | h
                          · exact HNO.out j h
                          · obtain rfl : j = k := by omega
                            rw [HDD.out]
                            exact fun h => absurd h.hi (by omega)
                        case measure => simp [intOf]; omega
                    · have t1' : decide (lo ≤ dlo) = false := by simp; omega
                      go_wp2_with fail
                      refine Calmly.wp_region_mix 23 (.fl 0 <| .fl 1 <| .fl 2 <| .fl 3 <| .fl 4 <| .fl 5 <| .fl 6 <| .fl 7 <| .fl 8 <| .fl 9 <| .fl 10 <| .fl 11 <| .gl 12 <| .gl 13 <| .gl 14 <| .gl 15 <| .gl 16 <| .gl 17 <| .gl 18 <| .gl 19 <| .gl 20 <| .gl 21 <| .gl 22 <| .tail [23]) (by kernel_rfl) (by kernel_rfl) ?_
                      go_wp2_with (first | ((with_reducible refine Calmly.is_fl ?_); refine Calmly.mix_fl rfl ?_ (fun _ _ => ?_); (first | exact .move _ | exact .load _ _ | exact .fieldAddr _ _ _ (by kernel_rfl) | exact .assign _ | exact .binOp _ _ _ _ _ rfl | exact .indexAddr _ _ _ | exact .len _ _ (by kernel_rfl) | exact .field _ _ _ | exact .extract _ _ | exact .pick _ _ _ | exact .build _ _ | exact .slice _ _ _ _ _ | exact .unOp _ _ _ rfl | exact .index _ _ _ | exact .max _ _ _ rfl rfl | exact .min _ _ _ rfl rfl)) | ((with_reducible refine Calmly.is_gl ?_); refine Calmly.mix_gl rfl rfl rfl ?_; first | ((first | with_reducible refine Calmly.gl_tt ?_ (fun _ _ => ?_) | with_reducible refine Calmly.gl_ff ?_ (fun _ _ => ?_)); (first | exact .move _ | exact .load _ _ | exact .fieldAddr _ _ _ (by kernel_rfl) | exact .assign _ | exact .binOp _ _ _ _ _ rfl | exact .indexAddr _ _ _ | exact .len _ _ (by kernel_rfl) | exact .field _ _ _ | exact .extract _ _ | exact .pick _ _ _ | exact .build _ _ | exact .slice _ _ _ _ _ | exact .unOp _ _ _ rfl | exact .index _ _ _ | exact .max _ _ _ rfl rfl | exact .min _ _ _ rfl rfl)) | with_reducible refine Calmly.gl_tf (fun _ _ => ?_) | with_reducible refine Calmly.gl_ft (fun _ _ => ?_)) | ((with_reducible refine Calmly.is_eff ?_); refine Calmly.mix_eff rfl (fun _ _ => ?_)) | ((with_reducible refine Calmly.is_gf ?_); refine Calmly.mix_gf rfl rfl rfl ?_; first | with_reducible refine Calmly.gf_tt (fun _ _ => ?_) | with_reducible refine Calmly.gf_ff (fun _ _ => ?_) | with_reducible refine Calmly.gf_tf (kept_of hk) (fun _ _ => ?_) | with_reducible refine Calmly.gf_ft (kept_of hk) (fun _ _ => ?_)) | ((with_reducible refine Calmly.is_tail ?_); first | refine Calmly.mix_tail_nil ?_ | refine Calmly.mix_tail rfl (fun _ _ => ?_)) | ((with_reducible refine Calmly.is_kept ?_); refine ⟨kept_of hk, ?_⟩) | (with_reducible refine Calmly.mix_alt ?_ ?_))
                      go_roundw
                      case rel =>
                        refine ⟨k + 1, by omega, by go_num, .inl ⟨rfl, rfl, hown.drew, fun j hj => ?_⟩, hbz.drew⟩
                        rcases Nat.lt_or_ge j k with h | h
                        · exact HNO.out j h
                        · obtain rfl : j = k := by omega
                          rw [HDD.out]
                          exact fun h => absurd h.lo (by omega)
                      case measure => simp [intOf]; omega
                  · exfalso
                    obtain ⟨kk, h1, h2, h3⟩ := TC.out i (by omega)
                    rw [HP.out] at h2 h3
                    exact HNO.out kk (by omega) ⟨h2, (DOK.out kk (by omega)).2.1, h3⟩
                · have hrel2 : ∀ j, j < i + 1 → Ins (C[j]?.getD (0, 0)) ((acc ++ [d])[j]?.getD (0, 0)) := fun j hj => by
                    rcases Nat.lt_or_ge j (i) with h | h
                    · rw [List.getElem?_append_left (by omega)]
                      exact HINS.out j h
                    · rw [show j = i by omega]
                      rw [List.getElem?_append_right (by omega), show i - acc.length = 0 by omega, HP.out]
                      exact hd
                  by_cases hlt2 : k < nD
                  · have k1 : (k : Int) < (nD : Int) := by omega
                    go_wp2_with fail
                    go_roundw
                    case rel => exact ⟨i + 1, L + 1, c3, a3, acc ++ [d], by omega, rfl, by go_num, hown, by omega, by omega, hrel2, hbz⟩
                    case measure => simp [intOf]; omega
                  · have k1 : (nD : Int) ≤ (k : Int) := by omega
                    go_wp2_with fail
                    go_roundw
                    case rel => exact ⟨i + 1, L + 1, c3, a3, acc ++ [d], by omega, rfl, by go_num, hown, by omega, by omega, hrel2, hbz⟩
                    case measure => simp [intOf]; omega
            · as_aux_lemma =>
              have hd0 : (0 : Int) < (i : Int) := by omega
              obtain ⟨e3, e4⟩ := hcC (i - 1) (by omega)
              replace e4 := cell_keep e4 hbr
              obtain ⟨_, _, _, _, q9⟩ := COK.out (i - 1) (by omega)
              replace q9 := q9 (by omega)
              rw [show i - 1 + 1 = i by omega, HP.out] at q9
              dsimp only at q9
              obtain ⟨j, rfl⟩ : ∃ j, i = j + 1 := ⟨i - 1, by omega⟩
              simp only [Nat.add_sub_cancel] at e4 q9
              obtain ⟨ph, hph⟩ : ∃ ph, (C[j]?.getD (0, 0)).2 = ph := ⟨_, rfl⟩
              rw [hph] at e4 q9
              clear e3 hph hcC
              have hj1 : ((j : Int) + 1 - 1).toNat = j := by omega
              have hj2 : (0 : Int) ≤ (j : Int) + 1 - 1 := by omega
              have hj3 : (j : Int) + 1 - 1 < (nC : Int) := by omega
              have hj4 : decide (lo < ph) = false := by simp; omega
              go_wp2_with fail
              refine Calmly.wp_region_mix 41 (.fl 0 <| .fl 1 <| .fl 2 <| .fl 3 <| .fl 4 <| .fl 5 <| .fl 6 <| .fl 7 <| .fl 8 <| .fl 9 <| .fl 10 <| .eff 11 <| .fl 12 <| .fl 13 <| .gl 14 <| .gl 15 <| .gl 16 <| .gl 17 <| .gl 18 <| .gl 19 <| .gl 20 <| .gl 21 <| .gl 22 <| .fl 23 <| .fl 24 <| .gl 25 <| .gl 26 <| .gl 27 <| .gl 28 <| .gl 29 <| .gl 30 <| .gl 31 <| .gl 32 <| .gl 33 <| .gl 34 <| .gl 35 <| .gl 36 <| .gl 37 <| .gl 38 <| .gl 39 <| .gl 40 <| .tail [41]) (by kernel_rfl) (by kernel_rfl) ?_
              have hk := Below.refl wr.drew.heap.size wr.drew
              go_wp2_with (first | ((with_reducible refine Calmly.is_fl ?_); refine Calmly.mix_fl rfl ?_ (fun _ _ => ?_); (first | exact .move _ | exact .load _ _ | exact .fieldAddr _ _ _ (by kernel_rfl) | exact .assign _ | exact .binOp _ _ _ _ _ rfl | exact .indexAddr _ _ _ | exact .len _ _ (by kernel_rfl) | exact .field _ _ _ | exact .extract _ _ | exact .pick _ _ _ | exact .build _ _ | exact .slice _ _ _ _ _ | exact .unOp _ _ _ rfl | exact .index _ _ _ | exact .max _ _ _ rfl rfl | exact .min _ _ _ rfl rfl)) | ((with_reducible refine Calmly.is_gl ?_); refine Calmly.mix_gl rfl rfl rfl ?_; first | ((first | with_reducible refine Calmly.gl_tt ?_ (fun _ _ => ?_) | with_reducible refine Calmly.gl_ff ?_ (fun _ _ => ?_)); (first | exact .move _ | exact .load _ _ | exact .fieldAddr _ _ _ (by kernel_rfl) | exact .assign _ | exact .binOp _ _ _ _ _ rfl | exact .indexAddr _ _ _ | exact .len _ _ (by kernel_rfl) | exact .field _ _ _ | exact .extract _ _ | exact .pick _ _ _ | exact .build _ _ | exact .slice _ _ _ _ _ | exact .unOp _ _ _ rfl | exact .index _ _ _ | exact .max _ _ _ rfl rfl | exact .min _ _ _ rfl rfl)) | with_reducible refine Calmly.gl_tf (fun _ _ => ?_) | with_reducible refine Calmly.gl_ft (fun _ _ => ?_)) | ((with_reducible refine Calmly.is_eff ?_); refine Calmly.mix_eff rfl (fun _ _ => ?_)) | ((with_reducible refine Calmly.is_gf ?_); refine Calmly.mix_gf rfl rfl rfl ?_; first | with_reducible refine Calmly.gf_tt (fun _ _ => ?_) | with_reducible refine Calmly.gf_ff (fun _ _ => ?_) | with_reducible refine Calmly.gf_tf (kept_of hk) (fun _ _ => ?_) | with_reducible refine Calmly.gf_ft (kept_of hk) (fun _ _ => ?_)) | ((with_reducible refine Calmly.is_tail ?_); first | refine Calmly.mix_tail_nil ?_ | refine Calmly.mix_tail rfl (fun _ _ => ?_)) | ((with_reducible refine Calmly.is_kept ?_); refine ⟨kept_of hk, ?_⟩) | (with_reducible refine Calmly.mix_alt ?_ ?_) | (go_at_call 44; refine (HWI.out _).mono ?_; rintro e w' ⟨rfl, rfl⟩))
              clear hk e1 e2 g0 x1w hins0 e4 hj1 hj2 hj3 hj4
              go_loopw [14, 16, 17] (fun x14 x16 x17 wz => ∃ (k : Nat), k ≤ nD ∧ x17 = .int .i64 k ∧ ((x16 = .bool false ∧ x14 = .slice a2 L c2 ∧ OwR wz v6.heap.size a2 L c2 acc ∧ ∀ j, j < k → ¬ Ins (lo, hi') (D[j]?.getD (0, 0))) ∨ (x16 = .bool true ∧ ∃ (c3 : Nat) (a3 : Option Addr) (d : Int × Int), x14 = .slice a3 (L + 1) c3 ∧ OwR wz v6.heap.size a3 (L + 1) c3 (acc ++ [d]) ∧ Ins (lo, hi') d)) ∧ Below v6.heap.size v6 wz) (fun _ _ x17 _ => nD - (intOf x17).toNat)
              case atStart => exact ⟨0, by omega, rfl, .inl ⟨rfl, rfl, hown.drew, fun j hj => absurd hj (by omega)⟩, hbr.drew⟩
              case round =>
                clear hown hbr hzr
                obtain ⟨wz, hwz⟩ : ∃ x, x = wr := ⟨_, rfl⟩
                subst hwz
                obtain ⟨k, hkk, rfl, hcase, hbz⟩ := hrel
                have hzs : v6.heap.size ≤ wz.heap.size := hbz.size
                have k0 : (0 : Int) ≤ (k : Int) := by omega
                rcases hcase with ⟨rfl, rfl, hown, hnone⟩ | ⟨rfl, c3, a3, d, rfl, hown, hd⟩
                · have HNO := Lib.hid hnone
                  clear hnone
                  by_cases hlt2 : k < nD
                  · have e1 := cell_keep E1.out hbz
                    have e2 := cell_keep E2.out hbz
                    obtain ⟨d1, d2⟩ := HDC.out k hlt2
                    replace d1 := cell_keep d1 hbz
                    replace d2 := cell_keep d2 hbz
                    obtain ⟨q4, q5, q6, _, _⟩ := DOK.out k (by omega)
                    obtain ⟨dd, hdd⟩ : ∃ dd, D[k]?.getD (0, 0) = dd := ⟨_, rfl⟩
                    rw [hdd] at d1 d2 q4 q5 q6
                    have HDD := Lib.hid hdd
                    clear hdd
                    obtain ⟨dlo, dhi⟩ := dd
                    dsimp only at d1 d2 q4 q5 q6
                    have k1 : (k : Int) < (nD : Int) := by omega
                    by_cases t1 : lo ≤ dlo
                    · by_cases t2 : dhi ≤ hi'
                      · go_wp2_with fail
                        refine Calmly.wp_region_mix 23 (.fl 0 <| .fl 1 <| .fl 2 <| .fl 3 <| .fl 4 <| .fl 5 <| .fl 6 <| .fl 7 <| .fl 8 <| .fl 9 <| .fl 10 <| .fl 11 <| .gl 12 <| .gl 13 <| .gl 14 <| .gl 15 <| .gl 16 <| .gl 17 <| .gl 18 <| .gl 19 <| .gl 20 <| .gl 21 <| .gl 22 <| .tail [23]) (by kernel_rfl) (by kernel_rfl) ?_
                        go_wp2_with (first | (refine appRg wz.drew (l := acc) rfl rfl _ _ rfl hown.drew rfl rfl (by omega) (by show _ ≤ wz.heap.size; omega) ?_; intro a4 c4 w6 ho6 hb6 hs6) | ((with_reducible refine Calmly.is_fl ?_); refine Calmly.mix_fl rfl ?_ (fun _ _ => ?_); (first | exact .move _ | exact .load _ _ | exact .fieldAddr _ _ _ (by kernel_rfl) | exact .assign _ | exact .binOp _ _ _ _ _ rfl | exact .indexAddr _ _ _ | exact .len _ _ (by kernel_rfl) | exact .field _ _ _ | exact .extract _ _ | exact .pick _ _ _ | exact .build _ _ | exact .slice _ _ _ _ _ | exact .unOp _ _ _ rfl | exact .index _ _ _ | exact .max _ _ _ rfl rfl | exact .min _ _ _ rfl rfl)) | ((with_reducible refine Calmly.is_gl ?_); refine Calmly.mix_gl rfl rfl rfl ?_; first | ((first | with_reducible refine Calmly.gl_tt ?_ (fun _ _ => ?_) | with_reducible refine Calmly.gl_ff ?_ (fun _ _ => ?_)); (first | exact .move _ | exact .load _ _ | exact .fieldAddr _ _ _ (by kernel_rfl) | exact .assign _ | exact .binOp _ _ _ _ _ rfl | exact .indexAddr _ _ _ | exact .len _ _ (by kernel_rfl) | exact .field _ _ _ | exact .extract _ _ | exact .pick _ _ _ | exact .build _ _ | exact .slice _ _ _ _ _ | exact .unOp _ _ _ rfl | exact .index _ _ _ | exact .max _ _ _ rfl rfl | exact .min _ _ _ rfl rfl)) | with_reducible refine Calmly.gl_tf (fun _ _ => ?_) | with_reducible refine Calmly.gl_ft (fun _ _ => ?_)) | ((with_reducible refine Calmly.is_eff ?_); refine Calmly.mix_eff rfl (fun _ _ => ?_)) | ((with_reducible refine Calmly.is_gf ?_); refine Calmly.mix_gf rfl rfl rfl ?_; first | with_reducible refine Calmly.gf_tt (fun _ _ => ?_) | with_reducible refine Calmly.gf_ff (fun _ _ => ?_) | with_reducible refine Calmly.gf_tf (kept_of hk) (fun _ _ => ?_) | with_reducible refine Calmly.gf_ft (kept_of hk) (fun _ _ => ?_)) | ((with_reducible refine Calmly.is_tail ?_); first | refine Calmly.mix_tail_nil ?_ | refine Calmly.mix_tail rfl (fun _ _ => ?_)) | ((with_reducible refine Calmly.is_kept ?_); refine ⟨kept_of hk, ?_⟩) | (with_reducible refine Calmly.mix_alt ?_ ?_))
                        go_roundw
                        case rel => exact ⟨k + 1, by omega, by go_num, .inr ⟨rfl, c4, a4, (dlo, dhi), rfl, ho6, ⟨t1, q5, t2⟩⟩, hbz.drew.trans hb6⟩
                        case measure => simp [intOf]; omega
                      · have t2' : decide (dhi ≤ hi') = false := by simp; omega
                        go_wp2_with fail
                        refine Calmly.wp_region_mix 23 (.fl 0 <| .fl 1 <| .fl 2 <| .fl 3 <| .fl 4 <| .fl 5 <| .fl 6 <| .fl 7 <| .fl 8 <| .fl 9 <| .fl 10 <| .fl 11 <| .gl 12 <| .gl 13 <| .gl 14 <| .gl 15 <| .gl 16 <| .gl 17 <| .gl 18 <| .gl 19 <| .gl 20 <| .gl 21 <| .gl 22 <| .tail [23]) (by kernel_rfl) (by kernel_rfl) ?_
                        go_wp2_with (first | ((with_reducible refine Calmly.is_fl ?_); refine Calmly.mix_fl rfl ?_ (fun _ _ => ?_); (first | exact .move _ | exact .load _ _ | exact .fieldAddr _ _ _ (by kernel_rfl) | exact .assign _ | exact .binOp _ _ _ _ _ rfl | exact .indexAddr _ _ _ | exact .len _ _ (by kernel_rfl) | exact .field _ _ _ | exact .extract _ _ | exact .pick _ _ _ | exact .build _ _ | exact .slice _ _ _ _ _ | exact .unOp _ _ _ rfl | exact .index _ _ _ | exact .max _ _ _ rfl rfl | exact .min _ _ _ rfl rfl)) | ((with_reducible refine Calmly.is_gl ?_); refine Calmly.mix_gl rfl rfl rfl ?_; first | ((first | with_reducible refine Calmly.gl_tt ?_ (fun _ _ => ?_) | with_reducible refine Calmly.gl_ff ?_ (fun _ _ => ?_)); (first | exact .move _ | exact .load _ _ | exact .fieldAddr _ _ _ (by kernel_rfl) | exact .assign _ | exact .binOp _ _ _ _ _ rfl | exact .indexAddr _ _ _ | exact .len _ _ (by kernel_rfl) | exact .field _ _ _ | exact .extract _ _ | exact .pick _ _ _ | exact .build _ _ | exact .slice _ _ _ _ _ | exact .unOp _ _ _ rfl | exact .index _ _ _ | exact .max _ _ _ rfl rfl | exact .min _ _ _ rfl rfl)) | with_reducible refine Calmly.gl_tf (fun _ _ => ?_) | with_reducible refine Calmly.gl_ft (fun _ _ => ?_)) | ((with_reducible refine Calmly.is_eff ?_); refine Calmly.mix_eff rfl (fun _ _ => ?_)) | ((with_reducible refine Calmly.is_gf ?_); refine Calmly.mix_gf rfl rfl rfl ?_; first | with_reducible refine Calmly.gf_tt (fun _ _ => ?_) | with_reducible refine Calmly.gf_ff (fun _ _ => ?_) | with_reducible refine Calmly.gf_tf (kept_of hk) (fun _ _ => ?_) | with_reducible refine Calmly.gf_ft (kept_of hk) (fun _ _ => ?_)) | ((with_reducible refine Calmly.is_tail ?_); first | refine Calmly.mix_tail_nil ?_ | refine Calmly.mix_tail rfl (fun _ _ => ?_)) | ((with_reducible refine Calmly.is_kept ?_); refine ⟨kept_of hk, ?_⟩) | (with_reducible refine Calmly.mix_alt ?_ ?_))
                        go_roundw
                        case rel =>
                          refine ⟨k + 1, by omega, by go_num, .inl ⟨rfl, rfl, hown.drew, fun t hj => ?_⟩, hbz.drew⟩
                          rcases Nat.lt_or_ge t k with h | h
                          · exact HNO.out t h
                          · obtain rfl : t = k := by omega
                            rw [HDD.out]
                            exact fun h => absurd h.hi (by omega)
                        case measure => simp [intOf]; omega
                    · have t1' : decide (lo ≤ dlo) = false := by simp; omega
                      go_wp2_with fail
                      refine Calmly.wp_region_mix 23 (.fl 0 <| .fl 1 <| .fl 2 <| .fl 3 <| .fl 4 <| .fl 5 <| .fl 6 <| .fl 7 <| .fl 8 <| .fl 9 <| .fl 10 <| .fl 11 <| .gl 12 <| .gl 13 <| .gl 14 <| .gl 15 <| .gl 16 <| .gl 17 <| .gl 18 <| .gl 19 <| .gl 20 <| .gl 21 <| .gl 22 <| .tail [23]) (by kernel_rfl) (by kernel_rfl) ?_
                      go_wp2_with (first | ((with_reducible refine Calmly.is_fl ?_); refine Calmly.mix_fl rfl ?_ (fun _ _ => ?_); (first | exact .move _ | exact .load _ _ | exact .fieldAddr _ _ _ (by kernel_rfl) | exact .assign _ | exact .binOp _ _ _ _ _ rfl | exact .indexAddr _ _ _ | exact .len _ _ (by kernel_rfl) | exact .field _ _ _ | exact .extract _ _ | exact .pick _ _ _ | exact .build _ _ | exact .slice _ _ _ _ _ | exact .unOp _ _ _ rfl | exact .index _ _ _ | exact .max _ _ _ rfl rfl | exact .min _ _ _ rfl rfl)) | ((with_reducible refine Calmly.is_gl ?_); refine Calmly.mix_gl rfl rfl rfl ?_; first | ((first | with_reducible refine Calmly.gl_tt ?_ (fun _ _ => ?_) | with_reducible refine Calmly.gl_ff ?_ (fun _ _ => ?_)); (first | exact .move _ | exact .load _ _ | exact .fieldAddr _ _ _ (by kernel_rfl) | exact .assign _ | exact .binOp _ _ _ _ _ rfl | exact .indexAddr _ _ _ | exact .len _ _ (by kernel_rfl) | exact .field _ _ _ | exact .extract _ _ | exact .pick _ _ _ | exact .build _ _ | exact .slice _ _ _ _ _ | exact .unOp _ _ _ rfl | exact .index _ _ _ | exact .max _ _ _ rfl rfl | exact .min _ _ _ rfl rfl)) | with_reducible refine Calmly.gl_tf (fun _ _ => ?_) | with_reducible refine Calmly.gl_ft (fun _ _ => ?_)) | ((with_reducible refine Calmly.is_eff ?_); refine Calmly.mix_eff rfl (fun _ _ => ?_)) | ((with_reducible refine Calmly.is_gf ?_); refine Calmly.mix_gf rfl rfl rfl ?_; first | with_reducible refine Calmly.gf_tt (fun _ _ => ?_) | with_reducible refine Calmly.gf_ff (fun _ _ => ?_) | with_reducible refine Calmly.gf_tf (kept_of hk) (fun _ _ => ?_) | with_reducible refine Calmly.gf_ft (kept_of hk) (fun _ _ => ?_)) | ((with_reducible refine Calmly.is_tail ?_); first | refine Calmly.mix_tail_nil ?_ | refine Calmly.mix_tail rfl (fun _ _ => ?_)) | ((with_reducible refine Calmly.is_kept ?_); refine ⟨kept_of hk, ?_⟩) | (with_reducible refine Calmly.mix_alt ?_ ?_))
                      go_roundw
                      case rel =>
                        refine ⟨k + 1, by omega, by go_num, .inl ⟨rfl, rfl, hown.drew, fun t hj => ?_⟩, hbz.drew⟩
                        rcases Nat.lt_or_ge t k with h | h
                        · exact HNO.out t h
                        · obtain rfl : t = k := by omega
                          rw [HDD.out]
                          exact fun h => absurd h.lo (by omega)
                      case measure => simp [intOf]; omega
                  · exfalso
                    obtain ⟨kk, h1, h2, h3⟩ := TC.out (j + 1) (by omega)
                    rw [HP.out] at h2 h3
                    exact HNO.out kk (by omega) ⟨h2, (DOK.out kk (by omega)).2.1, h3⟩
                · have hrel2 : ∀ t, t < (j + 1) + 1 → Ins (C[t]?.getD (0, 0)) ((acc ++ [d])[t]?.getD (0, 0)) := fun t hj => by
                    rcases Nat.lt_or_ge t (j + 1) with h | h
                    · rw [List.getElem?_append_left (by omega)]
                      exact HINS.out t h
                    · obtain rfl : t = j + 1 := by omega
                      rw [List.getElem?_append_right (by omega), show (j + 1) - acc.length = 0 by omega, HP.out]
                      exact hd
                  by_cases hlt2 : k < nD
                  · have k1 : (k : Int) < (nD : Int) := by omega
                    go_wp2_with fail
                    go_roundw
                    case rel => exact ⟨(j + 1) + 1, L + 1, c3, a3, acc ++ [d], by omega, rfl, by go_num, hown, by omega, by omega, hrel2, hbz⟩
                    case measure => simp [intOf]; omega
                  · have k1 : (nD : Int) ≤ (k : Int) := by omega
                    go_wp2_with fail
                    go_roundw
                    case rel => exact ⟨(j + 1) + 1, L + 1, c3, a3, acc ++ [d], by omega, rfl, by go_num, hown, by omega, by omega, hrel2, hbz⟩
                    case measure => simp [intOf]; omega
          · obtain ⟨l13, l14⟩ : nC ≤ i ∧ i ≤ nC := by omega
            have hle2 : (nC : Int) ≤ (i : Int) := by omega
            have HINS2 : Hid (∀ j, j < nC → Ins (C[j]?.getD (0, 0)) (acc[j]?.getD (0, 0))) := Lib.hid (fun j hj => HINS.out j (by omega))
            obtain ⟨v7, hv7⟩ : ∃ x, x = wr := ⟨_, rfl⟩
            subst hv7
            have B7 := BV.trans (hbr.mono BV.size)
            replace x1r := blk_keep x1r hbr
            replace x5r := blk_keep x5r hbr
            replace z5 := z5.keep hbr
            replace sC := sC.keep hbr
            replace sS := sS.keep hbr
            clear HINS hbr sD
            go_wp2_with fail
            go_loopw [18, 19, 20] (fun x18 _ _ wr => ∃ r : Nat, r ≤ nS ∧ x18 = .int .i64 r ∧ Below v7.heap.size v7 wr) (fun x18 _ _ _ => nS - (intOf x18).toNat)
            case atStart => exact ⟨0, by omega, rfl, Below.refl _ _⟩
            case round =>
              obtain ⟨r, hr, rfl, hbr⟩ := hrel
              by_cases hlt3 : r < nS
              · as_aux_lemma =>
                obtain ⟨bC, oC, rfl, hcC⟩ := sC.at_ (by omega)
                obtain ⟨bS, oS, rfl, hcS⟩ := sS.at_ (by omega)
                obtain ⟨bY, oY, rfl, hcY⟩ := z5.at_ (by omega)
                obtain ⟨_, e2⟩ := hcC r (by omega)
                obtain ⟨e3, _⟩ := hcC (r + 1) (by omega)
                obtain ⟨e5, e6⟩ := hcS r (by omega)
                have hsr : (sgF xs off)[r]?.getD (0, 0) = sw1 off xs C r := by
                  unfold sgF swF
                  rw [HCX.out]
                  have : r < C.length - 1 := by omega
                  simp [this]
                rw [hsr] at e5 e6
                obtain ⟨q1, q2, q3, _, q5⟩ := COK.out r (by omega)
                obtain ⟨q6, q7, q8, _, _⟩ := COK.out (r + 1) (by omega)
                replace q5 := q5 (by omega)
                clear hsr hcC hcS
                have hsw : sw1 off xs C r = (maxL ((xs.drop (C[r]?.getD (0, 0)).2.toNat).take ((C[r + 1]?.getD (0, 0)).1.toNat + 1 - (C[r]?.getD (0, 0)).2.toNat)) - off, maxL ((xs.drop (C[r]?.getD (0, 0)).2.toNat).take ((C[r + 1]?.getD (0, 0)).1.toNat + 1 - (C[r]?.getD (0, 0)).2.toNat)) + off) := rfl
                rw [hsw] at e5 e6
                dsimp only at e5 e6
                clear hsw
                obtain ⟨p, hp⟩ : ∃ p, C[r]?.getD (0, 0) = p := ⟨_, rfl⟩
                obtain ⟨q, hq⟩ : ∃ q, C[r + 1]?.getD (0, 0) = q := ⟨_, rfl⟩
                rw [hp] at e2 e5 e6 q1 q2 q3 q5
                rw [hq] at e3 e5 e6 q5 q6 q7 q8
                clear hp hq
                obtain ⟨p1, p2⟩ := p
                obtain ⟨r1, r2⟩ := q
                dsimp only at e2 e3 e5 e6 q1 q2 q3 q5 q6 q7 q8
                obtain ⟨lo, rfl⟩ : ∃ lo : Nat, p2 = lo := ⟨p2.toNat, by omega⟩
                obtain ⟨hi', rfl⟩ : ∃ hi : Nat, r1 = hi := ⟨r1.toNat, by omega⟩
                simp only [Int.toNat_natCast] at e5 e6
                have hnr := maxL_near HN.out lo (hi' + 1 - lo) (by omega) (by omega)
                have hyl : ys.length = xs.length := HN.out.1
                obtain ⟨y1', y2'⟩ : ys.length ≤ sn ∧ sn ≤ ys.length := by omega
                have hmb := mx_bd xs lo (hi' + 1 - lo) (by omega) V.out
                rw [show max 1 (hi' + 1 - lo) = hi' + 1 - lo by omega] at hmb
                obtain ⟨mm, hmm⟩ : ∃ m, maxL ((xs.drop lo).take (hi' + 1 - lo)) = m := ⟨_, rfl⟩
                rw [hmm] at e5 e6 hnr hmb
                clear hmm hyl
                have HNR := Lib.hid hnr
                have hmf := mx_first ys lo (by omega)
                have HMF := Lib.hid hmf
                have HCY := Lib.hid hcY
                clear hnr hmf hcY
                have x5q := blk_keep x5r hbr
                have g5 : wr.cell? ⟨b5, 0, none⟩ = some (.slice (some ⟨bY, oY, none⟩) sn c') := cell_block x5q 0
                replace e2 := cell_keep e2 hbr
                replace e3 := cell_keep e3 hbr
                replace e5 := cell_keep e5 hbr
                replace e6 := cell_keep e6 hbr
                have f1 := cell_keep (HCY.out lo (by omega)) hbr
                obtain ⟨x0, hx0⟩ : ∃ x0, ys[lo]?.getD 0 = x0 := ⟨_, rfl⟩
                rw [hx0] at f1 HMF
                clear hx0 x5q
                have hr1 : (r : Int) < (nS : Int) := by omega
                have hr0 : (0 : Int) ≤ (r : Int) := by omega
                have hr2 : (r : Int) < (nC : Int) := by omega
                have hr3 : (r : Int) + 1 < (nC : Int) := by omega
                have hr4 : (0 : Int) ≤ (r : Int) + 1 := by omega
                have hlo : (lo : Int) < (sn : Int) := by omega
                have hlo0 : (0 : Int) ≤ (lo : Int) := by omega
                go_wp2_with fail
                refine Calmly.wp_region_mix 7 (.fl 0 <| .fl 1 <| .fl 2 <| .fl 3 <| .fl 4 <| .fl 5 <| .fl 6 <| .tail [7, 8, 9]) (by kernel_rfl) (by kernel_rfl) ?_
                go_wp2_with (first | ((with_reducible refine Calmly.is_fl ?_); refine Calmly.mix_fl rfl ?_ (fun _ _ => ?_); (first | exact .move _ | exact .load _ _ | exact .fieldAddr _ _ _ (by kernel_rfl) | exact .assign _ | exact .binOp _ _ _ _ _ rfl | exact .indexAddr _ _ _ | exact .len _ _ (by kernel_rfl) | exact .field _ _ _ | exact .extract _ _ | exact .pick _ _ _ | exact .build _ _ | exact .slice _ _ _ _ _ | exact .unOp _ _ _ rfl | exact .index _ _ _ | exact .max _ _ _ rfl rfl | exact .min _ _ _ rfl rfl)) | ((with_reducible refine Calmly.is_gl ?_); refine Calmly.mix_gl rfl rfl rfl ?_; first | ((first | with_reducible refine Calmly.gl_tt ?_ (fun _ _ => ?_) | with_reducible refine Calmly.gl_ff ?_ (fun _ _ => ?_)); (first | exact .move _ | exact .load _ _ | exact .fieldAddr _ _ _ (by kernel_rfl) | exact .assign _ | exact .binOp _ _ _ _ _ rfl | exact .indexAddr _ _ _ | exact .len _ _ (by kernel_rfl) | exact .field _ _ _ | exact .extract _ _ | exact .pick _ _ _ | exact .build _ _ | exact .slice _ _ _ _ _ | exact .unOp _ _ _ rfl | exact .index _ _ _ | exact .max _ _ _ rfl rfl | exact .min _ _ _ rfl rfl)) | with_reducible refine Calmly.gl_tf (fun _ _ => ?_) | with_reducible refine Calmly.gl_ft (fun _ _ => ?_)) | ((with_reducible refine Calmly.is_eff ?_); refine Calmly.mix_eff rfl (fun _ _ => ?_)) | ((with_reducible refine Calmly.is_gf ?_); refine Calmly.mix_gf rfl rfl rfl ?_; first | with_reducible refine Calmly.gf_tt (fun _ _ => ?_) | with_reducible refine Calmly.gf_ff (fun _ _ => ?_) | with_reducible refine Calmly.gf_tf (kept_of hk) (fun _ _ => ?_) | with_reducible refine Calmly.gf_ft (kept_of hk) (fun _ _ => ?_)) | ((with_reducible refine Calmly.is_tail ?_); first | refine Calmly.mix_tail_nil ?_ | refine Calmly.mix_tail rfl (fun _ _ => ?_)) | ((with_reducible refine Calmly.is_kept ?_); refine ⟨kept_of hk, ?_⟩) | (with_reducible refine Calmly.mix_alt ?_ ?_))
                go_loopw [19, 20] (fun m z wz => ∃ (t : Nat), lo ≤ t ∧ t ≤ hi' + 1 ∧ z = .int .i64 t ∧ m = .int .i64 (maxL ((ys.drop lo).take (max 1 (t - lo)))) ∧ wz = wr.drew) (fun _ z _ => hi' + 1 - (intOf z).toNat)
                case atStart => exact ⟨lo, by omega, by omega, rfl, by rw [HMF.out], rfl⟩
                case round =>
                  obtain ⟨t, ht1, ht2, rfl, rfl, rfl⟩ := hrel
                  by_cases hlt2 : t ≤ hi'
                  · have hst := mx_step ys lo t ht1 (by omega)
                    obtain ⟨q9, q10⟩ := mx_bd ys lo (t - lo) (by omega) YB.out
                    have f2 := cell_keep (HCY.out t (by omega)) hbr
                    have hv2 := YB.out t
                    obtain ⟨y, hy⟩ : ∃ y, ys[t]?.getD 0 = y := ⟨_, rfl⟩
                    obtain ⟨m, hm⟩ : ∃ m, maxL ((ys.drop lo).take (max 1 (t - lo))) = m := ⟨_, rfl⟩
                    rw [hy] at f2 hst hv2
                    rw [hm] at hst q9 q10 ⊢
                    clear hy hm
                    have HST := Lib.hid hst
                    clear hst
                    have hg1 : (t : Int) ≤ (hi' : Int) := by omega
                    have hg2 : (t : Int) < (sn : Int) := by omega
                    have hg0 : (0 : Int) ≤ (t : Int) := by omega
                    rcases Int.lt_or_le m y with u | u
                    · have u' : m ≤ y := by omega
                      go_wp2_with fail
                      go_roundw
                      case rel => exact ⟨t + 1, by omega, by omega, by go_num, by rw [← HST.out]; exact congrArg _ (by omega), trivial⟩
                      case measure => simp [intOf]; omega
                    · go_wp2_with fail
                      go_roundw
                      case rel => exact ⟨t + 1, by omega, by omega, by go_num, by rw [← HST.out]; exact congrArg _ (by omega), trivial⟩
                      case measure => simp [intOf]; omega
                  · have hle : (hi' : Int) < (t : Int) := by omega
                    obtain rfl : t = hi' + 1 := by omega
                    rw [show max 1 (hi' + 1 - lo) = hi' + 1 - lo by omega]
                    obtain ⟨m, hm⟩ : ∃ m, maxL ((ys.drop lo).take (hi' + 1 - lo)) = m := ⟨_, rfl⟩
                    rw [hm] at HNR ⊢
                    clear hm
                    have hWI : ∀ w, Calls Try.prog 44 #[.int .i64 m, .int .i64 (mm - off), .int .i64 (mm + off)] w fun e w' => e = .returned (.bool true) ∧ w = w' := fun w => by
                      have h0 := within_any m (mm - off) (mm + off) w
                      have h1 := HNR.out
                      rwa [show wIn m (mm - off) (mm + off) = true by simp [wIn]; omega] at h0
                    have HWI := Lib.hid hWI
                    clear hWI
                    go_wp2_with fail
                    refine Calmly.wp_region_mix 12 (.fl 0 <| .fl 1 <| .fl 2 <| .fl 3 <| .fl 4 <| .fl 5 <| .fl 6 <| .fl 7 <| .fl 8 <| .fl 9 <| .fl 10 <| .eff 11 <| .tail [12]) (by kernel_rfl) (by kernel_rfl) ?_
                    have hk := Below.refl wr.drew.drew.heap.size wr.drew.drew
                    go_wp2_with (first | ((with_reducible refine Calmly.is_fl ?_); refine Calmly.mix_fl rfl ?_ (fun _ _ => ?_); (first | exact .move _ | exact .load _ _ | exact .fieldAddr _ _ _ (by kernel_rfl) | exact .assign _ | exact .binOp _ _ _ _ _ rfl | exact .indexAddr _ _ _ | exact .len _ _ (by kernel_rfl) | exact .field _ _ _ | exact .extract _ _ | exact .pick _ _ _ | exact .build _ _ | exact .slice _ _ _ _ _ | exact .unOp _ _ _ rfl | exact .index _ _ _ | exact .max _ _ _ rfl rfl | exact .min _ _ _ rfl rfl)) | ((with_reducible refine Calmly.is_gl ?_); refine Calmly.mix_gl rfl rfl rfl ?_; first | ((first | with_reducible refine Calmly.gl_tt ?_ (fun _ _ => ?_) | with_reducible refine Calmly.gl_ff ?_ (fun _ _ => ?_)); (first | exact .move _ | exact .load _ _ | exact .fieldAddr _ _ _ (by kernel_rfl) | exact .assign _ | exact .binOp _ _ _ _ _ rfl | exact .indexAddr _ _ _ | exact .len _ _ (by kernel_rfl) | exact .field _ _ _ | exact .extract _ _ | exact .pick _ _ _ | exact .build _ _ | exact .slice _ _ _ _ _ | exact .unOp _ _ _ rfl | exact .index _ _ _ | exact .max _ _ _ rfl rfl | exact .min _ _ _ rfl rfl)) | with_reducible refine Calmly.gl_tf (fun _ _ => ?_) | with_reducible refine Calmly.gl_ft (fun _ _ => ?_)) | ((with_reducible refine Calmly.is_eff ?_); refine Calmly.mix_eff rfl (fun _ _ => ?_)) | ((with_reducible refine Calmly.is_gf ?_); refine Calmly.mix_gf rfl rfl rfl ?_; first | with_reducible refine Calmly.gf_tt (fun _ _ => ?_) | with_reducible refine Calmly.gf_ff (fun _ _ => ?_) | with_reducible refine Calmly.gf_tf (kept_of hk) (fun _ _ => ?_) | with_reducible refine Calmly.gf_ft (kept_of hk) (fun _ _ => ?_)) | ((with_reducible refine Calmly.is_tail ?_); first | refine Calmly.mix_tail_nil ?_ | refine Calmly.mix_tail rfl (fun _ _ => ?_)) | ((with_reducible refine Calmly.is_kept ?_); refine ⟨kept_of hk, ?_⟩) | (with_reducible refine Calmly.mix_alt ?_ ?_) | (go_at_call 44; refine (HWI.out _).mono ?_; rintro e w' ⟨rfl, rfl⟩))
                    go_roundw
                    case rel => exact ⟨r + 1, by omega, by go_num, hbr.drew.drew⟩
                    case measure => simp [intOf]; omega
              · as_aux_lemma =>
                have hle3 : (nS : Int) ≤ (r : Int) := by omega
                obtain ⟨v8, hv8⟩ : ∃ x, x = wr := ⟨_, rfl⟩
                subst hv8
                have B8 := B7.trans (hbr.mono B7.size)
                replace x1r := blk_keep x1r hbr
                replace sC := sC.keep hbr
                replace hown := hown.keep hbr
                clear hbr z5 sS x5r B7
                by_cases h2 : nC < 2
                · have h2' : (nC : Int) < 2 := by omega
                  go_wp2_with fail
                  go_ret
                  exact ⟨rfl, B8⟩
                have h2' : (2 : Int) ≤ (nC : Int) := by omega
                have hpe : periodE xs off = 0 := by
                  unfold periodE
                  rw [HC.out, HZ.out, firstE_two, if_pos rfl, decide_eq_true (by omega)]
                  rfl
                have hpf : periodF xs off = (fracF ((C[C.length - 1]?.getD (0, 0)).1 - (C[0]?.getD (0, 0)).2) ((C.length - 1 : Nat) : Int), fracF ((C[C.length - 1]?.getD (0, 0)).2 - (C[0]?.getD (0, 0)).1) ((C.length - 1 : Nat) : Int)) := by
                  unfold periodF
                  rw [HC.out]
                obtain ⟨N, hN⟩ : ∃ N : Nat, C.length - 1 = N := ⟨_, rfl⟩
                rw [hN] at hpf
                obtain ⟨n1, n2⟩ : N + 1 ≤ nC ∧ nC ≤ N + 1 := by omega
                obtain ⟨c1a, c1b, c1c, _, _⟩ := COK.out 0 (by omega)
                obtain ⟨c2a, c2b, c2c, _, _⟩ := COK.out N (by omega)
                obtain ⟨i1a, i1b, i1c⟩ := HINS2.out 0 (by omega)
                obtain ⟨i2a, i2b, i2c⟩ := HINS2.out N (by omega)
                have hlA := hown.len
                obtain ⟨w1', w2'⟩ : acc.length ≤ N + 1 ∧ N + 1 ≤ acc.length := by omega
                clear hlA hN
                obtain ⟨bI, oI, rfl, hcI⟩ := hown.sr.at_ (by omega)
                obtain ⟨f1, f2⟩ := hcI 0 (by omega)
                obtain ⟨f3, f4⟩ := hcI N (by omega)
                clear hcI hown
                obtain ⟨P, hP⟩ : ∃ p, C[0]?.getD (0, 0) = p := ⟨_, rfl⟩
                obtain ⟨Q, hQ⟩ : ∃ p, C[N]?.getD (0, 0) = p := ⟨_, rfl⟩
                obtain ⟨A, hAA⟩ : ∃ p, acc[0]?.getD (0, 0) = p := ⟨_, rfl⟩
                obtain ⟨B, hBB⟩ : ∃ p, acc[N]?.getD (0, 0) = p := ⟨_, rfl⟩
                rw [hP] at c1a c1b c1c i1a i1c hpf
                rw [hQ] at c2a c2b c2c i2a i2c hpf
                rw [hAA] at i1a i1b i1c f1 f2
                rw [hBB] at i2a i2b i2c f3 f4
                clear hP hQ hAA hBB
                obtain ⟨P1, P2⟩ := P
                obtain ⟨Q1, Q2⟩ := Q
                obtain ⟨A1, A2⟩ := A
                obtain ⟨B1, B2⟩ := B
                dsimp only at c1a c1b c1c c2a c2b c2c i1a i1b i1c i2a i2b i2c f1 f2 f3 f4 hpf
                have hN0 : (0 : Int) < (N : Int) := by omega
                have hb1 := fracF_bd (Q1 - P2) N hN0 60 (by omega) (by omega) (by omega)
                have hb2 := fracF_bd (Q2 - P1) N hN0 60 (by omega) (by omega) (by omega)
                have hl1 := fracF_low (Q1 - P2) N hN0
                have hl2 := fracF_low (Q2 - P1) N hN0
                have hk1 := cmp_frac (z := B1 - A2) (x := Q1 - P2) hN0 (by omega)
                have hk2 := cmp_frac' (z := B2 - A1) (x := Q2 - P1) hN0 (by omega)
                obtain ⟨⟨p, q⟩, hpq⟩ : ∃ x, fracF (Q1 - P2) (N : Int) = x := ⟨_, rfl⟩
                obtain ⟨⟨r1, s1⟩, hrs⟩ : ∃ x, fracF (Q2 - P1) (N : Int) = x := ⟨_, rfl⟩
                rw [hpq] at hb1 hl1 hk1 hpf
                rw [hrs] at hb2 hl2 hk2 hpf
                dsimp only at hb1 hb2 hl1 hl2 hk1 hk2
                obtain ⟨b1, b2, b3, b4⟩ := hb1
                obtain ⟨b6, b7, b8, b9⟩ := hb2
                have hC1 := fun w => compare_any (B1 - A2) N p q w hN0 (by omega) b3 (by omega) (by omega) (by omega) (by omega) (by omega)
                have hC2 := fun w => compare_any (B2 - A1) N r1 s1 w hN0 (by omega) b8 (by omega) (by omega) (by omega) (by omega) (by omega)
                obtain ⟨K1, hK1⟩ : ∃ K, cmpQ ((B1 - A2) * q) (p * (N : Int)) = K := ⟨_, rfl⟩
                obtain ⟨K2, hK2⟩ : ∃ K, cmpQ ((B2 - A1) * s1) (r1 * (N : Int)) = K := ⟨_, rfl⟩
                rw [hK1] at hk1
                rw [hK2] at hk2
                simp only [hK1] at hC1
                simp only [hK2] at hC2
                have hs1 : isSmallF p q = true := by simp [isSmallF, wIn]; omega
                have hs2 : isSmallF r1 s1 = true := by simp [isSmallF, wIn]; omega
                have HC1 := Lib.hid hC1
                have HC2 := Lib.hid hC2
                have HL1 := Lib.hid hl1
                have HL2 := Lib.hid hl2
                have HS1 := Lib.hid hs1
                have HS2 := Lib.hid hs2
                have HPE := Lib.hid hpe
                have HPF := Lib.hid hpf
                clear hC1 hC2 hl1 hl2 hs1 hs2 hpe hpf hpq hrs hK1 hK2
                have g0 : v8.cell? ⟨w.heap.size, 0, none⟩ = some (.slice sa sn sc) := cell_block x1r 0
                have g1 : v8.cell? ⟨w.heap.size, 1, none⟩ = some (.int .i64 off) := cell_block x1r 1
                go_wp2_with fail
                refine (CopyDecay_any sa sn sc xs off _ (h3.keep B8) (by omega)).mono ?_
                rintro e v9 ⟨a9, c9, rfl, o9, hb⟩
                replace B8 := B8.trans (hb.mono B8.size)
                replace x1r := blk_keep x1r hb
                replace f1 := cell_keep f1 hb
                replace f2 := cell_keep f2 hb
                replace f3 := cell_keep f3 hb
                replace f4 := cell_keep f4 hb
                clear g0 g1
                go_wp2_with fail
                refine (PeriodIn_any a9 sn c9 xs off 0 p q r1 s1 _ o9 HPE.out (fun h => absurd rfl h) (fun _ => HPF.out)).mono ?_
                rintro e v10 ⟨rfl, hb⟩
                replace B8 := B8.trans (hb.mono B8.size)
                replace x1r := blk_keep x1r hb
                replace f1 := cell_keep f1 hb
                replace f2 := cell_keep f2 hb
                replace f3 := cell_keep f3 hb
                replace f4 := cell_keep f4 hb
                have hb := (Below.refl v10.heap.size v10).alloc (Nat.le_refl _) (.cells #[.int .i64 p, .int .i64 q, .int .i64 r1, .int .i64 s1] 93)
                have x21 := alloc_new v10 (.cells #[.int .i64 p, .int .i64 q, .int .i64 r1, .int .i64 s1] 93)
                replace B8 := B8.trans (hb.mono B8.size)
                replace x1r := blk_keep x1r hb
                replace f1 := cell_keep f1 hb
                replace f2 := cell_keep f2 hb
                replace f3 := cell_keep f3 hb
                replace f4 := cell_keep f4 hb
                have hlt5 : v10.heap.size < (v10.alloc (.cells #[.int .i64 p, .int .i64 q, .int .i64 r1, .int .i64 s1] 93)).heap.size := blk_lt x21
                have y0 := cell_block x21 0
                have y1 := cell_block x21 1
                go_wp2_with fail
                refine (isLowest_any p q _ (by omega) (by omega) (by omega)).mono ?_
                rintro e v11 ⟨he, hb⟩
                rw [HL1.out] at he
                subst he
                replace B8 := B8.trans (hb.mono B8.size)
                replace x1r := blk_keep x1r hb
                replace f1 := cell_keep f1 hb
                replace f2 := cell_keep f2 hb
                replace f3 := cell_keep f3 hb
                replace f4 := cell_keep f4 hb
                replace x21 := blk_keep x21 hb
                have y2 : v11.cell? ⟨v10.heap.size, 2, none⟩ = some (.int .i64 r1) := cell_block x21 2
                have y3 : v11.cell? ⟨v10.heap.size, 3, none⟩ = some (.int .i64 s1) := cell_block x21 3
                clear y0 y1
                go_wp2_with fail
                refine (isLowest_any r1 s1 _ (by omega) (by omega) (by omega)).mono ?_
                rintro e v12 ⟨he, hb⟩
                rw [HL2.out] at he
                subst he
                replace B8 := B8.trans (hb.mono B8.size)
                replace x1r := blk_keep x1r hb
                replace f1 := cell_keep f1 hb
                replace f2 := cell_keep f2 hb
                replace f3 := cell_keep f3 hb
                replace f4 := cell_keep f4 hb
                replace x21 := blk_keep x21 hb
                have y0 : v12.cell? ⟨v10.heap.size, 0, none⟩ = some (.int .i64 p) := cell_block x21 0
                have y1 : v12.cell? ⟨v10.heap.size, 1, none⟩ = some (.int .i64 q) := cell_block x21 1
                clear y2 y3
                go_wp2_with fail
                refine (isSmall_any p q _).mono ?_
                rintro e v13 ⟨he, hb⟩
                rw [HS1.out] at he
                subst he
                replace B8 := B8.trans (hb.mono B8.size)
                replace x1r := blk_keep x1r hb
                replace f1 := cell_keep f1 hb
                replace f2 := cell_keep f2 hb
                replace f3 := cell_keep f3 hb
                replace f4 := cell_keep f4 hb
                replace x21 := blk_keep x21 hb
                have y2 : v13.cell? ⟨v10.heap.size, 2, none⟩ = some (.int .i64 r1) := cell_block x21 2
                have y3 : v13.cell? ⟨v10.heap.size, 3, none⟩ = some (.int .i64 s1) := cell_block x21 3
                clear y0 y1
                go_wp2_with fail
                refine (isSmall_any r1 s1 _).mono ?_
                rintro e v14 ⟨he, hb⟩
                rw [HS2.out] at he
                subst he
                replace B8 := B8.trans (hb.mono B8.size)
                replace x1r := blk_keep x1r hb
                replace f1 := cell_keep f1 hb
                replace f2 := cell_keep f2 hb
                replace f3 := cell_keep f3 hb
                replace f4 := cell_keep f4 hb
                replace x21 := blk_keep x21 hb
                clear y2 y3 hb sC x1r
                have hL1 : ((L : Int) - 1).toNat = N := by omega
                have hL2 : (0 : Int) ≤ (L : Int) - 1 := by omega
                have hL3 : (L : Int) - 1 < (L : Int) := by omega
                have hL4 : (nC : Int) - 1 = (N : Int) := by omega
                go_wp2_with fail
                refine Calmly.wp_region_mix 16 (.fl 0 <| .fl 1 <| .fl 2 <| .fl 3 <| .fl 4 <| .fl 5 <| .fl 6 <| .fl 7 <| .fl 8 <| .fl 9 <| .fl 10 <| .fl 11 <| .alt 12 (.eff 13 <| .eff 14 <| .eff 15 <| .tail [16]) (.eff 13 (.eff 12 <| .eff 14 <| .eff 15 <| .tail [16]))) (by kernel_rfl) (by kernel_rfl) ?_
                replace B8 : Below w.heap.size w v14.drew := B8.drew
                replace x21 : v14.drew.heap[v10.heap.size]? = some (.cells #[.int .i64 p, .int .i64 q, .int .i64 r1, .int .i64 s1] 93) := x21
                replace f1 : v14.drew.cell? ⟨bI, oI + 0 * 2, none⟩ = some (.int .i64 A1) := f1
                replace f2 : v14.drew.cell? ⟨bI, oI + 0 * 2 + 1, none⟩ = some (.int .i64 A2) := f2
                replace f3 : v14.drew.cell? ⟨bI, oI + N * 2, none⟩ = some (.int .i64 B1) := f3
                replace f4 : v14.drew.cell? ⟨bI, oI + N * 2 + 1, none⟩ = some (.int .i64 B2) := f4
                simp only [Nat.zero_mul, Nat.add_zero] at f1 f2
                generalize v14.drew = w5 at B8 x21 f1 f2 f3 f4 ⊢
                have hk := Below.refl w5.heap.size w5
                go_wp2_with (first | ((with_reducible refine Calmly.is_fl ?_); refine Calmly.mix_fl rfl ?_ (fun _ _ => ?_); (first | exact .move _ | exact .load _ _ | exact .fieldAddr _ _ _ (by kernel_rfl) | exact .assign _ | exact .binOp _ _ _ _ _ rfl | exact .indexAddr _ _ _ | exact .len _ _ (by kernel_rfl) | exact .field _ _ _ | exact .extract _ _ | exact .pick _ _ _ | exact .build _ _ | exact .slice _ _ _ _ _ | exact .unOp _ _ _ rfl | exact .index _ _ _ | exact .max _ _ _ rfl rfl | exact .min _ _ _ rfl rfl)) | ((with_reducible refine Calmly.is_gl ?_); refine Calmly.mix_gl rfl rfl rfl ?_; first | ((first | with_reducible refine Calmly.gl_tt ?_ (fun _ _ => ?_) | with_reducible refine Calmly.gl_ff ?_ (fun _ _ => ?_)); (first | exact .move _ | exact .load _ _ | exact .fieldAddr _ _ _ (by kernel_rfl) | exact .assign _ | exact .binOp _ _ _ _ _ rfl | exact .indexAddr _ _ _ | exact .len _ _ (by kernel_rfl) | exact .field _ _ _ | exact .extract _ _ | exact .pick _ _ _ | exact .build _ _ | exact .slice _ _ _ _ _ | exact .unOp _ _ _ rfl | exact .index _ _ _ | exact .max _ _ _ rfl rfl | exact .min _ _ _ rfl rfl)) | with_reducible refine Calmly.gl_tf (fun _ _ => ?_) | with_reducible refine Calmly.gl_ft (fun _ _ => ?_)) | ((with_reducible refine Calmly.is_eff ?_); refine Calmly.mix_eff rfl (fun _ _ => ?_)) | ((with_reducible refine Calmly.is_gf ?_); refine Calmly.mix_gf rfl rfl rfl ?_; first | with_reducible refine Calmly.gf_tt (fun _ _ => ?_) | with_reducible refine Calmly.gf_ff (fun _ _ => ?_) | with_reducible refine Calmly.gf_tf (kept_of hk) (fun _ _ => ?_) | with_reducible refine Calmly.gf_ft (kept_of hk) (fun _ _ => ?_)) | ((with_reducible refine Calmly.is_kept ?_); refine ⟨kept_of hk, ?_⟩) | (with_reducible refine Calmly.mix_alt ?_ ?_) | (have hq := pA; have hBge := hk.size; refine kept_allocT hk (fun hs hk' hblk => ?_); replace pA := blk_keep pA hs; generalize World.alloc _ _ = W' at hs hk' hblk pA ⊢; replace hk := hk'; clear hk'; have pB := hblk; have hsz := blk_lt hblk; clear hs hblk; have zA0 := cell_block pA 0; have zA1 := cell_block pA 1; have zA2 := frozen_block pA 0; have zA3 := frozen_block pA 1; have zB0 := cell_block pB 0; have zB1 := cell_block pB 1; have zB2 := frozen_block pB 0; have zB3 := frozen_block pB 1) | (have hAge := hk.size; refine kept_allocT hk (fun hs hk' hblk => ?_); generalize World.alloc _ _ = W' at hs hk' hblk ⊢; replace hk := hk'; clear hk'; have pA := hblk; have hsz := blk_lt hblk; clear hs hblk) | (refine kept_setT hk hAge pA pB (by omega) (fun hk' h1 h2 => ?_); replace hk := hk'; replace pA := h1; replace pB := h2; clear hk' h1 h2; clear zA0 zA1 zA2 zA3 zB0 zB1 zB2 zB3; generalize World.setCell (World.setCell _ _ _) _ _ = W' at hk pA pB ⊢; have zA0 := cell_block pA 0; have zA1 := cell_block pA 1; have zA2 := frozen_block pA 0; have zA3 := frozen_block pA 1; have zB0 := cell_block pB 0; have zB1 := cell_block pB 1; have zB2 := frozen_block pB 0; have zB3 := frozen_block pB 1) | (refine kept_setT hk hBge pB pA (by omega) (fun hk' h1 h2 => ?_); replace hk := hk'; replace pB := h1; replace pA := h2; clear hk' h1 h2; clear zA0 zA1 zA2 zA3 zB0 zB1 zB2 zB3; generalize World.setCell (World.setCell _ _ _) _ _ = W' at hk pB pA ⊢; have zA0 := cell_block pA 0; have zA1 := cell_block pA 1; have zA2 := frozen_block pA 0; have zA3 := frozen_block pA 1; have zB0 := cell_block pB 0; have zB1 := cell_block pB 1; have zB2 := frozen_block pB 0; have zB3 := frozen_block pB 1))
                all_goals
                  replace B8 := B8.trans (hk.mono B8.size)
                  have x21' := (hk.block _ (blk_lt x21)).trans x21
                  have y0 := cell_block x21' 0
                  have y1 := cell_block x21' 1
                  have y2 := cell_block x21' 2
                  have y3 := cell_block x21' 3
                  go_wp2_with (first | ((with_reducible refine Calmly.is_fl ?_); refine Calmly.mix_fl rfl ?_ (fun _ _ => ?_); (first | exact .move _ | exact .load _ _ | exact .fieldAddr _ _ _ (by kernel_rfl) | exact .assign _ | exact .binOp _ _ _ _ _ rfl | exact .indexAddr _ _ _ | exact .len _ _ (by kernel_rfl) | exact .field _ _ _ | exact .extract _ _ | exact .pick _ _ _ | exact .build _ _ | exact .slice _ _ _ _ _ | exact .unOp _ _ _ rfl | exact .index _ _ _ | exact .max _ _ _ rfl rfl | exact .min _ _ _ rfl rfl)) | ((with_reducible refine Calmly.is_gl ?_); refine Calmly.mix_gl rfl rfl rfl ?_; first | ((first | with_reducible refine Calmly.gl_tt ?_ (fun _ _ => ?_) | with_reducible refine Calmly.gl_ff ?_ (fun _ _ => ?_)); (first | exact .move _ | exact .load _ _ | exact .fieldAddr _ _ _ (by kernel_rfl) | exact .assign _ | exact .binOp _ _ _ _ _ rfl | exact .indexAddr _ _ _ | exact .len _ _ (by kernel_rfl) | exact .field _ _ _ | exact .extract _ _ | exact .pick _ _ _ | exact .build _ _ | exact .slice _ _ _ _ _ | exact .unOp _ _ _ rfl | exact .index _ _ _ | exact .max _ _ _ rfl rfl | exact .min _ _ _ rfl rfl)) | with_reducible refine Calmly.gl_tf (fun _ _ => ?_) | with_reducible refine Calmly.gl_ft (fun _ _ => ?_)) | ((with_reducible refine Calmly.is_eff ?_); refine Calmly.mix_eff rfl (fun _ _ => ?_)) | ((with_reducible refine Calmly.is_gf ?_); refine Calmly.mix_gf rfl rfl rfl ?_; first | with_reducible refine Calmly.gf_tt (fun _ _ => ?_) | with_reducible refine Calmly.gf_ff (fun _ _ => ?_) | with_reducible refine Calmly.gf_tf (kept_of hk) (fun _ _ => ?_) | with_reducible refine Calmly.gf_ft (kept_of hk) (fun _ _ => ?_)) | ((with_reducible refine Calmly.is_tail ?_); first | refine Calmly.mix_tail_nil ?_ | refine Calmly.mix_tail rfl (fun _ _ => ?_)) | ((with_reducible refine Calmly.is_kept ?_); refine ⟨kept_of hk, ?_⟩) | (with_reducible refine Calmly.mix_alt ?_ ?_))
                  refine (HC1.out _).mono ?_
                  rintro e w' ⟨rfl, rfl⟩
                  go_wp2_with fail
                  refine (HC2.out _).mono ?_
                  rintro e w' ⟨rfl, rfl⟩
                  go_wp2_with fail
                  go_ret
                  exact ⟨rfl, B8⟩
end Go.Proofs.Ytmaidjankakppaa
