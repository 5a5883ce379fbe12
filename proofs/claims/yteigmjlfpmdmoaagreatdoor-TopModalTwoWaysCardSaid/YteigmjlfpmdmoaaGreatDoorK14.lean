/- Contracts of chapter 6: whether ranges agree; a copy; the first mode that does not agree. -/
import Derived.Test.YteigmjlfpmdmoaaGreatDoorK13
namespace Go.Proofs.YteigmjlfpmdmoaaGreatDoor
open Go.RowKit
open Calmly (Kept)

def agreeF (a b : Int × Int) : Bool := decide (a.1 ≤ b.2) && decide (b.1 ≤ a.2)

set_option maxRecDepth 100000 in
set_option maxHeartbeats 1000000 in
theorem agree_any (x0 y0 x1 y1 : Int) (w : World) :
    Calls Tryz.prog 76 #[.agg #[.int .i64 x0, .int .i64 y0], .agg #[.int .i64 x1, .int .i64 y1]] w fun e w' => e = .returned (.bool (agreeF (x0, y0) (x1, y1))) ∧ Below w.heap.size w w' := by
  have hb : ∀ o o', Below w.heap.size w ((w.alloc o).alloc o') := fun o o' => ((Below.refl _ _).alloc (Nat.le_refl _) _).alloc (by simp) _
  by_cases h : x0 ≤ y1
  · go_enter Tryz.func76, Tryz.ntmps76
    go_wp2
    go_ret
    exact ⟨ret_bool (by simp [agreeF, h]), hb _ _⟩
  · have h1 : y1 < x0 := by omega
    have h2 : decide (x0 ≤ y1) = false := by simp; omega
    go_enter Tryz.func76, Tryz.ntmps76
    go_wp2
    go_ret
    exact ⟨ret_bool (by simp [agreeF, h2]), hb _ _⟩

set_option maxRecDepth 100000 in
set_option maxHeartbeats 400000 in
theorem clone_any (a : Option Addr) (n c : Nat) (xs : List Int) (w : World) (h1 : SI w a n c xs) (hn : n ≤ 1099511627776) (hp : 0 < n) :
    Calls Tryz.prog 94 #[.slice a n c] w fun e w' => ∃ a' c', e = .returned (.slice a' n c') ∧ OwI w' w.heap.size a' n c' xs ∧ Below w.heap.size w w' := by
  obtain ⟨b1, o1, rfl, hc1⟩ := h1.at_ hp
  clear hc1
  have hb : Below w.heap.size w (w.alloc (.cells #[] 3)) := (Below.refl _ _).alloc (Nat.le_refl _) _
  have hc := h1.cap
  have hm := h1.max
  have hq : ∀ w : World, (binOp .eql 22 (.slice (some ⟨b1, o1, none⟩) n c) (.slice none 0 0)).run Tryz.prog w = .ok (.bool false) w := fun w => Lib.run_eql_slice_nil w 22 3 (some ⟨b1, o1, none⟩) n c 0 0 Tryz.underlying22
  go_enter Tryz.func94, Tryz.ntmps94
  go_wp2_with (at_builtin; refine appL rfl _ _ rfl (OwI.empty w (Nat.le_refl _)) (h1.keep hb) rfl rfl (by omega) (by simp) ?_; intro a' c' w1 ho hb1)
  go_ret
  exact ⟨a', c', rfl, by simpa using ho, hb.trans hb1⟩

theorem badF_ok (ms ks : List Int) (k : Nat) (_ : ks.length = ms.length) (h1 : ∀ i, i < ms.length → 1 ≤ ms[i]?.getD 0 ∧ ms[i]?.getD 0 ≤ 10) (h2 : ∀ i, i < ms.length → 1 ≤ ks[i]?.getD 0 ∧ ks[i]?.getD 0 ≤ 20) (hk : k ≤ ms.length) : badF k (ms.drop k) (ks.drop k) = (0, 0) := by
  induction hd : ms.length - k generalizing k with
  | zero =>
    rw [List.drop_eq_nil_of_le (by omega)]
    rfl
  | succ t ih =>
    rw [badF_drop ms ks k (by omega)]
    have e1 := h1 k (by omega)
    have e2 := h2 k (by omega)
    rw [if_pos (by simp only [Bool.and_eq_true, wIn_iff]; exact ⟨e1, e2⟩)]
    exact ih (k + 1) (by omega) (by omega)
/-- A frame with a valid spring put in is valid. -/
theorem checkF_set {ms ks : List Int} (he : (checkF ms ks).2 = 0) (i : Nat) (x : Int) (h1 : 1 ≤ x) (h2 : x ≤ 20) : (checkF ms (ks.set i x)).2 = 0 := by
  obtain ⟨q1, q2, q3, q4, q5⟩ := checkF_ok he
  have hl : (ks.set i x).length = ms.length := by simpa using q1
  rw [checkF_rest (by omega) (by omega)]
  have := badF_ok ms (ks.set i x) 0 hl q4 (fun j hj => by
    rw [List.getElem?_set]
    split
    · split
      · simpa using ⟨h1, h2⟩
      · omega
    · exact q5 j hj) (by omega)
  simp only [List.drop_zero] at this
  rw [this]

/-- The first mode whose enclosure has nothing in common with its range. -/
def oddF (ms ks : List Int) (den : Int) : Nat → List (Int × Int) → Int × Bool
  | _, [] => (0, false)
  | i, r :: l => if agreeF (encF ms ks i den) r then oddF ms ks den (i + 1) l else ((i : Int), true)
theorem oddF_drop (ms ks : List Int) (den : Int) (sq : List (Int × Int)) (k : Nat) (h : k < sq.length) : oddF ms ks den k (sq.drop k) =
    if agreeF (encF ms ks k den) (sq[k]?.getD (0, 0)) then oddF ms ks den (k + 1) (sq.drop (k + 1)) else ((k : Int), true) := by
  rw [List.drop_eq_getElem_cons h]
  simp [oddF, h]

theorem ret_ib {a c : Int} {b d : Bool} (h : (a, b) = (c, d)) : Ending.returned (Value.tuple #[.int .i64 a, .bool b]) = .returned (.tuple #[.int .i64 c, .bool d]) := by cases h; rfl

theorem blk_other' {W : World} {b r : Nat} {o : Obj} (h : W.heap[b]? = some o) (hne : b ≠ r) (k : Nat) (v : Value) : (W.setCell ⟨r, k, none⟩ v).heap[b]? = some o := (Below.heap_setCell _ _ _ _ hne).trans h

set_option maxRecDepth 100000 in
set_option maxHeartbeats 4000000 in
theorem odd_any (a b sa : Option Addr) (m c d sn sc : Nat) (ms ks : List Int) (sq : List (Int × Int)) (den st left : Int) (w : World) (h1 : SI w a m c ms) (h2 : SI w b m d ks) (h3 : SR w sa sn sc sq) (he : (checkF ms ks).2 = 0)
    (hd1 : 1 ≤ den) (hd2 : den ≤ 50) (hs1 : 0 ≤ st) (hs2 : st < m) (hl1 : 1 ≤ left) (hl2 : left ≤ 20) (hsn : sn ≤ 100) (r1 : Int) (r2 : Bool) (hr : oddF ms (ks.set st.toNat left) den 0 sq = (r1, r2)) :
    Calls Tryz.prog 78 #[.agg #[.slice a m c, .slice b m d], .agg #[.int .i64 den, .slice sa sn sc], .agg #[.int .i64 st, .int .i64 left]] w fun e w' => e = .returned (.tuple #[.int .i64 r1, .bool r2]) ∧ Below w.heap.size w w' := by
  have hbb : Below w.heap.size w (((w.alloc (.cells #[.slice a m c, .slice b m d] 118)).alloc (.cells #[.int .i64 den, .slice sa sn sc] 85)).alloc (.cells #[.int .i64 st, .int .i64 left] 74)).drew := ((((Below.refl _ _).alloc (Nat.le_refl _) _).alloc (by simp) _).alloc (by simp; omega) _).drew
  have HR := Lib.hid hr
  have hcs := checkF_set he st.toNat left hl1 hl2
  have HCS := Lib.hid hcs
  obtain ⟨k1, k2⟩ : m ≤ ks.length ∧ ks.length ≤ m := by have := h2.len; omega
  obtain ⟨g1, g2⟩ : sn ≤ sq.length ∧ sq.length ≤ sn := by have := h3.len; omega
  have hm4 : m ≤ 4 := by have := (checkF_ok he).2.2.1; have := h1.len; omega
  have c2 := h2.cap
  have HE := Lib.hid he
  clear hr hcs he
  go_enter Tryz.func78, Tryz.ntmps78
  go_wp2_with fail
  refine Calmly.wp_region_mix 7 (.fl 0 <| .fl 1 <| .fl 2 <| .fl 3 <| .alt 4 (.fl 5 <| .eff 6 <| .tail [7]) (.eff 6 (.eff 4 <| .fl 5 <| .tail [7]))) (by kernel_rfl) (by kernel_rfl) ?_
  rename_i K hK
  have hK' := fun a w (h : Stop _) => hK a w h.out
  clear hK
  obtain ⟨hbV, hVs⟩ := allocs_below [(.cells #[.slice a m c, .slice b m d] 118), (.cells #[.int .i64 den, .slice sa sn sc] 85), (.cells #[.int .i64 st, .int .i64 left] 74)] w
  have hVa := allocs_at [(.cells #[.slice a m c, .slice b m d] 118), (.cells #[.int .i64 den, .slice sa sn sc] 85), (.cells #[.int .i64 st, .int .i64 left] 74)] w
  obtain ⟨V, hV⟩ : ∃ V, (((w.alloc (.cells #[.slice a m c, .slice b m d] 118)).alloc (.cells #[.int .i64 den, .slice sa sn sc] 85)).alloc (.cells #[.int .i64 st, .int .i64 left] 74)).drew = V := ⟨_, rfl⟩
  replace hbV : Below w.heap.size w V := by rw [← hV]; exact hbV.drew
  replace hVs : V.heap.size = w.heap.size + 3 := by rw [← hV]; exact hVs
  have hv0 : V.heap[w.heap.size]? = some (.cells #[.slice a m c, .slice b m d] 118) := by rw [← hV]; exact hVa 0 (by simp)
  have hv1 : V.heap[w.heap.size + 1]? = some (.cells #[.int .i64 den, .slice sa sn sc] 85) := by rw [← hV]; exact hVa 1 (by simp)
  have hv2 : V.heap[w.heap.size + 1 + 1]? = some (.cells #[.int .i64 st, .int .i64 left] 74) := by rw [← hV]; exact hVa 2 (by simp)
  rw [hV]
  clear hV hVa hbb
  have hV1 : w.heap.size + 3 ≤ V.heap.size := by omega
  have hV2 : V.heap.size ≤ w.heap.size + 3 := by omega
  clear hVs
  have f0 : V.cell? ⟨w.heap.size, 0, none⟩ = some (.slice a m c) := cell_block hv0 0
  have f1 : V.cell? ⟨w.heap.size, 1, none⟩ = some (.slice b m d) := cell_block hv0 1
  have f2 : V.cell? ⟨w.heap.size + 1, 0, none⟩ = some (.int .i64 den) := cell_block hv1 0
  have f3 : V.cell? ⟨w.heap.size + 1, 1, none⟩ = some (.slice sa sn sc) := cell_block hv1 1
  have f4 : V.cell? ⟨w.heap.size + 1 + 1, 0, none⟩ = some (.int .i64 st) := cell_block hv2 0
  have f5 : V.cell? ⟨w.heap.size + 1 + 1, 1, none⟩ = some (.int .i64 left) := cell_block hv2 1
  clear hv0 hv1 hv2
  have hk := Below.refl V.heap.size V
  go_wp2_with (first | ((with_reducible refine Calmly.is_fl ?_); refine Calmly.mix_fl rfl ?_ (fun _ _ => ?_); (first | exact .move _ | exact .load _ _ | exact .fieldAddr _ _ _ (by kernel_rfl) | exact .assign _ | exact .binOp _ _ _ _ _ rfl | exact .indexAddr _ _ _ | exact .len _ _ (by kernel_rfl) | exact .field _ _ _ | exact .extract _ _ | exact .pick _ _ _ | exact .build _ _ | exact .slice _ _ _ _ _ | exact .unOp _ _ _ rfl | exact .index _ _ _ | exact .max _ _ _ rfl rfl | exact .min _ _ _ rfl rfl | exact .nilCheck _ _ rfl)) | ((with_reducible refine Calmly.is_gl ?_); refine Calmly.mix_gl rfl rfl rfl ?_; first | ((first | with_reducible refine Calmly.gl_tt ?_ (fun _ _ => ?_) | with_reducible refine Calmly.gl_ff ?_ (fun _ _ => ?_)); (first | exact .move _ | exact .load _ _ | exact .fieldAddr _ _ _ (by kernel_rfl) | exact .assign _ | exact .binOp _ _ _ _ _ rfl | exact .indexAddr _ _ _ | exact .len _ _ (by kernel_rfl) | exact .field _ _ _ | exact .extract _ _ | exact .pick _ _ _ | exact .build _ _ | exact .slice _ _ _ _ _ | exact .unOp _ _ _ rfl | exact .index _ _ _ | exact .max _ _ _ rfl rfl | exact .min _ _ _ rfl rfl | exact .nilCheck _ _ rfl)) | with_reducible refine Calmly.gl_tf (fun _ _ => ?_) | with_reducible refine Calmly.gl_ft (fun _ _ => ?_)) | ((with_reducible refine Calmly.is_eff ?_); refine Calmly.mix_eff rfl (fun _ _ => ?_)) | ((with_reducible refine Calmly.is_gf ?_); refine Calmly.mix_gf rfl rfl rfl ?_; first | with_reducible refine Calmly.gf_tt (fun _ _ => ?_) | with_reducible refine Calmly.gf_ff (fun _ _ => ?_) | with_reducible refine Calmly.gf_tf (kept_of hk) (fun _ _ => ?_) | with_reducible refine Calmly.gf_ft (kept_of hk) (fun _ _ => ?_)) | ((with_reducible refine Calmly.is_tail ?_); first | refine Calmly.mix_tail_nil ?_ | refine Calmly.mix_tail rfl (fun _ _ => ?_)) | ((with_reducible refine Calmly.is_kept ?_); refine ⟨kept_of hk, ?_⟩) | (with_reducible refine Calmly.mix_alt ?_ ?_) | (refine kept_alloc hk (fun hk' hblk hge => ?_); replace hk := hk'; clear hk'))
  · refine (clone_any b m d ks _ (h2.keep hbV) (by omega) (by omega)).mono ?_
    rintro e w2 ⟨a', c', rfl, ho2, hb2⟩
    replace hk := step_of hk hb2
    obtain ⟨g, rfl, hg1, hg2⟩ := ho2.at_ (by omega)
    have hsz2 := hb2.size
    go_wp2_with (first | ((with_reducible refine Calmly.is_fl ?_); refine Calmly.mix_fl rfl ?_ (fun _ _ => ?_); (first | exact .move _ | exact .load _ _ | exact .fieldAddr _ _ _ (by kernel_rfl) | exact .assign _ | exact .binOp _ _ _ _ _ rfl | exact .indexAddr _ _ _ | exact .len _ _ (by kernel_rfl) | exact .field _ _ _ | exact .extract _ _ | exact .pick _ _ _ | exact .build _ _ | exact .slice _ _ _ _ _ | exact .unOp _ _ _ rfl | exact .index _ _ _ | exact .max _ _ _ rfl rfl | exact .min _ _ _ rfl rfl | exact .nilCheck _ _ rfl)) | ((with_reducible refine Calmly.is_gl ?_); refine Calmly.mix_gl rfl rfl rfl ?_; first | ((first | with_reducible refine Calmly.gl_tt ?_ (fun _ _ => ?_) | with_reducible refine Calmly.gl_ff ?_ (fun _ _ => ?_)); (first | exact .move _ | exact .load _ _ | exact .fieldAddr _ _ _ (by kernel_rfl) | exact .assign _ | exact .binOp _ _ _ _ _ rfl | exact .indexAddr _ _ _ | exact .len _ _ (by kernel_rfl) | exact .field _ _ _ | exact .extract _ _ | exact .pick _ _ _ | exact .build _ _ | exact .slice _ _ _ _ _ | exact .unOp _ _ _ rfl | exact .index _ _ _ | exact .max _ _ _ rfl rfl | exact .min _ _ _ rfl rfl | exact .nilCheck _ _ rfl)) | with_reducible refine Calmly.gl_tf (fun _ _ => ?_) | with_reducible refine Calmly.gl_ft (fun _ _ => ?_)) | ((with_reducible refine Calmly.is_eff ?_); refine Calmly.mix_eff rfl (fun _ _ => ?_)) | ((with_reducible refine Calmly.is_gf ?_); refine Calmly.mix_gf rfl rfl rfl ?_; first | with_reducible refine Calmly.gf_tt (fun _ _ => ?_) | with_reducible refine Calmly.gf_ff (fun _ _ => ?_) | with_reducible refine Calmly.gf_tf (kept_of hk) (fun _ _ => ?_) | with_reducible refine Calmly.gf_ft (kept_of hk) (fun _ _ => ?_)) | ((with_reducible refine Calmly.is_tail ?_); first | refine Calmly.mix_tail_nil ?_ | refine Calmly.mix_tail rfl (fun _ _ => ?_)) | ((with_reducible refine Calmly.is_kept ?_); refine ⟨kept_of hk, ?_⟩) | (with_reducible refine Calmly.mix_alt ?_ ?_) | (refine kept_alloc hk (fun hk' hblk hge => ?_); replace hk := hk'; clear hk'))
    obtain ⟨b8, hb8⟩ : ∃ b8, b8 = w2.heap.size := ⟨_, rfl⟩
    rw [← hb8]
    have hnew : Below w2.heap.size w2 (w2.alloc (.cells #[.slice a m c, .slice (some ⟨g, 0, none⟩) m c'] 118)) := (Below.refl _ _).alloc (Nat.le_refl _) _
    refine ⟨?_⟩
    refine wp_gen (fun v => Below V.heap.size V v ∧ v.heap[b8]? = some (.cells #[.slice a m c, .slice (some ⟨g, 0, none⟩) m c'] 118) ∧ OwI v V.heap.size (some ⟨g, 0, none⟩) m c' ks ∧ V.heap.size ≤ b8 ∧ g ≠ b8) ⟨hb2.trans (hnew.mono hsz2), by rw [hb8]; exact alloc_new _ _, ho2.keep hnew, by omega, by omega⟩ ?_
    clear hk hnew hb8 ho2 hb2 hg1 hg2
    rintro v ⟨hbv, hv8, hov, hb8, hne⟩
    have hbvw := hbV.trans (hbv.mono (by omega))
    have i0 : v.cell? ⟨w.heap.size + 1 + 1, 0, none⟩ = some (.int .i64 st) := cell_keep f4 hbv
    have i1 : v.cell? ⟨w.heap.size + 1 + 1, 1, none⟩ = some (.int .i64 left) := cell_keep f5 hbv
    have i2 : v.cell? ⟨w.heap.size + 1, 0, none⟩ = some (.int .i64 den) := cell_keep f2 hbv
    have i3 : v.cell? ⟨w.heap.size + 1, 1, none⟩ = some (.slice sa sn sc) := cell_keep f3 hbv
    have j0 : v.cell? ⟨b8, 0, none⟩ = some (.slice a m c) := cell_block hv8 0
    have j1 : v.cell? ⟨b8, 1, none⟩ = some (.slice (some ⟨g, 0, none⟩) m c') := cell_block hv8 1
    have q0 := hov.cell st.toNat (by omega)
    have q1 := hov.free st.toNat
    have hst := hov.stored st.toNat left
    have HST := Lib.hid hst
    have hg := hov.lt
    have hsv := hbv.size
    clear hst
    go_wp2_with fail
    refine wp_gen (fun u => Below V.heap.size V u ∧ u.heap[b8]? = some (.cells #[.slice a m c, .slice (some ⟨g, 0, none⟩) m c'] 118) ∧ OwI u V.heap.size (some ⟨g, 0, none⟩) m c' (ks.set st.toNat left)) ⟨hbv.trans HST.out.2, blk_other' hv8 (fun h => hne h.symm) _ _, HST.out.1⟩ ?_
    clear i0 i1 i2 i3 j0 j1 q0 q1 hov HST
    rintro u ⟨hbu, hu8, hou⟩
    have hus := hbu.size
    have hu8s := blk_lt hu8
    go_loopw [27] (fun z wr => ∃ k : Nat, k ≤ sn ∧ z = .int .i64 k ∧ oddF ms (ks.set st.toNat left) den 0 sq = oddF ms (ks.set st.toNat left) den k (sq.drop k) ∧ Below u.heap.size u wr) (fun z _ => sn - (intOf z).toNat)
    case atStart => exact ⟨0, by omega, rfl, rfl, Below.refl _ _⟩
    case round =>
      obtain ⟨k, hk, rfl, ho, hbr⟩ := hrel
      have HO := Lib.hid ho
      clear ho
      have hbVr := hbu.trans (hbr.mono (by omega))
      have hbwr := hbV.trans (hbVr.mono (by omega))
      have hrs := hbr.size
      by_cases hlt : k < sn
      · obtain ⟨cb, co, rfl, hcc⟩ := h3.at_ (by omega)
        obtain ⟨y0, y1⟩ := hcc k hlt
        have y0' := cell_keep y0 hbwr
        have y1' := cell_keep y1 hbwr
        clear hcc y0 y1
        have i2 : wr.cell? ⟨w.heap.size + 1, 0, none⟩ = some (.int .i64 den) := cell_keep f2 hbVr
        have j8 := blk_keep hu8 hbr
        have j0 : wr.cell? ⟨b8, 0, none⟩ = some (.slice a m c) := cell_block j8 0
        have j1 : wr.cell? ⟨b8, 1, none⟩ = some (.slice (some ⟨g, 0, none⟩) m c') := cell_block j8 1
        have hlt1 : b8 < wr.heap.size := by omega
        have hlt2 : w.heap.size + 1 < wr.heap.size := by omega
        have hd := oddF_drop ms (ks.set st.toNat left) den sq k (by omega)
        have HD := Lib.hid hd
        clear hd
        obtain ⟨rr, hrr⟩ : ∃ rr, sq[k]?.getD (0, 0) = rr := ⟨_, rfl⟩
        obtain ⟨lo, hi⟩ := rr
        rw [hrr] at y0' y1' HD
        clear hrr
        dsimp only at y0' y1'
        obtain ⟨en, hen⟩ : ∃ en, encF ms (ks.set st.toNat left) k den = en := ⟨_, rfl⟩
        obtain ⟨e1, e2⟩ := en
        rw [hen] at HD
        have HEN := Lib.hid hen
        clear hen
        have hi1 : (k : Int) < (sn : Int) := by omega
        have hi0 : (0 : Int) ≤ (k : Int) := by omega
        have hAl : ∀ o, Below wr.heap.size wr (wr.alloc o) := fun o => (Below.refl _ _).alloc (Nat.le_refl _) _
        go_wp2_with fail
        refine Calmly.wp_region_mix 7 (.fl 0 <| .fl 1 <| .fl 2 <| .fl 3 <| .fl 5 <| .eff 4 <| .eff 6 <| .tail [7]) (by kernel_rfl) (by kernel_rfl) ?_
        have hk := Below.refl (wr.alloc (.cells #[.int .i64 lo, .int .i64 hi] 46)).drew.heap.size (wr.alloc (.cells #[.int .i64 lo, .int .i64 hi] 46)).drew
        go_wp2_with (first | ((with_reducible refine Calmly.is_fl ?_); refine Calmly.mix_fl rfl ?_ (fun _ _ => ?_); (first | exact .move _ | exact .load _ _ | exact .fieldAddr _ _ _ (by kernel_rfl) | exact .assign _ | exact .binOp _ _ _ _ _ rfl | exact .indexAddr _ _ _ | exact .len _ _ (by kernel_rfl) | exact .field _ _ _ | exact .extract _ _ | exact .pick _ _ _ | exact .build _ _ | exact .slice _ _ _ _ _ | exact .unOp _ _ _ rfl | exact .index _ _ _ | exact .max _ _ _ rfl rfl | exact .min _ _ _ rfl rfl | exact .nilCheck _ _ rfl)) | ((with_reducible refine Calmly.is_gl ?_); refine Calmly.mix_gl rfl rfl rfl ?_; first | ((first | with_reducible refine Calmly.gl_tt ?_ (fun _ _ => ?_) | with_reducible refine Calmly.gl_ff ?_ (fun _ _ => ?_)); (first | exact .move _ | exact .load _ _ | exact .fieldAddr _ _ _ (by kernel_rfl) | exact .assign _ | exact .binOp _ _ _ _ _ rfl | exact .indexAddr _ _ _ | exact .len _ _ (by kernel_rfl) | exact .field _ _ _ | exact .extract _ _ | exact .pick _ _ _ | exact .build _ _ | exact .slice _ _ _ _ _ | exact .unOp _ _ _ rfl | exact .index _ _ _ | exact .max _ _ _ rfl rfl | exact .min _ _ _ rfl rfl | exact .nilCheck _ _ rfl)) | with_reducible refine Calmly.gl_tf (fun _ _ => ?_) | with_reducible refine Calmly.gl_ft (fun _ _ => ?_)) | ((with_reducible refine Calmly.is_eff ?_); refine Calmly.mix_eff rfl (fun _ _ => ?_)) | ((with_reducible refine Calmly.is_gf ?_); refine Calmly.mix_gf rfl rfl rfl ?_; first | with_reducible refine Calmly.gf_tt (fun _ _ => ?_) | with_reducible refine Calmly.gf_ff (fun _ _ => ?_) | with_reducible refine Calmly.gf_tf (kept_of hk) (fun _ _ => ?_) | with_reducible refine Calmly.gf_ft (kept_of hk) (fun _ _ => ?_)) | ((with_reducible refine Calmly.is_tail ?_); first | refine Calmly.mix_tail_nil ?_ | refine Calmly.mix_tail rfl (fun _ _ => ?_)) | ((with_reducible refine Calmly.is_kept ?_); refine ⟨kept_of hk, ?_⟩) | (with_reducible refine Calmly.mix_alt ?_ ?_))
        refine (enclosure_any a (some ⟨g, 0, none⟩) m c c' ms (ks.set st.toNat left) k den _ (((h1.keep hbwr).keep (hAl _)).drew) (((hou.keep hbr).keep (hAl _)).si.drew) HCS.out hd1 hd2).mono ?_
        rintro e w5 ⟨rfl, hb5⟩
        replace hk := step_of hk hb5
        rw [HEN.out]
        go_wp2_with (first | ((with_reducible refine Calmly.is_fl ?_); refine Calmly.mix_fl rfl ?_ (fun _ _ => ?_); (first | exact .move _ | exact .load _ _ | exact .fieldAddr _ _ _ (by kernel_rfl) | exact .assign _ | exact .binOp _ _ _ _ _ rfl | exact .indexAddr _ _ _ | exact .len _ _ (by kernel_rfl) | exact .field _ _ _ | exact .extract _ _ | exact .pick _ _ _ | exact .build _ _ | exact .slice _ _ _ _ _ | exact .unOp _ _ _ rfl | exact .index _ _ _ | exact .max _ _ _ rfl rfl | exact .min _ _ _ rfl rfl | exact .nilCheck _ _ rfl)) | ((with_reducible refine Calmly.is_gl ?_); refine Calmly.mix_gl rfl rfl rfl ?_; first | ((first | with_reducible refine Calmly.gl_tt ?_ (fun _ _ => ?_) | with_reducible refine Calmly.gl_ff ?_ (fun _ _ => ?_)); (first | exact .move _ | exact .load _ _ | exact .fieldAddr _ _ _ (by kernel_rfl) | exact .assign _ | exact .binOp _ _ _ _ _ rfl | exact .indexAddr _ _ _ | exact .len _ _ (by kernel_rfl) | exact .field _ _ _ | exact .extract _ _ | exact .pick _ _ _ | exact .build _ _ | exact .slice _ _ _ _ _ | exact .unOp _ _ _ rfl | exact .index _ _ _ | exact .max _ _ _ rfl rfl | exact .min _ _ _ rfl rfl | exact .nilCheck _ _ rfl)) | with_reducible refine Calmly.gl_tf (fun _ _ => ?_) | with_reducible refine Calmly.gl_ft (fun _ _ => ?_)) | ((with_reducible refine Calmly.is_eff ?_); refine Calmly.mix_eff rfl (fun _ _ => ?_)) | ((with_reducible refine Calmly.is_gf ?_); refine Calmly.mix_gf rfl rfl rfl ?_; first | with_reducible refine Calmly.gf_tt (fun _ _ => ?_) | with_reducible refine Calmly.gf_ff (fun _ _ => ?_) | with_reducible refine Calmly.gf_tf (kept_of hk) (fun _ _ => ?_) | with_reducible refine Calmly.gf_ft (kept_of hk) (fun _ _ => ?_)) | ((with_reducible refine Calmly.is_tail ?_); first | refine Calmly.mix_tail_nil ?_ | refine Calmly.mix_tail rfl (fun _ _ => ?_)) | ((with_reducible refine Calmly.is_kept ?_); refine ⟨kept_of hk, ?_⟩) | (with_reducible refine Calmly.mix_alt ?_ ?_))
        refine (agree_any e1 e2 lo hi _).mono ?_
        rintro e w6 ⟨rfl, hb6⟩
        replace hk := step_of hk hb6
        have hb7 : Below u.heap.size u w6 := (hbr.trans ((hAl (.cells #[.int .i64 lo, .int .i64 hi] 46)).drew.mono hrs)).trans (hk.mono (by show _ ≤ (wr.alloc _).heap.size; simp; omega))
        cases hag : agreeF (e1, e2) (lo, hi)
        · rw [hag] at HD
          go_wp2_with (first | ((with_reducible refine Calmly.is_fl ?_); refine Calmly.mix_fl rfl ?_ (fun _ _ => ?_); (first | exact .move _ | exact .load _ _ | exact .fieldAddr _ _ _ (by kernel_rfl) | exact .assign _ | exact .binOp _ _ _ _ _ rfl | exact .indexAddr _ _ _ | exact .len _ _ (by kernel_rfl) | exact .field _ _ _ | exact .extract _ _ | exact .pick _ _ _ | exact .build _ _ | exact .slice _ _ _ _ _ | exact .unOp _ _ _ rfl | exact .index _ _ _ | exact .max _ _ _ rfl rfl | exact .min _ _ _ rfl rfl | exact .nilCheck _ _ rfl)) | ((with_reducible refine Calmly.is_gl ?_); refine Calmly.mix_gl rfl rfl rfl ?_; first | ((first | with_reducible refine Calmly.gl_tt ?_ (fun _ _ => ?_) | with_reducible refine Calmly.gl_ff ?_ (fun _ _ => ?_)); (first | exact .move _ | exact .load _ _ | exact .fieldAddr _ _ _ (by kernel_rfl) | exact .assign _ | exact .binOp _ _ _ _ _ rfl | exact .indexAddr _ _ _ | exact .len _ _ (by kernel_rfl) | exact .field _ _ _ | exact .extract _ _ | exact .pick _ _ _ | exact .build _ _ | exact .slice _ _ _ _ _ | exact .unOp _ _ _ rfl | exact .index _ _ _ | exact .max _ _ _ rfl rfl | exact .min _ _ _ rfl rfl | exact .nilCheck _ _ rfl)) | with_reducible refine Calmly.gl_tf (fun _ _ => ?_) | with_reducible refine Calmly.gl_ft (fun _ _ => ?_)) | ((with_reducible refine Calmly.is_eff ?_); refine Calmly.mix_eff rfl (fun _ _ => ?_)) | ((with_reducible refine Calmly.is_gf ?_); refine Calmly.mix_gf rfl rfl rfl ?_; first | with_reducible refine Calmly.gf_tt (fun _ _ => ?_) | with_reducible refine Calmly.gf_ff (fun _ _ => ?_) | with_reducible refine Calmly.gf_tf (kept_of hk) (fun _ _ => ?_) | with_reducible refine Calmly.gf_ft (kept_of hk) (fun _ _ => ?_)) | ((with_reducible refine Calmly.is_tail ?_); first | refine Calmly.mix_tail_nil ?_ | refine Calmly.mix_tail rfl (fun _ _ => ?_)) | ((with_reducible refine Calmly.is_kept ?_); refine ⟨kept_of hk, ?_⟩) | (with_reducible refine Calmly.mix_alt ?_ ?_))
          go_ret2
          refine ⟨ret_ib ?_, hbV.trans ((hbu.trans (hb7.mono hus)).mono (by omega))⟩
          rw [← HR.out, HO.out, HD.out]
          rfl
        · rw [hag] at HD
          go_wp2_with (first | ((with_reducible refine Calmly.is_fl ?_); refine Calmly.mix_fl rfl ?_ (fun _ _ => ?_); (first | exact .move _ | exact .load _ _ | exact .fieldAddr _ _ _ (by kernel_rfl) | exact .assign _ | exact .binOp _ _ _ _ _ rfl | exact .indexAddr _ _ _ | exact .len _ _ (by kernel_rfl) | exact .field _ _ _ | exact .extract _ _ | exact .pick _ _ _ | exact .build _ _ | exact .slice _ _ _ _ _ | exact .unOp _ _ _ rfl | exact .index _ _ _ | exact .max _ _ _ rfl rfl | exact .min _ _ _ rfl rfl | exact .nilCheck _ _ rfl)) | ((with_reducible refine Calmly.is_gl ?_); refine Calmly.mix_gl rfl rfl rfl ?_; first | ((first | with_reducible refine Calmly.gl_tt ?_ (fun _ _ => ?_) | with_reducible refine Calmly.gl_ff ?_ (fun _ _ => ?_)); (first | exact .move _ | exact .load _ _ | exact .fieldAddr _ _ _ (by kernel_rfl) | exact .assign _ | exact .binOp _ _ _ _ _ rfl | exact .indexAddr _ _ _ | exact .len _ _ (by kernel_rfl) | exact .field _ _ _ | exact .extract _ _ | exact .pick _ _ _ | exact .build _ _ | exact .slice _ _ _ _ _ | exact .unOp _ _ _ rfl | exact .index _ _ _ | exact .max _ _ _ rfl rfl | exact .min _ _ _ rfl rfl | exact .nilCheck _ _ rfl)) | with_reducible refine Calmly.gl_tf (fun _ _ => ?_) | with_reducible refine Calmly.gl_ft (fun _ _ => ?_)) | ((with_reducible refine Calmly.is_eff ?_); refine Calmly.mix_eff rfl (fun _ _ => ?_)) | ((with_reducible refine Calmly.is_gf ?_); refine Calmly.mix_gf rfl rfl rfl ?_; first | with_reducible refine Calmly.gf_tt (fun _ _ => ?_) | with_reducible refine Calmly.gf_ff (fun _ _ => ?_) | with_reducible refine Calmly.gf_tf (kept_of hk) (fun _ _ => ?_) | with_reducible refine Calmly.gf_ft (kept_of hk) (fun _ _ => ?_)) | ((with_reducible refine Calmly.is_tail ?_); first | refine Calmly.mix_tail_nil ?_ | refine Calmly.mix_tail rfl (fun _ _ => ?_)) | ((with_reducible refine Calmly.is_kept ?_); refine ⟨kept_of hk, ?_⟩) | (with_reducible refine Calmly.mix_alt ?_ ?_))
          go_roundw
          case rel => exact ⟨k + 1, by omega, by go_num, by rw [HO.out, HD.out]; rfl, hb7⟩
          case measure => simp [intOf]; omega
      · have hle : (sn : Int) ≤ (k : Int) := by omega
        go_wp2_with fail
        go_ret2
        refine ⟨ret_ib ?_, hbwr⟩
        rw [← HR.out, HO.out, List.drop_eq_nil_of_le (by omega)]
        rfl
  · have hnew : Below V.heap.size V (V.alloc (.cells #[.slice none 0 0, .slice none 0 0] 118)) := (Below.refl _ _).alloc (Nat.le_refl _) _
    refine (clone_any b m d ks _ ((h2.keep hbV).keep hnew) (by omega) (by omega)).mono ?_
    rintro e w2 ⟨a', c', rfl, ho2, hb2⟩
    replace hk := step_of hk hb2
    obtain ⟨g, rfl, hg1, hg2⟩ := ho2.at_ (by omega)
    have hsz2 := hb2.size
    simp only [World.size_alloc] at hsz2 hg1
    have hblk := box1 (w := V) hb2
    have z0 : w2.cell? ⟨V.heap.size, 0, none⟩ = some (.slice none 0 0) := cell_block hblk 0
    have z1 : w2.cell? ⟨V.heap.size, 1, none⟩ = some (.slice none 0 0) := cell_block hblk 1
    have z2 := frozen_block hblk 0
    have z3 := frozen_block hblk 1
    go_wp2_with (first | ((with_reducible refine Calmly.is_fl ?_); refine Calmly.mix_fl rfl ?_ (fun _ _ => ?_); (first | exact .move _ | exact .load _ _ | exact .fieldAddr _ _ _ (by kernel_rfl) | exact .assign _ | exact .binOp _ _ _ _ _ rfl | exact .indexAddr _ _ _ | exact .len _ _ (by kernel_rfl) | exact .field _ _ _ | exact .extract _ _ | exact .pick _ _ _ | exact .build _ _ | exact .slice _ _ _ _ _ | exact .unOp _ _ _ rfl | exact .index _ _ _ | exact .max _ _ _ rfl rfl | exact .min _ _ _ rfl rfl | exact .nilCheck _ _ rfl)) | ((with_reducible refine Calmly.is_gl ?_); refine Calmly.mix_gl rfl rfl rfl ?_; first | ((first | with_reducible refine Calmly.gl_tt ?_ (fun _ _ => ?_) | with_reducible refine Calmly.gl_ff ?_ (fun _ _ => ?_)); (first | exact .move _ | exact .load _ _ | exact .fieldAddr _ _ _ (by kernel_rfl) | exact .assign _ | exact .binOp _ _ _ _ _ rfl | exact .indexAddr _ _ _ | exact .len _ _ (by kernel_rfl) | exact .field _ _ _ | exact .extract _ _ | exact .pick _ _ _ | exact .build _ _ | exact .slice _ _ _ _ _ | exact .unOp _ _ _ rfl | exact .index _ _ _ | exact .max _ _ _ rfl rfl | exact .min _ _ _ rfl rfl | exact .nilCheck _ _ rfl)) | with_reducible refine Calmly.gl_tf (fun _ _ => ?_) | with_reducible refine Calmly.gl_ft (fun _ _ => ?_)) | ((with_reducible refine Calmly.is_eff ?_); refine Calmly.mix_eff rfl (fun _ _ => ?_)) | ((with_reducible refine Calmly.is_gf ?_); refine Calmly.mix_gf rfl rfl rfl ?_; first | with_reducible refine Calmly.gf_tt (fun _ _ => ?_) | with_reducible refine Calmly.gf_ff (fun _ _ => ?_) | with_reducible refine Calmly.gf_tf (kept_of hk) (fun _ _ => ?_) | with_reducible refine Calmly.gf_ft (kept_of hk) (fun _ _ => ?_)) | ((with_reducible refine Calmly.is_tail ?_); first | refine Calmly.mix_tail_nil ?_ | refine Calmly.mix_tail rfl (fun _ _ => ?_)) | ((with_reducible refine Calmly.is_kept ?_); refine ⟨kept_of hk, ?_⟩) | (with_reducible refine Calmly.mix_alt ?_ ?_) | (refine kept_alloc hk (fun hk' hblk hge => ?_); replace hk := hk'; clear hk'))
    obtain ⟨b8, hb8⟩ : ∃ b8, b8 = V.heap.size := ⟨_, rfl⟩
    rw [← hb8] at hblk ⊢
    refine ⟨?_⟩
    refine wp_gen (fun v => Below V.heap.size V v ∧ v.heap[b8]? = some (.cells #[.slice a m c, .slice (some ⟨g, 0, none⟩) m c'] 118) ∧ OwI v V.heap.size (some ⟨g, 0, none⟩) m c' ks ∧ V.heap.size ≤ b8 ∧ g ≠ b8) ⟨((hnew.trans (hb2.mono (by simp))).setCell (by show _ ≤ b8; omega) _).setCell (by show _ ≤ b8; omega) _, blk_setAt (blk_setAt hblk 0 _) 1 _, (ho2.under2 (by simp; omega) _ _).weak (by simp), by omega, by omega⟩ ?_
    clear hk hnew hb8 ho2 hb2 hg1 hg2 z0 z1 z2 z3 hblk
    rintro v ⟨hbv, hv8, hov, hb8, hne⟩
    have hbvw := hbV.trans (hbv.mono (by omega))
    have i0 : v.cell? ⟨w.heap.size + 1 + 1, 0, none⟩ = some (.int .i64 st) := cell_keep f4 hbv
    have i1 : v.cell? ⟨w.heap.size + 1 + 1, 1, none⟩ = some (.int .i64 left) := cell_keep f5 hbv
    have i2 : v.cell? ⟨w.heap.size + 1, 0, none⟩ = some (.int .i64 den) := cell_keep f2 hbv
    have i3 : v.cell? ⟨w.heap.size + 1, 1, none⟩ = some (.slice sa sn sc) := cell_keep f3 hbv
    have j0 : v.cell? ⟨b8, 0, none⟩ = some (.slice a m c) := cell_block hv8 0
    have j1 : v.cell? ⟨b8, 1, none⟩ = some (.slice (some ⟨g, 0, none⟩) m c') := cell_block hv8 1
    have q0 := hov.cell st.toNat (by omega)
    have q1 := hov.free st.toNat
    have hst := hov.stored st.toNat left
    have HST := Lib.hid hst
    have hg := hov.lt
    have hsv := hbv.size
    clear hst
    go_wp2_with fail
    refine wp_gen (fun u => Below V.heap.size V u ∧ u.heap[b8]? = some (.cells #[.slice a m c, .slice (some ⟨g, 0, none⟩) m c'] 118) ∧ OwI u V.heap.size (some ⟨g, 0, none⟩) m c' (ks.set st.toNat left)) ⟨hbv.trans HST.out.2, blk_other' hv8 (fun h => hne h.symm) _ _, HST.out.1⟩ ?_
    clear i0 i1 i2 i3 j0 j1 q0 q1 hov HST
    rintro u ⟨hbu, hu8, hou⟩
    have hus := hbu.size
    have hu8s := blk_lt hu8
    go_loopw [27] (fun z wr => ∃ k : Nat, k ≤ sn ∧ z = .int .i64 k ∧ oddF ms (ks.set st.toNat left) den 0 sq = oddF ms (ks.set st.toNat left) den k (sq.drop k) ∧ Below u.heap.size u wr) (fun z _ => sn - (intOf z).toNat)
    case atStart => exact ⟨0, by omega, rfl, rfl, Below.refl _ _⟩
    case round =>
      obtain ⟨k, hk, rfl, ho, hbr⟩ := hrel
      have HO := Lib.hid ho
      clear ho
      have hbVr := hbu.trans (hbr.mono (by omega))
      have hbwr := hbV.trans (hbVr.mono (by omega))
      have hrs := hbr.size
      by_cases hlt : k < sn
      · obtain ⟨cb, co, rfl, hcc⟩ := h3.at_ (by omega)
        obtain ⟨y0, y1⟩ := hcc k hlt
        have y0' := cell_keep y0 hbwr
        have y1' := cell_keep y1 hbwr
        clear hcc y0 y1
        have i2 : wr.cell? ⟨w.heap.size + 1, 0, none⟩ = some (.int .i64 den) := cell_keep f2 hbVr
        have j8 := blk_keep hu8 hbr
        have j0 : wr.cell? ⟨b8, 0, none⟩ = some (.slice a m c) := cell_block j8 0
        have j1 : wr.cell? ⟨b8, 1, none⟩ = some (.slice (some ⟨g, 0, none⟩) m c') := cell_block j8 1
        have hlt1 : b8 < wr.heap.size := by omega
        have hlt2 : w.heap.size + 1 < wr.heap.size := by omega
        have hd := oddF_drop ms (ks.set st.toNat left) den sq k (by omega)
        have HD := Lib.hid hd
        clear hd
        obtain ⟨rr, hrr⟩ : ∃ rr, sq[k]?.getD (0, 0) = rr := ⟨_, rfl⟩
        obtain ⟨lo, hi⟩ := rr
        rw [hrr] at y0' y1' HD
        clear hrr
        dsimp only at y0' y1'
        obtain ⟨en, hen⟩ : ∃ en, encF ms (ks.set st.toNat left) k den = en := ⟨_, rfl⟩
        obtain ⟨e1, e2⟩ := en
        rw [hen] at HD
        have HEN := Lib.hid hen
        clear hen
        have hi1 : (k : Int) < (sn : Int) := by omega
        have hi0 : (0 : Int) ≤ (k : Int) := by omega
        have hAl : ∀ o, Below wr.heap.size wr (wr.alloc o) := fun o => (Below.refl _ _).alloc (Nat.le_refl _) _
        go_wp2_with fail
        refine Calmly.wp_region_mix 7 (.fl 0 <| .fl 1 <| .fl 2 <| .fl 3 <| .fl 5 <| .eff 4 <| .eff 6 <| .tail [7]) (by kernel_rfl) (by kernel_rfl) ?_
        have hk := Below.refl (wr.alloc (.cells #[.int .i64 lo, .int .i64 hi] 46)).drew.heap.size (wr.alloc (.cells #[.int .i64 lo, .int .i64 hi] 46)).drew
        go_wp2_with (first | ((with_reducible refine Calmly.is_fl ?_); refine Calmly.mix_fl rfl ?_ (fun _ _ => ?_); (first | exact .move _ | exact .load _ _ | exact .fieldAddr _ _ _ (by kernel_rfl) | exact .assign _ | exact .binOp _ _ _ _ _ rfl | exact .indexAddr _ _ _ | exact .len _ _ (by kernel_rfl) | exact .field _ _ _ | exact .extract _ _ | exact .pick _ _ _ | exact .build _ _ | exact .slice _ _ _ _ _ | exact .unOp _ _ _ rfl | exact .index _ _ _ | exact .max _ _ _ rfl rfl | exact .min _ _ _ rfl rfl | exact .nilCheck _ _ rfl)) | ((with_reducible refine Calmly.is_gl ?_); refine Calmly.mix_gl rfl rfl rfl ?_; first | ((first | with_reducible refine Calmly.gl_tt ?_ (fun _ _ => ?_) | with_reducible refine Calmly.gl_ff ?_ (fun _ _ => ?_)); (first | exact .move _ | exact .load _ _ | exact .fieldAddr _ _ _ (by kernel_rfl) | exact .assign _ | exact .binOp _ _ _ _ _ rfl | exact .indexAddr _ _ _ | exact .len _ _ (by kernel_rfl) | exact .field _ _ _ | exact .extract _ _ | exact .pick _ _ _ | exact .build _ _ | exact .slice _ _ _ _ _ | exact .unOp _ _ _ rfl | exact .index _ _ _ | exact .max _ _ _ rfl rfl | exact .min _ _ _ rfl rfl | exact .nilCheck _ _ rfl)) | with_reducible refine Calmly.gl_tf (fun _ _ => ?_) | with_reducible refine Calmly.gl_ft (fun _ _ => ?_)) | ((with_reducible refine Calmly.is_eff ?_); refine Calmly.mix_eff rfl (fun _ _ => ?_)) | ((with_reducible refine Calmly.is_gf ?_); refine Calmly.mix_gf rfl rfl rfl ?_; first | with_reducible refine Calmly.gf_tt (fun _ _ => ?_) | with_reducible refine Calmly.gf_ff (fun _ _ => ?_) | with_reducible refine Calmly.gf_tf (kept_of hk) (fun _ _ => ?_) | with_reducible refine Calmly.gf_ft (kept_of hk) (fun _ _ => ?_)) | ((with_reducible refine Calmly.is_tail ?_); first | refine Calmly.mix_tail_nil ?_ | refine Calmly.mix_tail rfl (fun _ _ => ?_)) | ((with_reducible refine Calmly.is_kept ?_); refine ⟨kept_of hk, ?_⟩) | (with_reducible refine Calmly.mix_alt ?_ ?_))
        refine (enclosure_any a (some ⟨g, 0, none⟩) m c c' ms (ks.set st.toNat left) k den _ (((h1.keep hbwr).keep (hAl _)).drew) (((hou.keep hbr).keep (hAl _)).si.drew) HCS.out hd1 hd2).mono ?_
        rintro e w5 ⟨rfl, hb5⟩
        replace hk := step_of hk hb5
        rw [HEN.out]
        go_wp2_with (first | ((with_reducible refine Calmly.is_fl ?_); refine Calmly.mix_fl rfl ?_ (fun _ _ => ?_); (first | exact .move _ | exact .load _ _ | exact .fieldAddr _ _ _ (by kernel_rfl) | exact .assign _ | exact .binOp _ _ _ _ _ rfl | exact .indexAddr _ _ _ | exact .len _ _ (by kernel_rfl) | exact .field _ _ _ | exact .extract _ _ | exact .pick _ _ _ | exact .build _ _ | exact .slice _ _ _ _ _ | exact .unOp _ _ _ rfl | exact .index _ _ _ | exact .max _ _ _ rfl rfl | exact .min _ _ _ rfl rfl | exact .nilCheck _ _ rfl)) | ((with_reducible refine Calmly.is_gl ?_); refine Calmly.mix_gl rfl rfl rfl ?_; first | ((first | with_reducible refine Calmly.gl_tt ?_ (fun _ _ => ?_) | with_reducible refine Calmly.gl_ff ?_ (fun _ _ => ?_)); (first | exact .move _ | exact .load _ _ | exact .fieldAddr _ _ _ (by kernel_rfl) | exact .assign _ | exact .binOp _ _ _ _ _ rfl | exact .indexAddr _ _ _ | exact .len _ _ (by kernel_rfl) | exact .field _ _ _ | exact .extract _ _ | exact .pick _ _ _ | exact .build _ _ | exact .slice _ _ _ _ _ | exact .unOp _ _ _ rfl | exact .index _ _ _ | exact .max _ _ _ rfl rfl | exact .min _ _ _ rfl rfl | exact .nilCheck _ _ rfl)) | with_reducible refine Calmly.gl_tf (fun _ _ => ?_) | with_reducible refine Calmly.gl_ft (fun _ _ => ?_)) | ((with_reducible refine Calmly.is_eff ?_); refine Calmly.mix_eff rfl (fun _ _ => ?_)) | ((with_reducible refine Calmly.is_gf ?_); refine Calmly.mix_gf rfl rfl rfl ?_; first | with_reducible refine Calmly.gf_tt (fun _ _ => ?_) | with_reducible refine Calmly.gf_ff (fun _ _ => ?_) | with_reducible refine Calmly.gf_tf (kept_of hk) (fun _ _ => ?_) | with_reducible refine Calmly.gf_ft (kept_of hk) (fun _ _ => ?_)) | ((with_reducible refine Calmly.is_tail ?_); first | refine Calmly.mix_tail_nil ?_ | refine Calmly.mix_tail rfl (fun _ _ => ?_)) | ((with_reducible refine Calmly.is_kept ?_); refine ⟨kept_of hk, ?_⟩) | (with_reducible refine Calmly.mix_alt ?_ ?_))
        refine (agree_any e1 e2 lo hi _).mono ?_
        rintro e w6 ⟨rfl, hb6⟩
        replace hk := step_of hk hb6
        have hb7 : Below u.heap.size u w6 := (hbr.trans ((hAl (.cells #[.int .i64 lo, .int .i64 hi] 46)).drew.mono hrs)).trans (hk.mono (by show _ ≤ (wr.alloc _).heap.size; simp; omega))
        cases hag : agreeF (e1, e2) (lo, hi)
        · rw [hag] at HD
          go_wp2_with (first | ((with_reducible refine Calmly.is_fl ?_); refine Calmly.mix_fl rfl ?_ (fun _ _ => ?_); (first | exact .move _ | exact .load _ _ | exact .fieldAddr _ _ _ (by kernel_rfl) | exact .assign _ | exact .binOp _ _ _ _ _ rfl | exact .indexAddr _ _ _ | exact .len _ _ (by kernel_rfl) | exact .field _ _ _ | exact .extract _ _ | exact .pick _ _ _ | exact .build _ _ | exact .slice _ _ _ _ _ | exact .unOp _ _ _ rfl | exact .index _ _ _ | exact .max _ _ _ rfl rfl | exact .min _ _ _ rfl rfl | exact .nilCheck _ _ rfl)) | ((with_reducible refine Calmly.is_gl ?_); refine Calmly.mix_gl rfl rfl rfl ?_; first | ((first | with_reducible refine Calmly.gl_tt ?_ (fun _ _ => ?_) | with_reducible refine Calmly.gl_ff ?_ (fun _ _ => ?_)); (first | exact .move _ | exact .load _ _ | exact .fieldAddr _ _ _ (by kernel_rfl) | exact .assign _ | exact .binOp _ _ _ _ _ rfl | exact .indexAddr _ _ _ | exact .len _ _ (by kernel_rfl) | exact .field _ _ _ | exact .extract _ _ | exact .pick _ _ _ | exact .build _ _ | exact .slice _ _ _ _ _ | exact .unOp _ _ _ rfl | exact .index _ _ _ | exact .max _ _ _ rfl rfl | exact .min _ _ _ rfl rfl | exact .nilCheck _ _ rfl)) | with_reducible refine Calmly.gl_tf (fun _ _ => ?_) | with_reducible refine Calmly.gl_ft (fun _ _ => ?_)) | ((with_reducible refine Calmly.is_eff ?_); refine Calmly.mix_eff rfl (fun _ _ => ?_)) | ((with_reducible refine Calmly.is_gf ?_); refine Calmly.mix_gf rfl rfl rfl ?_; first | with_reducible refine Calmly.gf_tt (fun _ _ => ?_) | with_reducible refine Calmly.gf_ff (fun _ _ => ?_) | with_reducible refine Calmly.gf_tf (kept_of hk) (fun _ _ => ?_) | with_reducible refine Calmly.gf_ft (kept_of hk) (fun _ _ => ?_)) | ((with_reducible refine Calmly.is_tail ?_); first | refine Calmly.mix_tail_nil ?_ | refine Calmly.mix_tail rfl (fun _ _ => ?_)) | ((with_reducible refine Calmly.is_kept ?_); refine ⟨kept_of hk, ?_⟩) | (with_reducible refine Calmly.mix_alt ?_ ?_))
          go_ret2
          refine ⟨ret_ib ?_, hbV.trans ((hbu.trans (hb7.mono hus)).mono (by omega))⟩
          rw [← HR.out, HO.out, HD.out]
          rfl
        · rw [hag] at HD
          go_wp2_with (first | ((with_reducible refine Calmly.is_fl ?_); refine Calmly.mix_fl rfl ?_ (fun _ _ => ?_); (first | exact .move _ | exact .load _ _ | exact .fieldAddr _ _ _ (by kernel_rfl) | exact .assign _ | exact .binOp _ _ _ _ _ rfl | exact .indexAddr _ _ _ | exact .len _ _ (by kernel_rfl) | exact .field _ _ _ | exact .extract _ _ | exact .pick _ _ _ | exact .build _ _ | exact .slice _ _ _ _ _ | exact .unOp _ _ _ rfl | exact .index _ _ _ | exact .max _ _ _ rfl rfl | exact .min _ _ _ rfl rfl | exact .nilCheck _ _ rfl)) | ((with_reducible refine Calmly.is_gl ?_); refine Calmly.mix_gl rfl rfl rfl ?_; first | ((first | with_reducible refine Calmly.gl_tt ?_ (fun _ _ => ?_) | with_reducible refine Calmly.gl_ff ?_ (fun _ _ => ?_)); (first | exact .move _ | exact .load _ _ | exact .fieldAddr _ _ _ (by kernel_rfl) | exact .assign _ | exact .binOp _ _ _ _ _ rfl | exact .indexAddr _ _ _ | exact .len _ _ (by kernel_rfl) | exact .field _ _ _ | exact .extract _ _ | exact .pick _ _ _ | exact .build _ _ | exact .slice _ _ _ _ _ | exact .unOp _ _ _ rfl | exact .index _ _ _ | exact .max _ _ _ rfl rfl | exact .min _ _ _ rfl rfl | exact .nilCheck _ _ rfl)) | with_reducible refine Calmly.gl_tf (fun _ _ => ?_) | with_reducible refine Calmly.gl_ft (fun _ _ => ?_)) | ((with_reducible refine Calmly.is_eff ?_); refine Calmly.mix_eff rfl (fun _ _ => ?_)) | ((with_reducible refine Calmly.is_gf ?_); refine Calmly.mix_gf rfl rfl rfl ?_; first | with_reducible refine Calmly.gf_tt (fun _ _ => ?_) | with_reducible refine Calmly.gf_ff (fun _ _ => ?_) | with_reducible refine Calmly.gf_tf (kept_of hk) (fun _ _ => ?_) | with_reducible refine Calmly.gf_ft (kept_of hk) (fun _ _ => ?_)) | ((with_reducible refine Calmly.is_tail ?_); first | refine Calmly.mix_tail_nil ?_ | refine Calmly.mix_tail rfl (fun _ _ => ?_)) | ((with_reducible refine Calmly.is_kept ?_); refine ⟨kept_of hk, ?_⟩) | (with_reducible refine Calmly.mix_alt ?_ ?_))
          go_roundw
          case rel => exact ⟨k + 1, by omega, by go_num, by rw [HO.out, HD.out]; rfl, hb7⟩
          case measure => simp [intOf]; omega
      · have hle : (sn : Int) ≤ (k : Int) := by omega
        go_wp2_with fail
        go_ret2
        refine ⟨ret_ib ?_, hbwr⟩
        rw [← HR.out, HO.out, List.drop_eq_nil_of_le (by omega)]
        rfl
end Go.Proofs.YteigmjlfpmdmoaaGreatDoor
