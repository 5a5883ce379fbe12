/- Contracts of chapter 6: the sway under loads. Contracts of chapter 6: the sway under loads, by the reference. -/
import Derived.Test.YtmaidjankakppaaK22
import Derived.Maps.AppendAt
namespace Go.Proofs.Ytmaidjankakppaa
open Go.RowKit
open Calmly (Kept)

/-- The errors of a sway. -/
def swayE (ms ks ls : List Int) : Int := if (checkF ms ks).2 = 0 then loadsE ms.length ls else (checkF ms ks).2
theorem loadsE_cases (n : Nat) (ls : List Int) : loadsE n ls = if unlessE (decide (ls.length = n)) 10 = 0 then unlessE (!ls.any oddL) 2 else unlessE (decide (ls.length = n)) 10 := by
  unfold loadsE
  rw [lbadE_any]
  by_cases h : ls.length = n
  · rw [if_pos h, decide_eq_true h]
    cases ls.any oddL <;> simp [unlessE]
  · rw [if_neg h, decide_eq_false h]
    simp [unlessE]
theorem carT_drop (ls : List Int) (i t : Nat) : carT ls i (t + 1) = carT ls i t + (ls.drop i)[t]?.getD 0 := by
  rw [carT, List.getElem?_drop]
theorem SI.drop {w : World} {b off n c i : Nat} {xs : List Int} (h : SI w (some ⟨b, off, none⟩) n c xs) (hi : i ≤ n) : SI w (some ⟨b, off + i, none⟩) (n - i) (c - i) (xs.drop i) := by
  obtain ⟨s1, s2, s3, s4⟩ := h
  have hl : xs.length = n := by simpa using s1
  refine ⟨by simp; omega, by omega, by omega, .inr ⟨b, off + i, rfl, fun j hj => ?_⟩⟩
  rcases s4 with ⟨s4, _⟩ | ⟨b', off', he, hc⟩
  · cases s4
  · cases he
    have := hc (i + j) (by omega)
    rw [List.map_drop, List.getElem?_drop, ← this]
    congr 2
    omega
theorem swPs_succ (ks ls : List Int) (n k : Nat) : (List.range (k + 1)).map (fun i => swP ks ls n (prodK ks n) (i + 1)) = (List.range k).map (fun i => swP ks ls n (prodK ks n) (i + 1)) ++ [swP ks ls n (prodK ks n) (k + 1)] := by
  rw [List.range_succ, List.map_append]
  rfl

set_option maxRecDepth 100000 in
set_option maxHeartbeats 4000000 in
theorem SwayOf_any (a b u : Option Addr) (n c m d k e' : Nat) (ms ks ls : List Int) (w : World) (h1 : SI w a n c ms) (h2 : SI w b m d ks) (h3 : SI w u k e' ls)
    (E R : Int) (xs : List Int) (hE : swayE ms ks ls = E) (hno : E ≠ 0 → R = 0 ∧ xs = []) (hok : E = 0 → (prodK ks n).tdiv (lowG (swPs ks ls n) (prodK ks n)) = R ∧ (swPs ks ls n).map (fun p => p.tdiv (lowG (swPs ks ls n) (prodK ks n))) = xs) :
    Calls Try.prog 76 #[.agg #[.slice a n c, .slice b m d], .slice u k e'] w fun e w' => ∃ a' c' B, e = .returned (.tuple #[.agg #[.int .i64 R, .slice a' xs.length c'], .int .i64 E]) ∧ OwI w' B a' xs.length c' xs ∧ w.heap.size ≤ B ∧ Below w.heap.size w w' := by
  have HE := Lib.hid hE
  have HOK := Lib.hid hok
  have HNO := Lib.hid hno
  clear hE hok hno
  have hA : ∀ (A : World) (o : Obj), Below A.heap.size A (A.alloc o) := fun A o => (Below.refl _ _).alloc (Nat.le_refl _) _
  have hb2 : Below w.heap.size w ((w.alloc (.cells #[.slice a n c, .slice b m d] 24)).alloc (.cells #[.int .i64 0, .slice none 0 0] 117)) := ((Below.refl _ _).alloc (Nat.le_refl _) _).alloc (by simp) _
  obtain ⟨k1, k2⟩ : m ≤ ks.length ∧ ks.length ≤ m := by have := h2.len; omega
  obtain ⟨l1, l2⟩ : n ≤ ms.length ∧ ms.length ≤ n := by have := h1.len; omega
  obtain ⟨g1, g2⟩ : k ≤ ls.length ∧ ls.length ≤ k := by have := h3.len; omega
  have m1 := h1.max
  have c1 := h1.cap
  have m2 := h2.max
  have c2 := h2.cap
  have m3 := h3.max
  have c3 := h3.cap
  go_enter Try.func76, Try.ntmps76
  go_wp2_with fail
  refine (open_any a b n c m d ms ks _ (h1.keep hb2) (h2.keep hb2)).mono ?_
  rintro e w1 ⟨rfl, hb1⟩
  obtain ⟨x1, x2⟩ := box2 (w := w) (o := .cells #[.slice a n c, .slice b m d] 24) (o' := .cells #[.int .i64 0, .slice none 0 0] 117) hb1
  have hs1 := blk_lt x2
  have hbw : Below w.heap.size w w1 := hb2.trans (hb1.mono (by simp; omega))
  have hb3 := hA w1 (.cells #[.slice a n c, .slice b m d] 141)
  have y1 := alloc_new w1 (.cells #[.slice a n c, .slice b m d] 141)
  replace x2 := blk_keep x2 hb3
  replace x1 := blk_keep x1 hb3
  have f0 := cell_block x1 0
  have hs3 : w.heap.size + 1 < w1.heap.size + 1 := by omega
  go_wp2_with fail
  refine (containsLoad_any u k e' ls _ ((h3.keep hbw).keep hb3)).mono ?_
  rintro e w2 ⟨rfl, rfl⟩
  go_wp2_with fail
  refine (unless_any _ _ _).mono ?_
  rintro e w2 ⟨rfl, rfl⟩
  go_wp2_with fail
  refine (unless_any _ _ _).mono ?_
  rintro e w2 ⟨rfl, rfl⟩
  go_wp2_with fail
  refine (first_any _ 3 3 _ _ (SI.three _ _ _ _ _ (by simp))).mono ?_
  rintro e w2 ⟨rfl, rfl⟩
  rw [firstE_three]
  have hEE : (if (checkF ms ks).2 = 0 then (if unlessE ((k : Int) == (n : Int)) 10 = 0 then unlessE (!ls.any oddL) 2 else unlessE ((k : Int) == (n : Int)) 10) else (checkF ms ks).2) = E := by
    have h := HE.out
    unfold swayE at h
    rw [loadsE_cases] at h
    have hd : ((k : Int) == (n : Int)) = decide (ls.length = ms.length) := by
      by_cases hkn : k = n
      · rw [decide_eq_true (by omega)]
        simp [hkn]
      · rw [decide_eq_false (by omega), beq_eq_false_iff_ne]
        omega
    rw [hd]
    exact h
  rw [hEE]
  clear hEE
  have hb6 : Below w1.heap.size w1 ((w1.alloc (.cells #[.slice a n c, .slice b m d] 141)).alloc (.cells #[.int .i64 (checkF ms ks).2, .int .i64 (unlessE ((k : Int) == (n : Int)) 10), .int .i64 (unlessE (!ls.any oddL) 2)] 27)) := hb3.alloc (by simp) _
  have hb8 := hA (w1.alloc (.cells #[.slice a n c, .slice b m d] 141)) (.cells #[.int .i64 (checkF ms ks).2, .int .i64 (unlessE ((k : Int) == (n : Int)) 10), .int .i64 (unlessE (!ls.any oddL) 2)] 27)
  replace x2 := blk_keep x2 hb8
  replace y1 := blk_keep y1 hb8
  have hb7 := hbw.trans (hb6.mono hbw.size)
  obtain ⟨w3, hw3⟩ : ∃ v, (w1.alloc (.cells #[.slice a n c, .slice b m d] 141)).alloc (.cells #[.int .i64 (checkF ms ks).2, .int .i64 (unlessE ((k : Int) == (n : Int)) 10), .int .i64 (unlessE (!ls.any oddL) 2)] 27) = v := ⟨_, rfl⟩
  rw [hw3] at x2 y1 hb7 ⊢
  clear hw3 hb6 hb8 hb3 x1 f0 hs3
  have t0 := cell_block x2 0
  have t1 := cell_block x2 1
  have t2 := frozen_block x2 0
  have t3 := frozen_block x2 1
  by_cases hz : E = 0
  case neg =>
    have hz1 : (E != 0) = true := by simpa using hz
    obtain ⟨rfl, rfl⟩ := HNO.out hz
    clear hz
    go_wp2_with fail
    obtain ⟨s1, s2, s3, s4⟩ := set2 (x := .int .i64 0) (y := .slice none 0 0) t0 t1
    refine bodyPost_ret (v := .tuple #[.agg #[.int .i64 0, .slice none 0 0], .int .i64 E]) (by simp [results, Try.results76, go_sem, s1, s2]) rfl ⟨none, 0, w.heap.size, rfl, OwI.nil _ _, Nat.le_refl _, ?_⟩
    exact (hb7.setCell (by simp) _).setCell (by simp) _
  subst hz
  obtain ⟨hR, hX⟩ := HOK.out rfl
  have hc0 : (checkF ms ks).2 = 0 := by
    by_cases h : (checkF ms ks).2 = 0
    · exact h
    · have := HE.out
      unfold swayE at this
      rwa [if_neg h] at this
  obtain ⟨hl1, hl2⟩ := loadsE_ok (by have := HE.out; unfold swayE at this; rwa [if_pos hc0] at this : loadsE ms.length ls = 0)
  obtain ⟨q1, q2, q3, q4, q5⟩ := checkF_ok hc0
  obtain ⟨l3, l4⟩ : m ≤ n ∧ n ≤ m := by omega
  obtain ⟨l5, l6⟩ : k ≤ n ∧ n ≤ k := by omega
  have n0 : 0 < n := by omega
  have n4 : n ≤ 4 := by omega
  replace q5 : ∀ j, j < n → 1 ≤ ks[j]?.getD 0 ∧ ks[j]?.getD 0 ≤ 20 := fun j hj => q5 j (by omega)
  have Q5 := Lib.hid q5
  have HL := Lib.hid hl2
  have HR := Lib.hid hR
  have HX := Lib.hid hX
  clear q1 q2 q3 q4 q5 hR hX hc0 HOK HNO HE hl1 hl2
  have hH2 := h2.keep hb7
  have hH3 := h3.keep hb7
  have y3 := cell_block y1 1
  have hw1s : w.heap.size + 1 < w1.heap.size := hs1
  have hw3s : w1.heap.size < w3.heap.size := blk_lt y1
  clear t0 t1 t2 t3
  go_wp2_with fail
  go_loopw [46, 9] (fun z p wr => ∃ (i : Nat), z = .int .i64 (i : Int) ∧ i ≤ m ∧ p = .int .i64 (prodK ks i) ∧ Below w3.heap.size w3 wr) (fun z _ _ => m - (intOf z).toNat)
  case atStart => exact ⟨0, rfl, by omega, rfl, Below.refl _ _⟩
  case round =>
    obtain ⟨i, rfl, hi, rfl, hbr⟩ := hrel
    obtain ⟨p1, p2⟩ := prodK_bd Q5.out i (by omega)
    have p3 : prodK ks i ≤ 160000 := by
      refine Int.le_trans p2 ?_
      rcases (by omega : i = 0 ∨ i = 1 ∨ i = 2 ∨ i = 3 ∨ i = 4) with rfl | rfl | rfl | rfl | rfl <;> decide
    clear p2
    by_cases hlt : i < m
    · obtain ⟨bb, ob, rfl, hcb⟩ := (hH2.keep hbr).at_ (by omega)
      have eb := hcb i hlt
      have hkb := Q5.out i (by omega)
      have hs : prodK ks (i + 1) = prodK ks i * ks[i]?.getD 0 := rfl
      obtain ⟨kv, hkv⟩ : ∃ v, ks[i]?.getD 0 = v := ⟨_, rfl⟩
      rw [hkv] at eb hkb hs
      have HS := Lib.hid hs
      clear hcb hkv hs
      have hi1 : (i : Int) < (m : Int) := by omega
      have hi0 : (0 : Int) ≤ (i : Int) := by omega
      obtain ⟨pv, hpv⟩ : ∃ v, prodK ks i = v := ⟨_, rfl⟩
      rw [hpv] at p1 p3 HS ⊢
      clear hpv
      have hmb := mul_bd2 (a := pv) (x := kv) (A := 160000) (C := 20) (by omega) (by omega) (by omega) (by omega)
      obtain ⟨hm1, hm2⟩ := hmb
      go_wp2_with fail
      go_roundw
      case rel => exact ⟨i + 1, by go_num, by omega, by rw [HS.out], hbr⟩
      case measure => simp [intOf]; omega
    · have hle : (m : Int) ≤ (i : Int) := by omega
      obtain rfl : i = n := by omega
      clear hlt hi
      have hsr := hbr.size
      have y3' : wr.cell? ⟨w1.heap.size, 1, none⟩ = some (.slice b m d) := cell_keep y3 hbr
      obtain ⟨D, hD⟩ : ∃ v, prodK ks i = v := ⟨_, rfl⟩
      rw [hD] at p1 p3 HR HX ⊢
      have HD := Lib.hid hD
      clear hD
      have hnb : decide (i < m) = false := decide_eq_false (by omega)
      go_wp2_with fail
      try rw [hnb]
      clear hnb
      go_loopw [57, 13, 12] (fun z at_ p wr => ∃ (j c' : Nat) (a' : Option Addr), z = .int .i64 (j : Int) ∧ j ≤ i ∧ at_ = .int .i64 (swP ks ls i D j) ∧ p = .slice a' j c' ∧ OwI wr w3.heap.size a' j c' ((List.range j).map (fun t => swP ks ls i D (t + 1))) ∧ Below w3.heap.size w3 wr) (fun z _ _ _ => i - (intOf z).toNat)
      case atStart => exact ⟨0, 0, none, rfl, by omega, rfl, rfl, OwI.nil _ _, hbr⟩
      case round =>
        obtain ⟨j, c', a', rfl, hj0, rfl, rfl, hown, hbj⟩ := hrel
        rename World => wj
        have hbjs := hbj.size
        have hsw := swP_bd n4 Q5.out HL.out j hj0
        rw [HD.out] at hsw
        obtain ⟨hsw1, hsw2⟩ := hsw
        by_cases hjl : j < i
        · obtain ⟨bb, ob, rfl, hcb⟩ := (hH2.keep hbj).at_ (by omega)
          have eb := hcb j (by omega)
          have hkb := Q5.out j (by omega)
          obtain ⟨bu, ou, rfl, hcu⟩ := h3.at_ (by omega)
          have hs3d := (hH3.keep hbj).drop (i := j) (by omega)
          have hsn : swP ks ls i D (j + 1) = swP ks ls i D j + carT ls j (i - j) * D.tdiv (ks[j]?.getD 0) := rfl
          have hsp := swPs_succ ks ls i j
          rw [HD.out, hsn] at hsp
          have hsw' := swP_bd n4 Q5.out HL.out (j + 1) (by omega)
          rw [HD.out, hsn] at hsw'
          obtain ⟨kv, hkv⟩ : ∃ v, ks[j]?.getD 0 = v := ⟨_, rfl⟩
          obtain ⟨sv, hsv⟩ : ∃ v, swP ks ls i D j = v := ⟨_, rfl⟩
          rw [hkv] at eb hkb hsn hsp hsw'
          rw [hsv] at hsn hsp hsw1 hsw2 hsw' ⊢
          have HSN := Lib.hid hsn
          have HSP := Lib.hid hsp
          clear hcb hkv hsn hsp hsv hcu
          have hj1 : (j : Int) < (m : Int) := by omega
          have hj2 : (0 : Int) ≤ (j : Int) := by omega
          have hj3 : (j : Int) ≤ (k : Int) := by omega
          go_wp2_with fail
          go_loopw [66, 16] (fun z p wq => ∃ (t : Nat), z = .int .i64 (t : Int) ∧ t ≤ k - j ∧ p = .int .i64 (carT ls j t) ∧ Below wj.heap.size wj wq) (fun z _ _ => (k - j) - (intOf z).toNat)
          case atStart => exact ⟨0, rfl, by omega, rfl, Below.refl _ _⟩
          case round =>
            obtain ⟨t, rfl, ht, rfl, hbq⟩ := hrel
            rename World => wq
            obtain ⟨ct1, ct2⟩ := carT_bd HL.out j t
            by_cases htl : t < k - j
            · obtain ⟨bu2, ou2, he2, hcu2⟩ := (hs3d.keep hbq).at_ (by omega)
              cases he2
              have eu := hcu2 t htl
              have hcs := carT_drop ls j t
              have hld := HL.out (j + t)
              rw [← List.getElem?_drop] at hld
              obtain ⟨lv, hlv⟩ : ∃ v, (ls.drop j)[t]?.getD 0 = v := ⟨_, rfl⟩
              rw [hlv] at eu hcs hld
              have HCS := Lib.hid hcs
              clear hlv hcs hcu2
              have ht1 : (t : Int) < ((k - j : Nat) : Int) := by omega
              have ht2 : (0 : Int) ≤ (t : Int) := by omega
              go_wp2_with fail
              go_roundw
              case rel => exact ⟨t + 1, by go_num, by omega, by rw [HCS.out], hbq⟩
              case measure => simp [intOf]; omega
            · obtain rfl : t = k - j := by omega
              have hkj : k - j = i - j := by omega
              have hdq : D.tdiv kv = D / kv := Int.tdiv_eq_ediv_of_nonneg (by omega)
              have hdn : 0 ≤ D / kv := Int.ediv_nonneg (by omega) (by omega)
              have hdm : D / kv ≤ D := Int.ediv_le_self _ (by omega)
              rw [hkj] at ct1 ct2 ⊢
              have hsn := HSN.out
              have hsp := HSP.out
              rw [hdq] at hsn hsp hsw'
              obtain ⟨qv, hqv⟩ : ∃ v, D / kv = v := ⟨_, rfl⟩
              obtain ⟨cv, hcv⟩ : ∃ v, carT ls j (i - j) = v := ⟨_, rfl⟩
              rw [hqv] at hsn hsp hsw' hdn hdm
              rw [hcv] at hsn hsp hsw' ct1 ct2 ⊢
              have HSN2 := Lib.hid hsn
              have HSP2 := Lib.hid hsp
              clear hsn hsp HSN HSP hcv hdq htl ht
              have hcb : -4000 ≤ cv ∧ cv ≤ 4000 := by omega
              have hcq := mul_bd2 (a := cv) (x := qv) (A := 4000) (C := 160000) hcb.1 hcb.2 (by omega) (by omega)
              obtain ⟨hcq1, hcq2⟩ := hcq
              obtain ⟨hs1', hs2'⟩ := hsw'
              have hkv0 : (kv == 0) = false := by rw [beq_eq_false_iff_ne]; omega
              have hkv1 : kv ≠ 0 := by omega
              have hq3 : w3.heap.size ≤ wq.heap.size := by have := hbq.size; omega
              have hown2 := hown.keep hbq
              go_wp2_with (first | (at_builtin; refine appIw wq rfl rfl _ _ rfl hown2 rfl rfl (by omega) (by omega) ?_; intro a2' c2' w5 ho5 hb5 hs5))
              go_roundw
              case rel => exact ⟨j + 1, c2', a2', by go_num, by omega, by rw [HSN2.out], rfl, by rw [HSP2.out]; exact ho5, hbj.trans ((hbq.mono (by omega)).trans hb5)⟩
              case measure => simp [intOf]; omega
        · have hle2 : (m : Int) ≤ (j : Int) := by omega
          obtain rfl : j = i := by omega
          have hpe : (List.range j).map (fun t => swP ks ls j D (t + 1)) = swPs ks ls j := by
            unfold swPs
            rw [HD.out]
          rw [hpe] at hown
          have HR2 := HR.out
          have HX2 := HX.out
          have hpb : ∀ x ∈ swPs ks ls j, -9223372036854775807 ≤ x ∧ x ≤ 9223372036854775807 := by
            intro x hx
            obtain ⟨t, ht, rfl⟩ := List.mem_map.1 hx
            have ht2 := List.mem_range.1 ht
            have := swP_bd n4 Q5.out HL.out (t + 1) (by omega)
            omega
          have hxl : xs.length = j := by
            rw [← HX2]
            simp [swPs]
          have HXL := Lib.hid hxl
          clear hpe hxl
          go_wp2_with fail
          refine (shape_any a' j c' (swPs ks ls j) D wj hown.si (by omega) n4 p1 (by omega) hpb R xs HR2 HX2).mono ?_
          rintro e w4 ⟨a9, c9, B9, rfl, ho9, hB9, hb9⟩
          have hb10 := hbj.trans (hb9.mono hbj.size)
          have x9 := blk_keep x2 hb10
          have t0 := cell_block x9 0
          have t1 := cell_block x9 1
          have t2 := frozen_block x9 0
          have t3 := frozen_block x9 1
          have hb11 := hb7.trans (hb10.mono hb7.size)
          clear HR2 HX2
          go_wp2_with fail
          obtain ⟨s1, s2, s3, s4⟩ := set2 (x := .int .i64 R) (y := .slice a9 j c9) t0 t1
          refine bodyPost_ret (v := .tuple #[.agg #[.int .i64 R, .slice a9 j c9], .int .i64 0]) (by simp [results, Try.results76, go_sem, s1, s2]) rfl ⟨a9, c9, B9, by rw [HXL.out], ?_, by have := hbj.size; omega, ?_⟩
          · rw [HXL.out]
            exact ho9.under2 (by omega) _ _
          · exact (hb11.setCell (by simp) _).setCell (by simp) _
end Go.Proofs.Ytmaidjankakppaa

namespace Go.Proofs.Ytmaidjankakppaa
open Go.RowKit Go.Wides
open Calmly (Kept)

/-- A store below the row's own blocks. -/
theorem RowQ.under {w : World} {B : Nat} {a : Option Addr} {n c L : Nat} {qs : List Rat} (h : RowQ w B a n c L qs) {r o : Nat} (hr : r < B) (hT : BlkT w r 72) (v : Value) : RowQ (w.setCell ⟨r, o, none⟩ v) B a n c L qs := by
  obtain ⟨l, h1, h2, h3⟩ := h
  refine ⟨l, ?_, h2, fun i hi => (h3 i hi).frame fun b hb => Below.heap_setCell _ _ _ _ ?_⟩
  · obtain ⟨k1, k2⟩ := h1
    refine ⟨k1, ?_⟩
    rcases k2 with k2 | ⟨g', cap, cur, hv, hg, hh, r'⟩
    · exact .inl k2
    · exact .inr ⟨g', _, _, hv, hg, (Below.heap_setCell _ _ _ _ (by show g' ≠ r; omega)).trans hh, r'⟩
  · rintro rfl
    obtain ⟨cs, hcs⟩ := hb
    obtain ⟨cs', hcs'⟩ := hT
    rw [hcs] at hcs'
    cases hcs'
theorem RowQ.under4 {w : World} {B : Nat} {a : Option Addr} {n c L : Nat} {qs : List Rat} (h : RowQ w B a n c L qs) {r : Nat} (hr : r < B) (hT : BlkT w r 72) (x y z u : Value) : RowQ ((((w.setCell ⟨r, 0, none⟩ x).setCell ⟨r, 1, none⟩ y).setCell ⟨r, 2, none⟩ z).setCell ⟨r, 3, none⟩ u) B a n c L qs :=
  (((h.under hr hT x).under hr (hT.set _ _) y).under hr ((hT.set _ _).set _ _) z).under hr (((hT.set _ _).set _ _).set _ _) u
/-- An append to a row of fractions; rows of numbers are as they were. -/
theorem appQx {ops : Array Oper} {rest : List Oper} {o : Oper} {act : Act} {Q : Exit → Act → World → Prop} {Wx : World} (w0 : World) {B : Nat} {av : Option Addr} {n c L : Nat} {qs : List Rat} {q : Rat} {s1 : Int} {a1 : Option Addr} {n1 c1 : Nat} {s2 : Int} {a2 : Option Addr} {n2 c2 : Nat}
    (hW : Wx = w0.alloc (.cells #[.int .i64 s1, .slice a1 n1 c1, .int .i64 s2, .slice a2 n2 c2] 72)) (hgd : o.guard = none) (s x' : Operand)
    (ho : o.op = .call { callee := .builtin .append, args := #[s, x'], argTypes := #[156, 156] })
    (hown : RowQ w0 B av n c L qs) (hq : RatV w0 s1 a1 n1 c1 s2 a2 n2 c2 q) (hl1 : n1 ≤ L) (hl2 : n2 ≤ L) (hs : act.eval s = .slice av n c) (hx : act.eval x' = .slice (some ⟨w0.heap.size, 0, none⟩) 1 1)
    (hb1 : n + 1 ≤ 1099511627776) (hB : B ≤ w0.heap.size)
    (h : ∀ a' c' w', RowQ w' B a' (n + 1) c' L (qs ++ [q]) → Below B w0 w' → w0.heap.size < w'.heap.size → (∀ b, BlkT w0 b 3 → w'.heap[b]? = w0.heap[b]?) → wpList Try.prog ops Q rest (act.put o.dst (.slice a' (n + 1) c')) w') :
    wpList Try.prog ops Q (o :: rest) act Wx := by
  subst hW
  obtain ⟨i0, hi, hz0, hz1, hz2⟩ := info_parts Try.info_ratio
  have hnl := hown.len
  obtain ⟨l, hl, hle, hc⟩ := hown
  refine wpList_append_own_at _ hgd s x' _ ho B _ i0 (.agg #[.int .i64 0, .slice none 0 0, .int .i64 0, .slice none 0 0]) 4 64 Try.underlying156 hi hz0 hz1 hz2 rfl (by decide) _ n _ hs (World.ownsRow.alloc hl _) ⟨w0.heap.size, 0, none⟩ 1 1 (#[Value.int .i64 s1, .slice a1 n1 c1, .int .i64 s2, .slice a2 n2 c2]).toList hx (by simp) (cells_new w0 _ _) (by simp [Value.oneCell']) (by unfold maxLen; omega) (by omega) (by simp; omega) ?_
  intro v' w1 ho1 hg hn hat
  have hrow : ∀ j, (Value.slice av n c).ownBlock = some j → B ≤ j := fun j hj => (World.ownsRow.lt hl j hj).1
  have hb0 : Below B w0 (w0.alloc (.cells #[.int .i64 s1, .slice a1 n1 c1, .int .i64 s2, .slice a2 n2 c2] 72)) := (Below.refl _ _).alloc hB _
  have hb2 : Below B w0 w1 := hb0.trans (grown_below hg (by simp; omega) hrow)
  have hsz2 := hg.size
  have hfr : ∀ b, BlkT w0 b 3 → w1.heap[b]? = w0.heap[b]? := by
    intro b hbt
    have hlt := hbt.lt
    rw [hg.block b (by simp; omega) ?_]
    · exact ((Below.refl w0.heap.size w0).alloc (Nat.le_refl _) _).block b hlt
    · intro he
      cases av with
      | none => simp [Value.ownBlock] at he
      | some ad =>
        obtain ⟨h1, h2⟩ := hl
        rcases h2 with ⟨h2, _⟩ | ⟨g', cap', cur', hv, _, hh, _⟩
        · cases h2
        · cases hv
          simp [Value.ownBlock] at he
          subst he
          obtain ⟨cs, hcs⟩ := hbt
          rw [hh] at hcs
          cases hcs
  obtain ⟨hlen, ho2⟩ := ho1
  rcases ho2 with ⟨_, h0⟩ | ⟨g, cap, cur, rfl, r⟩
  · omega
  · refine h _ _ w1 ⟨l ++ [((s1, a1, n1, c1), (s2, a2, n2, c2))], ?_, by simp [hle], fun i hi => ?_⟩ hb2 (by simp at hsz2; omega) hfr
    · unfold OwQ
      rw [rq_append]
      exact ⟨hlen, .inr ⟨g, cap, cur, rfl, r⟩⟩
    · rcases Nat.lt_or_ge i qs.length with h6 | h6
      · rw [List.getElem?_append_left (by omega), List.getElem?_append_left h6]
        exact (hc i h6).frame hfr
      · obtain rfl : i = qs.length := by simp at hi; omega
        rw [List.getElem?_append_right (by omega), List.getElem?_append_right (by omega), hle]
        simp only [Nat.sub_self, List.getElem?_cons_zero, Option.getD_some]
        exact ⟨hl1, hl2, hq.1.frame hfr, hq.2.frame hfr⟩
theorem RatV.frame {w w' : World} {s : Int} {a : Option Addr} {n c : Nat} {s' : Int} {a' : Option Addr} {n' c' : Nat} {q : Rat} (h : RatV w s a n c s' a' n' c' q) (hs : ∀ b, BlkT w b 3 → w'.heap[b]? = w.heap[b]?) : RatV w' s a n c s' a' n' c' q := ⟨h.1.frame hs, h.2.frame hs⟩
/-- How many digits the sway has at most. -/
def swL : Nat → Nat
  | 0 => 7
  | i + 1 => 2 * swL i + 6
theorem swL_bd (i : Nat) (hi : i ≤ 4) : 7 ≤ swL i ∧ swL i ≤ 500 := by
  rcases (by omega : i = 0 ∨ i = 1 ∨ i = 2 ∨ i = 3 ∨ i = 4) with rfl | rfl | rfl | rfl | rfl <;> decide
theorem swQs_succ (ks ls : List Int) (n k : Nat) : (List.range (k + 1)).map (fun i => swQ ks ls n (i + 1)) = (List.range k).map (fun i => swQ ks ls n (i + 1)) ++ [swQ ks ls n (k + 1)] := by
  rw [List.range_succ, List.map_append]
  rfl

set_option maxRecDepth 100000 in
set_option maxHeartbeats 4000000 in
theorem rSway_any (a b u : Option Addr) (n c m d k e' : Nat) (ks ls : List Int) (w : World) (h2 : SI w b m d ks) (h3 : SI w u k e' ls) (hkm : k ≤ m) (hk4 : k ≤ 4) (hks : ∀ j, j < k → 1 ≤ ks[j]?.getD 0 ∧ ks[j]?.getD 0 ≤ 20) (hls : ∀ j : Nat, -1000 ≤ ls[j]?.getD 0 ∧ ls[j]?.getD 0 ≤ 1000)
    (N : Int) (xs : List Int) (hN : (lcmQ (swQs ks ls k) : Int) = N) (hN2 : N ≤ 100000000000000000) (hx : comQ (swQs ks ls k) = xs) (hxb : ∀ j : Nat, -100000000000000000 ≤ xs[j]?.getD 0 ∧ xs[j]?.getD 0 ≤ 100000000000000000) :
    Calls Try.prog 83 #[.agg #[.slice a n c, .slice b m d], .slice u k e'] w fun e w' => ∃ a' c', e = .returned (.agg #[.int .i64 N, .slice a' k c']) ∧ SI w' a' k c' xs ∧ Below w.heap.size w w' := by
  have hb2 : Below w.heap.size w ((w.alloc (.cells #[.slice a n c, .slice b m d] 24)).alloc (.cells #[.int .i64 0, .slice none 0 0] 117)) := ((Below.refl _ _).alloc (Nat.le_refl _) _).alloc (by simp) _
  have HKS := Lib.hid hks
  have HLS := Lib.hid hls
  have HXB := Lib.hid hxb
  have HN := Lib.hid hN
  have HX := Lib.hid hx
  clear hks hls hxb hN hx
  have m2 := h2.max
  have c2 := h2.cap
  have m3 := h3.max
  have c3 := h3.cap
  go_enter Try.func83, Try.ntmps83
  go_wp2_with fail
  refine (RatioInt_any 0 _ (by omega) (by omega)).mono ?_
  rintro e w1 ⟨⟨gs, ga, gn, gc, gs', ga', gn', gc', rfl, gh, gh', gV⟩, hs⟩
  obtain ⟨x1, x2⟩ := box2 (w := w) (o := .cells #[.slice a n c, .slice b m d] 24) (o' := .cells #[.int .i64 0, .slice none 0 0] 117) hs
  have B1 := hb2.trans (hs.mono hb2.size)
  have sX := blk_lt x2
  clear hs hb2
  go_wp2_with fail
  have hN1 := (Below.refl w1.heap.size w1).alloc (Nat.le_refl _) (.cells #[.int .i64 gs, .slice ga gn gc, .int .i64 gs', .slice ga' gn' gc'] 72)
  have B2 := B1.alloc B1.size (.cells #[.int .i64 gs, .slice ga gn gc, .int .i64 gs', .slice ga' gn' gc'] 72)
  replace x1 := blk_keep x1 hN1
  replace x2 := blk_keep x2 hN1
  replace gV := gV.keep hN1
  have y5 := alloc_new w1 (.cells #[.int .i64 gs, .slice ga gn gc, .int .i64 gs', .slice ga' gn' gc'] 72)
  obtain ⟨b5, hb5⟩ : ∃ v, w1.heap.size = v := ⟨_, rfl⟩
  rw [hb5] at y5 sX ⊢
  generalize hw2 : w1.alloc (.cells #[.int .i64 gs, .slice ga gn gc, .int .i64 gs', .slice ga' gn' gc'] 72) = w2 at B2 x1 x2 gV y5 ⊢
  clear hw2 hN1 B1 hb5
  have hb5' := blk_lt y5
  go_loopw [7, 6] (fun z l wr => ∃ (i c' : Nat) (a' : Option Addr) (s1 : Int) (a1 : Option Addr) (n1 c1 : Nat) (s2 : Int) (a2 : Option Addr) (n2 c2 : Nat), z = .int .i64 (i : Int) ∧ l = .slice a' i c' ∧ i ≤ k ∧ wr.heap[b5]? = some (.cells #[.int .i64 s1, .slice a1 n1 c1, .int .i64 s2, .slice a2 n2 c2] 72) ∧ RatV wr s1 a1 n1 c1 s2 a2 n2 c2 (swQ ks ls k i) ∧ n1 ≤ swL i ∧ n2 ≤ swL i ∧ RowQ wr (b5 + 1) a' i c' 500 ((List.range i).map (fun t => swQ ks ls k (t + 1))) ∧ Below b5 w2 wr) (fun z _ _ => k - (intOf z).toNat)
  case atStart => exact ⟨0, 0, none, gs, ga, gn, gc, gs', ga', gn', gc', rfl, rfl, by omega, y5, gV, by show _ ≤ 7; omega, by show _ ≤ 7; omega, RowQ.nil _ _ _, Below.refl _ _⟩
  case round =>
    obtain ⟨i, c', a', s1, a1, n1, c1, s2, a2, n2, c2, rfl, rfl, hi0, yr, rV, rn1, rn2, hrow, hbr⟩ := hrel
    rename World => wi
    have Bw := B2.trans (hbr.mono (by omega))
    obtain ⟨sl1, sl2⟩ := swL_bd i (by omega)
    by_cases hlt : i < k
    · have hi1 : (i : Int) < (k : Int) := by omega
      have hi2 : (0 : Int) ≤ (i : Int) := by omega
      go_wp2_with fail
      go_loopw [9, 8] (fun z p wq => ∃ (t : Nat), z = .int .i64 ((i + t : Nat) : Int) ∧ i + t ≤ k ∧ p = .int .i64 (carT ls i t) ∧ Below wi.heap.size wi wq) (fun z _ _ => k - (intOf z).toNat)
      case atStart => exact ⟨0, by simp, by omega, rfl, Below.refl _ _⟩
      case round =>
        obtain ⟨t, rfl, ht, rfl, hbq⟩ := hrel
        rename World => wq
        obtain ⟨ct1, ct2⟩ := carT_bd HLS.out i t
        have htt : t ≤ 4 := by omega
        by_cases htl : i + t < k
        · obtain ⟨bu, ou, rfl, hcu⟩ := ((h3.keep Bw).keep hbq).at_ (by omega)
          have eu := hcu (i + t) htl
          have hcs : carT ls i (t + 1) = carT ls i t + ls[i + t]?.getD 0 := rfl
          have hld := HLS.out (i + t)
          obtain ⟨lv, hlv⟩ : ∃ v, ls[i + t]?.getD 0 = v := ⟨_, rfl⟩
          rw [hlv] at eu hcs hld
          have HCS := Lib.hid hcs
          clear hlv hcs hcu
          obtain ⟨j, hj⟩ : ∃ v, i + t = v := ⟨_, rfl⟩
          rw [hj] at eu htl ht ⊢
          have HJ := Lib.hid hj
          clear hj
          have ht1 : (j : Int) < (k : Int) := by omega
          have ht2 : (0 : Int) ≤ (j : Int) := by omega
          go_wp2_with fail
          go_roundw
          case rel => exact ⟨t + 1, by rw [show ((i + (t + 1) : Nat) : Int) = (j : Int) + 1 by have := HJ.out; omega], by have := HJ.out; omega, by rw [HCS.out], hbq⟩
          case measure => simp [intOf]; omega
        · obtain rfl : k = i + t := by omega
          have hkt : i + t - i = t := by omega
          have hkb := HKS.out i (by omega)
          have hsn : swQ ks ls (i + t) (i + 1) = swQ ks ls (i + t) i + Rat.divInt (carT ls i t) (ks[i]?.getD 0) := by
            rw [swQ, hkt]
          have hss := swQs_succ ks ls (i + t) i
          rw [hsn] at hss
          obtain ⟨bb, ob, rfl, hcb⟩ := ((h2.keep Bw).keep hbq).at_ (by omega)
          have eb := hcb i (by omega)
          obtain ⟨kv, hkv⟩ : ∃ v, ks[i]?.getD 0 = v := ⟨_, rfl⟩
          rw [hkv] at eb hkb hsn hss
          obtain ⟨cv, hcv⟩ : ∃ v, carT ls i t = v := ⟨_, rfl⟩
          rw [hcv] at hsn hss ct1 ct2 ⊢
          obtain ⟨rl, hrl⟩ : ∃ v, (List.range i).map (fun t' => swQ ks ls (i + t) (t' + 1)) = v := ⟨_, rfl⟩
          obtain ⟨q0, hq0⟩ : ∃ v, swQ ks ls (i + t) i = v := ⟨_, rfl⟩
          obtain ⟨q1, hq1⟩ : ∃ v, swQ ks ls (i + t) (i + 1) = v := ⟨_, rfl⟩
          obtain ⟨qd, hqd⟩ : ∃ v, Rat.divInt cv kv = v := ⟨_, rfl⟩
          rw [hq1, hq0, hqd] at hsn
          rw [hrl, hq0, hqd, ← hsn] at hss
          rw [hq0] at rV
          rw [hrl] at hrow
          have HQ1 := Lib.hid hq1
          have HQD := Lib.hid hqd
          clear hrl hq0 hq1 hqd
          have hsl : 2 * swL i + 6 = swL (i + 1) := rfl
          obtain ⟨sl3, sl4⟩ := swL_bd (i + 1) (by omega)
          have HSN := Lib.hid hsn
          have HSS := Lib.hid hss
          clear hcb hkv hcv hsn hss hkt htl
          have him : (i : Int) < (m : Int) := by omega
          have hkk : ((i + t : Nat) : Int) = (i : Int) + (t : Int) := by omega
          have hbq2 := hbr.trans (hbq.mono (by have := hbr.size; omega))
          have X1 := (hbq2.block _ (by omega)).trans x1
          have Y5 := blk_keep yr hbq
          have RV1 := rV.keep hbq
          have ROW := hrow.keep hbq
          go_wp2_with fail
          refine Calmly.wp_region_mix 9 (.fl 0 <| .fl 1 <| .fl 2 <| .fl 3 <| .fl 4 <| .fl 5 <| .fl 6 <| .eff 7 <| .eff 8 <| .tail [9]) (by kernel_rfl) (by kernel_rfl) ?_
          rename_i K hK
          have hK' := fun a w (h : StopR _) => hK a w h.out
          clear hK
          replace X1 := blk_keep X1 (Below.refl _ _).drew
          replace Y5 := blk_keep Y5 (Below.refl _ _).drew
          replace RV1 := RV1.keep (Below.refl _ _).drew
          replace ROW := ROW.keep (Below.refl _ _).drew
          replace eb := cell_keep eb (Below.refl _ _).drew
          replace hbq2 := hbq2.drew
          clear yr rV hrow hbq hkk
          generalize wq.drew = V at X1 Y5 RV1 ROW eb hbq2 ⊢
          have f1 := cell_block X1 1
          have y0 := cell_block Y5 0
          have y1 := cell_block Y5 1
          have y2 := cell_block Y5 2
          have y3 := cell_block Y5 3
          have hk := Below.refl V.heap.size V
          go_wp2_with (first | ((with_reducible refine Calmly.is_fl ?_); refine Calmly.mix_fl rfl ?_ (fun _ _ => ?_); (first | exact .move _ | exact .load _ _ | exact .fieldAddr _ _ _ (by kernel_rfl) | exact .assign _ | exact .binOp _ _ _ _ _ rfl | exact .indexAddr _ _ _ | exact .len _ _ (by kernel_rfl) | exact .field _ _ _ | exact .extract _ _ | exact .pick _ _ _ | exact .build _ _ | exact .slice _ _ _ _ _ | exact .unOp _ _ _ rfl | exact .index _ _ _ | exact .max _ _ _ rfl rfl | exact .min _ _ _ rfl rfl)) | ((with_reducible refine Calmly.is_gl ?_); refine Calmly.mix_gl rfl rfl rfl ?_; first | ((first | with_reducible refine Calmly.gl_tt ?_ (fun _ _ => ?_) | with_reducible refine Calmly.gl_ff ?_ (fun _ _ => ?_)); (first | exact .move _ | exact .load _ _ | exact .fieldAddr _ _ _ (by kernel_rfl) | exact .assign _ | exact .binOp _ _ _ _ _ rfl | exact .indexAddr _ _ _ | exact .len _ _ (by kernel_rfl) | exact .field _ _ _ | exact .extract _ _ | exact .pick _ _ _ | exact .build _ _ | exact .slice _ _ _ _ _ | exact .unOp _ _ _ rfl | exact .index _ _ _ | exact .max _ _ _ rfl rfl | exact .min _ _ _ rfl rfl)) | with_reducible refine Calmly.gl_tf (fun _ _ => ?_) | with_reducible refine Calmly.gl_ft (fun _ _ => ?_)) | ((with_reducible refine Calmly.is_eff ?_); refine Calmly.mix_eff rfl (fun _ _ => ?_)) | ((with_reducible refine Calmly.is_gf ?_); refine Calmly.mix_gf rfl rfl rfl ?_; first | with_reducible refine Calmly.gf_tt (fun _ _ => ?_) | with_reducible refine Calmly.gf_ff (fun _ _ => ?_) | with_reducible refine Calmly.gf_tf (kept_of hk) (fun _ _ => ?_) | with_reducible refine Calmly.gf_ft (kept_of hk) (fun _ _ => ?_)) | ((with_reducible refine Calmly.is_tail ?_); first | refine Calmly.mix_tail_nil ?_ | refine Calmly.mix_tail rfl (fun _ _ => ?_)) | ((with_reducible refine Calmly.is_kept ?_); refine ⟨kept_of hk, ?_⟩) | (with_reducible refine Calmly.mix_alt ?_ ?_))
          refine (RatioOf_any cv kv V (by omega) (by omega) (by omega) (by omega) (by omega)).mono ?_
          rintro e w5 ⟨⟨os, oa, on, oc, os', oa', on', oc', rfl, oh, oh', oV⟩, hs⟩
          replace hk := step_of hk hs
          replace RV1 := RV1.keep hs
          replace Y5 := blk_keep Y5 hs
          replace ROW := ROW.keep hs
          replace hbq2 := hbq2.trans (hs.mono (by have := blk_lt Y5; have := hbq2.size; omega))
          clear hs
          go_wp2_with (first | ((with_reducible refine Calmly.is_fl ?_); refine Calmly.mix_fl rfl ?_ (fun _ _ => ?_); (first | exact .move _ | exact .load _ _ | exact .fieldAddr _ _ _ (by kernel_rfl) | exact .assign _ | exact .binOp _ _ _ _ _ rfl | exact .indexAddr _ _ _ | exact .len _ _ (by kernel_rfl) | exact .field _ _ _ | exact .extract _ _ | exact .pick _ _ _ | exact .build _ _ | exact .slice _ _ _ _ _ | exact .unOp _ _ _ rfl | exact .index _ _ _ | exact .max _ _ _ rfl rfl | exact .min _ _ _ rfl rfl)) | ((with_reducible refine Calmly.is_gl ?_); refine Calmly.mix_gl rfl rfl rfl ?_; first | ((first | with_reducible refine Calmly.gl_tt ?_ (fun _ _ => ?_) | with_reducible refine Calmly.gl_ff ?_ (fun _ _ => ?_)); (first | exact .move _ | exact .load _ _ | exact .fieldAddr _ _ _ (by kernel_rfl) | exact .assign _ | exact .binOp _ _ _ _ _ rfl | exact .indexAddr _ _ _ | exact .len _ _ (by kernel_rfl) | exact .field _ _ _ | exact .extract _ _ | exact .pick _ _ _ | exact .build _ _ | exact .slice _ _ _ _ _ | exact .unOp _ _ _ rfl | exact .index _ _ _ | exact .max _ _ _ rfl rfl | exact .min _ _ _ rfl rfl)) | with_reducible refine Calmly.gl_tf (fun _ _ => ?_) | with_reducible refine Calmly.gl_ft (fun _ _ => ?_)) | ((with_reducible refine Calmly.is_eff ?_); refine Calmly.mix_eff rfl (fun _ _ => ?_)) | ((with_reducible refine Calmly.is_gf ?_); refine Calmly.mix_gf rfl rfl rfl ?_; first | with_reducible refine Calmly.gf_tt (fun _ _ => ?_) | with_reducible refine Calmly.gf_ff (fun _ _ => ?_) | with_reducible refine Calmly.gf_tf (kept_of hk) (fun _ _ => ?_) | with_reducible refine Calmly.gf_ft (kept_of hk) (fun _ _ => ?_)) | ((with_reducible refine Calmly.is_tail ?_); first | refine Calmly.mix_tail_nil ?_ | refine Calmly.mix_tail rfl (fun _ _ => ?_)) | ((with_reducible refine Calmly.is_kept ?_); refine ⟨kept_of hk, ?_⟩) | (with_reducible refine Calmly.mix_alt ?_ ?_))
          rw [HQD.out] at oV
          refine (RatioAdd_any _ _ _ _ _ _ _ _ _ _ _ _ _ _ _ _ (swL i) _ _ w5 RV1 oV rn1 rn2 (by omega) (by omega) (by omega)).mono ?_
          rintro e w6 ⟨⟨ps, pa, pn, pc, ps', pa', pn', pc', rfl, ph, ph', pV⟩, hs⟩
          rw [← HSN.out] at pV
          replace hk := step_of hk hs
          replace Y5 := blk_keep Y5 hs
          replace ROW := ROW.keep hs
          replace hbq2 := hbq2.trans (hs.mono (by have := blk_lt Y5; have := hbq2.size; omega))
          clear hs X1 eb f1 y0 y1 y2 y3 RV1 oV
          have y0 := cell_block Y5 0
          have y1 := cell_block Y5 1
          have y2 := cell_block Y5 2
          have y3 := cell_block Y5 3
          have y4 := frozen_block Y5 0
          have y5 := frozen_block Y5 1
          have y6 := frozen_block Y5 2
          have y7 := frozen_block Y5 3
          go_wp2_with (first | ((with_reducible refine Calmly.is_fl ?_); refine Calmly.mix_fl rfl ?_ (fun _ _ => ?_); (first | exact .move _ | exact .load _ _ | exact .fieldAddr _ _ _ (by kernel_rfl) | exact .assign _ | exact .binOp _ _ _ _ _ rfl | exact .indexAddr _ _ _ | exact .len _ _ (by kernel_rfl) | exact .field _ _ _ | exact .extract _ _ | exact .pick _ _ _ | exact .build _ _ | exact .slice _ _ _ _ _ | exact .unOp _ _ _ rfl | exact .index _ _ _ | exact .max _ _ _ rfl rfl | exact .min _ _ _ rfl rfl)) | ((with_reducible refine Calmly.is_gl ?_); refine Calmly.mix_gl rfl rfl rfl ?_; first | ((first | with_reducible refine Calmly.gl_tt ?_ (fun _ _ => ?_) | with_reducible refine Calmly.gl_ff ?_ (fun _ _ => ?_)); (first | exact .move _ | exact .load _ _ | exact .fieldAddr _ _ _ (by kernel_rfl) | exact .assign _ | exact .binOp _ _ _ _ _ rfl | exact .indexAddr _ _ _ | exact .len _ _ (by kernel_rfl) | exact .field _ _ _ | exact .extract _ _ | exact .pick _ _ _ | exact .build _ _ | exact .slice _ _ _ _ _ | exact .unOp _ _ _ rfl | exact .index _ _ _ | exact .max _ _ _ rfl rfl | exact .min _ _ _ rfl rfl)) | with_reducible refine Calmly.gl_tf (fun _ _ => ?_) | with_reducible refine Calmly.gl_ft (fun _ _ => ?_)) | ((with_reducible refine Calmly.is_eff ?_); refine Calmly.mix_eff rfl (fun _ _ => ?_)) | ((with_reducible refine Calmly.is_gf ?_); refine Calmly.mix_gf rfl rfl rfl ?_; first | with_reducible refine Calmly.gf_tt (fun _ _ => ?_) | with_reducible refine Calmly.gf_ff (fun _ _ => ?_) | with_reducible refine Calmly.gf_tf (kept_of hk) (fun _ _ => ?_) | with_reducible refine Calmly.gf_ft (kept_of hk) (fun _ _ => ?_)) | ((with_reducible refine Calmly.is_tail ?_); first | refine Calmly.mix_tail_nil ?_ | refine Calmly.mix_tail rfl (fun _ _ => ?_)) | ((with_reducible refine Calmly.is_kept ?_); refine ⟨kept_of hk, ?_⟩) | (with_reducible refine Calmly.mix_alt ?_ ?_))
          refine ⟨?_⟩
          have hT : BlkT w6 b5 72 := ⟨_, Y5⟩
          have Y6 := blk4 Y5 (.int .i64 ps) (.slice pa pn pc) (.int .i64 ps') (.slice pa' pn' pc')
          have PV := pV.put4 hT (.int .i64 ps) (.slice pa pn pc) (.int .i64 ps') (.slice pa' pn' pc')
          have RW := ROW.under4 (Nat.lt_succ_self _) hT (.int .i64 ps) (.slice pa pn pc) (.int .i64 ps') (.slice pa' pn' pc')
          have BW := below4 (x := .int .i64 ps) (y := .slice pa pn pc) (z := .int .i64 ps') (u := .slice pa' pn' pc') hbq2 (Nat.le_refl _)
          clear y0 y1 y2 y3 y4 y5 y6 y7 hT Y5 ROW pV hbq2 hk
          generalize ((((w6.setCell ⟨b5, 0, none⟩ (.int .i64 ps)).setCell ⟨b5, 1, none⟩ (.slice pa pn pc)).setCell ⟨b5, 2, none⟩ (.int .i64 ps')).setCell ⟨b5, 3, none⟩ (.slice pa' pn' pc')) = V2 at Y6 PV RW BW ⊢
          have y0 := cell_block Y6 0
          have y1 := cell_block Y6 1
          have y2 := cell_block Y6 2
          have y3 := cell_block Y6 3
          have hV2 := blk_lt Y6
          have hp1 : pn ≤ 500 := by omega
          have hp2 : pn' ≤ 500 := by omega
          rw [hsl] at ph ph'
          clear hsl sl3 sl4 sl1 sl2 oh oh'
          go_wp2_with (first | (at_builtin; refine appQx V2 rfl rfl _ _ rfl RW PV hp1 hp2 rfl rfl (by omega) (by omega) ?_; intro a9 c9 w9 hrow9 hb9 hlt9 hfr9))
          go_roundw
          case rel =>
            have PV9 := PV.frame hfr9
            have Y9 := (hb9.block b5 (Nat.lt_succ_self _)).trans Y6
            refine ⟨i + 1, c9, a9, ps, pa, pn, pc, ps', pa', pn', pc', by go_num, rfl, by omega, Y9, by rw [HQ1.out]; exact PV9, ph, ph', ?_, BW.trans (hb9.mono (by omega))⟩
            rw [HSS.out]
            exact hrow9
          case measure => simp [intOf]; omega
    · obtain rfl : i = k := by omega
      go_wp2_with fail
      refine (Common_any a' i c' 500 (b5 + 1) (swQs ks ls i) wi hrow hk4 (by omega) (by omega) N HN.out hN2 xs HX.out HXB.out).mono ?_
      rintro e w5 ⟨a9, c9, B9, rfl, ho9, hB9, hs⟩
      have hwi : w.heap.size + 1 < wi.heap.size := by have := hbr.size; omega
      have B5 := Bw.trans (hs.mono Bw.size)
      have X2 := blk_keep ((hbr.block _ (by omega)).trans x2) hs
      have t0 := cell_block X2 0
      have t1 := cell_block X2 1
      have t2 := frozen_block X2 0
      have t3 := frozen_block X2 1
      go_wp2_with fail
      obtain ⟨s1, s2, s3, s4⟩ := set2 (x := .int .i64 N) (y := .slice a9 i c9) t0 t1
      refine bodyPost_ret (v := .agg #[.int .i64 N, .slice a9 i c9]) (by simp [results, Try.results83, go_sem, s1, s2]) rfl ⟨a9, c9, rfl, ?_, (B5.setCell (by simp) _).setCell (by simp) _⟩
      exact (ho9.under2 (by omega) _ _).si
end Go.Proofs.Ytmaidjankakppaa
