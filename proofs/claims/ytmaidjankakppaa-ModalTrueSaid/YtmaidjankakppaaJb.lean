/- Contracts of chapter 6: the swings of a decay, walked. -/
import Derived.Test.YtmaidjankakppaaJa
namespace Go.Proofs.Ytmaidjankakppaa
open Go.RowKit
open Calmly (Kept)

theorem maxL_bd {l : List Int} {x y : Int} (h0 : 0 < l.length) (h : ∀ z ∈ l, x ≤ z ∧ z ≤ y) : x ≤ maxL l ∧ maxL l ≤ y := h _ (maxL_mem h0).1
theorem appRd {ops : Array Oper} {rest : List Oper} {o : Oper} {a : Act} {Q : Exit → Act → World → Prop} {w0 : World} {B : Nat} {av : Option Addr} {n c : Nat} {l : List (Int × Int)} {x y : Int} (hgd : o.guard = none) (s x' : Operand)
    (ho : o.op = .call { callee := .builtin .append, args := #[s, x'], argTypes := #[42, 42] })
    (hown : OwR w0 B av n c l) (hs : a.eval s = .slice av n c) (hx : a.eval x' = .slice (some ⟨w0.heap.size, 0, none⟩) 1 1)
    (hb1 : n + 1 ≤ 1099511627776) (hB : B ≤ w0.heap.size)
    (h : ∀ a' c' w', OwR w' B a' (n + 1) c' (l ++ [(x, y)]) → Below B w0 w' → w0.heap.size < w'.heap.size → wpList Try.prog ops Q rest (a.put o.dst (.slice a' (n + 1) c')) w') :
    wpList Try.prog ops Q (o :: rest) a (w0.alloc (.cells #[.int .i64 x, .int .i64 y] 63)).drew :=
  appR (w0 := w0.drew) hgd s x' ho hown.drew hs hx hb1 hB (fun a' c' w' h1 h2 h3 => h a' c' w' h1 ((Below.refl B w0).drew.trans h2) h3)
/-- The range of a swing; all of them. -/
def sw1 (off : Int) (xs : List Int) (cs : List (Int × Int)) (j : Nat) : Int × Int :=
  let m := maxL ((xs.drop (cs[j]?.getD (0, 0)).2.toNat).take ((cs[j + 1]?.getD (0, 0)).1.toNat + 1 - (cs[j]?.getD (0, 0)).2.toNat))
  (m - off, m + off)
def swF (off : Int) (xs : List Int) (cs : List (Int × Int)) : List (Int × Int) := (List.range (cs.length - 1)).map (sw1 off xs cs)
theorem range_map_succ (f : Nat → Int × Int) (k : Nat) : (List.range (k + 1)).map f = (List.range k).map f ++ [f k] := by simp [List.range_succ]
theorem SI.slice {w : World} {b o n c lo m : Nat} {xs : List Int} (h : SI w (some ⟨b, o, none⟩) n c xs) (h1 : lo + m ≤ n) : SI w (some ⟨b, o + lo, none⟩) m (c - lo) ((xs.drop lo).take m) := by
  have hl := h.len
  obtain ⟨h3, h4, h5, h6⟩ := h
  refine ⟨?_, by omega, by omega, .inr ⟨b, o + lo, rfl, fun i hi => ?_⟩⟩
  · simp; omega
  · rcases h6 with ⟨h6, _⟩ | ⟨b', o', h6, hc⟩
    · cases h6
    · cases h6
      have := hc (lo + i) (by omega)
      rw [← Nat.add_assoc] at this
      rw [this]
      simp only [List.getElem?_map]
      rw [List.getElem?_take_of_lt (by omega), List.getElem?_drop]

set_option maxRecDepth 100000 in
set_option maxHeartbeats 4000000 in
theorem swings_any (a a' : Option Addr) (n c L c' : Nat) (xs : List Int) (off : Int) (cs : List (Int × Int)) (w : World) (h1 : SI w a n c xs) (h3 : SR w a' L c' cs) (hn : n ≤ 60) (hL : L ≤ 100)
    (hv : ∀ j : Nat, -10000 ≤ xs[j]?.getD 0 ∧ xs[j]?.getD 0 ≤ 10000) (ho1 : 0 ≤ off) (ho2 : off ≤ 10000)
    (hc : ∀ j : Nat, j + 1 < L → 0 ≤ (cs[j]?.getD (0, 0)).2 ∧ (cs[j]?.getD (0, 0)).2 ≤ (cs[j + 1]?.getD (0, 0)).1 ∧ (cs[j + 1]?.getD (0, 0)).1 < n) :
    Calls Try.prog 114 #[.agg #[.slice a n c, .int .i64 off, .slice a' L c']] w fun e w' => ∃ a2 L2 c2, e = .returned (.slice a2 L2 c2) ∧ OwR w' w.heap.size a2 L2 c2 (swF off xs cs) ∧ Below w.heap.size w w' := by
  obtain ⟨l1, l2⟩ : n ≤ xs.length ∧ xs.length ≤ n := by have := h1.len; omega
  obtain ⟨l3, l4⟩ : L ≤ cs.length ∧ cs.length ≤ L := by have := h3.len; omega
  have m1 := h1.max
  have c1 := h1.cap
  have V := Lib.hid hv
  have HC := Lib.hid hc
  clear hv hc
  have hb : ∀ o, Below w.heap.size w (w.alloc o) := fun o => (Below.refl _ _).alloc (Nat.le_refl _) _
  have hnew := alloc_new w (.cells #[.slice a n c, .int .i64 off, .slice a' L c'] 163)
  obtain ⟨wa, hwa⟩ : ∃ x, x = w.alloc (.cells #[.slice a n c, .int .i64 off, .slice a' L c'] 163) := ⟨_, rfl⟩
  have hba : Below w.heap.size w wa := hwa ▸ hb _
  rw [← hwa] at hnew
  have d0 : wa.cell? ⟨w.heap.size, 0, none⟩ = some (.slice a n c) := cell_block hnew 0
  have d1 : wa.cell? ⟨w.heap.size, 1, none⟩ = some (.int .i64 off) := cell_block hnew 1
  have d2 : wa.cell? ⟨w.heap.size, 2, none⟩ = some (.slice a' L c') := cell_block hnew 2
  have hsa := blk_lt hnew
  have hsb : wa.heap.size ≤ w.heap.size + 1 := by rw [hwa]; simp
  go_enter Try.func114, Try.ntmps114
  go_wp2_with fail
  rw [← hwa]
  clear hwa
  go_loopw [3, 10] (fun x z wr => ∃ (k L2 c2 : Nat) (a2 : Option Addr), k ≤ L ∧ x = .slice a2 L2 c2 ∧ z = .int .i64 k ∧ L2 = k - 1 ∧ OwR wr (w.heap.size + 1) a2 L2 c2 ((List.range (k - 1)).map (sw1 off xs cs)) ∧ Below wa.heap.size wa wr) (fun _ z _ => L - (intOf z).toNat)
  case atStart => exact ⟨0, 0, 0, none, by omega, rfl, rfl, rfl, OwR.nil _ _, Below.refl _ _⟩
  case round =>
    obtain ⟨k, L2, c2, a2, hk, rfl, rfl, hL2, hown, hbr⟩ := hrel
    have d0' := cell_keep d0 hbr
    have d1' := cell_keep d1 hbr
    have d2' := cell_keep d2 hbr
    have hzr : wa.heap.size ≤ wr.heap.size := hbr.size
    by_cases hlt : k < L
    · obtain ⟨b1, o1, rfl, hc1⟩ := h3.at_ (by omega)
      obtain ⟨e1, e2⟩ := hc1 k hlt
      have e1' := cell_keep e1 (hba.trans (hbr.mono (by omega)))
      have e2' := cell_keep e2 (hba.trans (hbr.mono (by omega)))
      have hi : (k : Int) < (L : Int) := by omega
      have hi0 : (0 : Int) ≤ (k : Int) := by omega
      rcases Nat.eq_zero_or_pos k with rfl | hk0
      · clear hc1 e1 e2
        simp only [Nat.zero_mul, Nat.add_zero] at e1' e2'
        obtain ⟨p, hp⟩ : ∃ p, cs[0]?.getD (0, 0) = p := ⟨_, rfl⟩
        rw [hp] at e1' e2'
        clear hp
        obtain ⟨p1, p2⟩ := p
        have hal : Below wr.heap.size wr (wr.alloc (.cells #[.int .i64 p1, .int .i64 p2] 63)) := (Below.refl _ _).alloc (Nat.le_refl _) _
        go_wp2_with fail
        go_roundw
        case rel => exact ⟨1, L2, c2, a2, by omega, rfl, rfl, by omega, hown.below hal (by omega), hbr.trans (hal.mono hzr)⟩
        case measure => simp [intOf]; omega
      · obtain ⟨j, rfl⟩ : ∃ j, k = j + 1 := ⟨k - 1, by omega⟩
        obtain ⟨e3, e4⟩ := hc1 j (by omega)
        have e4' := cell_keep e4 (hba.trans (hbr.mono (by omega)))
        obtain ⟨q1, q2, q3⟩ := HC.out j hlt
        have hsw : sw1 off xs cs j = (maxL ((xs.drop (cs[j]?.getD (0, 0)).2.toNat).take ((cs[j + 1]?.getD (0, 0)).1.toNat + 1 - (cs[j]?.getD (0, 0)).2.toNat)) - off, maxL ((xs.drop (cs[j]?.getD (0, 0)).2.toNat).take ((cs[j + 1]?.getD (0, 0)).1.toNat + 1 - (cs[j]?.getD (0, 0)).2.toNat)) + off) := rfl
        have hr := range_map_succ (sw1 off xs cs) j
        simp only [Nat.add_sub_cancel] at hown hL2
        obtain rfl : j = L2 := hL2.symm
        clear hc1 e1 e2 e3 e4
        obtain ⟨p, hp⟩ : ∃ p, cs[j]?.getD (0, 0) = p := ⟨_, rfl⟩
        obtain ⟨q, hq⟩ : ∃ q, cs[j + 1]?.getD (0, 0) = q := ⟨_, rfl⟩
        rw [hp] at e4' q1 q2 hsw
        rw [hq] at e1' e2' q2 q3 hsw
        clear hp hq
        obtain ⟨p1, p2⟩ := p
        obtain ⟨r1, r2⟩ := q
        dsimp only at e4' e1' e2' q1 q2 q3 hsw
        obtain ⟨lo, rfl⟩ : ∃ lo : Nat, p2 = lo := ⟨p2.toNat, by omega⟩
        obtain ⟨hi', rfl⟩ : ∃ hi : Nat, r1 = hi := ⟨r1.toNat, by omega⟩
        simp only [Int.toNat_natCast] at hsw
        have HS := Lib.hid hsw
        have HR := Lib.hid hr
        clear hsw hr
        have hal : Below wr.heap.size wr (wr.alloc (.cells #[.int .i64 hi', .int .i64 r2] 63)) := (Below.refl _ _).alloc (Nat.le_refl _) _
        obtain ⟨b3, o3, rfl, hc3⟩ := h1.at_ (by omega)
        have h1' := (((h1.keep hba).keep hbr).keep hal).slice (lo := lo) (m := hi' + 1 - lo) (by omega)
        clear hc3
        have hj1 : ((j : Int) + 1 - 1).toNat = j := by omega
        have hj2 : (0 : Int) ≤ (j : Int) + 1 - 1 := by omega
        have hj3 : (j : Int) + 1 - 1 < (L : Int) := by omega
        have hj4 : (0 : Int) ≤ (hi' : Int) + 1 := by omega
        have hj5 : (lo : Int) ≤ (hi' : Int) + 1 := by omega
        have hj6 : (hi' : Int) + 1 ≤ (c : Int) := by omega
        have hj7 : ((hi' : Int) + 1).toNat = hi' + 1 := by omega
        go_wp2_with fail
        refine wp_gen (fun v => Below wr.heap.size wr v ∧ wr.heap.size < v.heap.size ∧ v.heap[wr.heap.size]? = some (.cells #[.int .i64 hi', .int .i64 r2] 63) ∧ SI v (some ⟨b3, o3 + lo, none⟩) (hi' + 1 - lo) (c - lo) ((xs.drop lo).take (hi' + 1 - lo))) ⟨hal, by simp, alloc_new _ _, h1'⟩ ?_
        rintro v ⟨hbv, hsv, hv1, h1v⟩
        have f0 := cell_keep d0' hbv
        have f1 := cell_keep d1' hbv
        have f2 := cell_keep d2' hbv
        have f3 := cell_keep e4' hbv
        have f4 : v.cell? ⟨wr.heap.size, 0, none⟩ = some (.int .i64 hi') := cell_block hv1 0
        refine Calmly.wp_region_mix 15 (.fl 0 <| .fl 1 <| .fl 2 <| .fl 3 <| .fl 4 <| .fl 5 <| .fl 6 <| .fl 7 <| .fl 8 <| .fl 9 <| .fl 10 <| .fl 11 <| .fl 12 <| .fl 13 <| .eff 14 <| .tail [15]) (by kernel_rfl) (by kernel_rfl) ?_
        have hk := Below.refl v.drew.heap.size v.drew
        go_wp2_with (first | ((with_reducible refine Calmly.is_fl ?_); refine Calmly.mix_fl rfl ?_ (fun _ _ => ?_); (first | exact .move _ | exact .load _ _ | exact .fieldAddr _ _ _ (by kernel_rfl) | exact .assign _ | exact .binOp _ _ _ _ _ rfl | exact .indexAddr _ _ _ | exact .len _ _ (by kernel_rfl) | exact .field _ _ _ | exact .extract _ _ | exact .pick _ _ _ | exact .build _ _ | exact .slice _ _ _ _ _ | exact .unOp _ _ _ rfl | exact .index _ _ _ | exact .max _ _ _ rfl rfl | exact .min _ _ _ rfl rfl)) | ((with_reducible refine Calmly.is_gl ?_); refine Calmly.mix_gl rfl rfl rfl ?_; first | ((first | with_reducible refine Calmly.gl_tt ?_ (fun _ _ => ?_) | with_reducible refine Calmly.gl_ff ?_ (fun _ _ => ?_)); (first | exact .move _ | exact .load _ _ | exact .fieldAddr _ _ _ (by kernel_rfl) | exact .assign _ | exact .binOp _ _ _ _ _ rfl | exact .indexAddr _ _ _ | exact .len _ _ (by kernel_rfl) | exact .field _ _ _ | exact .extract _ _ | exact .pick _ _ _ | exact .build _ _ | exact .slice _ _ _ _ _ | exact .unOp _ _ _ rfl | exact .index _ _ _ | exact .max _ _ _ rfl rfl | exact .min _ _ _ rfl rfl)) | with_reducible refine Calmly.gl_tf (fun _ _ => ?_) | with_reducible refine Calmly.gl_ft (fun _ _ => ?_)) | ((with_reducible refine Calmly.is_eff ?_); refine Calmly.mix_eff rfl (fun _ _ => ?_)) | ((with_reducible refine Calmly.is_gf ?_); refine Calmly.mix_gf rfl rfl rfl ?_; first | with_reducible refine Calmly.gf_tt (fun _ _ => ?_) | with_reducible refine Calmly.gf_ff (fun _ _ => ?_) | with_reducible refine Calmly.gf_tf (kept_of hk) (fun _ _ => ?_) | with_reducible refine Calmly.gf_ft (kept_of hk) (fun _ _ => ?_)) | ((with_reducible refine Calmly.is_tail ?_); first | refine Calmly.mix_tail_nil ?_ | refine Calmly.mix_tail rfl (fun _ _ => ?_)) | ((with_reducible refine Calmly.is_kept ?_); refine ⟨kept_of hk, ?_⟩) | (with_reducible refine Calmly.mix_alt ?_ ?_))
        refine (max_any _ _ _ _ _ h1v.drew (by omega)).mono ?_
        rintro e w5 ⟨he, rfl⟩
        obtain ⟨q4, q5⟩ := maxL_bd (l := (xs.drop lo).take (hi' + 1 - lo)) (x := -10000) (y := 10000) (by simp; omega) (by
          intro y hy
          obtain ⟨i, hi2, rfl⟩ := List.getElem_of_mem (List.mem_of_mem_drop (List.mem_of_mem_take hy))
          have := V.out i
          simpa [hi2] using this)
        obtain ⟨m, hm⟩ : ∃ m, maxL ((xs.drop lo).take (hi' + 1 - lo)) = m := ⟨_, rfl⟩
        rw [hm] at q4 q5 HS he
        subst he
        clear hm
        have f1' : v.drew.cell? ⟨w.heap.size, 1, none⟩ = some (.int .i64 off) := f1
        have hown5 : OwR v (w.heap.size + 1) a2 j c2 ((List.range j).map (sw1 off xs cs)) := hown.below hbv (by omega)
        have hL3 : j + 1 ≤ 1099511627776 := by omega
        have hB3 : w.heap.size + 1 ≤ v.heap.size := by omega
        go_wp2_with (first | (refine appRd (B := w.heap.size + 1) (l := (List.range j).map (sw1 off xs cs)) rfl _ _ rfl hown5 rfl rfl hL3 hB3 ?_; intro a3 c3 w6 ho6 hb6 hs6) | ((with_reducible refine Calmly.is_fl ?_); refine Calmly.mix_fl rfl ?_ (fun _ _ => ?_); (first | exact .move _ | exact .load _ _ | exact .fieldAddr _ _ _ (by kernel_rfl) | exact .assign _ | exact .binOp _ _ _ _ _ rfl | exact .indexAddr _ _ _ | exact .len _ _ (by kernel_rfl) | exact .field _ _ _ | exact .extract _ _ | exact .pick _ _ _ | exact .build _ _ | exact .slice _ _ _ _ _ | exact .unOp _ _ _ rfl | exact .index _ _ _ | exact .max _ _ _ rfl rfl | exact .min _ _ _ rfl rfl)) | ((with_reducible refine Calmly.is_gl ?_); refine Calmly.mix_gl rfl rfl rfl ?_; first | ((first | with_reducible refine Calmly.gl_tt ?_ (fun _ _ => ?_) | with_reducible refine Calmly.gl_ff ?_ (fun _ _ => ?_)); (first | exact .move _ | exact .load _ _ | exact .fieldAddr _ _ _ (by kernel_rfl) | exact .assign _ | exact .binOp _ _ _ _ _ rfl | exact .indexAddr _ _ _ | exact .len _ _ (by kernel_rfl) | exact .field _ _ _ | exact .extract _ _ | exact .pick _ _ _ | exact .build _ _ | exact .slice _ _ _ _ _ | exact .unOp _ _ _ rfl | exact .index _ _ _ | exact .max _ _ _ rfl rfl | exact .min _ _ _ rfl rfl)) | with_reducible refine Calmly.gl_tf (fun _ _ => ?_) | with_reducible refine Calmly.gl_ft (fun _ _ => ?_)) | ((with_reducible refine Calmly.is_eff ?_); refine Calmly.mix_eff rfl (fun _ _ => ?_)) | ((with_reducible refine Calmly.is_gf ?_); refine Calmly.mix_gf rfl rfl rfl ?_; first | with_reducible refine Calmly.gf_tt (fun _ _ => ?_) | with_reducible refine Calmly.gf_ff (fun _ _ => ?_) | with_reducible refine Calmly.gf_tf (kept_of hk) (fun _ _ => ?_) | with_reducible refine Calmly.gf_ft (kept_of hk) (fun _ _ => ?_)) | ((with_reducible refine Calmly.is_tail ?_); first | refine Calmly.mix_tail_nil ?_ | refine Calmly.mix_tail rfl (fun _ _ => ?_)) | ((with_reducible refine Calmly.is_kept ?_); refine ⟨kept_of hk, ?_⟩) | (with_reducible refine Calmly.mix_alt ?_ ?_))
        go_roundw
        case rel =>
          refine ⟨j + 2, j + 1, c3, a3, by omega, rfl, by go_num, by omega, ?_, hbr.trans ((hbv.mono hzr).trans (hb6.mono (by omega)))⟩
          show OwR _ _ _ _ _ ((List.range (j + 1)).map (sw1 off xs cs))
          rw [HR.out, HS.out]
          exact ho6
        case measure => simp [intOf]; omega
    · have hle : (L : Int) ≤ (k : Int) := by omega
      obtain rfl : k = L := by omega
      go_wp2_with fail
      go_ret
      refine ⟨_, _, _, rfl, ?_, hba.trans (hbr.mono (by omega))⟩
      unfold swF
      rw [show cs.length = k by omega]
      exact hown.weak (by omega)
end Go.Proofs.Ytmaidjankakppaa
