/- Contracts of chapter 6: the reference of crossings. -/
import Derived.Test.YtmaidjankakppaaJf
namespace Go.Proofs.Ytmaidjankakppaa
open Go.RowKit
open Calmly (Kept)

/-- An append to a row of ranges, the world being that of the new range up to what is drawn. -/
theorem appRg {ops : Array Oper} {rest : List Oper} {o : Oper} {a : Act} {Q : Exit → Act → World → Prop} {Wx : World} (w0 : World) {B : Nat} {av : Option Addr} {n c : Nat} {l : List (Int × Int)} {x y : Int}
    (hW : Wx = w0.alloc (.cells #[.int .i64 x, .int .i64 y] 63)) (hgd : o.guard = none) (s x' : Operand)
    (ho : o.op = .call { callee := .builtin .append, args := #[s, x'], argTypes := #[42, 42] })
    (hown : OwR w0 B av n c l) (hs : a.eval s = .slice av n c) (hx : a.eval x' = .slice (some ⟨w0.heap.size, 0, none⟩) 1 1)
    (hb1 : n + 1 ≤ 1099511627776) (hB : B ≤ w0.heap.size)
    (h : ∀ a' c' w', OwR w' B a' (n + 1) c' (l ++ [(x, y)]) → Below B w0 w' → w0.heap.size < w'.heap.size → wpList Try.prog ops Q rest (a.put o.dst (.slice a' (n + 1) c')) w') :
    wpList Try.prog ops Q (o :: rest) a Wx := by
  subst hW
  exact appR hgd s x' ho hown hs hx hb1 hB h

/-- The sample that ends a crossing, searched from a place on. -/
def srch (off b : Int) : Int → List Int → Option (Int × Int)
  | _, [] => none
  | i, x :: l => if x < -off then none else if off < x then some (b, i) else srch off b (i + 1) l
/-- The crossings from a place on, each searched by itself. -/
def refF (off : Int) : Int → List Int → List (Int × Int)
  | _, [] => []
  | i, x :: l => if x < -off then (srch off i (i + 1) l).toList ++ refF off (i + 1) l else refF off (i + 1) l
theorem crossF_ref (off : Int) (hoff : 0 ≤ off) (l : List Int) (i b : Int) (hi : 0 ≤ i) : crossF off i b l = (if 0 ≤ b then (srch off b i l).toList else []) ++ refF off i l := by
  induction l generalizing i b with
  | nil => simp [crossF, srch, refF]
  | cons x l ih =>
    unfold crossF srch refF
    by_cases h1 : x < -off
    · simp only [if_pos h1]
      rw [ih (i + 1) i (by omega), if_pos hi]
      simp
    · simp only [if_neg h1]
      by_cases h2 : off < x
      · by_cases h3 : 0 ≤ b
        · rw [if_pos ⟨h2, h3⟩, if_pos h3, if_pos h2, ih (i + 1) (-1) (by omega)]
          simp
        · rw [if_neg (fun h => h3 h.2), if_neg h3, ih (i + 1) b (by omega), if_neg h3]
      · rw [if_neg (fun h => h2 h.1), if_neg h2, ih (i + 1) b (by omega)]
theorem srch_drop (off b : Int) (xs : List Int) (k : Nat) (h : k < xs.length) : srch off b k (xs.drop k) =
    if xs[k]?.getD 0 < -off then none else if off < xs[k]?.getD 0 then some (b, (k : Int)) else srch off b (k + 1 : Nat) (xs.drop (k + 1)) := by
  rw [List.drop_eq_getElem_cons h]
  simp [srch, h]
theorem refF_drop (off : Int) (xs : List Int) (k : Nat) (h : k < xs.length) : refF off k (xs.drop k) =
    if xs[k]?.getD 0 < -off then (srch off k (k + 1 : Nat) (xs.drop (k + 1))).toList ++ refF off (k + 1 : Nat) (xs.drop (k + 1)) else refF off (k + 1 : Nat) (xs.drop (k + 1)) := by
  rw [List.drop_eq_getElem_cons h]
  simp [refF, h]

set_option maxRecDepth 100000 in
set_option maxHeartbeats 4000000 in
theorem Crossings_any (a : Option Addr) (n c : Nat) (xs : List Int) (off : Int) (w : World) (h1 : SI w a n c xs) (hE : decayE xs off = 0) :
    Calls Try.prog 66 #[.agg #[.slice a n c, .int .i64 off]] w fun e w' => ∃ a' L c', e = .returned (.slice a' L c') ∧ OwR w' w.heap.size a' L c' (crossF off 0 (-1) xs) ∧ Below w.heap.size w w' := by
  obtain ⟨l1, l2⟩ : n ≤ xs.length ∧ xs.length ≤ n := by have := h1.len; omega
  have m1 := h1.max
  have c1 := h1.cap
  obtain ⟨v1, v2, v3, v4, v5⟩ := decayE_ok hE
  have V := Lib.hid v3
  clear v3 hE
  have hcr := crossF_ref off v4 xs 0 (-1) (by omega)
  rw [if_neg (by omega), List.nil_append] at hcr
  rw [hcr]
  have hb : ∀ o, Below w.heap.size w (w.alloc o) := fun o => (Below.refl _ _).alloc (Nat.le_refl _) _
  have hnew := alloc_new w (.cells #[.slice a n c, .int .i64 off] 87)
  obtain ⟨wa, hwa⟩ : ∃ x, x = w.alloc (.cells #[.slice a n c, .int .i64 off] 87) := ⟨_, rfl⟩
  have hba : Below w.heap.size w wa := hwa ▸ hb _
  rw [← hwa] at hnew
  have d0 : wa.cell? ⟨w.heap.size, 0, none⟩ = some (.slice a n c) := cell_block hnew 0
  have d1 : wa.cell? ⟨w.heap.size, 1, none⟩ = some (.int .i64 off) := cell_block hnew 1
  have hsa := blk_lt hnew
  have hsb : wa.heap.size ≤ w.heap.size + 1 := by rw [hwa]; simp
  clear hcr hnew
  go_enter Try.func66, Try.ntmps66
  go_wp2_with fail
  rw [← hwa]
  clear hwa hb
  go_loopw [3, 4] (fun x z wr => ∃ (k L c' : Nat) (a' : Option Addr) (acc : List (Int × Int)), k ≤ n ∧ L ≤ k ∧ x = .slice a' L c' ∧ z = .int .i64 k ∧ OwR wr (w.heap.size + 1) a' L c' acc ∧ acc ++ refF off k (xs.drop k) = refF off 0 xs ∧ Below wa.heap.size wa wr) (fun _ z _ => n - (intOf z).toNat)
  case atStart => exact ⟨0, 0, 0, none, [], by omega, by omega, rfl, rfl, OwR.nil _ _, rfl, Below.refl _ _⟩
  case round =>
    obtain ⟨k, L, c', a', acc, hk, hL, rfl, rfl, hown, ho, hbr⟩ := hrel
    have HO := Lib.hid ho
    clear ho
    have d0' := cell_keep d0 hbr
    have d1' := cell_keep d1 hbr
    have hzr : wa.heap.size ≤ wr.heap.size := hbr.size
    by_cases hlt : k < n
    · obtain ⟨b1, o1, rfl, hc1⟩ := h1.at_ (by omega)
      have e1 := cell_keep (hc1 k hlt) (hba.trans (hbr.mono (by omega)))
      have HC1 := Lib.hid hc1
      clear hc1
      have hv := V.out k
      have hd := refF_drop off xs k (by omega)
      obtain ⟨x, hx⟩ : ∃ x, xs[k]?.getD 0 = x := ⟨_, rfl⟩
      rw [hx] at e1 hv hd
      clear hx
      have hi : (k : Int) < (n : Int) := by omega
      have hi0 : (0 : Int) ≤ (k : Int) := by omega
      by_cases t1 : x < -off
      · rw [if_pos t1] at hd
        have HD := Lib.hid hd
        clear hd
        go_wp2_with fail
        refine Calmly.wp_region_mix 8 (.fl 0 <| .fl 1 <| .fl 2 <| .fl 3 <| .fl 4 <| .fl 5 <| .fl 6 <| .fl 7 <| .tail [8]) (by kernel_rfl) (by kernel_rfl) ?_
        go_wp2_with (first | ((with_reducible refine Calmly.is_fl ?_); refine Calmly.mix_fl rfl ?_ (fun _ _ => ?_); (first | exact .move _ | exact .load _ _ | exact .fieldAddr _ _ _ (by kernel_rfl) | exact .assign _ | exact .binOp _ _ _ _ _ rfl | exact .indexAddr _ _ _ | exact .len _ _ (by kernel_rfl) | exact .field _ _ _ | exact .extract _ _ | exact .pick _ _ _ | exact .build _ _ | exact .slice _ _ _ _ _ | exact .unOp _ _ _ rfl | exact .index _ _ _ | exact .max _ _ _ rfl rfl | exact .min _ _ _ rfl rfl)) | ((with_reducible refine Calmly.is_gl ?_); refine Calmly.mix_gl rfl rfl rfl ?_; first | ((first | with_reducible refine Calmly.gl_tt ?_ (fun _ _ => ?_) | with_reducible refine Calmly.gl_ff ?_ (fun _ _ => ?_)); (first | exact .move _ | exact .load _ _ | exact .fieldAddr _ _ _ (by kernel_rfl) | exact .assign _ | exact .binOp _ _ _ _ _ rfl | exact .indexAddr _ _ _ | exact .len _ _ (by kernel_rfl) | exact .field _ _ _ | exact .extract _ _ | exact .pick _ _ _ | exact .build _ _ | exact .slice _ _ _ _ _ | exact .unOp _ _ _ rfl | exact .index _ _ _ | exact .max _ _ _ rfl rfl | exact .min _ _ _ rfl rfl)) | with_reducible refine Calmly.gl_tf (fun _ _ => ?_) | with_reducible refine Calmly.gl_ft (fun _ _ => ?_)) | ((with_reducible refine Calmly.is_eff ?_); refine Calmly.mix_eff rfl (fun _ _ => ?_)) | ((with_reducible refine Calmly.is_gf ?_); refine Calmly.mix_gf rfl rfl rfl ?_; first | with_reducible refine Calmly.gf_tt (fun _ _ => ?_) | with_reducible refine Calmly.gf_ff (fun _ _ => ?_) | with_reducible refine Calmly.gf_tf (kept_of hk) (fun _ _ => ?_) | with_reducible refine Calmly.gf_ft (kept_of hk) (fun _ _ => ?_)) | ((with_reducible refine Calmly.is_tail ?_); first | refine Calmly.mix_tail_nil ?_ | refine Calmly.mix_tail rfl (fun _ _ => ?_)) | ((with_reducible refine Calmly.is_kept ?_); refine ⟨kept_of hk, ?_⟩) | (with_reducible refine Calmly.mix_alt ?_ ?_))
        go_loopw [3, 5] (fun x3 z wz => ∃ (j : Nat), k + 1 ≤ j ∧ j ≤ n ∧ x3 = .slice a' L c' ∧ z = .int .i64 j ∧ srch off k (k + 1 : Nat) (xs.drop (k + 1)) = srch off k j (xs.drop j) ∧ OwR wz (w.heap.size + 1) a' L c' acc ∧ Below wa.heap.size wa wz) (fun _ z _ => n - (intOf z).toNat)
        case atStart => exact ⟨k + 1, by omega, by omega, rfl, by go_num, rfl, hown.drew, hbr.drew⟩
        case round =>
          obtain ⟨wz, hwz⟩ : ∃ x, x = wr := ⟨_, rfl⟩
          subst hwz
          clear hbr hown d0' d1' e1 hzr
          obtain ⟨j, hj1, hj, rfl, rfl, ho, hown, hbr⟩ := hrel
          have HO2 := Lib.hid ho
          clear ho
          have d0' := cell_keep d0 hbr
          have d1' := cell_keep d1 hbr
          have hzr : wa.heap.size ≤ wz.heap.size := hbr.size
          by_cases hlt2 : j < n
          · have e2 := cell_keep (HC1.out j hlt2) (hba.trans (hbr.mono (by omega)))
            have hv2 := V.out j
            have hd := srch_drop off k xs j (by omega)
            obtain ⟨y, hy⟩ : ∃ y, xs[j]?.getD 0 = y := ⟨_, rfl⟩
            rw [hy] at e2 hv2 hd
            clear hy
            have hj2 : (j : Int) < (n : Int) := by omega
            have hj0 : (0 : Int) ≤ (j : Int) := by omega
            by_cases t2 : y < -off
            · rw [if_pos t2] at hd
              have HD2 := Lib.hid hd
              clear hd
              go_wp2_with fail
              refine Calmly.wp_region_mix 8 (.fl 0 <| .fl 1 <| .fl 2 <| .fl 3 <| .fl 4 <| .fl 5 <| .fl 6 <| .fl 7 <| .tail [8]) (by kernel_rfl) (by kernel_rfl) ?_
              go_wp2_with (first | ((with_reducible refine Calmly.is_fl ?_); refine Calmly.mix_fl rfl ?_ (fun _ _ => ?_); (first | exact .move _ | exact .load _ _ | exact .fieldAddr _ _ _ (by kernel_rfl) | exact .assign _ | exact .binOp _ _ _ _ _ rfl | exact .indexAddr _ _ _ | exact .len _ _ (by kernel_rfl) | exact .field _ _ _ | exact .extract _ _ | exact .pick _ _ _ | exact .build _ _ | exact .slice _ _ _ _ _ | exact .unOp _ _ _ rfl | exact .index _ _ _ | exact .max _ _ _ rfl rfl | exact .min _ _ _ rfl rfl)) | ((with_reducible refine Calmly.is_gl ?_); refine Calmly.mix_gl rfl rfl rfl ?_; first | ((first | with_reducible refine Calmly.gl_tt ?_ (fun _ _ => ?_) | with_reducible refine Calmly.gl_ff ?_ (fun _ _ => ?_)); (first | exact .move _ | exact .load _ _ | exact .fieldAddr _ _ _ (by kernel_rfl) | exact .assign _ | exact .binOp _ _ _ _ _ rfl | exact .indexAddr _ _ _ | exact .len _ _ (by kernel_rfl) | exact .field _ _ _ | exact .extract _ _ | exact .pick _ _ _ | exact .build _ _ | exact .slice _ _ _ _ _ | exact .unOp _ _ _ rfl | exact .index _ _ _ | exact .max _ _ _ rfl rfl | exact .min _ _ _ rfl rfl)) | with_reducible refine Calmly.gl_tf (fun _ _ => ?_) | with_reducible refine Calmly.gl_ft (fun _ _ => ?_)) | ((with_reducible refine Calmly.is_eff ?_); refine Calmly.mix_eff rfl (fun _ _ => ?_)) | ((with_reducible refine Calmly.is_gf ?_); refine Calmly.mix_gf rfl rfl rfl ?_; first | with_reducible refine Calmly.gf_tt (fun _ _ => ?_) | with_reducible refine Calmly.gf_ff (fun _ _ => ?_) | with_reducible refine Calmly.gf_tf (kept_of hk) (fun _ _ => ?_) | with_reducible refine Calmly.gf_ft (kept_of hk) (fun _ _ => ?_)) | ((with_reducible refine Calmly.is_tail ?_); first | refine Calmly.mix_tail_nil ?_ | refine Calmly.mix_tail rfl (fun _ _ => ?_)) | ((with_reducible refine Calmly.is_kept ?_); refine ⟨kept_of hk, ?_⟩) | (with_reducible refine Calmly.mix_alt ?_ ?_))
              go_roundw
              case rel =>
                refine ⟨k + 1, L, c', a', acc, by omega, by omega, rfl, by go_num, hown.drew, ?_, hbr.drew⟩
                rw [← HO.out, HD.out, HO2.out, HD2.out]
                rfl
              case measure => simp [intOf]; omega
            · rw [if_neg t2] at hd
              have t2' : -off ≤ y := by omega
              clear t2
              by_cases t3 : off < y
              · rw [if_pos t3] at hd
                have HD2 := Lib.hid hd
                clear hd
                have hL3 : L + 1 ≤ 1099511627776 := by omega
                have hB3 : w.heap.size + 1 ≤ wz.drew.drew.heap.size := by show _ ≤ wz.heap.size; omega
                go_wp2_with fail
                refine Calmly.wp_region_mix 8 (.fl 0 <| .fl 1 <| .fl 2 <| .fl 3 <| .fl 4 <| .fl 5 <| .fl 6 <| .fl 7 <| .tail [8]) (by kernel_rfl) (by kernel_rfl) ?_
                go_wp2_with (first | ((with_reducible refine Calmly.is_fl ?_); refine Calmly.mix_fl rfl ?_ (fun _ _ => ?_); (first | exact .move _ | exact .load _ _ | exact .fieldAddr _ _ _ (by kernel_rfl) | exact .assign _ | exact .binOp _ _ _ _ _ rfl | exact .indexAddr _ _ _ | exact .len _ _ (by kernel_rfl) | exact .field _ _ _ | exact .extract _ _ | exact .pick _ _ _ | exact .build _ _ | exact .slice _ _ _ _ _ | exact .unOp _ _ _ rfl | exact .index _ _ _ | exact .max _ _ _ rfl rfl | exact .min _ _ _ rfl rfl)) | ((with_reducible refine Calmly.is_gl ?_); refine Calmly.mix_gl rfl rfl rfl ?_; first | ((first | with_reducible refine Calmly.gl_tt ?_ (fun _ _ => ?_) | with_reducible refine Calmly.gl_ff ?_ (fun _ _ => ?_)); (first | exact .move _ | exact .load _ _ | exact .fieldAddr _ _ _ (by kernel_rfl) | exact .assign _ | exact .binOp _ _ _ _ _ rfl | exact .indexAddr _ _ _ | exact .len _ _ (by kernel_rfl) | exact .field _ _ _ | exact .extract _ _ | exact .pick _ _ _ | exact .build _ _ | exact .slice _ _ _ _ _ | exact .unOp _ _ _ rfl | exact .index _ _ _ | exact .max _ _ _ rfl rfl | exact .min _ _ _ rfl rfl)) | with_reducible refine Calmly.gl_tf (fun _ _ => ?_) | with_reducible refine Calmly.gl_ft (fun _ _ => ?_)) | ((with_reducible refine Calmly.is_eff ?_); refine Calmly.mix_eff rfl (fun _ _ => ?_)) | ((with_reducible refine Calmly.is_gf ?_); refine Calmly.mix_gf rfl rfl rfl ?_; first | with_reducible refine Calmly.gf_tt (fun _ _ => ?_) | with_reducible refine Calmly.gf_ff (fun _ _ => ?_) | with_reducible refine Calmly.gf_tf (kept_of hk) (fun _ _ => ?_) | with_reducible refine Calmly.gf_ft (kept_of hk) (fun _ _ => ?_)) | ((with_reducible refine Calmly.is_tail ?_); first | refine Calmly.mix_tail_nil ?_ | refine Calmly.mix_tail rfl (fun _ _ => ?_)) | ((with_reducible refine Calmly.is_kept ?_); refine ⟨kept_of hk, ?_⟩) | (with_reducible refine Calmly.mix_alt ?_ ?_))
                refine Calmly.wp_region_mix 7 (.fl 0 <| .fl 1 <| .fl 2 <| .fl 3 <| .fl 4 <| .fl 5 <| .fl 6 <| .tail [7]) (by kernel_rfl) (by kernel_rfl) ?_
                go_wp2_with (first | (refine appRg wz.drew.drew (l := acc) rfl rfl _ _ rfl hown.drew.drew rfl rfl hL3 hB3 ?_; intro a3 c3 w6 ho6 hb6 hs6) | ((with_reducible refine Calmly.is_fl ?_); refine Calmly.mix_fl rfl ?_ (fun _ _ => ?_); (first | exact .move _ | exact .load _ _ | exact .fieldAddr _ _ _ (by kernel_rfl) | exact .assign _ | exact .binOp _ _ _ _ _ rfl | exact .indexAddr _ _ _ | exact .len _ _ (by kernel_rfl) | exact .field _ _ _ | exact .extract _ _ | exact .pick _ _ _ | exact .build _ _ | exact .slice _ _ _ _ _ | exact .unOp _ _ _ rfl | exact .index _ _ _ | exact .max _ _ _ rfl rfl | exact .min _ _ _ rfl rfl)) | ((with_reducible refine Calmly.is_gl ?_); refine Calmly.mix_gl rfl rfl rfl ?_; first | ((first | with_reducible refine Calmly.gl_tt ?_ (fun _ _ => ?_) | with_reducible refine Calmly.gl_ff ?_ (fun _ _ => ?_)); (first | exact .move _ | exact .load _ _ | exact .fieldAddr _ _ _ (by kernel_rfl) | exact .assign _ | exact .binOp _ _ _ _ _ rfl | exact .indexAddr _ _ _ | exact .len _ _ (by kernel_rfl) | exact .field _ _ _ | exact .extract _ _ | exact .pick _ _ _ | exact .build _ _ | exact .slice _ _ _ _ _ | exact .unOp _ _ _ rfl | exact .index _ _ _ | exact .max _ _ _ rfl rfl | exact .min _ _ _ rfl rfl)) | with_reducible refine Calmly.gl_tf (fun _ _ => ?_) | with_reducible refine Calmly.gl_ft (fun _ _ => ?_)) | ((with_reducible refine Calmly.is_eff ?_); refine Calmly.mix_eff rfl (fun _ _ => ?_)) | ((with_reducible refine Calmly.is_gf ?_); refine Calmly.mix_gf rfl rfl rfl ?_; first | with_reducible refine Calmly.gf_tt (fun _ _ => ?_) | with_reducible refine Calmly.gf_ff (fun _ _ => ?_) | with_reducible refine Calmly.gf_tf (kept_of hk) (fun _ _ => ?_) | with_reducible refine Calmly.gf_ft (kept_of hk) (fun _ _ => ?_)) | ((with_reducible refine Calmly.is_tail ?_); first | refine Calmly.mix_tail_nil ?_ | refine Calmly.mix_tail rfl (fun _ _ => ?_)) | ((with_reducible refine Calmly.is_kept ?_); refine ⟨kept_of hk, ?_⟩) | (with_reducible refine Calmly.mix_alt ?_ ?_))
                go_roundw
                case rel =>
                  refine ⟨k + 1, L + 1, c3, a3, acc ++ [((k : Int), (j : Int))], by omega, by omega, rfl, by go_num, ho6, ?_, hbr.trans (((Below.refl _ _).drew.drew).trans (hb6.mono (by omega)))⟩
                  rw [← HO.out, HD.out, HO2.out, HD2.out, List.append_assoc]
                  rfl
                case measure => simp [intOf]; omega
              · rw [if_neg t3] at hd
                have t3' : y ≤ off := by omega
                have HD2 := Lib.hid hd
                clear hd
                go_wp2_with fail
                refine Calmly.wp_region_mix 8 (.fl 0 <| .fl 1 <| .fl 2 <| .fl 3 <| .fl 4 <| .fl 5 <| .fl 6 <| .fl 7 <| .tail [8]) (by kernel_rfl) (by kernel_rfl) ?_
                go_wp2_with (first | ((with_reducible refine Calmly.is_fl ?_); refine Calmly.mix_fl rfl ?_ (fun _ _ => ?_); (first | exact .move _ | exact .load _ _ | exact .fieldAddr _ _ _ (by kernel_rfl) | exact .assign _ | exact .binOp _ _ _ _ _ rfl | exact .indexAddr _ _ _ | exact .len _ _ (by kernel_rfl) | exact .field _ _ _ | exact .extract _ _ | exact .pick _ _ _ | exact .build _ _ | exact .slice _ _ _ _ _ | exact .unOp _ _ _ rfl | exact .index _ _ _ | exact .max _ _ _ rfl rfl | exact .min _ _ _ rfl rfl)) | ((with_reducible refine Calmly.is_gl ?_); refine Calmly.mix_gl rfl rfl rfl ?_; first | ((first | with_reducible refine Calmly.gl_tt ?_ (fun _ _ => ?_) | with_reducible refine Calmly.gl_ff ?_ (fun _ _ => ?_)); (first | exact .move _ | exact .load _ _ | exact .fieldAddr _ _ _ (by kernel_rfl) | exact .assign _ | exact .binOp _ _ _ _ _ rfl | exact .indexAddr _ _ _ | exact .len _ _ (by kernel_rfl) | exact .field _ _ _ | exact .extract _ _ | exact .pick _ _ _ | exact .build _ _ | exact .slice _ _ _ _ _ | exact .unOp _ _ _ rfl | exact .index _ _ _ | exact .max _ _ _ rfl rfl | exact .min _ _ _ rfl rfl)) | with_reducible refine Calmly.gl_tf (fun _ _ => ?_) | with_reducible refine Calmly.gl_ft (fun _ _ => ?_)) | ((with_reducible refine Calmly.is_eff ?_); refine Calmly.mix_eff rfl (fun _ _ => ?_)) | ((with_reducible refine Calmly.is_gf ?_); refine Calmly.mix_gf rfl rfl rfl ?_; first | with_reducible refine Calmly.gf_tt (fun _ _ => ?_) | with_reducible refine Calmly.gf_ff (fun _ _ => ?_) | with_reducible refine Calmly.gf_tf (kept_of hk) (fun _ _ => ?_) | with_reducible refine Calmly.gf_ft (kept_of hk) (fun _ _ => ?_)) | ((with_reducible refine Calmly.is_tail ?_); first | refine Calmly.mix_tail_nil ?_ | refine Calmly.mix_tail rfl (fun _ _ => ?_)) | ((with_reducible refine Calmly.is_kept ?_); refine ⟨kept_of hk, ?_⟩) | (with_reducible refine Calmly.mix_alt ?_ ?_))
                refine Calmly.wp_region_mix 7 (.fl 0 <| .fl 1 <| .fl 2 <| .fl 3 <| .fl 4 <| .fl 5 <| .fl 6 <| .tail [7]) (by kernel_rfl) (by kernel_rfl) ?_
                go_wp2_with (first | ((with_reducible refine Calmly.is_fl ?_); refine Calmly.mix_fl rfl ?_ (fun _ _ => ?_); (first | exact .move _ | exact .load _ _ | exact .fieldAddr _ _ _ (by kernel_rfl) | exact .assign _ | exact .binOp _ _ _ _ _ rfl | exact .indexAddr _ _ _ | exact .len _ _ (by kernel_rfl) | exact .field _ _ _ | exact .extract _ _ | exact .pick _ _ _ | exact .build _ _ | exact .slice _ _ _ _ _ | exact .unOp _ _ _ rfl | exact .index _ _ _ | exact .max _ _ _ rfl rfl | exact .min _ _ _ rfl rfl)) | ((with_reducible refine Calmly.is_gl ?_); refine Calmly.mix_gl rfl rfl rfl ?_; first | ((first | with_reducible refine Calmly.gl_tt ?_ (fun _ _ => ?_) | with_reducible refine Calmly.gl_ff ?_ (fun _ _ => ?_)); (first | exact .move _ | exact .load _ _ | exact .fieldAddr _ _ _ (by kernel_rfl) | exact .assign _ | exact .binOp _ _ _ _ _ rfl | exact .indexAddr _ _ _ | exact .len _ _ (by kernel_rfl) | exact .field _ _ _ | exact .extract _ _ | exact .pick _ _ _ | exact .build _ _ | exact .slice _ _ _ _ _ | exact .unOp _ _ _ rfl | exact .index _ _ _ | exact .max _ _ _ rfl rfl | exact .min _ _ _ rfl rfl)) | with_reducible refine Calmly.gl_tf (fun _ _ => ?_) | with_reducible refine Calmly.gl_ft (fun _ _ => ?_)) | ((with_reducible refine Calmly.is_eff ?_); refine Calmly.mix_eff rfl (fun _ _ => ?_)) | ((with_reducible refine Calmly.is_gf ?_); refine Calmly.mix_gf rfl rfl rfl ?_; first | with_reducible refine Calmly.gf_tt (fun _ _ => ?_) | with_reducible refine Calmly.gf_ff (fun _ _ => ?_) | with_reducible refine Calmly.gf_tf (kept_of hk) (fun _ _ => ?_) | with_reducible refine Calmly.gf_ft (kept_of hk) (fun _ _ => ?_)) | ((with_reducible refine Calmly.is_tail ?_); first | refine Calmly.mix_tail_nil ?_ | refine Calmly.mix_tail rfl (fun _ _ => ?_)) | ((with_reducible refine Calmly.is_kept ?_); refine ⟨kept_of hk, ?_⟩) | (with_reducible refine Calmly.mix_alt ?_ ?_))
                go_roundw
                case rel => exact ⟨j + 1, by omega, by omega, rfl, by go_num, by rw [HO2.out, HD2.out], hown.drew.drew, hbr.drew.drew⟩
                case measure => simp [intOf]; omega
          · have hle : (n : Int) ≤ (j : Int) := by omega
            go_wp2_with fail
            go_roundw
            case rel =>
              refine ⟨k + 1, L, c', a', acc, by omega, by omega, rfl, by go_num, hown, ?_, hbr⟩
              rw [← HO.out, HD.out, HO2.out, List.drop_eq_nil_of_le (by omega : xs.length ≤ j)]
              rfl
            case measure => simp [intOf]; omega
      · rw [if_neg t1] at hd
        have t1' : -off ≤ x := by omega
        clear t1
        have HD := Lib.hid hd
        clear hd
        go_wp2_with fail
        refine Calmly.wp_region_mix 8 (.fl 0 <| .fl 1 <| .fl 2 <| .fl 3 <| .fl 4 <| .fl 5 <| .fl 6 <| .fl 7 <| .tail [8]) (by kernel_rfl) (by kernel_rfl) ?_
        go_wp2_with (first | ((with_reducible refine Calmly.is_fl ?_); refine Calmly.mix_fl rfl ?_ (fun _ _ => ?_); (first | exact .move _ | exact .load _ _ | exact .fieldAddr _ _ _ (by kernel_rfl) | exact .assign _ | exact .binOp _ _ _ _ _ rfl | exact .indexAddr _ _ _ | exact .len _ _ (by kernel_rfl) | exact .field _ _ _ | exact .extract _ _ | exact .pick _ _ _ | exact .build _ _ | exact .slice _ _ _ _ _ | exact .unOp _ _ _ rfl | exact .index _ _ _ | exact .max _ _ _ rfl rfl | exact .min _ _ _ rfl rfl)) | ((with_reducible refine Calmly.is_gl ?_); refine Calmly.mix_gl rfl rfl rfl ?_; first | ((first | with_reducible refine Calmly.gl_tt ?_ (fun _ _ => ?_) | with_reducible refine Calmly.gl_ff ?_ (fun _ _ => ?_)); (first | exact .move _ | exact .load _ _ | exact .fieldAddr _ _ _ (by kernel_rfl) | exact .assign _ | exact .binOp _ _ _ _ _ rfl | exact .indexAddr _ _ _ | exact .len _ _ (by kernel_rfl) | exact .field _ _ _ | exact .extract _ _ | exact .pick _ _ _ | exact .build _ _ | exact .slice _ _ _ _ _ | exact .unOp _ _ _ rfl | exact .index _ _ _ | exact .max _ _ _ rfl rfl | exact .min _ _ _ rfl rfl)) | with_reducible refine Calmly.gl_tf (fun _ _ => ?_) | with_reducible refine Calmly.gl_ft (fun _ _ => ?_)) | ((with_reducible refine Calmly.is_eff ?_); refine Calmly.mix_eff rfl (fun _ _ => ?_)) | ((with_reducible refine Calmly.is_gf ?_); refine Calmly.mix_gf rfl rfl rfl ?_; first | with_reducible refine Calmly.gf_tt (fun _ _ => ?_) | with_reducible refine Calmly.gf_ff (fun _ _ => ?_) | with_reducible refine Calmly.gf_tf (kept_of hk) (fun _ _ => ?_) | with_reducible refine Calmly.gf_ft (kept_of hk) (fun _ _ => ?_)) | ((with_reducible refine Calmly.is_tail ?_); first | refine Calmly.mix_tail_nil ?_ | refine Calmly.mix_tail rfl (fun _ _ => ?_)) | ((with_reducible refine Calmly.is_kept ?_); refine ⟨kept_of hk, ?_⟩) | (with_reducible refine Calmly.mix_alt ?_ ?_))
        go_roundw
        case rel => exact ⟨k + 1, L, c', a', acc, by omega, by omega, rfl, by go_num, hown.drew, by rw [← HD.out]; exact HO.out, hbr.drew⟩
        case measure => simp [intOf]; omega
    · have hle : (n : Int) ≤ (k : Int) := by omega
      have hacc : acc = refF off 0 xs := by
        have := HO.out
        rw [List.drop_eq_nil_of_le (by omega)] at this
        simpa [refF] using this
      go_wp2_with fail
      go_ret
      refine ⟨_, _, _, rfl, ?_, hba.trans (hbr.mono (by omega))⟩
      rw [← hacc]
      exact hown.weak (by omega)
end Go.Proofs.Ytmaidjankakppaa
