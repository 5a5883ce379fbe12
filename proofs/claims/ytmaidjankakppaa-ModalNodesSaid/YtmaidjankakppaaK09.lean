/- Contracts of numbers of any size: comparing, adding and subtracting digits. Contracts of numbers of any size: the opposite, the sign, sums, differences, comparing. -/
import Derived.Test.YtmaidjankakppaaK08
namespace Go.Proofs.Ytmaidjankakppaa
open Go.RowKit Go.Wides
open Calmly (Kept)

set_option maxRecDepth 100000 in
set_option maxHeartbeats 1000000 in
theorem cmpDigits_any (a b : Option Addr) (n m c d : Nat) (xs ys : List Int) (w : World) (h1 : SI w a n c xs) (h2 : SI w b m d ys) (d1 : Dg xs) (d2 : Dg ys) (z1 : Nz xs) (z2 : Nz ys) :
    Calls Try.prog 139 #[.slice a n c, .slice b m d] w fun e w' => e = .returned (.int .i64 (cmpI (dv xs) (dv ys))) ∧ ∃ q, w' = w.drewN q := by
  obtain ⟨l1, l2⟩ : n ≤ xs.length ∧ xs.length ≤ n := by have := h1.len; omega
  obtain ⟨k1, k2⟩ : m ≤ ys.length ∧ ys.length ≤ m := by have := h2.len; omega
  have m1 := h1.max
  have m2 := h2.max
  have c1 := h1.cap
  have c2 := h2.cap
  by_cases he : n = m
  · subst he
    go_enter Try.func139, Try.ntmps139
    go_wp2
    go_loopw [5] (fun i wr => ∃ k : Nat, k ≤ n ∧ i = .int .i64 ((k : Int) - 1) ∧ Hid (xs.drop k = ys.drop k) ∧ ∃ n, wr = w.drewN n) (fun i _ => (intOf i + 1).toNat)
    case atStart => exact ⟨n, by omega, rfl, by rw [List.drop_of_length_le (by omega), List.drop_of_length_le (by omega)]; rfl, 0, rfl⟩
    case round =>
      obtain ⟨k, hk, rfl, ht, q, rfl⟩ := hrel
      by_cases hlt : 0 < k
      · obtain ⟨b1, o1, rfl, hc1⟩ := h1.at_ (by omega)
        obtain ⟨b2, o2, rfl, hc2⟩ := h2.at_ (by omega)
        have e1 := hc1 (k - 1) (by omega)
        have e2 := hc2 (k - 1) (by omega)
        clear hc1 hc2
        have hi : (k : Int) - 1 < (n : Int) := by omega
        have hi0 : (0 : Int) ≤ (k : Int) - 1 := by omega
        have hi1 : (1 : Int) ≤ (k : Int) := by omega
        have hj : ((k : Int) - 1).toNat = k - 1 := by omega
        have ht' : Hid (xs.drop (k - 1 + 1) = ys.drop (k - 1 + 1)) := by rw [show k - 1 + 1 = k from by omega]; exact ht
        go_wp2_with fail
        refine Calmly.wp_region_mix 8 (.fl 0 <| .fl 1 <| .fl 2 <| .fl 3 <| .fl 4 <| .fl 5 <| .fl 6 <| .fl 7 <| .tail [8]) (by kernel_rfl) (by kernel_rfl) ?_
        go_wp2_with (first | ((with_reducible refine Calmly.is_fl ?_); refine Calmly.mix_fl rfl ?_ (fun _ _ => ?_); (first | exact .move _ | exact .load _ _ | exact .fieldAddr _ _ _ (by kernel_rfl) | exact .assign _ | exact .binOp _ _ _ _ _ rfl | exact .indexAddr _ _ _ | exact .len _ _ (by kernel_rfl) | exact .field _ _ _ | exact .extract _ _ | exact .pick _ _ _ | exact .build _ _ | exact .slice _ _ _ _ _ | exact .unOp _ _ _ rfl | exact .index _ _ _ | exact .max _ _ _ rfl rfl | exact .min _ _ _ rfl rfl)) | ((with_reducible refine Calmly.is_gl ?_); refine Calmly.mix_gl rfl rfl rfl ?_; first | ((first | with_reducible refine Calmly.gl_tt ?_ (fun _ _ => ?_) | with_reducible refine Calmly.gl_ff ?_ (fun _ _ => ?_)); (first | exact .move _ | exact .load _ _ | exact .fieldAddr _ _ _ (by kernel_rfl) | exact .assign _ | exact .binOp _ _ _ _ _ rfl | exact .indexAddr _ _ _ | exact .len _ _ (by kernel_rfl) | exact .field _ _ _ | exact .extract _ _ | exact .pick _ _ _ | exact .build _ _ | exact .slice _ _ _ _ _ | exact .unOp _ _ _ rfl | exact .index _ _ _ | exact .max _ _ _ rfl rfl | exact .min _ _ _ rfl rfl)) | with_reducible refine Calmly.gl_tf (fun _ _ => ?_) | with_reducible refine Calmly.gl_ft (fun _ _ => ?_)) | ((with_reducible refine Calmly.is_eff ?_); refine Calmly.mix_eff rfl (fun _ _ => ?_)) | ((with_reducible refine Calmly.is_gf ?_); refine Calmly.mix_gf rfl rfl rfl ?_; first | with_reducible refine Calmly.gf_tt (fun _ _ => ?_) | with_reducible refine Calmly.gf_ff (fun _ _ => ?_) | with_reducible refine Calmly.gf_tf (kept_of hk) (fun _ _ => ?_) | with_reducible refine Calmly.gf_ft (kept_of hk) (fun _ _ => ?_)) | ((with_reducible refine Calmly.is_tail ?_); first | refine Calmly.mix_tail_nil ?_ | refine Calmly.mix_tail rfl (fun _ _ => ?_)) | ((with_reducible refine Calmly.is_kept ?_); refine ⟨kept_of hk, ?_⟩) | (with_reducible refine Calmly.mix_alt ?_ ?_))
        · go_ret
          have hx : xs[k - 1]?.getD 0 < ys[k - 1]?.getD 0 := by assumption
          exact ⟨ret_int (by rw [cmpI_lt (cmp_step d1 d2 (by omega) (by omega) ht'.out hx)]), q + 1, rfl⟩
        · have hx : ys[k - 1]?.getD 0 ≤ xs[k - 1]?.getD 0 := by assumption
          refine Calmly.wp_region_mix 8 (.fl 0 <| .fl 1 <| .fl 2 <| .fl 3 <| .fl 4 <| .fl 5 <| .fl 6 <| .fl 7 <| .tail [8]) (by kernel_rfl) (by kernel_rfl) ?_
          go_wp2_with (first | ((with_reducible refine Calmly.is_fl ?_); refine Calmly.mix_fl rfl ?_ (fun _ _ => ?_); (first | exact .move _ | exact .load _ _ | exact .fieldAddr _ _ _ (by kernel_rfl) | exact .assign _ | exact .binOp _ _ _ _ _ rfl | exact .indexAddr _ _ _ | exact .len _ _ (by kernel_rfl) | exact .field _ _ _ | exact .extract _ _ | exact .pick _ _ _ | exact .build _ _ | exact .slice _ _ _ _ _ | exact .unOp _ _ _ rfl | exact .index _ _ _ | exact .max _ _ _ rfl rfl | exact .min _ _ _ rfl rfl)) | ((with_reducible refine Calmly.is_gl ?_); refine Calmly.mix_gl rfl rfl rfl ?_; first | ((first | with_reducible refine Calmly.gl_tt ?_ (fun _ _ => ?_) | with_reducible refine Calmly.gl_ff ?_ (fun _ _ => ?_)); (first | exact .move _ | exact .load _ _ | exact .fieldAddr _ _ _ (by kernel_rfl) | exact .assign _ | exact .binOp _ _ _ _ _ rfl | exact .indexAddr _ _ _ | exact .len _ _ (by kernel_rfl) | exact .field _ _ _ | exact .extract _ _ | exact .pick _ _ _ | exact .build _ _ | exact .slice _ _ _ _ _ | exact .unOp _ _ _ rfl | exact .index _ _ _ | exact .max _ _ _ rfl rfl | exact .min _ _ _ rfl rfl)) | with_reducible refine Calmly.gl_tf (fun _ _ => ?_) | with_reducible refine Calmly.gl_ft (fun _ _ => ?_)) | ((with_reducible refine Calmly.is_eff ?_); refine Calmly.mix_eff rfl (fun _ _ => ?_)) | ((with_reducible refine Calmly.is_gf ?_); refine Calmly.mix_gf rfl rfl rfl ?_; first | with_reducible refine Calmly.gf_tt (fun _ _ => ?_) | with_reducible refine Calmly.gf_ff (fun _ _ => ?_) | with_reducible refine Calmly.gf_tf (kept_of hk) (fun _ _ => ?_) | with_reducible refine Calmly.gf_ft (kept_of hk) (fun _ _ => ?_)) | ((with_reducible refine Calmly.is_tail ?_); first | refine Calmly.mix_tail_nil ?_ | refine Calmly.mix_tail rfl (fun _ _ => ?_)) | ((with_reducible refine Calmly.is_kept ?_); refine ⟨kept_of hk, ?_⟩) | (with_reducible refine Calmly.mix_alt ?_ ?_))
          · go_ret
            have hx : ys[k - 1]?.getD 0 < xs[k - 1]?.getD 0 := by assumption
            exact ⟨ret_int (by rw [cmpI_gt (cmp_step d2 d1 (by omega) (by omega) ht'.out.symm hx)]), q + 1 + 1, rfl⟩
          · have hy : xs[k - 1]?.getD 0 ≤ ys[k - 1]?.getD 0 := by assumption
            go_roundw
            case rel => exact ⟨k - 1, by omega, by congr 1; omega, drop_step (by omega) (by omega) ht'.out (by omega), q + 1 + 1, rfl⟩
            case measure => simp [intOf]; omega
      · go_wp2
        go_ret
        refine ⟨ret_int ?_, q, rfl⟩
        have := ht.out
        rw [show k = 0 from by omega] at this
        simp at this
        rw [this, cmpI_eq rfl]
  · by_cases hlt : n < m
    · have := dv_lt_of_len d1 d2 z2 (by omega)
      go_enter Try.func139, Try.ntmps139
      go_wp2
      go_ret
      exact ⟨ret_int (by rw [cmpI_lt this]), 0, rfl⟩
    · have := dv_lt_of_len d2 d1 z1 (by omega)
      go_enter Try.func139, Try.ntmps139
      go_wp2
      go_ret
      exact ⟨ret_int (by rw [cmpI_gt this]), 0, rfl⟩

set_option maxRecDepth 100000 in
set_option maxHeartbeats 1000000 in
theorem addDigits_any (a b : Option Addr) (n m c d : Nat) (xs ys : List Int) (w : World) (h1 : SI w a n c xs) (h2 : SI w b m d ys) (d1 : Dg xs) (d2 : Dg ys) (hn : n ≤ 1099511627776) (hm : m ≤ 1099511627776) :
    Calls Try.prog 138 #[.slice a n c, .slice b m d] w fun e w' => ∃ a' m' c', e = .returned (.slice a' m' c') ∧ (∃ ds, OwI w' w.heap.size a' m' c' ds ∧ Dg ds ∧ dv ds = dv xs + dv ys ∧ m' ≤ max n m + 1) ∧ Below w.heap.size w w' := by
  obtain ⟨l1, l2⟩ : n ≤ xs.length ∧ xs.length ≤ n := by have := h1.len; omega
  obtain ⟨k1, k2⟩ : m ≤ ys.length ∧ ys.length ≤ m := by have := h2.len; omega
  have c1 := h1.cap
  have c2 := h2.cap
  go_enter Try.func138, Try.ntmps138
  go_wp2_with fail
  go_loopw [5, 6, 7] (fun l x i wr => ∃ (k : Nat) (cy : Int) (ds : List Int) (a' : Option Addr) (c' : Nat), i = .int .i64 k ∧ x = .int .i64 cy ∧ l = .slice a' k c' ∧ OwI wr w.heap.size a' k c' ds ∧ 0 ≤ cy ∧ cy ≤ 1 ∧ k ≤ 1099511627777 ∧ Hid (AddStep xs ys ds k cy) ∧ Hid (k ≤ max n m ∨ (k = max n m + 1 ∧ cy = 0)) ∧ Below w.heap.size w wr) (fun _ _ i _ => max n m + 1 - (intOf i).toNat)
  case atStart => exact ⟨0, 0, [], none, 0, rfl, rfl, rfl, OwI.nil _ _, by omega, by omega, by omega, AddStep.start _ _, .inl (by omega), Below.refl _ _⟩
  case round =>
    obtain ⟨k, cy, ds, a', c', rfl, rfl, rfl, hown, hc0, hc1, hkm, hst, hmx, hbel⟩ := hrel
    have hg1 := d1.get k
    have hg2 := d2.get k
    have hsz := hbel.size
    by_cases hgo : k < n ∨ k < m ∨ 0 < cy
    · have hk1 : k ≤ max n m := by have := hmx.out; omega
      have hN := Lib.hid (hst.out.next d1 d2)
      have hmx' : Hid (k + 1 ≤ max n m ∨ (k + 1 = max n m + 1 ∧ (xs[k]?.getD 0 + ys[k]?.getD 0 + cy) / 1000000000 = 0)) := by
        show _ ∨ _
        by_cases hh : k + 1 ≤ max n m
        · exact .inl hh
        · right
          refine ⟨by omega, ?_⟩
          rw [List.getElem?_eq_none (l := xs) (by omega), List.getElem?_eq_none (l := ys) (by omega)]
          simp; omega
      have hs1 := h1.keep (hbel.mono (Nat.le_refl _))
      have hs2 := h2.keep (hbel.mono (Nat.le_refl _))
      have hk2 : k ≤ 1099511627776 := by omega
      have hkd : max n m + 1 - (k + 1) < max n m + 1 - k := by omega
      have HKD := Lib.hid hkd
      clear hkd
      have cases3 : (k < n) ∨ (¬ k < n ∧ k < m) ∨ (¬ k < n ∧ ¬ k < m ∧ 0 < cy) := by omega
      clear hgo hk1
      rcases cases3 with h | ⟨h, h'⟩ | ⟨h, h', h''⟩
      all_goals
        go_wp2_with fail
        refine (digit_any a n c xs k _ hs1 (by omega)).mono ?_
        rintro e w' ⟨rfl, rfl⟩
        go_wp2_with fail
        refine (digit_any b m d ys k _ hs2 (by omega)).mono ?_
        rintro e w' ⟨rfl, rfl⟩
        rw [Int.toNat_natCast]
        go_wp2_with (at_builtin; refine appI rfl _ _ rfl hown rfl rfl (by omega) (by omega) ?_; intro a2 c2 w1 hown1 hb1 hlt1)
        go_roundw
        case rel => exact ⟨k + 1, _, _, a2, c2, by go_num, rfl, rfl, hown1, by omega, by omega, by omega, hN, hmx', hbel.trans hb1⟩
        case measure => exact HKD.out
    · have hz : cy = 0 := by omega
      rw [hz] at hst
      have hf := hst.out.fin (by omega) (by omega)
      have HF := Lib.hid hf
      have HZ := Lib.hid hz
      have hfd := hst.out.1
      have hmm := hmx.out
      have hk9 : k ≤ max n m + 1 := by omega
      clear hf hz hmm
      go_wp2_with fail
      go_ret
      exact ⟨a', k, c', rfl, ⟨ds, hown, hfd, HF.out, hk9⟩, hbel⟩

set_option maxRecDepth 100000 in
set_option maxHeartbeats 1000000 in
theorem subDigits_any (a b : Option Addr) (n m c d : Nat) (xs ys : List Int) (w : World) (h1 : SI w a n c xs) (h2 : SI w b m d ys) (d1 : Dg xs) (d2 : Dg ys) (hle : dv ys ≤ dv xs) (hml : m ≤ n) (hn : n ≤ 1099511627776) :
    Calls Try.prog 140 #[.slice a n c, .slice b m d] w fun e w' => ∃ a' m' c', e = .returned (.slice a' m' c') ∧ (∃ ds, SI w' a' m' c' ds ∧ In w' 3 a' ∧ Dg ds ∧ Nz ds ∧ dv ds = dv xs - dv ys ∧ m' ≤ n) ∧ Below w.heap.size w w' := by
  obtain ⟨l1, l2⟩ : n ≤ xs.length ∧ xs.length ≤ n := by have := h1.len; omega
  obtain ⟨k1, k2⟩ : m ≤ ys.length ∧ ys.length ≤ m := by have := h2.len; omega
  have c1 := h1.cap
  have c2 := h2.cap
  have hc9 := h1.max
  go_enter Try.func140, Try.ntmps140
  go_wp2_with fail
  go_loopw [5, 6, 7] (fun l x i wr => ∃ (k : Nat) (cy : Int) (ds : List Int) (a' : Option Addr) (c' : Nat), i = .int .i64 k ∧ x = .int .i64 cy ∧ l = .slice a' k c' ∧ OwI wr w.heap.size a' k c' ds ∧ 0 ≤ cy ∧ cy ≤ 1 ∧ k ≤ n ∧ Hid (SubStep xs ys ds k cy) ∧ Below w.heap.size w wr) (fun _ _ i _ => n - (intOf i).toNat)
  case atStart => exact ⟨0, 0, [], none, 0, rfl, rfl, rfl, OwI.nil _ _, by omega, by omega, by omega, SubStep.start _ _, Below.refl _ _⟩
  case round =>
    obtain ⟨k, cy, ds, a', c', rfl, rfl, rfl, hown, hc0, hc1, hkm, hst, hbel⟩ := hrel
    have hg1 := d1.get k
    have hg2 := d2.get k
    have hsz := hbel.size
    by_cases hgo : k < n
    · have hs2 := h2.keep (hbel.mono (Nat.le_refl _))
      obtain ⟨b1, o1, rfl, hce⟩ := (h1.keep (hbel.mono (Nat.le_refl _))).at_ (by omega)
      have e1 := hce k hgo
      clear hce
      have hi : (k : Int) < (n : Int) := by omega
      have hi0 : (0 : Int) ≤ (k : Int) := by omega
      go_wp2_with fail
      refine Calmly.wp_region_mix 9 (.fl 0 <| .fl 1 <| .fl 2 <| .fl 3 <| .fl 4 <| .fl 5 <| .fl 8 <| .eff 6 <| .fl 7 <| .tail [9, 10]) (by kernel_rfl) (by kernel_rfl) ?_
      have hk : Below wr.drew.heap.size wr.drew wr.drew := Below.refl _ _
      go_wp2_with (first | ((with_reducible refine Calmly.is_fl ?_); refine Calmly.mix_fl rfl ?_ (fun _ _ => ?_); (first | exact .move _ | exact .load _ _ | exact .fieldAddr _ _ _ (by kernel_rfl) | exact .assign _ | exact .binOp _ _ _ _ _ rfl | exact .indexAddr _ _ _ | exact .len _ _ (by kernel_rfl) | exact .field _ _ _ | exact .extract _ _ | exact .pick _ _ _ | exact .build _ _ | exact .slice _ _ _ _ _ | exact .unOp _ _ _ rfl | exact .index _ _ _ | exact .max _ _ _ rfl rfl | exact .min _ _ _ rfl rfl)) | ((with_reducible refine Calmly.is_gl ?_); refine Calmly.mix_gl rfl rfl rfl ?_; first | ((first | with_reducible refine Calmly.gl_tt ?_ (fun _ _ => ?_) | with_reducible refine Calmly.gl_ff ?_ (fun _ _ => ?_)); (first | exact .move _ | exact .load _ _ | exact .fieldAddr _ _ _ (by kernel_rfl) | exact .assign _ | exact .binOp _ _ _ _ _ rfl | exact .indexAddr _ _ _ | exact .len _ _ (by kernel_rfl) | exact .field _ _ _ | exact .extract _ _ | exact .pick _ _ _ | exact .build _ _ | exact .slice _ _ _ _ _ | exact .unOp _ _ _ rfl | exact .index _ _ _ | exact .max _ _ _ rfl rfl | exact .min _ _ _ rfl rfl)) | with_reducible refine Calmly.gl_tf (fun _ _ => ?_) | with_reducible refine Calmly.gl_ft (fun _ _ => ?_)) | ((with_reducible refine Calmly.is_eff ?_); refine Calmly.mix_eff rfl (fun _ _ => ?_)) | ((with_reducible refine Calmly.is_gf ?_); refine Calmly.mix_gf rfl rfl rfl ?_; first | with_reducible refine Calmly.gf_tt (fun _ _ => ?_) | with_reducible refine Calmly.gf_ff (fun _ _ => ?_) | with_reducible refine Calmly.gf_tf (kept_of hk) (fun _ _ => ?_) | with_reducible refine Calmly.gf_ft (kept_of hk) (fun _ _ => ?_)) | ((with_reducible refine Calmly.is_tail ?_); first | refine Calmly.mix_tail_nil ?_ | refine Calmly.mix_tail rfl (fun _ _ => ?_)) | ((with_reducible refine Calmly.is_kept ?_); refine ⟨kept_of hk, ?_⟩) | (with_reducible refine Calmly.mix_alt ?_ ?_) | (go_at_call 150; refine (digit_any b m d ys k _ (hs2.keep (Below.drew (Below.refl _ _))) (by omega)).mono ?_; rintro e w' ⟨rfl, rfl⟩; rw [Int.toNat_natCast]) | (at_builtin; refine appI rfl _ _ rfl hown.drew rfl rfl (by omega) (by simp; omega) ?_; intro a2 c2 w1 hown1 hb1 hlt1))
      · have hlt : xs[k]?.getD 0 - ys[k]?.getD 0 - cy < 0 := by assumption
        have hN := Lib.hid (hst.out.next1 d1 d2 hlt)
        go_roundw
        case rel => exact ⟨k + 1, _, _, a2, c2, by go_num, rfl, rfl, hown1, by omega, by omega, by omega, hN, (Below.drew hbel).trans hb1⟩
        case measure => simp [intOf]; omega
      · have hlt : 0 ≤ xs[k]?.getD 0 - ys[k]?.getD 0 - cy := by assumption
        have hN := Lib.hid (hst.out.next0 d1 d2 hlt)
        go_roundw
        case rel => exact ⟨k + 1, _, _, a2, c2, by go_num, rfl, rfl, hown1, by omega, by omega, by omega, hN, (Below.drew hbel).trans hb1⟩
        case measure => simp [intOf]; omega
    · have hf := hst.out.fin (by omega) (by omega) hle
      have hfd := hst.out.1
      have HF := Lib.hid hf
      clear hf
      go_wp2_with fail
      refine (trimmed_any a' k c' ds _ hown.si).mono ?_
      rintro e w' ⟨m', rfl, ⟨hm1, hm2, hm3⟩, rfl⟩
      have HM2 := Lib.hid hm2
      clear hm2
      go_wp2_with fail
      go_ret
      exact ⟨a', m', c', rfl, ⟨ds.take m', hown.si.take hm1, In.of_owns hown, hfd.take _, hm3, HM2.out.trans HF.out, by omega⟩, hbel⟩
end Go.Proofs.Ytmaidjankakppaa

namespace Go.Proofs.Ytmaidjankakppaa
open Go.RowKit Go.Wides
open Calmly (Kept)

theorem field_wide0 (x y : Value) (w : World) : (Instr.field 70 (.agg #[x, y]) 0).run Try.prog w = .ok x w := by kernel_rfl
theorem field_wide1 (x y : Value) (w : World) : (Instr.field 70 (.agg #[x, y]) 1).run Try.prog w = .ok y w := by kernel_rfl
attribute [local go_sem] field_wide0 field_wide1
theorem WideV.val {w : World} {s : Int} {a : Option Addr} {n c : Nat} {z : Int} (h : WideV w s a n c z) : ∃ ds, SI w a n c ds ∧ In w 3 a ∧ Dg ds ∧ Nz ds ∧ dv ds = z.natAbs ∧ s * dv ds = z ∧ s = z.sign := by
  obtain ⟨ds, h1, h2, h3, h4, h5, h6⟩ := h
  exact ⟨ds, h1, h2, h3, h4, h5, by rw [h5, h6]; exact Int.sign_mul_natAbs z, h6⟩
theorem WideV.z0 {w : World} {s : Int} {a : Option Addr} {n c : Nat} {z : Int} (h : WideV w s a n c z) : s = 0 ↔ z = 0 := by
  obtain ⟨ds, _, _, _, _, _, rfl⟩ := h
  exact Int.sign_eq_zero_iff_zero
theorem WideV.mx {w : World} {s : Int} {a : Option Addr} {n c : Nat} {z : Int} (h : WideV w s a n c z) : n ≤ c ∧ c ≤ 9223372036854775807 := by
  obtain ⟨ds, h1, _⟩ := h
  exact ⟨h1.cap, h1.max⟩
theorem len_le_of_dv {xs ys : List Int} {n m : Nat} (h1 : Dg xs) (h2 : Dg ys) (hz : Nz ys) (hm : m = ys.length) (hn : n = xs.length) (h : dv ys ≤ dv xs) : m ≤ n := by
  rcases Nat.lt_or_ge n m with h' | h'
  · have := dv_lt_of_len h1 h2 hz (by omega)
    omega
  · exact h'
theorem sign_cases (z : Int) : (z.sign = -1 ∧ z < 0) ∨ (z.sign = 0 ∧ z = 0) ∨ (z.sign = 1 ∧ 0 < z) := by
  rcases Int.lt_trichotomy z 0 with h | h | h
  · exact .inl ⟨Int.sign_eq_neg_one_of_neg h, h⟩
  · exact .inr (.inl ⟨by rw [h]; rfl, h⟩)
  · exact .inr (.inr ⟨Int.sign_eq_one_of_pos h, h⟩)

set_option maxRecDepth 100000 in
set_option maxHeartbeats 400000 in
theorem WideSign_any (s : Int) (a : Option Addr) (n c : Nat) (w : World) :
    Calls Try.prog 111 #[.agg #[.int .i64 s, .slice a n c]] w fun e w' => e = .returned (.int .i64 s) ∧ Below w.heap.size w w' := by
  go_enter Try.func111, Try.ntmps111
  go_wp2_with fail
  go_ret
  exact ⟨rfl, (Below.refl _ _).alloc (Nat.le_refl _) _⟩

set_option maxRecDepth 100000 in
set_option maxHeartbeats 400000 in
theorem WideNeg_any (s : Int) (a : Option Addr) (n c : Nat) (z : Int) (w : World) (h : WideV w s a n c z) :
    Calls Try.prog 135 #[.agg #[.int .i64 s, .slice a n c]] w fun e w' => e = .returned (.agg #[.int .i64 (-s), .slice a n c]) ∧ WideV w' (-s) a n c (-z) ∧ Below w.heap.size w w' := by
  obtain ⟨hs1, hs2⟩ := h.s_bd
  go_enter Try.func135, Try.ntmps135
  go_wp2_with fail
  have hb : ∀ o1 o2, Below w.heap.size w ((w.alloc o1).alloc o2) := fun o1 o2 => ((Below.refl _ _).alloc (Nat.le_refl _) _).alloc (by simp) _
  refine bodyPost_ret (v := .agg #[.int .i64 (-s), .slice a n c]) (by simp [results, Try.results135, go_sem]) rfl ⟨rfl, ?_, hb _ _⟩
  obtain ⟨ds, h1, h2, h3, h4, h5, h6⟩ := h.keep (hb _ _)
  exact ⟨ds, h1, h2, h3, h4, by rw [Int.natAbs_neg]; exact h5, by rw [h6, Int.sign_neg]⟩

set_option maxRecDepth 100000 in
set_option maxHeartbeats 1000000 in
theorem WideAdd_any (s1 s2 : Int) (a1 a2 : Option Addr) (n1 n2 c1 c2 : Nat) (z1 z2 : Int) (w : World) (h1 : WideV w s1 a1 n1 c1 z1) (h2 : WideV w s2 a2 n2 c2 z2) (hn1 : n1 ≤ 1099511627776) (hn2 : n2 ≤ 1099511627776) :
    Calls Try.prog 109 #[.agg #[.int .i64 s1, .slice a1 n1 c1], .agg #[.int .i64 s2, .slice a2 n2 c2]] w fun e w' => ∃ s a m c, e = .returned (.agg #[.int .i64 s, .slice a m c]) ∧ (m ≤ max n1 n2 + 1 ∧ WideV w' s a m c (z1 + z2)) ∧ Below w.heap.size w w' := by
  have hb : ∀ o1 o2 o3, Below w.heap.size w (((w.alloc o1).alloc o2).alloc o3) := fun o1 o2 o3 => (((Below.refl _ _).alloc (Nat.le_refl _) _).alloc (by simp) _).alloc (by simp; omega) _
  obtain ⟨p1, p2⟩ := h1.s_bd
  obtain ⟨q1, q2⟩ := h2.s_bd
  have hz1 := h1.z0
  have hz2 := h2.z0
  by_cases e1 : s1 = 0
  · have t1 : (s1 == 0) = true := by simp [e1]
    have E := Lib.hid (hz1.1 e1)
    clear hz1 hz2 e1
    go_enter Try.func109, Try.ntmps109
    go_wp2_with fail
    refine bodyPost_ret (v := .agg #[.int .i64 s2, .slice a2 n2 c2]) (by simp [results, Try.results109, go_sem]) rfl ⟨s2, a2, n2, c2, rfl, ⟨by omega, ?_⟩, hb _ _ _⟩
    rw [E.out, Int.zero_add]
    exact h2.keep (hb _ _ _)
  have t1 : (s1 == 0) = false := by simp [e1]
  by_cases e2 : s2 = 0
  · have t2 : (s2 == 0) = true := by simp [e2]
    have E := Lib.hid (hz2.1 e2)
    clear hz1 hz2 e2
    go_enter Try.func109, Try.ntmps109
    go_wp2_with fail
    refine bodyPost_ret (v := .agg #[.int .i64 s1, .slice a1 n1 c1]) (by simp [results, Try.results109, go_sem]) rfl ⟨s1, a1, n1, c1, rfl, ⟨by omega, ?_⟩, hb _ _ _⟩
    rw [E.out, Int.add_zero]
    exact h1.keep (hb _ _ _)
  have t2 : (s2 == 0) = false := by simp [e2]
  clear hz1 hz2
  obtain ⟨d1, hs1, hi1, hd1, hz1, hv1, hm1, hg1⟩ := h1.val
  obtain ⟨d2, hs2, hi2, hd2, hz2, hv2, hm2, hg2⟩ := h2.val
  have r1 := sign_cases z1
  have r2 := sign_cases z2
  rw [← hg1] at r1
  rw [← hg2] at r2
  have HV1 := Lib.hid hv1
  have HV2 := Lib.hid hv2
  have HM1 := Lib.hid hm1
  have HM2 := Lib.hid hm2
  have R1 := Lib.hid r1
  have R2 := Lib.hid r2
  have n1' := hd1
  clear hv1 hv2 hm1 hm2 hg1 hg2 r1 r2 h1 h2
  by_cases e3 : s1 = s2
  · have t3 : (s1 == s2) = true := by simp [e3]
    have E3 := Lib.hid e3
    clear e3
    go_enter Try.func109, Try.ntmps109
    go_wp2_with fail
    refine Calmly.wp_region_mix 8 (.fl 0 <| .fl 1 <| .fl 2 <| .fl 3 <| .fl 4 <| .fl 5 <| .eff 6 <| .eff 7 <| .tail [8]) (by kernel_rfl) (by kernel_rfl) ?_
    have hB := (hb (.cells #[.int .i64 s1, .slice a1 n1 c1] 70) (.cells #[.int .i64 s2, .slice a2 n2 c2] 70) (.cells #[.int .i64 0, .slice none 0 0] 70)).drew
    have hT := (BlkT.new ((w.alloc (.cells #[.int .i64 s1, .slice a1 n1 c1] 70)).alloc (.cells #[.int .i64 s2, .slice a2 n2 c2] 70)) #[.int .i64 0, .slice none 0 0] 70).drew
    simp only [World.size_alloc] at hT
    generalize hW : (((w.alloc _).alloc _).alloc _).drew = W at hB hT
    have hk : Below W.heap.size W W := Below.refl _ W
    have k1 := hs1.keep hB
    have k2 := hs2.keep hB
    subst hW
    go_wp2_with (first | ((with_reducible refine Calmly.is_fl ?_); refine Calmly.mix_fl rfl ?_ (fun _ _ => ?_); (first | exact .move _ | exact .load _ _ | exact .fieldAddr _ _ _ (by kernel_rfl) | exact .assign _ | exact .binOp _ _ _ _ _ rfl | exact .indexAddr _ _ _ | exact .len _ _ (by kernel_rfl) | exact .field _ _ _ | exact .extract _ _ | exact .pick _ _ _ | exact .build _ _ | exact .slice _ _ _ _ _ | exact .unOp _ _ _ rfl | exact .index _ _ _ | exact .max _ _ _ rfl rfl | exact .min _ _ _ rfl rfl)) | ((with_reducible refine Calmly.is_gl ?_); refine Calmly.mix_gl rfl rfl rfl ?_; first | ((first | with_reducible refine Calmly.gl_tt ?_ (fun _ _ => ?_) | with_reducible refine Calmly.gl_ff ?_ (fun _ _ => ?_)); (first | exact .move _ | exact .load _ _ | exact .fieldAddr _ _ _ (by kernel_rfl) | exact .assign _ | exact .binOp _ _ _ _ _ rfl | exact .indexAddr _ _ _ | exact .len _ _ (by kernel_rfl) | exact .field _ _ _ | exact .extract _ _ | exact .pick _ _ _ | exact .build _ _ | exact .slice _ _ _ _ _ | exact .unOp _ _ _ rfl | exact .index _ _ _ | exact .max _ _ _ rfl rfl | exact .min _ _ _ rfl rfl)) | with_reducible refine Calmly.gl_tf (fun _ _ => ?_) | with_reducible refine Calmly.gl_ft (fun _ _ => ?_)) | ((with_reducible refine Calmly.is_eff ?_); refine Calmly.mix_eff rfl (fun _ _ => ?_)) | ((with_reducible refine Calmly.is_gf ?_); refine Calmly.mix_gf rfl rfl rfl ?_; first | with_reducible refine Calmly.gf_tt (fun _ _ => ?_) | with_reducible refine Calmly.gf_ff (fun _ _ => ?_) | with_reducible refine Calmly.gf_tf (kept_of hk) (fun _ _ => ?_) | with_reducible refine Calmly.gf_ft (kept_of hk) (fun _ _ => ?_)) | ((with_reducible refine Calmly.is_tail ?_); first | refine Calmly.mix_tail_nil ?_ | refine Calmly.mix_tail rfl (fun _ _ => ?_)) | ((with_reducible refine Calmly.is_kept ?_); refine ⟨kept_of hk, ?_⟩) | (with_reducible refine Calmly.mix_alt ?_ ?_))
    refine (addDigits_any a1 a2 n1 n2 c1 c2 d1 d2 _ k1 k2 hd1 hd2 hn1 hn2).mono ?_
    rintro e w1 ⟨a', m', c', rfl, ⟨ds, ho, hd, hdv, hm'⟩, hb1⟩
    replace hk := step_of hk hb1
    have HDV := Lib.hid hdv
    clear hdv
    have E3' := E3.out
    have hsg : SgOk s1 ds := by
      rcases R1.out with ⟨h, _⟩ | ⟨h, _⟩ | ⟨h, _⟩
      · exact .inr (.inl h)
      · exact absurd h e1
      · exact .inl h
    clear E3'
    go_wp2_with (first | ((with_reducible refine Calmly.is_fl ?_); refine Calmly.mix_fl rfl ?_ (fun _ _ => ?_); (first | exact .move _ | exact .load _ _ | exact .fieldAddr _ _ _ (by kernel_rfl) | exact .assign _ | exact .binOp _ _ _ _ _ rfl | exact .indexAddr _ _ _ | exact .len _ _ (by kernel_rfl) | exact .field _ _ _ | exact .extract _ _ | exact .pick _ _ _ | exact .build _ _ | exact .slice _ _ _ _ _ | exact .unOp _ _ _ rfl | exact .index _ _ _ | exact .max _ _ _ rfl rfl | exact .min _ _ _ rfl rfl)) | ((with_reducible refine Calmly.is_gl ?_); refine Calmly.mix_gl rfl rfl rfl ?_; first | ((first | with_reducible refine Calmly.gl_tt ?_ (fun _ _ => ?_) | with_reducible refine Calmly.gl_ff ?_ (fun _ _ => ?_)); (first | exact .move _ | exact .load _ _ | exact .fieldAddr _ _ _ (by kernel_rfl) | exact .assign _ | exact .binOp _ _ _ _ _ rfl | exact .indexAddr _ _ _ | exact .len _ _ (by kernel_rfl) | exact .field _ _ _ | exact .extract _ _ | exact .pick _ _ _ | exact .build _ _ | exact .slice _ _ _ _ _ | exact .unOp _ _ _ rfl | exact .index _ _ _ | exact .max _ _ _ rfl rfl | exact .min _ _ _ rfl rfl)) | with_reducible refine Calmly.gl_tf (fun _ _ => ?_) | with_reducible refine Calmly.gl_ft (fun _ _ => ?_)) | ((with_reducible refine Calmly.is_eff ?_); refine Calmly.mix_eff rfl (fun _ _ => ?_)) | ((with_reducible refine Calmly.is_gf ?_); refine Calmly.mix_gf rfl rfl rfl ?_; first | with_reducible refine Calmly.gf_tt (fun _ _ => ?_) | with_reducible refine Calmly.gf_ff (fun _ _ => ?_) | with_reducible refine Calmly.gf_tf (kept_of hk) (fun _ _ => ?_) | with_reducible refine Calmly.gf_ft (kept_of hk) (fun _ _ => ?_)) | ((with_reducible refine Calmly.is_tail ?_); first | refine Calmly.mix_tail_nil ?_ | refine Calmly.mix_tail rfl (fun _ _ => ?_)) | ((with_reducible refine Calmly.is_kept ?_); refine ⟨kept_of hk, ?_⟩) | (with_reducible refine Calmly.mix_alt ?_ ?_))
    refine (wideOf_any s1 a' m' c' ds _ ho.si (In.of_owns ho) hd hsg).mono ?_
    rintro e w2 ⟨s', m2, rfl, ⟨hm2, hv⟩, hb2⟩
    replace hk := step_of hk hb2
    obtain ⟨hkc, hkf⟩ := cells_of hk
    have hT2 := hT.keep hk
    go_wp2_with (first | ((with_reducible refine Calmly.is_fl ?_); refine Calmly.mix_fl rfl ?_ (fun _ _ => ?_); (first | exact .move _ | exact .load _ _ | exact .fieldAddr _ _ _ (by kernel_rfl) | exact .assign _ | exact .binOp _ _ _ _ _ rfl | exact .indexAddr _ _ _ | exact .len _ _ (by kernel_rfl) | exact .field _ _ _ | exact .extract _ _ | exact .pick _ _ _ | exact .build _ _ | exact .slice _ _ _ _ _ | exact .unOp _ _ _ rfl | exact .index _ _ _ | exact .max _ _ _ rfl rfl | exact .min _ _ _ rfl rfl)) | ((with_reducible refine Calmly.is_gl ?_); refine Calmly.mix_gl rfl rfl rfl ?_; first | ((first | with_reducible refine Calmly.gl_tt ?_ (fun _ _ => ?_) | with_reducible refine Calmly.gl_ff ?_ (fun _ _ => ?_)); (first | exact .move _ | exact .load _ _ | exact .fieldAddr _ _ _ (by kernel_rfl) | exact .assign _ | exact .binOp _ _ _ _ _ rfl | exact .indexAddr _ _ _ | exact .len _ _ (by kernel_rfl) | exact .field _ _ _ | exact .extract _ _ | exact .pick _ _ _ | exact .build _ _ | exact .slice _ _ _ _ _ | exact .unOp _ _ _ rfl | exact .index _ _ _ | exact .max _ _ _ rfl rfl | exact .min _ _ _ rfl rfl)) | with_reducible refine Calmly.gl_tf (fun _ _ => ?_) | with_reducible refine Calmly.gl_ft (fun _ _ => ?_)) | ((with_reducible refine Calmly.is_eff ?_); refine Calmly.mix_eff rfl (fun _ _ => ?_)) | ((with_reducible refine Calmly.is_gf ?_); refine Calmly.mix_gf rfl rfl rfl ?_; first | with_reducible refine Calmly.gf_tt (fun _ _ => ?_) | with_reducible refine Calmly.gf_ff (fun _ _ => ?_) | with_reducible refine Calmly.gf_tf (kept_of hk) (fun _ _ => ?_) | with_reducible refine Calmly.gf_ft (kept_of hk) (fun _ _ => ?_)) | ((with_reducible refine Calmly.is_tail ?_); first | refine Calmly.mix_tail_nil ?_ | refine Calmly.mix_tail rfl (fun _ _ => ?_)) | ((with_reducible refine Calmly.is_kept ?_); refine ⟨kept_of hk, ?_⟩) | (with_reducible refine Calmly.mix_alt ?_ ?_))
    refine bodyPost_ret (v := .agg #[.int .i64 s', .slice a' m2 c']) (by simp [results, Try.results109, go_sem, hkc]) rfl ⟨s', a', m2, c', rfl, ⟨by omega, ?_⟩, ?_⟩
    · have : s1 * dv ds = z1 + z2 := by rw [HDV.out, ← HM1.out, ← HM2.out, ← E3.out]; grind
      rw [this] at hv
      exact (hv.set hT2 (by decide)).set (hT2.set _ _) (by decide)
    · exact ((hB.trans (hk.mono (by simp; omega))).setCell (by simp; omega) _).setCell (by simp; omega) _
  have t3 : (s1 == s2) = false := by simp [e3]
  have hopp : Hid (s1 = -s2) := by
    show s1 = -s2
    rcases R1.out with ⟨h, _⟩ | ⟨h, _⟩ | ⟨h, _⟩ <;> rcases R2.out with ⟨h', _⟩ | ⟨h', _⟩ | ⟨h', _⟩ <;> omega
  have HL1 := Lib.hid hs1.len
  have HL2 := Lib.hid hs2.len
  rcases Int.lt_trichotomy (dv d1) (dv d2) with hlt | heq | hgt
  · have hc := cmpI_lt hlt
    have HC := Lib.hid hc
    clear hc
    go_enter Try.func109, Try.ntmps109
    go_wp2_with fail
    have hb3 := hb (.cells #[.int .i64 s1, .slice a1 n1 c1] 70) (.cells #[.int .i64 s2, .slice a2 n2 c2] 70) (.cells #[.int .i64 0, .slice none 0 0] 70)
    refine (cmpDigits_any a1 a2 n1 n2 c1 c2 d1 d2 _ (hs1.keep hb3) (hs2.keep hb3) hd1 hd2 hz1 hz2).mono ?_
    rintro e w' ⟨rfl, q, rfl⟩
    rw [HC.out]
    go_wp2_with fail
    refine Calmly.wp_region_mix 8 (.fl 0 <| .fl 1 <| .fl 2 <| .fl 3 <| .fl 4 <| .fl 5 <| .eff 6 <| .eff 7 <| .tail [8]) (by kernel_rfl) (by kernel_rfl) ?_
    have hB := (below_drewN hb3 q).drew
    have hT := (BlkT.new ((w.alloc (.cells #[.int .i64 s1, .slice a1 n1 c1] 70)).alloc (.cells #[.int .i64 s2, .slice a2 n2 c2] 70)) #[.int .i64 0, .slice none 0 0] 70)
    simp only [World.size_alloc] at hT
    have hTd := hT.drewN q
    have hTd2 := hTd.drew
    generalize hW : ((((w.alloc _).alloc _).alloc _).drewN q).drew = W at hB hTd2
    have hk : Below W.heap.size W W := Below.refl _ W
    have k1 := hs1.keep hB
    have k2 := hs2.keep hB
    subst hW
    go_wp2_with (first | ((with_reducible refine Calmly.is_fl ?_); refine Calmly.mix_fl rfl ?_ (fun _ _ => ?_); (first | exact .move _ | exact .load _ _ | exact .fieldAddr _ _ _ (by kernel_rfl) | exact .assign _ | exact .binOp _ _ _ _ _ rfl | exact .indexAddr _ _ _ | exact .len _ _ (by kernel_rfl) | exact .field _ _ _ | exact .extract _ _ | exact .pick _ _ _ | exact .build _ _ | exact .slice _ _ _ _ _ | exact .unOp _ _ _ rfl | exact .index _ _ _ | exact .max _ _ _ rfl rfl | exact .min _ _ _ rfl rfl)) | ((with_reducible refine Calmly.is_gl ?_); refine Calmly.mix_gl rfl rfl rfl ?_; first | ((first | with_reducible refine Calmly.gl_tt ?_ (fun _ _ => ?_) | with_reducible refine Calmly.gl_ff ?_ (fun _ _ => ?_)); (first | exact .move _ | exact .load _ _ | exact .fieldAddr _ _ _ (by kernel_rfl) | exact .assign _ | exact .binOp _ _ _ _ _ rfl | exact .indexAddr _ _ _ | exact .len _ _ (by kernel_rfl) | exact .field _ _ _ | exact .extract _ _ | exact .pick _ _ _ | exact .build _ _ | exact .slice _ _ _ _ _ | exact .unOp _ _ _ rfl | exact .index _ _ _ | exact .max _ _ _ rfl rfl | exact .min _ _ _ rfl rfl)) | with_reducible refine Calmly.gl_tf (fun _ _ => ?_) | with_reducible refine Calmly.gl_ft (fun _ _ => ?_)) | ((with_reducible refine Calmly.is_eff ?_); refine Calmly.mix_eff rfl (fun _ _ => ?_)) | ((with_reducible refine Calmly.is_gf ?_); refine Calmly.mix_gf rfl rfl rfl ?_; first | with_reducible refine Calmly.gf_tt (fun _ _ => ?_) | with_reducible refine Calmly.gf_ff (fun _ _ => ?_) | with_reducible refine Calmly.gf_tf (kept_of hk) (fun _ _ => ?_) | with_reducible refine Calmly.gf_ft (kept_of hk) (fun _ _ => ?_)) | ((with_reducible refine Calmly.is_tail ?_); first | refine Calmly.mix_tail_nil ?_ | refine Calmly.mix_tail rfl (fun _ _ => ?_)) | ((with_reducible refine Calmly.is_kept ?_); refine ⟨kept_of hk, ?_⟩) | (with_reducible refine Calmly.mix_alt ?_ ?_))
    refine (subDigits_any a2 a1 n2 n1 c2 c1 d2 d1 _ k2 k1 hd2 hd1 (by omega) (len_le_of_dv hd2 hd1 hz1 HL1.out HL2.out (by omega)) hn2).mono ?_
    rintro e w1 ⟨a', m', c', rfl, ⟨ds, ho, hoi, hd, hz, hdv, hm'⟩, hb1⟩
    replace hk := step_of hk hb1
    have HDV := Lib.hid hdv
    clear hdv
    have hsg : SgOk s2 ds := by
      rcases R2.out with ⟨h, _⟩ | ⟨h, _⟩ | ⟨h, _⟩
      · exact .inr (.inl h)
      · exact absurd h e2
      · exact .inl h
    go_wp2_with (first | ((with_reducible refine Calmly.is_fl ?_); refine Calmly.mix_fl rfl ?_ (fun _ _ => ?_); (first | exact .move _ | exact .load _ _ | exact .fieldAddr _ _ _ (by kernel_rfl) | exact .assign _ | exact .binOp _ _ _ _ _ rfl | exact .indexAddr _ _ _ | exact .len _ _ (by kernel_rfl) | exact .field _ _ _ | exact .extract _ _ | exact .pick _ _ _ | exact .build _ _ | exact .slice _ _ _ _ _ | exact .unOp _ _ _ rfl | exact .index _ _ _ | exact .max _ _ _ rfl rfl | exact .min _ _ _ rfl rfl)) | ((with_reducible refine Calmly.is_gl ?_); refine Calmly.mix_gl rfl rfl rfl ?_; first | ((first | with_reducible refine Calmly.gl_tt ?_ (fun _ _ => ?_) | with_reducible refine Calmly.gl_ff ?_ (fun _ _ => ?_)); (first | exact .move _ | exact .load _ _ | exact .fieldAddr _ _ _ (by kernel_rfl) | exact .assign _ | exact .binOp _ _ _ _ _ rfl | exact .indexAddr _ _ _ | exact .len _ _ (by kernel_rfl) | exact .field _ _ _ | exact .extract _ _ | exact .pick _ _ _ | exact .build _ _ | exact .slice _ _ _ _ _ | exact .unOp _ _ _ rfl | exact .index _ _ _ | exact .max _ _ _ rfl rfl | exact .min _ _ _ rfl rfl)) | with_reducible refine Calmly.gl_tf (fun _ _ => ?_) | with_reducible refine Calmly.gl_ft (fun _ _ => ?_)) | ((with_reducible refine Calmly.is_eff ?_); refine Calmly.mix_eff rfl (fun _ _ => ?_)) | ((with_reducible refine Calmly.is_gf ?_); refine Calmly.mix_gf rfl rfl rfl ?_; first | with_reducible refine Calmly.gf_tt (fun _ _ => ?_) | with_reducible refine Calmly.gf_ff (fun _ _ => ?_) | with_reducible refine Calmly.gf_tf (kept_of hk) (fun _ _ => ?_) | with_reducible refine Calmly.gf_ft (kept_of hk) (fun _ _ => ?_)) | ((with_reducible refine Calmly.is_tail ?_); first | refine Calmly.mix_tail_nil ?_ | refine Calmly.mix_tail rfl (fun _ _ => ?_)) | ((with_reducible refine Calmly.is_kept ?_); refine ⟨kept_of hk, ?_⟩) | (with_reducible refine Calmly.mix_alt ?_ ?_))
    refine (wideOf_any s2 a' m' c' ds _ ho hoi hd hsg).mono ?_
    rintro e w2 ⟨s', m2, rfl, ⟨hm2, hv⟩, hb2⟩
    replace hk := step_of hk hb2
    obtain ⟨hkc, hkf⟩ := cells_of hk
    have hT2 := hTd2.keep hk
    go_wp2_with (first | ((with_reducible refine Calmly.is_fl ?_); refine Calmly.mix_fl rfl ?_ (fun _ _ => ?_); (first | exact .move _ | exact .load _ _ | exact .fieldAddr _ _ _ (by kernel_rfl) | exact .assign _ | exact .binOp _ _ _ _ _ rfl | exact .indexAddr _ _ _ | exact .len _ _ (by kernel_rfl) | exact .field _ _ _ | exact .extract _ _ | exact .pick _ _ _ | exact .build _ _ | exact .slice _ _ _ _ _ | exact .unOp _ _ _ rfl | exact .index _ _ _ | exact .max _ _ _ rfl rfl | exact .min _ _ _ rfl rfl)) | ((with_reducible refine Calmly.is_gl ?_); refine Calmly.mix_gl rfl rfl rfl ?_; first | ((first | with_reducible refine Calmly.gl_tt ?_ (fun _ _ => ?_) | with_reducible refine Calmly.gl_ff ?_ (fun _ _ => ?_)); (first | exact .move _ | exact .load _ _ | exact .fieldAddr _ _ _ (by kernel_rfl) | exact .assign _ | exact .binOp _ _ _ _ _ rfl | exact .indexAddr _ _ _ | exact .len _ _ (by kernel_rfl) | exact .field _ _ _ | exact .extract _ _ | exact .pick _ _ _ | exact .build _ _ | exact .slice _ _ _ _ _ | exact .unOp _ _ _ rfl | exact .index _ _ _ | exact .max _ _ _ rfl rfl | exact .min _ _ _ rfl rfl)) | with_reducible refine Calmly.gl_tf (fun _ _ => ?_) | with_reducible refine Calmly.gl_ft (fun _ _ => ?_)) | ((with_reducible refine Calmly.is_eff ?_); refine Calmly.mix_eff rfl (fun _ _ => ?_)) | ((with_reducible refine Calmly.is_gf ?_); refine Calmly.mix_gf rfl rfl rfl ?_; first | with_reducible refine Calmly.gf_tt (fun _ _ => ?_) | with_reducible refine Calmly.gf_ff (fun _ _ => ?_) | with_reducible refine Calmly.gf_tf (kept_of hk) (fun _ _ => ?_) | with_reducible refine Calmly.gf_ft (kept_of hk) (fun _ _ => ?_)) | ((with_reducible refine Calmly.is_tail ?_); first | refine Calmly.mix_tail_nil ?_ | refine Calmly.mix_tail rfl (fun _ _ => ?_)) | ((with_reducible refine Calmly.is_kept ?_); refine ⟨kept_of hk, ?_⟩) | (with_reducible refine Calmly.mix_alt ?_ ?_))
    refine bodyPost_ret (v := .agg #[.int .i64 s', .slice a' m2 c']) (by simp [results, Try.results109, go_sem, hkc]) rfl ⟨s', a', m2, c', rfl, ⟨by omega, ?_⟩, ?_⟩
    · have : s2 * dv ds = z1 + z2 := by
        rw [HDV.out, ← HM1.out, ← HM2.out]
        have := hopp.out
        rw [show s1 = -s2 from this]; grind
      rw [this] at hv
      exact (hv.set hT2 (by decide)).set (hT2.set _ _) (by decide)
    · exact ((hB.trans (hk.mono (by simp; omega))).setCell (by simp; omega) _).setCell (by simp; omega) _
  · have hc := cmpI_eq heq
    have HC := Lib.hid hc
    have HEQ := Lib.hid heq
    clear hc heq
    go_enter Try.func109, Try.ntmps109
    go_wp2_with fail
    have hb3 := hb (.cells #[.int .i64 s1, .slice a1 n1 c1] 70) (.cells #[.int .i64 s2, .slice a2 n2 c2] 70) (.cells #[.int .i64 0, .slice none 0 0] 70)
    refine (cmpDigits_any a1 a2 n1 n2 c1 c2 d1 d2 _ (hs1.keep hb3) (hs2.keep hb3) hd1 hd2 hz1 hz2).mono ?_
    rintro e w' ⟨rfl, q, rfl⟩
    rw [HC.out]
    go_wp2_with fail
    refine bodyPost_ret (v := .agg #[.int .i64 0, .slice none 0 0]) (by simp [results, Try.results109, go_sem]) rfl ⟨0, none, 0, 0, rfl, ⟨by omega, ?_⟩, ((below_drewN (hb _ _ _) q).setCell (by simp; omega) _).setCell (by simp; omega) _⟩
    have : z1 + z2 = 0 := by
      rw [← HM1.out, ← HM2.out, HEQ.out, show s1 = -s2 from hopp.out]; grind
    rw [this]
    exact WideV.zero _
  · have hc := cmpI_gt hgt
    have HC := Lib.hid hc
    clear hc
    go_enter Try.func109, Try.ntmps109
    go_wp2_with fail
    have hb3 := hb (.cells #[.int .i64 s1, .slice a1 n1 c1] 70) (.cells #[.int .i64 s2, .slice a2 n2 c2] 70) (.cells #[.int .i64 0, .slice none 0 0] 70)
    refine (cmpDigits_any a1 a2 n1 n2 c1 c2 d1 d2 _ (hs1.keep hb3) (hs2.keep hb3) hd1 hd2 hz1 hz2).mono ?_
    rintro e w' ⟨rfl, q, rfl⟩
    rw [HC.out]
    go_wp2_with fail
    refine Calmly.wp_region_mix 8 (.fl 0 <| .fl 1 <| .fl 2 <| .fl 3 <| .fl 4 <| .fl 5 <| .eff 6 <| .eff 7 <| .tail [8]) (by kernel_rfl) (by kernel_rfl) ?_
    have hB := (below_drewN hb3 q).drew
    have hT := (BlkT.new ((w.alloc (.cells #[.int .i64 s1, .slice a1 n1 c1] 70)).alloc (.cells #[.int .i64 s2, .slice a2 n2 c2] 70)) #[.int .i64 0, .slice none 0 0] 70)
    simp only [World.size_alloc] at hT
    have hTd := hT.drewN q
    have hTd2 := hTd.drew
    generalize hW : ((((w.alloc _).alloc _).alloc _).drewN q).drew = W at hB hTd2
    have hk : Below W.heap.size W W := Below.refl _ W
    have k1 := hs1.keep hB
    have k2 := hs2.keep hB
    subst hW
    go_wp2_with (first | ((with_reducible refine Calmly.is_fl ?_); refine Calmly.mix_fl rfl ?_ (fun _ _ => ?_); (first | exact .move _ | exact .load _ _ | exact .fieldAddr _ _ _ (by kernel_rfl) | exact .assign _ | exact .binOp _ _ _ _ _ rfl | exact .indexAddr _ _ _ | exact .len _ _ (by kernel_rfl) | exact .field _ _ _ | exact .extract _ _ | exact .pick _ _ _ | exact .build _ _ | exact .slice _ _ _ _ _ | exact .unOp _ _ _ rfl | exact .index _ _ _ | exact .max _ _ _ rfl rfl | exact .min _ _ _ rfl rfl)) | ((with_reducible refine Calmly.is_gl ?_); refine Calmly.mix_gl rfl rfl rfl ?_; first | ((first | with_reducible refine Calmly.gl_tt ?_ (fun _ _ => ?_) | with_reducible refine Calmly.gl_ff ?_ (fun _ _ => ?_)); (first | exact .move _ | exact .load _ _ | exact .fieldAddr _ _ _ (by kernel_rfl) | exact .assign _ | exact .binOp _ _ _ _ _ rfl | exact .indexAddr _ _ _ | exact .len _ _ (by kernel_rfl) | exact .field _ _ _ | exact .extract _ _ | exact .pick _ _ _ | exact .build _ _ | exact .slice _ _ _ _ _ | exact .unOp _ _ _ rfl | exact .index _ _ _ | exact .max _ _ _ rfl rfl | exact .min _ _ _ rfl rfl)) | with_reducible refine Calmly.gl_tf (fun _ _ => ?_) | with_reducible refine Calmly.gl_ft (fun _ _ => ?_)) | ((with_reducible refine Calmly.is_eff ?_); refine Calmly.mix_eff rfl (fun _ _ => ?_)) | ((with_reducible refine Calmly.is_gf ?_); refine Calmly.mix_gf rfl rfl rfl ?_; first | with_reducible refine Calmly.gf_tt (fun _ _ => ?_) | with_reducible refine Calmly.gf_ff (fun _ _ => ?_) | with_reducible refine Calmly.gf_tf (kept_of hk) (fun _ _ => ?_) | with_reducible refine Calmly.gf_ft (kept_of hk) (fun _ _ => ?_)) | ((with_reducible refine Calmly.is_tail ?_); first | refine Calmly.mix_tail_nil ?_ | refine Calmly.mix_tail rfl (fun _ _ => ?_)) | ((with_reducible refine Calmly.is_kept ?_); refine ⟨kept_of hk, ?_⟩) | (with_reducible refine Calmly.mix_alt ?_ ?_))
    refine (subDigits_any a1 a2 n1 n2 c1 c2 d1 d2 _ k1 k2 hd1 hd2 (by omega) (len_le_of_dv hd1 hd2 hz2 HL2.out HL1.out (by omega)) hn1).mono ?_
    rintro e w1 ⟨a', m', c', rfl, ⟨ds, ho, hoi, hd, hz, hdv, hm'⟩, hb1⟩
    replace hk := step_of hk hb1
    have HDV := Lib.hid hdv
    clear hdv
    have hsg : SgOk s1 ds := by
      rcases R1.out with ⟨h, _⟩ | ⟨h, _⟩ | ⟨h, _⟩
      · exact .inr (.inl h)
      · exact absurd h e1
      · exact .inl h
    go_wp2_with (first | ((with_reducible refine Calmly.is_fl ?_); refine Calmly.mix_fl rfl ?_ (fun _ _ => ?_); (first | exact .move _ | exact .load _ _ | exact .fieldAddr _ _ _ (by kernel_rfl) | exact .assign _ | exact .binOp _ _ _ _ _ rfl | exact .indexAddr _ _ _ | exact .len _ _ (by kernel_rfl) | exact .field _ _ _ | exact .extract _ _ | exact .pick _ _ _ | exact .build _ _ | exact .slice _ _ _ _ _ | exact .unOp _ _ _ rfl | exact .index _ _ _ | exact .max _ _ _ rfl rfl | exact .min _ _ _ rfl rfl)) | ((with_reducible refine Calmly.is_gl ?_); refine Calmly.mix_gl rfl rfl rfl ?_; first | ((first | with_reducible refine Calmly.gl_tt ?_ (fun _ _ => ?_) | with_reducible refine Calmly.gl_ff ?_ (fun _ _ => ?_)); (first | exact .move _ | exact .load _ _ | exact .fieldAddr _ _ _ (by kernel_rfl) | exact .assign _ | exact .binOp _ _ _ _ _ rfl | exact .indexAddr _ _ _ | exact .len _ _ (by kernel_rfl) | exact .field _ _ _ | exact .extract _ _ | exact .pick _ _ _ | exact .build _ _ | exact .slice _ _ _ _ _ | exact .unOp _ _ _ rfl | exact .index _ _ _ | exact .max _ _ _ rfl rfl | exact .min _ _ _ rfl rfl)) | with_reducible refine Calmly.gl_tf (fun _ _ => ?_) | with_reducible refine Calmly.gl_ft (fun _ _ => ?_)) | ((with_reducible refine Calmly.is_eff ?_); refine Calmly.mix_eff rfl (fun _ _ => ?_)) | ((with_reducible refine Calmly.is_gf ?_); refine Calmly.mix_gf rfl rfl rfl ?_; first | with_reducible refine Calmly.gf_tt (fun _ _ => ?_) | with_reducible refine Calmly.gf_ff (fun _ _ => ?_) | with_reducible refine Calmly.gf_tf (kept_of hk) (fun _ _ => ?_) | with_reducible refine Calmly.gf_ft (kept_of hk) (fun _ _ => ?_)) | ((with_reducible refine Calmly.is_tail ?_); first | refine Calmly.mix_tail_nil ?_ | refine Calmly.mix_tail rfl (fun _ _ => ?_)) | ((with_reducible refine Calmly.is_kept ?_); refine ⟨kept_of hk, ?_⟩) | (with_reducible refine Calmly.mix_alt ?_ ?_))
    refine (wideOf_any s1 a' m' c' ds _ ho hoi hd hsg).mono ?_
    rintro e w2 ⟨s', m2, rfl, ⟨hm2, hv⟩, hb2⟩
    replace hk := step_of hk hb2
    obtain ⟨hkc, hkf⟩ := cells_of hk
    have hT2 := hTd2.keep hk
    go_wp2_with (first | ((with_reducible refine Calmly.is_fl ?_); refine Calmly.mix_fl rfl ?_ (fun _ _ => ?_); (first | exact .move _ | exact .load _ _ | exact .fieldAddr _ _ _ (by kernel_rfl) | exact .assign _ | exact .binOp _ _ _ _ _ rfl | exact .indexAddr _ _ _ | exact .len _ _ (by kernel_rfl) | exact .field _ _ _ | exact .extract _ _ | exact .pick _ _ _ | exact .build _ _ | exact .slice _ _ _ _ _ | exact .unOp _ _ _ rfl | exact .index _ _ _ | exact .max _ _ _ rfl rfl | exact .min _ _ _ rfl rfl)) | ((with_reducible refine Calmly.is_gl ?_); refine Calmly.mix_gl rfl rfl rfl ?_; first | ((first | with_reducible refine Calmly.gl_tt ?_ (fun _ _ => ?_) | with_reducible refine Calmly.gl_ff ?_ (fun _ _ => ?_)); (first | exact .move _ | exact .load _ _ | exact .fieldAddr _ _ _ (by kernel_rfl) | exact .assign _ | exact .binOp _ _ _ _ _ rfl | exact .indexAddr _ _ _ | exact .len _ _ (by kernel_rfl) | exact .field _ _ _ | exact .extract _ _ | exact .pick _ _ _ | exact .build _ _ | exact .slice _ _ _ _ _ | exact .unOp _ _ _ rfl | exact .index _ _ _ | exact .max _ _ _ rfl rfl | exact .min _ _ _ rfl rfl)) | with_reducible refine Calmly.gl_tf (fun _ _ => ?_) | with_reducible refine Calmly.gl_ft (fun _ _ => ?_)) | ((with_reducible refine Calmly.is_eff ?_); refine Calmly.mix_eff rfl (fun _ _ => ?_)) | ((with_reducible refine Calmly.is_gf ?_); refine Calmly.mix_gf rfl rfl rfl ?_; first | with_reducible refine Calmly.gf_tt (fun _ _ => ?_) | with_reducible refine Calmly.gf_ff (fun _ _ => ?_) | with_reducible refine Calmly.gf_tf (kept_of hk) (fun _ _ => ?_) | with_reducible refine Calmly.gf_ft (kept_of hk) (fun _ _ => ?_)) | ((with_reducible refine Calmly.is_tail ?_); first | refine Calmly.mix_tail_nil ?_ | refine Calmly.mix_tail rfl (fun _ _ => ?_)) | ((with_reducible refine Calmly.is_kept ?_); refine ⟨kept_of hk, ?_⟩) | (with_reducible refine Calmly.mix_alt ?_ ?_))
    refine bodyPost_ret (v := .agg #[.int .i64 s', .slice a' m2 c']) (by simp [results, Try.results109, go_sem, hkc]) rfl ⟨s', a', m2, c', rfl, ⟨by omega, ?_⟩, ?_⟩
    · have : s1 * dv ds = z1 + z2 := by
        rw [HDV.out, ← HM1.out, ← HM2.out]
        have := hopp.out
        rw [show s2 = -s1 from by omega]; grind
      rw [this] at hv
      exact (hv.set hT2 (by decide)).set (hT2.set _ _) (by decide)
    · exact ((hB.trans (hk.mono (by simp; omega))).setCell (by simp; omega) _).setCell (by simp; omega) _

set_option maxRecDepth 100000 in
set_option maxHeartbeats 1000000 in
theorem WideSub_any (s1 s2 : Int) (a1 a2 : Option Addr) (n1 n2 c1 c2 : Nat) (z1 z2 : Int) (w : World) (h1 : WideV w s1 a1 n1 c1 z1) (h2 : WideV w s2 a2 n2 c2 z2) (hn1 : n1 ≤ 1099511627776) (hn2 : n2 ≤ 1099511627776) :
    Calls Try.prog 146 #[.agg #[.int .i64 s1, .slice a1 n1 c1], .agg #[.int .i64 s2, .slice a2 n2 c2]] w fun e w' => ∃ s a m c, e = .returned (.agg #[.int .i64 s, .slice a m c]) ∧ (m ≤ max n1 n2 + 1 ∧ WideV w' s a m c (z1 - z2)) ∧ Below w.heap.size w w' := by
  have hb : ∀ o1 o2 o3, Below w.heap.size w (((w.alloc o1).alloc o2).alloc o3) := fun o1 o2 o3 => (((Below.refl _ _).alloc (Nat.le_refl _) _).alloc (by simp) _).alloc (by simp; omega) _
  go_enter Try.func146, Try.ntmps146
  go_wp2_with fail
  refine Calmly.wp_region_mix 4 (.fl 0 <| .fl 1 <| .eff 2 <| .eff 3 <| .tail [4]) (by kernel_rfl) (by kernel_rfl) ?_
  have hB := (hb (.cells #[.int .i64 s1, .slice a1 n1 c1] 70) (.cells #[.int .i64 s2, .slice a2 n2 c2] 70) (.cells #[.int .i64 0, .slice none 0 0] 70)).drew
  have hT := (BlkT.new ((w.alloc (.cells #[.int .i64 s1, .slice a1 n1 c1] 70)).alloc (.cells #[.int .i64 s2, .slice a2 n2 c2] 70)) #[.int .i64 0, .slice none 0 0] 70).drew
  simp only [World.size_alloc] at hT
  generalize hW : (((w.alloc _).alloc _).alloc _).drew = W at hB hT
  have hk : Below W.heap.size W W := Below.refl _ W
  have k1 := h1.keep hB
  have k2 := h2.keep hB
  subst hW
  go_wp2_with (first | ((with_reducible refine Calmly.is_fl ?_); refine Calmly.mix_fl rfl ?_ (fun _ _ => ?_); (first | exact .move _ | exact .load _ _ | exact .fieldAddr _ _ _ (by kernel_rfl) | exact .assign _ | exact .binOp _ _ _ _ _ rfl | exact .indexAddr _ _ _ | exact .len _ _ (by kernel_rfl) | exact .field _ _ _ | exact .extract _ _ | exact .pick _ _ _ | exact .build _ _ | exact .slice _ _ _ _ _ | exact .unOp _ _ _ rfl | exact .index _ _ _ | exact .max _ _ _ rfl rfl | exact .min _ _ _ rfl rfl)) | ((with_reducible refine Calmly.is_gl ?_); refine Calmly.mix_gl rfl rfl rfl ?_; first | ((first | with_reducible refine Calmly.gl_tt ?_ (fun _ _ => ?_) | with_reducible refine Calmly.gl_ff ?_ (fun _ _ => ?_)); (first | exact .move _ | exact .load _ _ | exact .fieldAddr _ _ _ (by kernel_rfl) | exact .assign _ | exact .binOp _ _ _ _ _ rfl | exact .indexAddr _ _ _ | exact .len _ _ (by kernel_rfl) | exact .field _ _ _ | exact .extract _ _ | exact .pick _ _ _ | exact .build _ _ | exact .slice _ _ _ _ _ | exact .unOp _ _ _ rfl | exact .index _ _ _ | exact .max _ _ _ rfl rfl | exact .min _ _ _ rfl rfl)) | with_reducible refine Calmly.gl_tf (fun _ _ => ?_) | with_reducible refine Calmly.gl_ft (fun _ _ => ?_)) | ((with_reducible refine Calmly.is_eff ?_); refine Calmly.mix_eff rfl (fun _ _ => ?_)) | ((with_reducible refine Calmly.is_gf ?_); refine Calmly.mix_gf rfl rfl rfl ?_; first | with_reducible refine Calmly.gf_tt (fun _ _ => ?_) | with_reducible refine Calmly.gf_ff (fun _ _ => ?_) | with_reducible refine Calmly.gf_tf (kept_of hk) (fun _ _ => ?_) | with_reducible refine Calmly.gf_ft (kept_of hk) (fun _ _ => ?_)) | ((with_reducible refine Calmly.is_tail ?_); first | refine Calmly.mix_tail_nil ?_ | refine Calmly.mix_tail rfl (fun _ _ => ?_)) | ((with_reducible refine Calmly.is_kept ?_); refine ⟨kept_of hk, ?_⟩) | (with_reducible refine Calmly.mix_alt ?_ ?_))
  refine (WideNeg_any s2 a2 n2 c2 z2 _ k2).mono ?_
  rintro e w1 ⟨rfl, hv, hb1⟩
  replace hk := step_of hk hb1
  replace k1 := k1.keep hb1
  go_wp2_with (first | ((with_reducible refine Calmly.is_fl ?_); refine Calmly.mix_fl rfl ?_ (fun _ _ => ?_); (first | exact .move _ | exact .load _ _ | exact .fieldAddr _ _ _ (by kernel_rfl) | exact .assign _ | exact .binOp _ _ _ _ _ rfl | exact .indexAddr _ _ _ | exact .len _ _ (by kernel_rfl) | exact .field _ _ _ | exact .extract _ _ | exact .pick _ _ _ | exact .build _ _ | exact .slice _ _ _ _ _ | exact .unOp _ _ _ rfl | exact .index _ _ _ | exact .max _ _ _ rfl rfl | exact .min _ _ _ rfl rfl)) | ((with_reducible refine Calmly.is_gl ?_); refine Calmly.mix_gl rfl rfl rfl ?_; first | ((first | with_reducible refine Calmly.gl_tt ?_ (fun _ _ => ?_) | with_reducible refine Calmly.gl_ff ?_ (fun _ _ => ?_)); (first | exact .move _ | exact .load _ _ | exact .fieldAddr _ _ _ (by kernel_rfl) | exact .assign _ | exact .binOp _ _ _ _ _ rfl | exact .indexAddr _ _ _ | exact .len _ _ (by kernel_rfl) | exact .field _ _ _ | exact .extract _ _ | exact .pick _ _ _ | exact .build _ _ | exact .slice _ _ _ _ _ | exact .unOp _ _ _ rfl | exact .index _ _ _ | exact .max _ _ _ rfl rfl | exact .min _ _ _ rfl rfl)) | with_reducible refine Calmly.gl_tf (fun _ _ => ?_) | with_reducible refine Calmly.gl_ft (fun _ _ => ?_)) | ((with_reducible refine Calmly.is_eff ?_); refine Calmly.mix_eff rfl (fun _ _ => ?_)) | ((with_reducible refine Calmly.is_gf ?_); refine Calmly.mix_gf rfl rfl rfl ?_; first | with_reducible refine Calmly.gf_tt (fun _ _ => ?_) | with_reducible refine Calmly.gf_ff (fun _ _ => ?_) | with_reducible refine Calmly.gf_tf (kept_of hk) (fun _ _ => ?_) | with_reducible refine Calmly.gf_ft (kept_of hk) (fun _ _ => ?_)) | ((with_reducible refine Calmly.is_tail ?_); first | refine Calmly.mix_tail_nil ?_ | refine Calmly.mix_tail rfl (fun _ _ => ?_)) | ((with_reducible refine Calmly.is_kept ?_); refine ⟨kept_of hk, ?_⟩) | (with_reducible refine Calmly.mix_alt ?_ ?_))
  refine (WideAdd_any s1 (-s2) a1 a2 n1 n2 c1 c2 z1 (-z2) _ k1 hv hn1 hn2).mono ?_
  rintro e w2 ⟨s', a', m', c', rfl, ⟨hm, hv2⟩, hb2⟩
  replace hk := step_of hk hb2
  obtain ⟨hkc, hkf⟩ := cells_of hk
  have hT2 := hT.keep hk
  go_wp2_with (first | ((with_reducible refine Calmly.is_fl ?_); refine Calmly.mix_fl rfl ?_ (fun _ _ => ?_); (first | exact .move _ | exact .load _ _ | exact .fieldAddr _ _ _ (by kernel_rfl) | exact .assign _ | exact .binOp _ _ _ _ _ rfl | exact .indexAddr _ _ _ | exact .len _ _ (by kernel_rfl) | exact .field _ _ _ | exact .extract _ _ | exact .pick _ _ _ | exact .build _ _ | exact .slice _ _ _ _ _ | exact .unOp _ _ _ rfl | exact .index _ _ _ | exact .max _ _ _ rfl rfl | exact .min _ _ _ rfl rfl)) | ((with_reducible refine Calmly.is_gl ?_); refine Calmly.mix_gl rfl rfl rfl ?_; first | ((first | with_reducible refine Calmly.gl_tt ?_ (fun _ _ => ?_) | with_reducible refine Calmly.gl_ff ?_ (fun _ _ => ?_)); (first | exact .move _ | exact .load _ _ | exact .fieldAddr _ _ _ (by kernel_rfl) | exact .assign _ | exact .binOp _ _ _ _ _ rfl | exact .indexAddr _ _ _ | exact .len _ _ (by kernel_rfl) | exact .field _ _ _ | exact .extract _ _ | exact .pick _ _ _ | exact .build _ _ | exact .slice _ _ _ _ _ | exact .unOp _ _ _ rfl | exact .index _ _ _ | exact .max _ _ _ rfl rfl | exact .min _ _ _ rfl rfl)) | with_reducible refine Calmly.gl_tf (fun _ _ => ?_) | with_reducible refine Calmly.gl_ft (fun _ _ => ?_)) | ((with_reducible refine Calmly.is_eff ?_); refine Calmly.mix_eff rfl (fun _ _ => ?_)) | ((with_reducible refine Calmly.is_gf ?_); refine Calmly.mix_gf rfl rfl rfl ?_; first | with_reducible refine Calmly.gf_tt (fun _ _ => ?_) | with_reducible refine Calmly.gf_ff (fun _ _ => ?_) | with_reducible refine Calmly.gf_tf (kept_of hk) (fun _ _ => ?_) | with_reducible refine Calmly.gf_ft (kept_of hk) (fun _ _ => ?_)) | ((with_reducible refine Calmly.is_tail ?_); first | refine Calmly.mix_tail_nil ?_ | refine Calmly.mix_tail rfl (fun _ _ => ?_)) | ((with_reducible refine Calmly.is_kept ?_); refine ⟨kept_of hk, ?_⟩) | (with_reducible refine Calmly.mix_alt ?_ ?_))
  refine bodyPost_ret (v := .agg #[.int .i64 s', .slice a' m' c']) (by simp [results, Try.results146, go_sem, hkc]) rfl ⟨s', a', m', c', rfl, ⟨by omega, ?_⟩, ?_⟩
  · rw [show z1 + -z2 = z1 - z2 from by omega] at hv2
    exact (hv2.set hT2 (by decide)).set (hT2.set _ _) (by decide)
  · exact ((hB.trans (hk.mono (by simp; omega))).setCell (by simp; omega) _).setCell (by simp; omega) _

theorem sign_cmpI (x y : Int) : (x - y).sign = cmpI x y := by
  rcases sign_cases (x - y) with ⟨h, h'⟩ | ⟨h, h'⟩ | ⟨h, h'⟩
  · rw [h, cmpI_lt (by omega)]
  · rw [h, cmpI_eq (by omega)]
  · rw [h, cmpI_gt (by omega)]

set_option maxRecDepth 100000 in
set_option maxHeartbeats 1000000 in
theorem WideCmp_any (s1 s2 : Int) (a1 a2 : Option Addr) (n1 n2 c1 c2 : Nat) (z1 z2 : Int) (w : World) (h1 : WideV w s1 a1 n1 c1 z1) (h2 : WideV w s2 a2 n2 c2 z2) (hn1 : n1 ≤ 1099511627776) (hn2 : n2 ≤ 1099511627776) :
    Calls Try.prog 128 #[.agg #[.int .i64 s1, .slice a1 n1 c1], .agg #[.int .i64 s2, .slice a2 n2 c2]] w fun e w' => e = .returned (.int .i64 (cmpI z1 z2)) ∧ Below w.heap.size w w' := by
  have hb : ∀ o1 o2, Below w.heap.size w ((w.alloc o1).alloc o2) := fun o1 o2 => ((Below.refl _ _).alloc (Nat.le_refl _) _).alloc (by simp) _
  go_enter Try.func128, Try.ntmps128
  go_wp2_with fail
  refine (WideSub_any s1 s2 a1 a2 n1 n2 c1 c2 z1 z2 _ (h1.keep (hb _ _)) (h2.keep (hb _ _)) hn1 hn2).mono ?_
  rintro e w1 ⟨s', a', m', c', rfl, ⟨hm, hv⟩, hb1⟩
  go_wp2_with fail
  go_ret
  refine ⟨ret_int ?_, (hb _ _).trans (hb1.mono (by simp; omega))⟩
  obtain ⟨_, _, _, _, _, _, rfl⟩ := hv
  exact sign_cmpI z1 z2
end Go.Proofs.Ytmaidjankakppaa
