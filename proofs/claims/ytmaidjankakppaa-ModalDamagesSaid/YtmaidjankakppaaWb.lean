/- Contracts of numbers of any size: comparing, adding and subtracting digits. -/
import Derived.Test.YtmaidjankakppaaWa
namespace Go.Proofs.Ytmaidjankakppaa
open Go.RowKit Go.Wides
open Calmly (Kept)

set_option maxRecDepth 100000 in
set_option maxHeartbeats 1000000 in
theorem cmpDigits_any (a b : Option Addr) (n m c d : Nat) (xs ys : List Int) (w : World) (h1 : SI w a n c xs) (h2 : SI w b m d ys) (d1 : Dg xs) (d2 : Dg ys) (z1 : Nz xs) (z2 : Nz ys) :
    Calls Try.prog 139 #[.slice a n c, .slice b m d] w fun e w' => e = .returned (.int .i64 (cmpI (dv xs) (dv ys))) ∧ ∃ q, w' = w.drewN q := by
  obtain ⟨l1, l2⟩ : n ≤ xs.length ∧ xs.length ≤ n := by have := h1.len; omega
  obtain ⟨k1, k2⟩ : m ≤ ys.length ∧ ys.length ≤ m := by have := h2.len; omega
  have m1 := h1.max
  have m2 := h2.max
  have c1 := h1.cap
  have c2 := h2.cap
  by_cases he : n = m
  · subst he
    go_enter Try.func139, Try.ntmps139
    go_wp2
    go_loopw [5] (fun i wr => ∃ k : Nat, k ≤ n ∧ i = .int .i64 ((k : Int) - 1) ∧ Hid (xs.drop k = ys.drop k) ∧ ∃ n, wr = w.drewN n) (fun i _ => (intOf i + 1).toNat)
    case atStart => exact ⟨n, by omega, rfl, by rw [List.drop_of_length_le (by omega), List.drop_of_length_le (by omega)]; rfl, 0, rfl⟩
    case round =>
      obtain ⟨k, hk, rfl, ht, q, rfl⟩ := hrel
      by_cases hlt : 0 < k
      · obtain ⟨b1, o1, rfl, hc1⟩ := h1.at_ (by omega)
        obtain ⟨b2, o2, rfl, hc2⟩ := h2.at_ (by omega)
        have e1 := hc1 (k - 1) (by omega)
        have e2 := hc2 (k - 1) (by omega)
        clear hc1 hc2
        have hi : (k : Int) - 1 < (n : Int) := by omega
        have hi0 : (0 : Int) ≤ (k : Int) - 1 := by omega
        have hi1 : (1 : Int) ≤ (k : Int) := by omega
        have hj : ((k : Int) - 1).toNat = k - 1 := by omega
        have ht' : Hid (xs.drop (k - 1 + 1) = ys.drop (k - 1 + 1)) := by rw [show k - 1 + 1 = k from by omega]; exact ht
        go_wp2_with fail
        refine Calmly.wp_region_mix 8 (.fl 0 <| .fl 1 <| .fl 2 <| .fl 3 <| .fl 4 <| .fl 5 <| .fl 6 <| .fl 7 <| .tail [8]) (by kernel_rfl) (by kernel_rfl) ?_
        go_wp2_with (first | ((with_reducible refine Calmly.is_fl ?_); refine Calmly.mix_fl rfl ?_ (fun _ _ => ?_); (first | exact .move _ | exact .load _ _ | exact .fieldAddr _ _ _ (by kernel_rfl) | exact .assign _ | exact .binOp _ _ _ _ _ rfl | exact .indexAddr _ _ _ | exact .len _ _ (by kernel_rfl) | exact .field _ _ _ | exact .extract _ _ | exact .pick _ _ _ | exact .build _ _ | exact .slice _ _ _ _ _ | exact .unOp _ _ _ rfl | exact .index _ _ _ | exact .max _ _ _ rfl rfl | exact .min _ _ _ rfl rfl)) | ((with_reducible refine Calmly.is_gl ?_); refine Calmly.mix_gl rfl rfl rfl ?_; first | ((first | with_reducible refine Calmly.gl_tt ?_ (fun _ _ => ?_) | with_reducible refine Calmly.gl_ff ?_ (fun _ _ => ?_)); (first | exact .move _ | exact .load _ _ | exact .fieldAddr _ _ _ (by kernel_rfl) | exact .assign _ | exact .binOp _ _ _ _ _ rfl | exact .indexAddr _ _ _ | exact .len _ _ (by kernel_rfl) | exact .field _ _ _ | exact .extract _ _ | exact .pick _ _ _ | exact .build _ _ | exact .slice _ _ _ _ _ | exact .unOp _ _ _ rfl | exact .index _ _ _ | exact .max _ _ _ rfl rfl | exact .min _ _ _ rfl rfl)) | with_reducible refine Calmly.gl_tf (fun _ _ => ?_) | with_reducible refine Calmly.gl_ft (fun _ _ => ?_)) | ((with_reducible refine Calmly.is_eff ?_); refine Calmly.mix_eff rfl (fun _ _ => ?_)) | ((with_reducible refine Calmly.is_gf ?_); refine Calmly.mix_gf rfl rfl rfl ?_; first | with_reducible refine Calmly.gf_tt (fun _ _ => ?_) | with_reducible refine Calmly.gf_ff (fun _ _ => ?_) | with_reducible refine Calmly.gf_tf (kept_of hk) (fun _ _ => ?_) | with_reducible refine Calmly.gf_ft (kept_of hk) (fun _ _ => ?_)) | ((with_reducible refine Calmly.is_tail ?_); first | refine Calmly.mix_tail_nil ?_ | refine Calmly.mix_tail rfl (fun _ _ => ?_)) | ((with_reducible refine Calmly.is_kept ?_); refine ⟨kept_of hk, ?_⟩) | (with_reducible refine Calmly.mix_alt ?_ ?_))
        · go_ret
          have hx : xs[k - 1]?.getD 0 < ys[k - 1]?.getD 0 := by assumption
          exact ⟨ret_int (by rw [cmpI_lt (cmp_step d1 d2 (by omega) (by omega) ht'.out hx)]), q + 1, rfl⟩
        · have hx : ys[k - 1]?.getD 0 ≤ xs[k - 1]?.getD 0 := by assumption
          refine Calmly.wp_region_mix 8 (.fl 0 <| .fl 1 <| .fl 2 <| .fl 3 <| .fl 4 <| .fl 5 <| .fl 6 <| .fl 7 <| .tail [8]) (by kernel_rfl) (by kernel_rfl) ?_
          go_wp2_with (first | ((with_reducible refine Calmly.is_fl ?_); refine Calmly.mix_fl rfl ?_ (fun _ _ => ?_); (first | exact .move _ | exact .load _ _ | exact .fieldAddr _ _ _ (by kernel_rfl) | exact .assign _ | exact .binOp _ _ _ _ _ rfl | exact .indexAddr _ _ _ | exact .len _ _ (by kernel_rfl) | exact .field _ _ _ | exact .extract _ _ | exact .pick _ _ _ | exact .build _ _ | exact .slice _ _ _ _ _ | exact .unOp _ _ _ rfl | exact .index _ _ _ | exact .max _ _ _ rfl rfl | exact .min _ _ _ rfl rfl)) | ((with_reducible refine Calmly.is_gl ?_); refine Calmly.mix_gl rfl rfl rfl ?_; first | ((first | with_reducible refine Calmly.gl_tt ?_ (fun _ _ => ?_) | with_reducible refine Calmly.gl_ff ?_ (fun _ _ => ?_)); (first | exact .move _ | exact .load _ _ | exact .fieldAddr _ _ _ (by kernel_rfl) | exact .assign _ | exact .binOp _ _ _ _ _ rfl | exact .indexAddr _ _ _ | exact .len _ _ (by kernel_rfl) | exact .field _ _ _ | exact .extract _ _ | exact .pick _ _ _ | exact .build _ _ | exact .slice _ _ _ _ _ | exact .unOp _ _ _ rfl | exact .index _ _ _ | exact .max _ _ _ rfl rfl | exact .min _ _ _ rfl rfl)) | with_reducible refine Calmly.gl_tf (fun _ _ => ?_) | with_reducible refine Calmly.gl_ft (fun _ _ => ?_)) | ((with_reducible refine Calmly.is_eff ?_); refine Calmly.mix_eff rfl (fun _ _ => ?_)) | ((with_reducible refine Calmly.is_gf ?_); refine Calmly.mix_gf rfl rfl rfl ?_; first | with_reducible refine Calmly.gf_tt (fun _ _ => ?_) | with_reducible refine Calmly.gf_ff (fun _ _ => ?_) | with_reducible refine Calmly.gf_tf (kept_of hk) (fun _ _ => ?_) | with_reducible refine Calmly.gf_ft (kept_of hk) (fun _ _ => ?_)) | ((with_reducible refine Calmly.is_tail ?_); first | refine Calmly.mix_tail_nil ?_ | refine Calmly.mix_tail rfl (fun _ _ => ?_)) | ((with_reducible refine Calmly.is_kept ?_); refine ⟨kept_of hk, ?_⟩) | (with_reducible refine Calmly.mix_alt ?_ ?_))
          · go_ret
            have hx : ys[k - 1]?.getD 0 < xs[k - 1]?.getD 0 := by assumption
            exact ⟨ret_int (by rw [cmpI_gt (cmp_step d2 d1 (by omega) (by omega) ht'.out.symm hx)]), q + 1 + 1, rfl⟩
          · have hy : xs[k - 1]?.getD 0 ≤ ys[k - 1]?.getD 0 := by assumption
            go_roundw
            case rel => exact ⟨k - 1, by omega, by congr 1; omega, drop_step (by omega) (by omega) ht'.out (by omega), q + 1 + 1, rfl⟩
            case measure => simp [intOf]; omega
      · go_wp2
        go_ret
        refine ⟨ret_int ?_, q, rfl⟩
        have := ht.out
        rw [show k = 0 from by omega] at this
        simp at this
        rw [this, cmpI_eq rfl]
  · by_cases hlt : n < m
    · have := dv_lt_of_len d1 d2 z2 (by omega)
      go_enter Try.func139, Try.ntmps139
      go_wp2
      go_ret
      exact ⟨ret_int (by rw [cmpI_lt this]), 0, rfl⟩
    · have := dv_lt_of_len d2 d1 z1 (by omega)
      go_enter Try.func139, Try.ntmps139
      go_wp2
      go_ret
      exact ⟨ret_int (by rw [cmpI_gt this]), 0, rfl⟩

set_option maxRecDepth 100000 in
set_option maxHeartbeats 1000000 in
theorem addDigits_any (a b : Option Addr) (n m c d : Nat) (xs ys : List Int) (w : World) (h1 : SI w a n c xs) (h2 : SI w b m d ys) (d1 : Dg xs) (d2 : Dg ys) (hn : n ≤ 1099511627776) (hm : m ≤ 1099511627776) :
    Calls Try.prog 138 #[.slice a n c, .slice b m d] w fun e w' => ∃ a' m' c', e = .returned (.slice a' m' c') ∧ (∃ ds, OwI w' w.heap.size a' m' c' ds ∧ Dg ds ∧ dv ds = dv xs + dv ys ∧ m' ≤ max n m + 1) ∧ Below w.heap.size w w' := by
  obtain ⟨l1, l2⟩ : n ≤ xs.length ∧ xs.length ≤ n := by have := h1.len; omega
  obtain ⟨k1, k2⟩ : m ≤ ys.length ∧ ys.length ≤ m := by have := h2.len; omega
  have c1 := h1.cap
  have c2 := h2.cap
  go_enter Try.func138, Try.ntmps138
  go_wp2_with fail
  go_loopw [5, 6, 7] (fun l x i wr => ∃ (k : Nat) (cy : Int) (ds : List Int) (a' : Option Addr) (c' : Nat), i = .int .i64 k ∧ x = .int .i64 cy ∧ l = .slice a' k c' ∧ OwI wr w.heap.size a' k c' ds ∧ 0 ≤ cy ∧ cy ≤ 1 ∧ k ≤ 1099511627777 ∧ Hid (AddStep xs ys ds k cy) ∧ Hid (k ≤ max n m ∨ (k = max n m + 1 ∧ cy = 0)) ∧ Below w.heap.size w wr) (fun _ _ i _ => max n m + 1 - (intOf i).toNat)
  case atStart => exact ⟨0, 0, [], none, 0, rfl, rfl, rfl, OwI.nil _ _, by omega, by omega, by omega, AddStep.start _ _, .inl (by omega), Below.refl _ _⟩
  case round =>
    obtain ⟨k, cy, ds, a', c', rfl, rfl, rfl, hown, hc0, hc1, hkm, hst, hmx, hbel⟩ := hrel
    have hg1 := d1.get k
    have hg2 := d2.get k
    have hsz := hbel.size
    by_cases hgo : k < n ∨ k < m ∨ 0 < cy
    · have hk1 : k ≤ max n m := by have := hmx.out; omega
      have hN := Lib.hid (hst.out.next d1 d2)
      have hmx' : Hid (k + 1 ≤ max n m ∨ (k + 1 = max n m + 1 ∧ (xs[k]?.getD 0 + ys[k]?.getD 0 + cy) / 1000000000 = 0)) := by
        show _ ∨ _
        by_cases hh : k + 1 ≤ max n m
        · exact .inl hh
        · right
          refine ⟨by omega, ?_⟩
          rw [List.getElem?_eq_none (l := xs) (by omega), List.getElem?_eq_none (l := ys) (by omega)]
          simp; omega
      have hs1 := h1.keep (hbel.mono (Nat.le_refl _))
      have hs2 := h2.keep (hbel.mono (Nat.le_refl _))
      have hk2 : k ≤ 1099511627776 := by omega
      have hkd : max n m + 1 - (k + 1) < max n m + 1 - k := by omega
      have HKD := Lib.hid hkd
      clear hkd
      have cases3 : (k < n) ∨ (¬ k < n ∧ k < m) ∨ (¬ k < n ∧ ¬ k < m ∧ 0 < cy) := by omega
      clear hgo hk1
      rcases cases3 with h | ⟨h, h'⟩ | ⟨h, h', h''⟩
      all_goals
        go_wp2_with fail
        refine (digit_any a n c xs k _ hs1 (by omega)).mono ?_
        rintro e w' ⟨rfl, rfl⟩
        go_wp2_with fail
        refine (digit_any b m d ys k _ hs2 (by omega)).mono ?_
        rintro e w' ⟨rfl, rfl⟩
        rw [Int.toNat_natCast]
        go_wp2_with (at_builtin; refine appI rfl _ _ rfl hown rfl rfl (by omega) (by omega) ?_; intro a2 c2 w1 hown1 hb1 hlt1)
        go_roundw
        case rel => exact ⟨k + 1, _, _, a2, c2, by go_num, rfl, rfl, hown1, by omega, by omega, by omega, hN, hmx', hbel.trans hb1⟩
        case measure => exact HKD.out
    · have hz : cy = 0 := by omega
      rw [hz] at hst
      have hf := hst.out.fin (by omega) (by omega)
      have HF := Lib.hid hf
      have HZ := Lib.hid hz
      have hfd := hst.out.1
      have hmm := hmx.out
      have hk9 : k ≤ max n m + 1 := by omega
      clear hf hz hmm
      go_wp2_with fail
      go_ret
      exact ⟨a', k, c', rfl, ⟨ds, hown, hfd, HF.out, hk9⟩, hbel⟩

set_option maxRecDepth 100000 in
set_option maxHeartbeats 1000000 in
theorem subDigits_any (a b : Option Addr) (n m c d : Nat) (xs ys : List Int) (w : World) (h1 : SI w a n c xs) (h2 : SI w b m d ys) (d1 : Dg xs) (d2 : Dg ys) (hle : dv ys ≤ dv xs) (hml : m ≤ n) (hn : n ≤ 1099511627776) :
    Calls Try.prog 140 #[.slice a n c, .slice b m d] w fun e w' => ∃ a' m' c', e = .returned (.slice a' m' c') ∧ (∃ ds, SI w' a' m' c' ds ∧ In w' 3 a' ∧ Dg ds ∧ Nz ds ∧ dv ds = dv xs - dv ys ∧ m' ≤ n) ∧ Below w.heap.size w w' := by
  obtain ⟨l1, l2⟩ : n ≤ xs.length ∧ xs.length ≤ n := by have := h1.len; omega
  obtain ⟨k1, k2⟩ : m ≤ ys.length ∧ ys.length ≤ m := by have := h2.len; omega
  have c1 := h1.cap
  have c2 := h2.cap
  have hc9 := h1.max
  go_enter Try.func140, Try.ntmps140
  go_wp2_with fail
  go_loopw [5, 6, 7] (fun l x i wr => ∃ (k : Nat) (cy : Int) (ds : List Int) (a' : Option Addr) (c' : Nat), i = .int .i64 k ∧ x = .int .i64 cy ∧ l = .slice a' k c' ∧ OwI wr w.heap.size a' k c' ds ∧ 0 ≤ cy ∧ cy ≤ 1 ∧ k ≤ n ∧ Hid (SubStep xs ys ds k cy) ∧ Below w.heap.size w wr) (fun _ _ i _ => n - (intOf i).toNat)
  case atStart => exact ⟨0, 0, [], none, 0, rfl, rfl, rfl, OwI.nil _ _, by omega, by omega, by omega, SubStep.start _ _, Below.refl _ _⟩
  case round =>
    obtain ⟨k, cy, ds, a', c', rfl, rfl, rfl, hown, hc0, hc1, hkm, hst, hbel⟩ := hrel
    have hg1 := d1.get k
    have hg2 := d2.get k
    have hsz := hbel.size
    by_cases hgo : k < n
    · have hs2 := h2.keep (hbel.mono (Nat.le_refl _))
      obtain ⟨b1, o1, rfl, hce⟩ := (h1.keep (hbel.mono (Nat.le_refl _))).at_ (by omega)
      have e1 := hce k hgo
      clear hce
      have hi : (k : Int) < (n : Int) := by omega
      have hi0 : (0 : Int) ≤ (k : Int) := by omega
      go_wp2_with fail
      refine Calmly.wp_region_mix 9 (.fl 0 <| .fl 1 <| .fl 2 <| .fl 3 <| .fl 4 <| .fl 5 <| .fl 8 <| .eff 6 <| .fl 7 <| .tail [9, 10]) (by kernel_rfl) (by kernel_rfl) ?_
      have hk : Below wr.drew.heap.size wr.drew wr.drew := Below.refl _ _
      go_wp2_with (first | ((with_reducible refine Calmly.is_fl ?_); refine Calmly.mix_fl rfl ?_ (fun _ _ => ?_); (first | exact .move _ | exact .load _ _ | exact .fieldAddr _ _ _ (by kernel_rfl) | exact .assign _ | exact .binOp _ _ _ _ _ rfl | exact .indexAddr _ _ _ | exact .len _ _ (by kernel_rfl) | exact .field _ _ _ | exact .extract _ _ | exact .pick _ _ _ | exact .build _ _ | exact .slice _ _ _ _ _ | exact .unOp _ _ _ rfl | exact .index _ _ _ | exact .max _ _ _ rfl rfl | exact .min _ _ _ rfl rfl)) | ((with_reducible refine Calmly.is_gl ?_); refine Calmly.mix_gl rfl rfl rfl ?_; first | ((first | with_reducible refine Calmly.gl_tt ?_ (fun _ _ => ?_) | with_reducible refine Calmly.gl_ff ?_ (fun _ _ => ?_)); (first | exact .move _ | exact .load _ _ | exact .fieldAddr _ _ _ (by kernel_rfl) | exact .assign _ | exact .binOp _ _ _ _ _ rfl | exact .indexAddr _ _ _ | exact .len _ _ (by kernel_rfl) | exact .field _ _ _ | exact .extract _ _ | exact .pick _ _ _ | exact .build _ _ | exact .slice _ _ _ _ _ | exact .unOp _ _ _ rfl | exact .index _ _ _ | exact .max _ _ _ rfl rfl | exact .min _ _ _ rfl rfl)) | with_reducible refine Calmly.gl_tf (fun _ _ => ?_) | with_reducible refine Calmly.gl_ft (fun _ _ => ?_)) | ((with_reducible refine Calmly.is_eff ?_); refine Calmly.mix_eff rfl (fun _ _ => ?_)) | ((with_reducible refine Calmly.is_gf ?_); refine Calmly.mix_gf rfl rfl rfl ?_; first | with_reducible refine Calmly.gf_tt (fun _ _ => ?_) | with_reducible refine Calmly.gf_ff (fun _ _ => ?_) | with_reducible refine Calmly.gf_tf (kept_of hk) (fun _ _ => ?_) | with_reducible refine Calmly.gf_ft (kept_of hk) (fun _ _ => ?_)) | ((with_reducible refine Calmly.is_tail ?_); first | refine Calmly.mix_tail_nil ?_ | refine Calmly.mix_tail rfl (fun _ _ => ?_)) | ((with_reducible refine Calmly.is_kept ?_); refine ⟨kept_of hk, ?_⟩) | (with_reducible refine Calmly.mix_alt ?_ ?_) | (go_at_call 150; refine (digit_any b m d ys k _ (hs2.keep (Below.drew (Below.refl _ _))) (by omega)).mono ?_; rintro e w' ⟨rfl, rfl⟩; rw [Int.toNat_natCast]) | (at_builtin; refine appI rfl _ _ rfl hown.drew rfl rfl (by omega) (by simp; omega) ?_; intro a2 c2 w1 hown1 hb1 hlt1))
      · have hlt : xs[k]?.getD 0 - ys[k]?.getD 0 - cy < 0 := by assumption
        have hN := Lib.hid (hst.out.next1 d1 d2 hlt)
        go_roundw
        case rel => exact ⟨k + 1, _, _, a2, c2, by go_num, rfl, rfl, hown1, by omega, by omega, by omega, hN, (Below.drew hbel).trans hb1⟩
        case measure => simp [intOf]; omega
      · have hlt : 0 ≤ xs[k]?.getD 0 - ys[k]?.getD 0 - cy := by assumption
        have hN := Lib.hid (hst.out.next0 d1 d2 hlt)
        go_roundw
        case rel => exact ⟨k + 1, _, _, a2, c2, by go_num, rfl, rfl, hown1, by omega, by omega, by omega, hN, (Below.drew hbel).trans hb1⟩
        case measure => simp [intOf]; omega
    · have hf := hst.out.fin (by omega) (by omega) hle
      have hfd := hst.out.1
      have HF := Lib.hid hf
      clear hf
      go_wp2_with fail
      refine (trimmed_any a' k c' ds _ hown.si).mono ?_
      rintro e w' ⟨m', rfl, ⟨hm1, hm2, hm3⟩, rfl⟩
      have HM2 := Lib.hid hm2
      clear hm2
      go_wp2_with fail
      go_ret
      exact ⟨a', m', c', rfl, ⟨ds.take m', hown.si.take hm1, In.of_owns hown, hfd.take _, hm3, HM2.out.trans HF.out, by omega⟩, hbel⟩
end Go.Proofs.Ytmaidjankakppaa
