/- The claim of ModelThere. The reference's springs: their errors, copies. Appends of any records within a plan; the reference's copies of holds, its force and energy. The reference's force and energy of a hold. -/
import Derived.Test.YtaiikekgckjdeaaK23
import Derived.Test.YtaiikekgckjdeaaRows
namespace Go.Proofs.Ytaiikekgckjdeaa
open Go.ChangeShapes Go.WideShapes Go.ChangeAt Go.RowKit

set_option maxRecDepth 100000 in
set_option maxHeartbeats 1000000 in
theorem ModelThere_lifted (os : Os) (started : os.Started) (H : Type) (enc : TypeId × Value → H) :
    ReturnsInHanded {} Try.checked os 7 .any (Rows.modelThereSpec.pre6 enc Try.prog Try.f7 Rows.modelThereRow.domain false) (Rows.modelThereSpec.post enc Try.prog Try.f7 false true false false) := by
  refine returnsInHanded_of_change (C := Try.checked) Try.own' started (by kernel_rfl) Try.func7
    (ChangeSpec.witness6 (enc := enc) (C := Try.checked) false ⟨#[], #[.agg #[.int .i64 0, .int .i64 0, .int .i64 0, .int .i64 0, .int .i64 0, .int .i64 0], .agg #[.int .i64 0, .int .i64 0, .int .i64 0, .int .i64 0, .int .i64 0, .int .i64 0], .agg #[.int .i64 0, .int .i64 0]], []⟩ 8 (by kernel_rfl) (by kernel_rfl) (by kernel_rfl) (by kernel_rfl)) ?_
  intro W base args ds gs before hval0 hW _ _
  have hval : ∀ (j : Nat) t v, Try.f7.params[j]? = some t → args[j]? = some v → Value.okWide Try.prog W .any base t v := hval0
  have hW' := hW
  obtain ⟨p, q, hA0, hV, rfl, _, _⟩ := hW
  have hA : DataW.TrodAll enc Try.prog W 0 (fun _ => true) true Try.f7.params.toList args.toList ds p := hA0
  rw [Try.params7] at hA hval
  obtain ⟨v0, v1, v2, d0, d1, d2, p0, p1, p2, rfl, rfl, rfl, h0, h1, h2⟩ := trodAll_three hA
  obtain ⟨rfl, rfl⟩ := trodVars_none hV
  clear hA0 hA hval0
  have hlt : ∀ x ∈ p0 ++ p1 ++ p2, x.block < W.heap.size := fun x hx => by simpa using hW'.lt x (by simpa using hx)
  obtain ⟨nA0, dA0, nB0, dB0, nC0, dC0, rfl, f0, f0', f0''⟩ := open_fracs3 (hval 0 78 v0 rfl rfl) h0
  obtain ⟨x1, y1, z1, x1', y1', z1', rfl, hw1, hw1'⟩ := open_qpair (hval 1 92 v1 rfl rfl) h1
  obtain ⟨x2, y2, rfl, hw2, hw2'⟩ := open_frac (hval 2 77 v2 rfl rfl) h2
  refine (ModelThere_walk nA0 dA0 nB0 dB0 nC0 dC0 x1 y1 z1 x1' y1' z1' x2 y2 W f0 f0' f0'' ⟨wf_i64 hw2, wf_i64 hw2'⟩).mono fun e W' ⟨he, hb⟩ => ?_
  subst he
  exact ⟨_, rfl, _, _, _, [], _, [], hW', trodAll_mk1 (shut_bool Try.underlying4 _),
    trodAll_mk3 (Below.trod Try.laidOut' (by kernel_rfl) (of_decide_eq_true (by kernel_rfl)) h0 hb (fun x hx => hlt x (List.mem_append_left _ (List.mem_append_left _ hx)))) (Below.trod Try.laidOut' (by kernel_rfl) (of_decide_eq_true (by kernel_rfl)) h1 hb (fun x hx => hlt x (List.mem_append_left _ (List.mem_append_right _ hx)))) (Below.trod Try.laidOut' (by kernel_rfl) (of_decide_eq_true (by kernel_rfl)) h2 hb (fun x hx => hlt x (List.mem_append_right _ hx))),
    rfl, hb.frame _, fun h => by cases h⟩

theorem ModelThere_holds : Rows.ModelThereSaid :=
  OpenClaim.holds_of_wide 7 Try.f7 rfl rfl rfl rfl rfl rfl rfl ⟨rfl, rfl, rfl, rfl, rfl⟩ rfl rfl rfl rfl rfl (by kernel_rfl) Try.func7 (by kernel_rfl)
    (of_decide_eq_true (by kernel_rfl)) (by unfold Func.isWrapper; first | (rw [if_pos (by decide +kernel)]; kernel_rfl) | (rw [if_neg (by decide +kernel)]; exact ⟨rfl, rfl⟩))
    (fun os started H enc _ => ModelThere_lifted os started H enc)
#print axioms ModelThere_holds
end Go.Proofs.Ytaiikekgckjdeaa

namespace Go.Proofs.Ytaiikekgckjdeaa
open Go.RowKit
open Calmly (Kept)
set_option maxRecDepth 100000 in
theorem rPlaceErr_any (n : Int) (w : World) :
    Calls Try.prog 26 #[.int .i64 n] w fun e w' => e = .returned (.int .i64 (unlessE (plc n) 2)) ∧ w = w' := by
  rw [show plc n = wIn n (-10000) 10000 from rfl]
  go_enter Try.func26, Try.ntmps26
  go_wp2_with fail
  refine (within_any n (-10000) 10000 _).mono ?_
  rintro e w1 ⟨rfl, rfl⟩
  cases hx : wIn n (-10000) 10000
  · go_wp2_with fail
    go_ret
    exact ⟨ret_int (by rw [hx]; rfl), rfl⟩
  · go_wp2_with fail
    go_ret
    exact ⟨ret_int (by rw [hx]; rfl), rfl⟩
set_option maxRecDepth 100000 in
theorem rGroundErr_any (n : Int) (w : World) :
    Calls Try.prog 61 #[.int .i64 n] w fun e w' => e = .returned (.int .i64 (unlessE (grd n) 2)) ∧ w = w' := by
  rw [show grd n = wIn n (-100) 100 from rfl]
  go_enter Try.func61, Try.ntmps61
  go_wp2_with fail
  refine (within_any n (-100) 100 _).mono ?_
  rintro e w1 ⟨rfl, rfl⟩
  cases hx : wIn n (-100) 100
  · go_wp2_with fail
    go_ret
    exact ⟨ret_int (by rw [hx]; rfl), rfl⟩
  · go_wp2_with fail
    go_ret
    exact ⟨ret_int (by rw [hx]; rfl), rfl⟩
set_option maxRecDepth 100000 in
set_option maxHeartbeats 1000000 in
theorem rCheckSpring_any (a : Option Addr) (n c : Nat) (l : List El) (w : World) (h1 : SEl w a n c l) :
    Calls Try.prog 39 #[.slice a n c] w fun e w' => e = .returned (.tuple #[.int .i64 (sprE l).1, .int .i64 (sprE l).2]) ∧ Below w.heap.size w w' := by
  obtain ⟨l1, l2⟩ : n ≤ l.length ∧ l.length ≤ n := by have := h1.len; omega
  have m1 := h1.max
  have c1 := h1.cap
  have hS : sprE l = if sprH n = 0 then eaF (fun i => elErr (l[i]?.getD el0)) 0 n else (0, sprH n) := by rw [sprE, show l.length = n by omega]
  by_cases h0 : n = 0
  · have hR : sprE l = (0, 10) := by rw [hS, h0]; rfl
    rw [hR]
    have b1 : ((n : Int) == 0) = true := by simp; omega
    clear hS hR h0
    go_enter Try.func39, Try.ntmps39
    go_wp2_with fail
    refine bodyPost_ret (v := .tuple #[.int .i64 0, .int .i64 10]) (by simp [results, Try.results39]) rfl ⟨rfl, Below.refl _ _⟩
  have b1 : ((n : Int) == 0) = false := by simp; omega
  have d1 : decide (0 < n) = true := by rw [decide_eq_true_eq]; omega
  by_cases h4 : 4 < n
  · have d2 : decide ((n : Int) ≤ 4) = false := by rw [decide_eq_false_iff_not]; omega
    have hR : sprE l = (0, 8) := by
      have h5 : sprH n = 8 := by rw [sprH, d1, d2]; rfl
      rw [hS, h5]
      rfl
    rw [hR]
    have b2 : (4 : Int) < (n : Int) := by omega
    clear hS hR h0 h4 d1 d2
    go_enter Try.func39, Try.ntmps39
    go_wp2_with fail
    refine bodyPost_ret (v := .tuple #[.int .i64 0, .int .i64 8]) (by simp [results, Try.results39]) rfl ⟨rfl, Below.refl _ _⟩
  have d2 : decide ((n : Int) ≤ 4) = true := by rw [decide_eq_true_eq]; omega
  have hE : sprE l = eaF (fun i => elErr (l[i]?.getD el0)) 0 n := by
    have h5 : sprH n = 0 := by rw [sprH, d1, d2]; rfl
    rw [hS, if_pos h5]
  obtain ⟨I, E, hR⟩ : ∃ I E, sprE l = (I, E) := ⟨_, _, rfl⟩
  rw [hR]
  have HR := Lib.hid (show eaF (fun i => elErr (l[i]?.getD el0)) 0 (n - 0) = (I, E) from hE.symm.trans hR)
  have b2 : ¬ (4 : Int) < (n : Int) := by omega
  clear hS hR hE h0 h4 d1 d2
  go_enter Try.func39, Try.ntmps39
  go_wp2_with fail
  go_loopw [4] (fun i wr => ∃ k : Nat, k ≤ n ∧ i = .int .i64 k ∧ eaF (fun i => elErr (l[i]?.getD el0)) k (n - k) = (I, E) ∧ Below w.heap.size w wr) (fun i _ => n - (intOf i).toNat)
  case atStart => exact ⟨0, by omega, rfl, HR.out, Below.refl _ _⟩
  case round =>
    obtain ⟨k, hk, rfl, ht, hb⟩ := hrel
    have HT := Lib.hid ht
    clear ht
    by_cases hlt : k < n
    · obtain ⟨b1', o1, rfl, hc1⟩ := (h1.keep hb).at_ (by omega)
      obtain ⟨p0, p1, p2⟩ := hc1 k hlt
      have hi : (k : Int) < (n : Int) := by omega
      have hi0 : (0 : Int) ≤ (k : Int) := by omega
      obtain ⟨xx, hxx⟩ : ∃ x, l[k]?.getD el0 = x := ⟨_, rfl⟩
      obtain ⟨x, y, z⟩ := xx
      rw [hxx] at p0 p1 p2
      dsimp only at p0 p1 p2
      have HX := Lib.hid hxx
      clear hc1 hxx
      go_wp2_with fail
      refine (within_any x 1 1000 _).mono ?_
      rintro e w1 ⟨rfl, rfl⟩
      have bad : elErr (x, y, z) = 2 → (I, E) = ((k : Int), 2) := fun h => by
        have hsc : elErr (l[k]?.getD el0) = 2 := by rw [HX.out]; exact h
        rw [← HT.out, eaF_bad hlt (by show elErr _ ≠ 0; rw [hsc]; decide), hsc]
      cases hx : wIn x 1 1000
      · have hbad := bad (by rw [elErr]; show unlessE (wIn x 1 1000 && _) 2 = 2; rw [hx]; rfl)
        injection hbad with e1 e2
        have E1 := Lib.hid e1
        have E2 := Lib.hid e2
        clear e1 e2 bad
        go_wp2_with fail
        refine bodyPost_ret (v := .tuple #[.int .i64 (k : Int), .int .i64 2]) (by simp [results, Try.results39]) rfl ⟨by rw [E1.out, E2.out], hb⟩
      · go_wp2_with fail
        refine (within_any y 1 1000 _).mono ?_
        rintro e w1 ⟨rfl, rfl⟩
        cases hy : wIn y 1 1000
        · have hbad := bad (by show unlessE (wIn x 1 1000 && wIn y 1 1000) 2 = 2; rw [hx, hy]; rfl)
          injection hbad with e1 e2
          have E1 := Lib.hid e1
          have E2 := Lib.hid e2
          clear e1 e2 bad
          go_wp2_with fail
          refine bodyPost_ret (v := .tuple #[.int .i64 (k : Int), .int .i64 2]) (by simp [results, Try.results39]) rfl ⟨by rw [E1.out, E2.out], hb⟩
        · have good : elErr (x, y, z) = 0 := by show unlessE (wIn x 1 1000 && wIn y 1 1000) 2 = 0; rw [hx, hy]; rfl
          have HG := Lib.hid good
          clear good bad
          go_wp2_with fail
          go_roundw
          case rel => exact ⟨k + 1, by omega, by go_num, (eaF_ok (err := fun i => elErr (l[i]?.getD el0)) hlt (by show elErr _ = 0; rw [HX.out, HG.out])).symm.trans HT.out, hb⟩
          case measure => simp [intOf]; omega
    · have hle : (n : Int) ≤ (k : Int) := by omega
      have hR0 : (I, E) = (0, 0) := by rw [← HT.out, eaF_end (by omega)]
      injection hR0 with e1 e2
      subst e1 e2
      go_wp2_with fail
      refine bodyPost_ret (v := .tuple #[.int .i64 0, .int .i64 0]) (by simp [results, Try.results39]) rfl ⟨rfl, hb⟩
set_option maxRecDepth 100000 in
theorem rSpringErr_any (a : Option Addr) (n c : Nat) (l : List El) (w : World) (h1 : SEl w a n c l) :
    Calls Try.prog 23 #[.slice a n c] w fun e w' => e = .returned (.int .i64 (sprE l).2) ∧ Below w.heap.size w w' := by
  go_enter Try.func23, Try.ntmps23
  go_wp2_with fail
  refine (rCheckSpring_any a n c l _ h1).mono ?_
  rintro e w1 ⟨rfl, hb⟩
  go_wp2_with fail
  go_ret
  exact ⟨rfl, hb⟩
set_option maxRecDepth 100000 in
theorem CopySpring_any (a : Option Addr) (n c : Nat) (l : List El) (w : World) (h1 : SEl w a n c l) (hn : n ≤ 1099511627776) :
    Calls Try.prog 28 #[.slice a n c] w fun e w' => ∃ a' c', e = .returned (.slice a' n c') ∧ OwE w' w.heap.size a' n c' l ∧ Below w.heap.size w w' := by
  go_enter Try.func28, Try.ntmps28
  go_wp2_with (refine copyE w rfl rfl _ _ rfl h1 rfl rfl hn (fun a' c' w' ho hb => ?_))
  go_ret
  exact ⟨_, _, rfl, ho, hb⟩
end Go.Proofs.Ytaiikekgckjdeaa

namespace Go.Proofs.Ytaiikekgckjdeaa
open Go.RowKit
open Calmly (Kept)
theorem run_appS {P : Program} {w : World} (t ty : TypeId) (B : Nat) (e : TypeId) (i : TypeInfo) (z : Value) (k bytes : Nat) (ht : P.underlying t = some (.slice e)) (hi : P.info? e = some i) (hz : i.zero = some z)
    (hsize : i.size = k) (hby : i.bytes = bytes) (hzs : z.cells.size = k) (hsz : 0 < k)
    (av : Option Addr) (n c : Nat) (xs : List Value) (hown : w.ownsRow B e k (.slice av n c) n xs)
    (lv : Option Addr) (m lc : Nat) (vs : List Value) (hl : Sl w k lv m lc vs) (hone : ∀ u ∈ vs, u.oneCell' = true)
    (hb1 : n + m ≤ 140737488355328) (hb : (n + m) * bytes ≤ 140737488355328) (hB : B ≤ w.heap.size) :
    ∃ a' c' w', (Builtin.append_ #[t, t] ty #[.slice av n c, .slice lv m lc]).run P w = .ok (.slice a' (n + m) c') w' ∧ w'.ownsRow B e k (.slice a' (n + m) c') (n + m) (xs ++ vs) ∧ Below B w w' := by
  obtain ⟨g1, g2, g3, g4⟩ := hl
  have hrow : ∀ j, (Value.slice av n c).ownBlock = some j → B ≤ j := fun j hj => (hown.lt j hj).1
  rcases g4 with rfl | ⟨b, off, rfl, hc⟩
  · obtain rfl : m = 0 := by omega
    obtain rfl : vs = [] := by cases vs with | nil => rfl | cons _ _ => simp at g1
    cases lv with
    | none => exact ⟨av, c, w, run_append_owned_none (P := P) (w := w) B t ty e i k ht hi _ n xs hown, by simpa using hown, Below.refl _ _⟩
    | some p =>
      obtain ⟨v', w1, hrun, ho1, hg, _⟩ := run_append_own (P := P) w B t ty e i z k bytes ht hi hz hsize hby hzs hsz _ n xs hown p 0 0 [] g1 (by simp) hone (by unfold maxLen; omega) hb hB
      obtain ⟨a', c', rfl⟩ := owns_slice ho1
      exact ⟨a', c', w1, hrun, ho1, grown_below hg hB hrow⟩
  · obtain ⟨v', w1, hrun, ho1, hg, _⟩ := run_append_own (P := P) w B t ty e i z k bytes ht hi hz hsize hby hzs hsz _ n xs hown ⟨b, off, none⟩ m lc vs g1 (by
      intro j u hj
      have hjl : j < vs.length := (List.getElem?_eq_some_iff.1 hj).1
      rw [show ((⟨b, off, none⟩ : Addr).add j) = ⟨b, off + j, none⟩ by
        unfold Addr.add
        split
        · rename_i h0; subst h0; rfl
        · rfl, hc j (by omega)]
      exact hj) hone (by unfold maxLen; omega) hb hB
    obtain ⟨a', c', rfl⟩ := owns_slice ho1
    exact ⟨a', c', w1, hrun, ho1, grown_below hg hB hrow⟩
/-- A copy of slips, within a plan. -/
theorem mix_copyS (i : Nat) {w0 Wx : World} {k : Calmly.Plan} {dst : Option Tmp} {s x : Operand} {ty : TypeId} {pos : String} {after : Array Edge} {a : Act} {W0 : World} {ops : Array Oper} {Q : Exit → Act → World → Prop} {lv : Option Addr} {m lc : Nat} {l : List Sp}
    (hW : Wx = w0.alloc (.cells #[] 64)) (hi : ops[i]? = some ⟨dst, .call { callee := .builtin .append, args := #[s, x], argTypes := #[47, 47] }, ty, pos, after, none⟩)
    (hl : SSp w0 lv m lc l) (hs : a.eval s = .slice (some ⟨w0.heap.size, 0, none⟩) 0 0) (hx : a.eval x = .slice lv m lc) (hb1 : m ≤ 1099511627776)
    (h : ∀ a' c' w', OwS w' w0.heap.size a' m c' l → Below w0.heap.size w0 w' → Kept W0 w' ∧ Calmly.WpMix Try.prog ops Q W0 k (a.put dst (.slice a' m c')) w') :
    Calmly.WpMix Try.prog ops Q W0 (.eff i k) a Wx := by
  subst hW
  refine Calmly.mix_eff hi (fun K hK => ?_)
  have hA : Below w0.heap.size w0 (w0.alloc (.cells #[] 64)) := (Below.refl _ _).alloc (Nat.le_refl _) _
  obtain ⟨i0, hi0, hz0, hz1, hz2⟩ := info_parts Try.info_sp
  obtain ⟨a', c', w1, hrun, h1, h2⟩ := run_appS (P := Try.prog) 47 ty w0.heap.size _ i0 _ 2 16 Try.underlying47 hi0 hz0 hz1 hz2 rfl (by decide) _ 0 0 [] ⟨by simp, .inr ⟨w0.heap.size, 0, #[], rfl, Nat.le_refl _, alloc_new _ _, by simp, by simp, by simp, by simp⟩⟩ lv m lc _ (Sl.keep hl hA) (oneCell_S l) (by omega) (by omega) (by simp)
  rw [Nat.zero_add] at hrun h1
  unfold Oper.wp
  simp [execOp, resolve, invoke, builtin, hs, hx, hrun, Result.andThen]
  exact hK _ _ (h a' c' w1 (by unfold OwS; simpa using h1) (hA.trans h2))
set_option maxRecDepth 100000 in
theorem CopyHold_any (at' : Int) (a : Option Addr) (n c : Nat) (l : List Sp) (w : World) (h1 : SSp w a n c l) (hn : n ≤ 1099511627776) :
    Calls Try.prog 29 #[.agg #[.int .i64 at', .slice a n c]] w fun e w' => ∃ a' c', e = .returned (.agg #[.int .i64 at', .slice a' n c']) ∧ OwS w' w.heap.size a' n c' l ∧ Below w.heap.size w w' := by
  have y0 := blk_keep (alloc_new w (.cells #[.int .i64 at', .slice a n c] 49)) ((Below.refl _ _).alloc (Nat.le_refl _) (.cells #[.int .i64 0, .slice none 0 0] 49))
  have y1 := alloc_new (w.alloc (.cells #[.int .i64 at', .slice a n c] 49)) (.cells #[.int .i64 0, .slice none 0 0] 49)
  have BW : Below w.heap.size w ((w.alloc (.cells #[.int .i64 at', .slice a n c] 49)).alloc (.cells #[.int .i64 0, .slice none 0 0] 49)) := ((Below.refl _ _).alloc (Nat.le_refl _) _).alloc (by simp) _
  have hsz : ((w.alloc (.cells #[.int .i64 at', .slice a n c] 49)).alloc (.cells #[.int .i64 0, .slice none 0 0] 49)).heap.size = w.heap.size + 1 + 1 := by simp
  have HS := Lib.hid hsz
  clear hsz
  simp only [World.size_alloc] at y1
  go_enter Try.func29, Try.ntmps29
  go_wp2_with fail
  refine Calmly.wp_region_mix 6 (.fl 0 <| .fl 1 <| .fl 3 <| .fl 4 <| .eff 2 <| .eff 5 <| .tail [6, 7]) (by kernel_rfl) (by kernel_rfl) ?_
  replace y0 := blk_keep y0 (Below.refl _ _).drew
  replace y1 := blk_keep y1 (Below.refl _ _).drew
  have hs' := (h1.keep BW).keep (Below.refl _ _).drew
  replace BW := BW.drew
  have hz2 : (((w.alloc (.cells #[.int .i64 at', .slice a n c] 49)).alloc (.cells #[.int .i64 0, .slice none 0 0] 49)).drew).heap.size = w.heap.size + 1 + 1 := HS.out
  have HS2 := Lib.hid hz2
  clear HS hz2
  generalize ((w.alloc (.cells #[.int .i64 at', .slice a n c] 49)).alloc (.cells #[.int .i64 0, .slice none 0 0] 49)).drew = V at *
  have f0 := cell_block y0 0
  have f1 := cell_block y0 1
  have hk := Below.refl V.heap.size V
  go_wp2_with (first | (refine mix_copyS (w0 := V) 5 rfl rfl hs' rfl rfl hn (fun a' c' w9 ho hb => ?_); replace hk := hb; refine ⟨kept_of hb, ?_⟩; have q1 := blk_keep y1 hb; have e0 := cell_block q1 0; have e1 := cell_block q1 1; have g0 := frozen_block q1 0; have g1 := frozen_block q1 1) | ((with_reducible refine Calmly.is_fl ?_); refine Calmly.mix_fl rfl ?_ (fun _ _ => ?_); (first | exact .move _ | exact .load _ _ | exact .fieldAddr _ _ _ (by kernel_rfl) | exact .assign _ | exact .binOp _ _ _ _ _ rfl | exact .indexAddr _ _ _ | exact .len _ _ (by kernel_rfl) | exact .field _ _ _ | exact .extract _ _ | exact .pick _ _ _ | exact .build _ _ | exact .slice _ _ _ _ _ | exact .unOp _ _ _ rfl | exact .index _ _ _ | exact .max _ _ _ rfl rfl | exact .min _ _ _ rfl rfl | exact .nilCheck _ _ rfl)) | ((with_reducible refine Calmly.is_gl ?_); refine Calmly.mix_gl rfl rfl rfl ?_; first | ((first | with_reducible refine Calmly.gl_tt ?_ (fun _ _ => ?_) | with_reducible refine Calmly.gl_ff ?_ (fun _ _ => ?_)); (first | exact .move _ | exact .load _ _ | exact .fieldAddr _ _ _ (by kernel_rfl) | exact .assign _ | exact .binOp _ _ _ _ _ rfl | exact .indexAddr _ _ _ | exact .len _ _ (by kernel_rfl) | exact .field _ _ _ | exact .extract _ _ | exact .pick _ _ _ | exact .build _ _ | exact .slice _ _ _ _ _ | exact .unOp _ _ _ rfl | exact .index _ _ _ | exact .max _ _ _ rfl rfl | exact .min _ _ _ rfl rfl | exact .nilCheck _ _ rfl)) | with_reducible refine Calmly.gl_tf (fun _ _ => ?_) | with_reducible refine Calmly.gl_ft (fun _ _ => ?_)) | ((with_reducible refine Calmly.is_eff ?_); refine Calmly.mix_eff rfl (fun _ _ => ?_)) | ((with_reducible refine Calmly.is_gf ?_); refine Calmly.mix_gf rfl rfl rfl ?_; first | with_reducible refine Calmly.gf_tt (fun _ _ => ?_) | with_reducible refine Calmly.gf_ff (fun _ _ => ?_) | with_reducible refine Calmly.gf_tf (kept_of hk) (fun _ _ => ?_) | with_reducible refine Calmly.gf_ft (kept_of hk) (fun _ _ => ?_)) | ((with_reducible refine Calmly.is_tail ?_); first | refine Calmly.mix_tail_nil ?_ | refine Calmly.mix_tail rfl (fun _ _ => ?_)) | ((with_reducible refine Calmly.is_kept ?_); refine ⟨kept_of hk, ?_⟩) | (with_reducible refine Calmly.mix_alt ?_ ?_) | (refine kept_alloc hk (fun hk' hblk hge => ?_); replace hk := hk'; clear hk'))
  have hne2 : ∀ b, b ≠ w.heap.size + 1 → ((w9.setCell ⟨w.heap.size + 1, 0, none⟩ (.int .i64 at')).setCell ⟨w.heap.size + 1, 1, none⟩ (.slice a' n c')).heap[b]? = w9.heap[b]? := fun b hb => by
    rw [Below.heap_setCell _ _ _ _ hb, Below.heap_setCell _ _ _ _ hb]
  have q0 := setBlk (setBlk q1 0 (.int .i64 at')) 1 (.slice a' n c')
  simp at q0
  have r0 := cell_block q0 0
  have r1 := cell_block q0 1
  have BF : Below w.heap.size w ((w9.setCell ⟨w.heap.size + 1, 0, none⟩ (.int .i64 at')).setCell ⟨w.heap.size + 1, 1, none⟩ (.slice a' n c')) := ((BW.trans (hb.mono BW.size)).setCell (by show w.heap.size ≤ w.heap.size + 1; omega) _).setCell (by show w.heap.size ≤ w.heap.size + 1; omega) _
  have ho2 : OwS ((w9.setCell ⟨w.heap.size + 1, 0, none⟩ (.int .i64 at')).setCell ⟨w.heap.size + 1, 1, none⟩ (.slice a' n c')) w.heap.size a' n c' l := by
    rw [HS2.out] at ho
    exact owns_lower (owns_apart ho hne2 (by omega)) (by omega)
  refine bodyPost_ret (v := .agg #[.int .i64 at', .slice a' n c']) (by simp [results, Try.results29, go_sem, r0, r1]) rfl ⟨_, _, rfl, ho2, BF⟩
end Go.Proofs.Ytaiikekgckjdeaa

namespace Go.Proofs.Ytaiikekgckjdeaa
open Go.RowKit
open Calmly (Kept)
theorem sumR_abs {f : Nat → Int} {M : Int} {n : Nat} (h : ∀ i, i < n → -M ≤ f i ∧ f i ≤ M) : -(M * n) ≤ sumR f n ∧ sumR f n ≤ M * n := by
  induction n with
  | zero => simp [sumR]
  | succ n ih =>
    have h1 := ih (fun i hi => h i (by omega))
    have h2 := h n (by omega)
    have h3 : M * ((n + 1 : Nat) : Int) = M * n + M := by push_cast; rw [Int.mul_add, Int.mul_one]
    rw [h3]
    show -(M * n + M) ≤ sumR f n + f n ∧ sumR f n + f n ≤ M * n + M
    omega
set_option maxRecDepth 100000 in
set_option maxHeartbeats 1000000 in
theorem rForce_any (a a2 : Option Addr) (n c c2 : Nat) (l : List El) (at' : Int) (sl : List Sp) (w : World) (h1 : SEl w a n c l) (h2 : SSp w a2 n c2 sl) (hn : n ≤ 6) (hB : ∀ i, i < n → ElB (l[i]?.getD el0).1 (l[i]?.getD el0).2.1 (sl[i]?.getD sp0).1 at') :
    Calls Try.prog 40 #[.slice a n c, .agg #[.int .i64 at', .slice a2 n c2]] w fun e w' => e = .returned (.int .i64 (sumR (fun i => frcE (l[i]?.getD el0).1 (sl[i]?.getD sp0).1 (sl[i]?.getD sp0).2 at') n)) ∧ Below w.heap.size w w' := by
  obtain ⟨f, hf⟩ : ∃ f : Nat → Int, (fun i => frcE (l[i]?.getD el0).1 (sl[i]?.getD sp0).1 (sl[i]?.getD sp0).2 at') = f := ⟨_, rfl⟩
  rw [hf]
  have hfi : ∀ i, i < n → f i = frcE (l[i]?.getD el0).1 (sl[i]?.getD sp0).1 (sl[i]?.getD sp0).2 at' := fun i _ => by rw [← hf]
  have hfb : ∀ i, i < n → -50000000 ≤ f i ∧ f i ≤ 50000000 := fun i hi => by rw [hfi i hi]; exact frc_bd (hB i hi)
  have HF := Lib.hid hfi
  have HFB := Lib.hid hfb
  have HB := Lib.hid hB
  clear hf hfi hfb hB
  have c1 := h1.cap
  have m1 := h1.max
  have c3 := h2.cap
  have m2 := h2.max
  have y3 := alloc_new w (.cells #[.int .i64 at', .slice a2 n c2] 49)
  have BW : Below w.heap.size w (w.alloc (.cells #[.int .i64 at', .slice a2 n c2] 49)) := (Below.refl _ _).alloc (Nat.le_refl _) _
  go_enter Try.func40, Try.ntmps40
  go_wp2_with fail
  generalize w.alloc (.cells #[.int .i64 at', .slice a2 n c2] 49) = W at *
  go_loopw [5, 6] (fun x i wr => ∃ k : Nat, k ≤ n ∧ i = .int .i64 (k : Int) ∧ x = .int .i64 (sumR f k) ∧ Below W.heap.size W wr) (fun _ i _ => n - (intOf i).toNat)
  case atStart => exact ⟨0, by omega, rfl, rfl, Below.refl _ _⟩
  case round =>
    obtain ⟨k, hk, rfl, rfl, hb⟩ := hrel
    have hsb := sumR_abs (f := f) (M := 50000000) (n := k) (fun i hi => HFB.out i (by omega))
    have hB2 := BW.trans (hb.mono BW.size)
    by_cases hlt : k < n
    · obtain ⟨b1', o1, rfl, hc1⟩ := (h1.keep hB2).at_ (by omega)
      obtain ⟨b2', o2, rfl, hc2⟩ := (h2.keep hB2).at_ (by omega)
      obtain ⟨p0, p1, p2⟩ := hc1 k hlt
      obtain ⟨q0, q1⟩ := hc2 k hlt
      have hi : (k : Int) < (n : Int) := by omega
      have hi0 : (0 : Int) ≤ (k : Int) := by omega
      have hEB := HB.out k hlt
      have hfk := HF.out k hlt
      have hfb := HFB.out k hlt
      obtain ⟨xx, hxx⟩ : ∃ x, l[k]?.getD el0 = x := ⟨_, rfl⟩
      obtain ⟨yy, hyy⟩ : ∃ x, sl[k]?.getD sp0 = x := ⟨_, rfl⟩
      obtain ⟨x, y, z⟩ := xx
      obtain ⟨s, br⟩ := yy
      rw [hxx] at p0 p1 p2 hEB hfk
      rw [hyy] at q0 q1 hEB hfk
      dsimp only at p0 p1 p2 q0 q1 hEB hfk
      clear hc1 hc2 hxx hyy
      have z3 := blk_keep y3 hb
      obtain ⟨⟨k1, k2⟩, ⟨k3, k4⟩, ⟨k5, k6⟩, ⟨k7, k8⟩⟩ := hEB
      obtain ⟨S, hS⟩ : ∃ S, sumR f k = S := ⟨_, rfl⟩
      have hS1 : sumR f (k + 1) = S + f k := by show sumR f k + f k = S + f k; rw [hS]
      have HS1 := Lib.hid hS1
      rw [hS] at hsb ⊢
      clear hS hS1
      have hSb : -300000000 ≤ S ∧ S ≤ 300000000 := by omega
      obtain ⟨s1, s2⟩ := hSb
      obtain ⟨g1, g2⟩ := hfb
      clear hsb
      have f0 := cell_block z3 0
      have f1 := cell_block z3 1
      cases br
      · have hfk' : f k = x * (at' - s) := hfk
        rw [hfk'] at g1 g2
        have HFK := Lib.hid hfk'
        clear hfk hfk'
        go_wp2_with fail
        refine Calmly.wp_region_mix 16 (.fl 0 <| .fl 1 <| .fl 2 <| .fl 3 <| .fl 4 <| .fl 5 <| .fl 6 <| .fl 7 <| .fl 8 <| .fl 9 <| .fl 10 <| .fl 11 <| .fl 12 <| .fl 13 <| .fl 14 <| .fl 15 <| .tail [16, 17]) (by kernel_rfl) (by kernel_rfl) ?_
        have BD : Below wr.heap.size wr wr.drew := (Below.refl _ _).drew
        replace f0 := cell_block (blk_keep z3 BD) 0
        replace f1 := cell_block (blk_keep z3 BD) 1
        replace p0 := cell_keep p0 BD
        replace p1 := cell_keep p1 BD
        replace p2 := cell_keep p2 BD
        replace q0 := cell_keep q0 BD
        replace q1 := cell_keep q1 BD
        have hb2 := hb.trans (BD.mono hb.size)
        generalize wr.drew = V at *
        have hk5 := Below.refl V.heap.size V
        go_wp2_with (first | ((with_reducible refine Calmly.is_fl ?_); refine Calmly.mix_fl rfl ?_ (fun _ _ => ?_); (first | exact .move _ | exact .load _ _ | exact .fieldAddr _ _ _ (by kernel_rfl) | exact .assign _ | exact .binOp _ _ _ _ _ rfl | exact .indexAddr _ _ _ | exact .len _ _ (by kernel_rfl) | exact .field _ _ _ | exact .extract _ _ | exact .pick _ _ _ | exact .build _ _ | exact .slice _ _ _ _ _ | exact .unOp _ _ _ rfl | exact .index _ _ _ | exact .max _ _ _ rfl rfl | exact .min _ _ _ rfl rfl | exact .nilCheck _ _ rfl)) | ((with_reducible refine Calmly.is_gl ?_); refine Calmly.mix_gl rfl rfl rfl ?_; first | ((first | with_reducible refine Calmly.gl_tt ?_ (fun _ _ => ?_) | with_reducible refine Calmly.gl_ff ?_ (fun _ _ => ?_)); (first | exact .move _ | exact .load _ _ | exact .fieldAddr _ _ _ (by kernel_rfl) | exact .assign _ | exact .binOp _ _ _ _ _ rfl | exact .indexAddr _ _ _ | exact .len _ _ (by kernel_rfl) | exact .field _ _ _ | exact .extract _ _ | exact .pick _ _ _ | exact .build _ _ | exact .slice _ _ _ _ _ | exact .unOp _ _ _ rfl | exact .index _ _ _ | exact .max _ _ _ rfl rfl | exact .min _ _ _ rfl rfl | exact .nilCheck _ _ rfl)) | with_reducible refine Calmly.gl_tf (fun _ _ => ?_) | with_reducible refine Calmly.gl_ft (fun _ _ => ?_)) | ((with_reducible refine Calmly.is_eff ?_); refine Calmly.mix_eff rfl (fun _ _ => ?_)) | ((with_reducible refine Calmly.is_gf ?_); refine Calmly.mix_gf rfl rfl rfl ?_; first | with_reducible refine Calmly.gf_tt (fun _ _ => ?_) | with_reducible refine Calmly.gf_ff (fun _ _ => ?_) | with_reducible refine Calmly.gf_tf (kept_of hk) (fun _ _ => ?_) | with_reducible refine Calmly.gf_ft (kept_of hk) (fun _ _ => ?_)) | ((with_reducible refine Calmly.is_tail ?_); first | refine Calmly.mix_tail_nil ?_ | refine Calmly.mix_tail rfl (fun _ _ => ?_)) | ((with_reducible refine Calmly.is_kept ?_); refine ⟨kept_of hk, ?_⟩) | (with_reducible refine Calmly.mix_alt ?_ ?_))
        go_roundw
        case rel => exact ⟨k + 1, by omega, by go_num, by rw [HS1.out, HFK.out], hb2⟩
        case measure => simp [intOf]; omega
      · have hfk' : f k = 0 := by rw [hfk]; simp [frcE, wgt]
        have HFK := Lib.hid hfk'
        clear hfk hfk'
        go_wp2_with fail
        go_roundw
        case rel => exact ⟨k + 1, by omega, by go_num, by rw [HS1.out, HFK.out, Int.add_zero], hb⟩
        case measure => simp [intOf]; omega
    · have hle : (n : Int) ≤ (k : Int) := by omega
      obtain rfl : n = k := by omega
      clear hlt hk
      go_wp2_with fail
      go_ret
      exact ⟨rfl, hB2⟩
set_option maxRecDepth 100000 in
set_option maxHeartbeats 1000000 in
theorem rEnergy_any (a a2 : Option Addr) (n c c2 : Nat) (l : List El) (at' : Int) (sl : List Sp) (w : World) (h1 : SEl w a n c l) (h2 : SSp w a2 n c2 sl) (hn : n ≤ 6) (hB : ∀ i, i < n → ElB (l[i]?.getD el0).1 (l[i]?.getD el0).2.1 (sl[i]?.getD sp0).1 at') :
    Calls Try.prog 43 #[.slice a n c, .agg #[.int .i64 at', .slice a2 n c2]] w fun e w' => e = .returned (.int .i64 (sumR (fun i => enrE (l[i]?.getD el0).1 (sl[i]?.getD sp0).1 (sl[i]?.getD sp0).2 at') n)) ∧ Below w.heap.size w w' := by
  obtain ⟨f, hf⟩ : ∃ f : Nat → Int, (fun i => enrE (l[i]?.getD el0).1 (sl[i]?.getD sp0).1 (sl[i]?.getD sp0).2 at') = f := ⟨_, rfl⟩
  rw [hf]
  have hfi : ∀ i, i < n → f i = enrE (l[i]?.getD el0).1 (sl[i]?.getD sp0).1 (sl[i]?.getD sp0).2 at' := fun i _ => by rw [← hf]
  have hfb : ∀ i, i < n → -2500000000000 ≤ f i ∧ f i ≤ 2500000000000 := fun i hi => by rw [hfi i hi]; exact enr_bd (hB i hi)
  have HF := Lib.hid hfi
  have HFB := Lib.hid hfb
  have HB := Lib.hid hB
  clear hf hfi hfb hB
  have c1 := h1.cap
  have m1 := h1.max
  have c3 := h2.cap
  have m2 := h2.max
  have y3 := alloc_new w (.cells #[.int .i64 at', .slice a2 n c2] 49)
  have BW : Below w.heap.size w (w.alloc (.cells #[.int .i64 at', .slice a2 n c2] 49)) := (Below.refl _ _).alloc (Nat.le_refl _) _
  go_enter Try.func43, Try.ntmps43
  go_wp2_with fail
  generalize w.alloc (.cells #[.int .i64 at', .slice a2 n c2] 49) = W at *
  go_loopw [5, 6] (fun x i wr => ∃ k : Nat, k ≤ n ∧ i = .int .i64 (k : Int) ∧ x = .int .i64 (sumR f k) ∧ Below W.heap.size W wr) (fun _ i _ => n - (intOf i).toNat)
  case atStart => exact ⟨0, by omega, rfl, rfl, Below.refl _ _⟩
  case round =>
    obtain ⟨k, hk, rfl, rfl, hb⟩ := hrel
    have hsb := sumR_abs (f := f) (M := 2500000000000) (n := k) (fun i hi => HFB.out i (by omega))
    have hB2 := BW.trans (hb.mono BW.size)
    by_cases hlt : k < n
    · obtain ⟨b1', o1, rfl, hc1⟩ := (h1.keep hB2).at_ (by omega)
      obtain ⟨b2', o2, rfl, hc2⟩ := (h2.keep hB2).at_ (by omega)
      obtain ⟨p0, p1, p2⟩ := hc1 k hlt
      obtain ⟨q0, q1⟩ := hc2 k hlt
      have hi : (k : Int) < (n : Int) := by omega
      have hi0 : (0 : Int) ≤ (k : Int) := by omega
      have hEB := HB.out k hlt
      have hfk := HF.out k hlt
      have hfb := HFB.out k hlt
      obtain ⟨xx, hxx⟩ : ∃ x, l[k]?.getD el0 = x := ⟨_, rfl⟩
      obtain ⟨yy, hyy⟩ : ∃ x, sl[k]?.getD sp0 = x := ⟨_, rfl⟩
      obtain ⟨x, y, z⟩ := xx
      obtain ⟨s, br⟩ := yy
      rw [hxx] at p0 p1 p2 hEB hfk
      rw [hyy] at q0 q1 hEB hfk
      dsimp only at p0 p1 p2 q0 q1 hEB hfk
      clear hc1 hc2 hxx hyy
      have z3 := blk_keep y3 hb
      obtain ⟨⟨k1, k2⟩, ⟨k3, k4⟩, ⟨k5, k6⟩, ⟨k7, k8⟩⟩ := hEB
      obtain ⟨S, hS⟩ : ∃ S, sumR f k = S := ⟨_, rfl⟩
      have hS1 : sumR f (k + 1) = S + f k := by show sumR f k + f k = S + f k; rw [hS]
      have HS1 := Lib.hid hS1
      rw [hS] at hsb ⊢
      clear hS hS1
      have hSb : -15000000000000 ≤ S ∧ S ≤ 15000000000000 := by omega
      obtain ⟨s1, s2⟩ := hSb
      obtain ⟨g1, g2⟩ := hfb
      clear hsb
      have f0 := cell_block z3 0
      have f1 := cell_block z3 1
      have hd2 : -50000 ≤ at' - s ∧ at' - s ≤ 50000 := by omega
      have hm1 := mul_abs (a := x) (x := at' - s) (A := 1000) (C := 50000) (by omega) (by omega) hd2.1 hd2.2
      obtain ⟨m1', m2'⟩ := hm1
      have m3' : -50000000 ≤ x * (at' - s) := by omega
      have m4' : x * (at' - s) ≤ 50000000 := by omega
      clear m1' m2' hd2
      go_wp2_with fail
      refine Calmly.wp_region_mix 8 (.fl 0 <| .fl 1 <| .fl 2 <| .fl 3 <| .fl 4 <| .fl 5 <| .fl 6 <| .fl 7 <| .tail [8, 9]) (by kernel_rfl) (by kernel_rfl) ?_
      have BD : Below wr.heap.size wr wr.drew := (Below.refl _ _).drew
      replace f0 := cell_block (blk_keep z3 BD) 0
      replace f1 := cell_block (blk_keep z3 BD) 1
      replace p0 := cell_keep p0 BD
      replace p1 := cell_keep p1 BD
      replace p2 := cell_keep p2 BD
      replace q0 := cell_keep q0 BD
      replace q1 := cell_keep q1 BD
      have hb2 := hb.trans (BD.mono hb.size)
      generalize wr.drew = V at *
      have hk5 := Below.refl V.heap.size V
      cases br
      · have hfk' : f k = x * (at' - s) * (at' - s) := hfk
        rw [hfk'] at g1 g2
        have HFK := Lib.hid hfk'
        clear hfk hfk'
        go_wp2_with (first | ((with_reducible refine Calmly.is_fl ?_); refine Calmly.mix_fl rfl ?_ (fun _ _ => ?_); (first | exact .move _ | exact .load _ _ | exact .fieldAddr _ _ _ (by kernel_rfl) | exact .assign _ | exact .binOp _ _ _ _ _ rfl | exact .indexAddr _ _ _ | exact .len _ _ (by kernel_rfl) | exact .field _ _ _ | exact .extract _ _ | exact .pick _ _ _ | exact .build _ _ | exact .slice _ _ _ _ _ | exact .unOp _ _ _ rfl | exact .index _ _ _ | exact .max _ _ _ rfl rfl | exact .min _ _ _ rfl rfl | exact .nilCheck _ _ rfl)) | ((with_reducible refine Calmly.is_gl ?_); refine Calmly.mix_gl rfl rfl rfl ?_; first | ((first | with_reducible refine Calmly.gl_tt ?_ (fun _ _ => ?_) | with_reducible refine Calmly.gl_ff ?_ (fun _ _ => ?_)); (first | exact .move _ | exact .load _ _ | exact .fieldAddr _ _ _ (by kernel_rfl) | exact .assign _ | exact .binOp _ _ _ _ _ rfl | exact .indexAddr _ _ _ | exact .len _ _ (by kernel_rfl) | exact .field _ _ _ | exact .extract _ _ | exact .pick _ _ _ | exact .build _ _ | exact .slice _ _ _ _ _ | exact .unOp _ _ _ rfl | exact .index _ _ _ | exact .max _ _ _ rfl rfl | exact .min _ _ _ rfl rfl | exact .nilCheck _ _ rfl)) | with_reducible refine Calmly.gl_tf (fun _ _ => ?_) | with_reducible refine Calmly.gl_ft (fun _ _ => ?_)) | ((with_reducible refine Calmly.is_eff ?_); refine Calmly.mix_eff rfl (fun _ _ => ?_)) | ((with_reducible refine Calmly.is_gf ?_); refine Calmly.mix_gf rfl rfl rfl ?_; first | with_reducible refine Calmly.gf_tt (fun _ _ => ?_) | with_reducible refine Calmly.gf_ff (fun _ _ => ?_) | with_reducible refine Calmly.gf_tf (kept_of hk) (fun _ _ => ?_) | with_reducible refine Calmly.gf_ft (kept_of hk) (fun _ _ => ?_)) | ((with_reducible refine Calmly.is_tail ?_); first | refine Calmly.mix_tail_nil ?_ | refine Calmly.mix_tail rfl (fun _ _ => ?_)) | ((with_reducible refine Calmly.is_kept ?_); refine ⟨kept_of hk, ?_⟩) | (with_reducible refine Calmly.mix_alt ?_ ?_))
        go_roundw
        case rel => exact ⟨k + 1, by omega, by go_num, by rw [HS1.out, HFK.out], hb2⟩
        case measure => simp [intOf]; omega
      · have hfk' : f k = 0 := by rw [hfk]; simp [enrE, wgt]
        have HFK := Lib.hid hfk'
        clear hfk hfk'
        go_wp2_with (first | ((with_reducible refine Calmly.is_fl ?_); refine Calmly.mix_fl rfl ?_ (fun _ _ => ?_); (first | exact .move _ | exact .load _ _ | exact .fieldAddr _ _ _ (by kernel_rfl) | exact .assign _ | exact .binOp _ _ _ _ _ rfl | exact .indexAddr _ _ _ | exact .len _ _ (by kernel_rfl) | exact .field _ _ _ | exact .extract _ _ | exact .pick _ _ _ | exact .build _ _ | exact .slice _ _ _ _ _ | exact .unOp _ _ _ rfl | exact .index _ _ _ | exact .max _ _ _ rfl rfl | exact .min _ _ _ rfl rfl | exact .nilCheck _ _ rfl)) | ((with_reducible refine Calmly.is_gl ?_); refine Calmly.mix_gl rfl rfl rfl ?_; first | ((first | with_reducible refine Calmly.gl_tt ?_ (fun _ _ => ?_) | with_reducible refine Calmly.gl_ff ?_ (fun _ _ => ?_)); (first | exact .move _ | exact .load _ _ | exact .fieldAddr _ _ _ (by kernel_rfl) | exact .assign _ | exact .binOp _ _ _ _ _ rfl | exact .indexAddr _ _ _ | exact .len _ _ (by kernel_rfl) | exact .field _ _ _ | exact .extract _ _ | exact .pick _ _ _ | exact .build _ _ | exact .slice _ _ _ _ _ | exact .unOp _ _ _ rfl | exact .index _ _ _ | exact .max _ _ _ rfl rfl | exact .min _ _ _ rfl rfl | exact .nilCheck _ _ rfl)) | with_reducible refine Calmly.gl_tf (fun _ _ => ?_) | with_reducible refine Calmly.gl_ft (fun _ _ => ?_)) | ((with_reducible refine Calmly.is_eff ?_); refine Calmly.mix_eff rfl (fun _ _ => ?_)) | ((with_reducible refine Calmly.is_gf ?_); refine Calmly.mix_gf rfl rfl rfl ?_; first | with_reducible refine Calmly.gf_tt (fun _ _ => ?_) | with_reducible refine Calmly.gf_ff (fun _ _ => ?_) | with_reducible refine Calmly.gf_tf (kept_of hk) (fun _ _ => ?_) | with_reducible refine Calmly.gf_ft (kept_of hk) (fun _ _ => ?_)) | ((with_reducible refine Calmly.is_tail ?_); first | refine Calmly.mix_tail_nil ?_ | refine Calmly.mix_tail rfl (fun _ _ => ?_)) | ((with_reducible refine Calmly.is_kept ?_); refine ⟨kept_of hk, ?_⟩) | (with_reducible refine Calmly.mix_alt ?_ ?_))
        go_roundw
        case rel => exact ⟨k + 1, by omega, by go_num, by rw [HS1.out, HFK.out, Int.add_zero], hb2⟩
        case measure => simp [intOf]; omega
    · have hle : (n : Int) ≤ (k : Int) := by omega
      obtain rfl : n = k := by omega
      clear hlt hk
      go_wp2_with fail
      go_ret
      exact ⟨rfl, hB2⟩
end Go.Proofs.Ytaiikekgckjdeaa
