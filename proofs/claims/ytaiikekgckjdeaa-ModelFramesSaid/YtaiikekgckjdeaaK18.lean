/- A value scaled. A value scaled to the model and to the full structure. The reference's beginning of a hold; whether holds are equal. -/
import Derived.Test.YtaiikekgckjdeaaK17
namespace Go.Proofs.Ytaiikekgckjdeaa
open Go.RowKit Go.Maps
open Calmly (Kept)

/-! ### Plain -/
/-- A number with small parts, of any sign. -/
def smQ (v : Rat) : Bool := decide (-1000000000 ≤ v.num) && decide (v.num ≤ 1000000000) && decide (v.den ≤ 1000000000)
def valE (x y : Int) : Int := firstE [unlessE (isLow x y) 3, unlessE (szd x 1000000000 && decide (y ≤ 1000000000)) 2]
/-- The number of a value, scaled by a factor. -/
def scR (x y : Int) (V : Rat) (pw : Int) : Rat := (x : Rat) / (y : Rat) * V ^ pw
def scH (F x y : Int) : Int := firstE [F, unlessE (isLow x y) 3, unlessE (szd x 1000000000 && decide (y ≤ 1000000000)) 2]
def scE (F x y : Int) (R : Rat) : Int := if scH F x y = 0 then unlessE (smQ R) 8 else scH F x y
theorem scH_ok {F x y : Int} (h : scH F x y = 0) : F = 0 ∧ (0 < y ∧ Int.gcd x y = 1) ∧ (-1000000000 ≤ x ∧ x ≤ 1000000000) ∧ y ≤ 1000000000 := by
  unfold scH at h
  by_cases hF : F = 0
  · cases h1 : isLow x y
    · simp [hF, h1, firstE, unlessE] at h
    · cases h2 : (szd x 1000000000 && decide (y ≤ 1000000000))
      · simp [hF, h1, h2, firstE, unlessE] at h
      · rw [isLow, Bool.and_eq_true, decide_eq_true_eq, beq_iff_eq] at h1
        rw [Bool.and_eq_true, decide_eq_true_eq] at h2
        exact ⟨hF, ⟨h1.1, by exact_mod_cast h1.2⟩, szd_iff.1 h2.1, h2.2⟩
  · simp [firstE, hF] at h
theorem pow_pm {p : Rat} {c pw : Int} (h : pw = 1 ∨ pw = -1) : p ^ (c * pw) = (p ^ c) ^ pw := by
  rcases h with rfl | rfl
  · rw [Int.mul_one, Rat.zpow_one]
  · rw [show c * -1 = -c by omega, Rat.zpow_neg, Rat.zpow_neg, Rat.zpow_one]
theorem doneQ_len {D : DataW Unit} {M : Int} {l : List (Nat × Int)} {w : World} {b n : Nat} {R : Value → Option (DataW Unit × List MemPlace)} {P : Program} {k : TypeId} (hQ : QV D M l) (h : w.ownsMap P k R b n D) : l.length ≤ n := by
  obtain ⟨es, clock, _, _, hs, hD⟩ := h
  have h1 := hQ.1
  rw [h1] at hD
  have h2 : (l.map (ent (H := Unit))).length = ((es.toList.map (WideElems.rg P k R)).foldr DataW.insert []).length := by
    injection hD with h3
    rw [h3]
  rw [(WideShapes.sorted_perm _).length_eq] at h2
  simp at h2
  omega
/-- What lies between two rounds of the range. -/
structure ScI (w : World) (mb ob r : Nat) (D : DataW Unit) (l : List (Nat × Int)) (base : Rat) (pw : Int) (left : Lit → Bool) (cnt : Nat) (wr : World) : Prop where
  rg : wr.ranges Try.prog 3 (plainElem Try.prog 3) mb r 180 D left cnt
  own : ∃ v, OwQ wr ob (60 + (doneQ l left).length) (240 + 720 * ((doneQ l left).length : Int)) v ∧ v = base * valQ (doneQ l left) ^ pw
  grown : w.grownBy wr (some ob)
theorem scI_step {w : World} {mb ob r : Nat} {D : DataW Unit} {l : List (Nat × Int)} {base : Rat} {pw : Int} {left : Lit → Bool} {cnt1 p : Nat} {c : Int} {M : Int} (hQ : QV D M l) (hmem : (p, c) ∈ l) (hlx : left (.int .i64 (p : Int)) = true) (hpw : pw = 1 ∨ pw = -1)
    {w1 w2 wr : World} {v v2 : Rat} (hrg : w2.ranges Try.prog 3 (plainElem Try.prog 3) mb r 180 D (fun z => left z && !z.sameKey (.int .i64 (p : Int))) cnt1) (hv : v = base * valQ (doneQ l left) ^ pw) (ho : OwQ w2 ob (60 + ((doneQ l left).length + 1)) (240 + 720 * (((doneQ l left).length + 1 : Nat) : Int)) v2) (hv2 : v2 = v * (p : Rat) ^ (c * pw))
    (hg : w.grownBy wr (some ob)) (hg1 : wr.grownBy w1 (some r)) (hg2 : w1.grownBy w2 (some ob)) (hr : w.heap.size ≤ r) : ScI w mb ob r D l base pw (fun z => left z && !z.sameKey (.int .i64 (p : Int))) cnt1 w2 := by
  have hperm := doneQ_step hQ.2.1.1 hmem hlx
  have hlen := hperm.length_eq
  rw [List.length_cons] at hlen
  refine ⟨hrg, ⟨v2, by rw [hlen]; exact ho, ?_⟩, ((hg.andThen hg1 (fun j hj => by cases hj; exact .inl hr)).andThen hg2 (fun j hj => .inr hj))⟩
  rw [hv2, hv, valQ_perm hperm, valQ, rat_mul_zpow, pow_pm hpw]
  grind
theorem firstE_last {a b c : Int} (hc : c ≠ 0) : firstE [a, b, c] ≠ 0 := by
  show (if a = 0 then (if b = 0 then (if c = 0 then 0 else c) else b) else a) ≠ 0
  split
  · split
    · first | assumption | (rw [if_neg hc]; exact hc)
    · assumption
  · assumption
theorem smQ_pos {A : Rat} (h : 0 ≤ A.num) : smQ A = fcOk A := by
  unfold smQ fcOk
  rw [show decide (-1000000000 ≤ A.num) = true by rw [decide_eq_true_eq]; omega, Bool.true_and]
theorem smQ_neg {A : Rat} (h : 0 ≤ A.num) : smQ (-A) = fcOk A := by
  unfold smQ fcOk
  rw [Rat.neg_num, Rat.neg_den, show decide (-A.num ≤ 1000000000) = true by rw [decide_eq_true_eq]; omega, Bool.and_true]
  congr 1
  rw [decide_eq_decide]
  omega
theorem scR_pos {x X y : Int} {V v : Rat} {pw : Int} (hx : X = x) (hv : v = 1 * (X : Rat) ^ (1 : Int) * (y : Rat) ^ (-1 : Int) * V ^ pw) : scR x y V pw = v := by
  subst hx
  rw [hv, scR, Rat.zpow_one, Rat.zpow_neg, Rat.zpow_one, Rat.div_def]
  grind
theorem scR_neg {x X y : Int} {V v : Rat} {pw : Int} (hx : X = -x) (hv : v = 1 * (X : Rat) ^ (1 : Int) * (y : Rat) ^ (-1 : Int) * V ^ pw) : scR x y V pw = -v := by
  obtain rfl : x = -X := by omega
  rw [hv, scR, Rat.zpow_one, Rat.zpow_neg, Rat.zpow_one, Rat.div_def, Rat.intCast_neg]
  grind
set_option maxRecDepth 100000 in
set_option maxHeartbeats 4000000 in
theorem scaled_any (n1 d1 n2 d2 n3 d3 a b c x y pw : Int) (w : World) (h1 : F64 n1 d1) (h2 : F64 n2 d2) (h3 : F64 n3 d3) (hxy : F64 x y) (hpw : pw = 1 ∨ pw = -1) (F : Int) (V R : Rat) (hF : facE n1 d1 n2 d2 n3 d3 a b c = F) (hV : facV n1 d1 n2 d2 n3 d3 a b c = V) (hR : scR x y V pw = R) :
    Calls Try.prog 109 #[.agg #[.int .i64 n1, .int .i64 d1, .int .i64 n2, .int .i64 d2, .int .i64 n3, .int .i64 d3], .agg #[.int .i64 a, .int .i64 b, .int .i64 c], .agg #[.int .i64 x, .int .i64 y], .int .i64 pw] w fun e w' => e = .returned (.tuple #[.agg #[.int .i64 (qN (scE F x y R) R), .int .i64 (qD (scE F x y R) R)], .int .i64 (scE F x y R)]) ∧ Below w.heap.size w w' := by
  have HF := Lib.hid hF
  have HV := Lib.hid hV
  have HR := Lib.hid hR
  clear hF hV hR
  obtain ⟨H, hH⟩ : ∃ H, scH F x y = H := ⟨_, rfl⟩
  have hE : scE F x y R = if H = 0 then unlessE (smQ R) 8 else H := by rw [scE, hH]
  have hH2 : firstE [F, unlessE (isLow x y) 3, unlessE (szd x 1000000000 && decide (y ≤ 1000000000)) 2] = H := hH
  have HH := Lib.hid hH
  have HH2 := Lib.hid hH2
  obtain ⟨E, hEE⟩ : ∃ E, scE F x y R = E := ⟨_, rfl⟩
  rw [hEE] at hE
  rw [hEE]
  have HE := Lib.hid hE
  clear hH hH2 hE hEE
  have y2 := blk_keep (alloc_new ((w.alloc (.cells #[.int .i64 n1, .int .i64 d1, .int .i64 n2, .int .i64 d2, .int .i64 n3, .int .i64 d3] 78)).alloc (.cells #[.int .i64 a, .int .i64 b, .int .i64 c] 79)) (.cells #[.int .i64 x, .int .i64 y] 77)) ((Below.refl _ _).alloc (Nat.le_refl _) (.cells #[.int .i64 0, .int .i64 0] 77))
  have y3 := alloc_new (((w.alloc (.cells #[.int .i64 n1, .int .i64 d1, .int .i64 n2, .int .i64 d2, .int .i64 n3, .int .i64 d3] 78)).alloc (.cells #[.int .i64 a, .int .i64 b, .int .i64 c] 79)).alloc (.cells #[.int .i64 x, .int .i64 y] 77)) (.cells #[.int .i64 0, .int .i64 0] 77)
  have BW : Below w.heap.size w ((((w.alloc (.cells #[.int .i64 n1, .int .i64 d1, .int .i64 n2, .int .i64 d2, .int .i64 n3, .int .i64 d3] 78)).alloc (.cells #[.int .i64 a, .int .i64 b, .int .i64 c] 79)).alloc (.cells #[.int .i64 x, .int .i64 y] 77)).alloc (.cells #[.int .i64 0, .int .i64 0] 77)) := ((((Below.refl _ _).alloc (Nat.le_refl _) _).alloc (by simp) _).alloc (by simp; omega) _).alloc (by simp; omega) _
  simp only [World.size_alloc] at y2 y3
  go_enter Try.func109, Try.ntmps109
  go_wp2_with fail
  generalize (((w.alloc (.cells #[.int .i64 n1, .int .i64 d1, .int .i64 n2, .int .i64 d2, .int .i64 n3, .int .i64 d3] 78)).alloc (.cells #[.int .i64 a, .int .i64 b, .int .i64 c] 79)).alloc (.cells #[.int .i64 x, .int .i64 y] 77)).alloc (.cells #[.int .i64 0, .int .i64 0] 77) = W at *
  have hwW := blk_lt y3
  refine (factor_any n1 d1 n2 d2 n3 d3 a b c W h1 h2 h3).mono ?_
  rintro e w1 ⟨mp, rfl, hFR⟩
  rw [HF.out, HV.out] at hFR
  rw [HF.out]
  have hs1 := hFR.bel
  replace y2 := blk_keep y2 hs1
  replace y3 := blk_keep y3 hs1
  replace BW := BW.trans (hs1.mono BW.size)
  go_wp2_with fail
  obtain ⟨sb, hsb⟩ : ∃ sb, szd x 1000000000 = sb := ⟨_, rfl⟩
  have hHsb := HH2.out
  rw [hsb] at hHsb
  have HH3 := Lib.hid hHsb
  clear hHsb
  refine Calmly.wp_region_mix 15 (.fl 0 <| .fl 1 <| .fl 4 <| .fl 5 <| .eff 2 <| .eff 3 <| .eff 6 <| .fl 7 <| .gl 8 <| .gl 9 <| .gl 10 <| .fl 11 <| .eff 12 <| .eff 13 <| .eff 14 <| .tail [15]) (by kernel_rfl) (by kernel_rfl) ?_
  replace y2 := blk_keep y2 (Below.refl _ _).drew
  replace y3 := blk_keep y3 (Below.refl _ _).drew
  replace BW := BW.drew
  have hFO : F = 0 → ∃ mb, mp = some mb ∧ W.heap.size ≤ mb ∧ OwQ w1.drew mb 180 720 V := fun h => by
    obtain ⟨mb, k1, k2, k3⟩ := hFR.own h
    exact ⟨mb, k1, k2, k3.keep (Below.refl _ _).drew⟩
  have HFO := Lib.hid hFO
  clear hFO hFR hs1
  generalize w1.drew = W1 at *
  have f0 := cell_block y2 0
  have f1 := cell_block y2 1
  have hk := Below.refl W1.heap.size W1
  rename_i K hK
  have hK' := fun a w (h : Stop _) => hK a w h.out
  clear hK
  cases sb
  · go_wp2_with (first | (go_at_call 106; refine (dLow_any x y _ hxy).mono ?_; rintro e w' ⟨rfl, hb⟩; replace hk := step_of hk hb; clear hb) | (go_at_call 82; refine (dUnless_any _ _ _).mono ?_; rintro e w' ⟨rfl, rfl⟩) | (go_at_call 117; refine (dSized_any x 1000000000 _ (by omega) (by omega)).mono ?_; rw [hsb]; rintro e w' ⟨rfl, rfl⟩) | (go_at_call 81; refine (dFirst_any _ 3 3 _ _ (SI.three _ _ _ _ _ rfl)).mono ?_; rintro e w' ⟨rfl, rfl⟩; rw [show firstE [F, unlessE (isLow x y) 3, unlessE false 2] = H from HH3.out]) | (refine kept_alloc hk (fun hk' hblk hge => ?_); replace hk := hk'; clear hk') | ((with_reducible refine Calmly.is_fl ?_); refine Calmly.mix_fl rfl ?_ (fun _ _ => ?_); (first | exact .move _ | exact .load _ _ | exact .fieldAddr _ _ _ (by kernel_rfl) | exact .assign _ | exact .binOp _ _ _ _ _ rfl | exact .indexAddr _ _ _ | exact .len _ _ (by kernel_rfl) | exact .field _ _ _ | exact .extract _ _ | exact .pick _ _ _ | exact .build _ _ | exact .slice _ _ _ _ _ | exact .unOp _ _ _ rfl | exact .index _ _ _ | exact .max _ _ _ rfl rfl | exact .min _ _ _ rfl rfl | exact .nilCheck _ _ rfl)) | ((with_reducible refine Calmly.is_gl ?_); refine Calmly.mix_gl rfl rfl rfl ?_; first | ((first | with_reducible refine Calmly.gl_tt ?_ (fun _ _ => ?_) | with_reducible refine Calmly.gl_ff ?_ (fun _ _ => ?_)); (first | exact .move _ | exact .load _ _ | exact .fieldAddr _ _ _ (by kernel_rfl) | exact .assign _ | exact .binOp _ _ _ _ _ rfl | exact .indexAddr _ _ _ | exact .len _ _ (by kernel_rfl) | exact .field _ _ _ | exact .extract _ _ | exact .pick _ _ _ | exact .build _ _ | exact .slice _ _ _ _ _ | exact .unOp _ _ _ rfl | exact .index _ _ _ | exact .max _ _ _ rfl rfl | exact .min _ _ _ rfl rfl | exact .nilCheck _ _ rfl)) | with_reducible refine Calmly.gl_tf (fun _ _ => ?_) | with_reducible refine Calmly.gl_ft (fun _ _ => ?_)) | ((with_reducible refine Calmly.is_eff ?_); refine Calmly.mix_eff rfl (fun _ _ => ?_)) | ((with_reducible refine Calmly.is_gf ?_); refine Calmly.mix_gf rfl rfl rfl ?_; first | with_reducible refine Calmly.gf_tt (fun _ _ => ?_) | with_reducible refine Calmly.gf_ff (fun _ _ => ?_) | with_reducible refine Calmly.gf_tf (kept_of hk) (fun _ _ => ?_) | with_reducible refine Calmly.gf_ft (kept_of hk) (fun _ _ => ?_)) | ((with_reducible refine Calmly.is_tail ?_); first | refine Calmly.mix_tail_nil ?_ | refine Calmly.mix_tail rfl (fun _ _ => ?_)) | ((with_reducible refine Calmly.is_kept ?_); refine ⟨kept_of hk, ?_⟩) | (with_reducible refine Calmly.mix_alt ?_ ?_))
    refine ⟨?_⟩
    have hz : H ≠ 0 := by
      rw [← HH3.out]
      exact firstE_last (by simp [unlessE])
    have z3 := blk_keep y3 hk
    have BW2 := BW.trans (hk.mono BW.size)
    generalize World.alloc _ _ = W2 at *
    have g0 := cell_block z3 0
    have g1 := cell_block z3 1
    have g2 := frozen_block z3 0
    have g3 := frozen_block z3 1
    have b1 : (H != 0) = true := by simpa using hz
    have HZ := Lib.hid hz
    clear hz
    go_wp2_with fail
    have q0 := setBlk (setBlk z3 0 (.int .i64 0)) 1 (.int .i64 0)
    simp at q0
    have c0 := cell_block q0 0
    have c1 := cell_block q0 1
    have hw : w.heap.size ≤ w.heap.size + 1 + 1 + 1 := by omega
    have he : E = H := by rw [HE.out, if_neg HZ.out]
    refine bodyPost_ret (v := .tuple #[.agg #[.int .i64 0, .int .i64 0], .int .i64 H]) (by simp [results, Try.results109, go_sem, c0, c1]) rfl ⟨by rw [he, qN, qD, if_neg HZ.out, if_neg HZ.out], (BW2.setCell (by exact hw) _).setCell (by exact hw) _⟩
  · go_wp2_with (first | (go_at_call 106; refine (dLow_any x y _ hxy).mono ?_; rintro e w' ⟨rfl, hb⟩; replace hk := step_of hk hb; clear hb) | (go_at_call 82; refine (dUnless_any _ _ _).mono ?_; rintro e w' ⟨rfl, rfl⟩) | (go_at_call 117; refine (dSized_any x 1000000000 _ (by omega) (by omega)).mono ?_; rw [hsb]; rintro e w' ⟨rfl, rfl⟩) | (go_at_call 81; refine (dFirst_any _ 3 3 _ _ (SI.three _ _ _ _ _ rfl)).mono ?_; rintro e w' ⟨rfl, rfl⟩; rw [show firstE [F, unlessE (isLow x y) 3, unlessE (decide (y ≤ 1000000000)) 2] = H from HH3.out]) | (refine kept_alloc hk (fun hk' hblk hge => ?_); replace hk := hk'; clear hk') | ((with_reducible refine Calmly.is_fl ?_); refine Calmly.mix_fl rfl ?_ (fun _ _ => ?_); (first | exact .move _ | exact .load _ _ | exact .fieldAddr _ _ _ (by kernel_rfl) | exact .assign _ | exact .binOp _ _ _ _ _ rfl | exact .indexAddr _ _ _ | exact .len _ _ (by kernel_rfl) | exact .field _ _ _ | exact .extract _ _ | exact .pick _ _ _ | exact .build _ _ | exact .slice _ _ _ _ _ | exact .unOp _ _ _ rfl | exact .index _ _ _ | exact .max _ _ _ rfl rfl | exact .min _ _ _ rfl rfl | exact .nilCheck _ _ rfl)) | ((with_reducible refine Calmly.is_gl ?_); refine Calmly.mix_gl rfl rfl rfl ?_; first | ((first | with_reducible refine Calmly.gl_tt ?_ (fun _ _ => ?_) | with_reducible refine Calmly.gl_ff ?_ (fun _ _ => ?_)); (first | exact .move _ | exact .load _ _ | exact .fieldAddr _ _ _ (by kernel_rfl) | exact .assign _ | exact .binOp _ _ _ _ _ rfl | exact .indexAddr _ _ _ | exact .len _ _ (by kernel_rfl) | exact .field _ _ _ | exact .extract _ _ | exact .pick _ _ _ | exact .build _ _ | exact .slice _ _ _ _ _ | exact .unOp _ _ _ rfl | exact .index _ _ _ | exact .max _ _ _ rfl rfl | exact .min _ _ _ rfl rfl | exact .nilCheck _ _ rfl)) | with_reducible refine Calmly.gl_tf (fun _ _ => ?_) | with_reducible refine Calmly.gl_ft (fun _ _ => ?_)) | ((with_reducible refine Calmly.is_eff ?_); refine Calmly.mix_eff rfl (fun _ _ => ?_)) | ((with_reducible refine Calmly.is_gf ?_); refine Calmly.mix_gf rfl rfl rfl ?_; first | with_reducible refine Calmly.gf_tt (fun _ _ => ?_) | with_reducible refine Calmly.gf_ff (fun _ _ => ?_) | with_reducible refine Calmly.gf_tf (kept_of hk) (fun _ _ => ?_) | with_reducible refine Calmly.gf_ft (kept_of hk) (fun _ _ => ?_)) | ((with_reducible refine Calmly.is_tail ?_); first | refine Calmly.mix_tail_nil ?_ | refine Calmly.mix_tail rfl (fun _ _ => ?_)) | ((with_reducible refine Calmly.is_kept ?_); refine ⟨kept_of hk, ?_⟩) | (with_reducible refine Calmly.mix_alt ?_ ?_))
    refine ⟨?_⟩
    by_cases hz : H = 0
    case neg =>
      have z3 := blk_keep y3 hk
      have BW2 := BW.trans (hk.mono BW.size)
      generalize World.alloc _ _ = W2 at *
      have g0 := cell_block z3 0
      have g1 := cell_block z3 1
      have g2 := frozen_block z3 0
      have g3 := frozen_block z3 1
      have b1 : (H != 0) = true := by simpa using hz
      have HZ := Lib.hid hz
      clear hz
      go_wp2_with fail
      have q0 := setBlk (setBlk z3 0 (.int .i64 0)) 1 (.int .i64 0)
      simp at q0
      have c0 := cell_block q0 0
      have c1 := cell_block q0 1
      have hw : w.heap.size ≤ w.heap.size + 1 + 1 + 1 := by omega
      have he : E = H := by rw [HE.out, if_neg HZ.out]
      refine bodyPost_ret (v := .tuple #[.agg #[.int .i64 0, .int .i64 0], .int .i64 H]) (by simp [results, Try.results109, go_sem, c0, c1]) rfl ⟨by rw [he, qN, qD, if_neg HZ.out, if_neg HZ.out], (BW2.setCell (by exact hw) _).setCell (by exact hw) _⟩
    case pos =>
      obtain ⟨hF0, ⟨hy0, hg1⟩, hx9, hy9⟩ := scH_ok (HH.out.trans hz)
      obtain ⟨mb, rfl, hmb, hO⟩ := HFO.out hF0
      have z2 := blk_keep y2 hk
      have z3 := blk_keep y3 hk
      have hO2 := hO.keep hk
      have BW2 := BW.trans (hk.mono BW.size)
      have HG := Lib.hid hg1
      clear hg1 hO hF0 y2 y3 BW hblk hk
      generalize World.alloc _ _ = W2 at *
      have g0 := cell_block z2 0
      have g1 := cell_block z2 1
      have b1 : (H != 0) = false := by rw [hz]; rfl
      have HZ := Lib.hid hz
      clear hz
      have hE : E = unlessE (smQ R) 8 := by rw [HE.out, if_pos HZ.out]
      have HE2 := Lib.hid hE
      clear hE
      by_cases hx0 : x = 0
      · have b2 : (x == 0) = true := by simpa using hx0
        have g2 := cell_block z3 0
        have g3 := cell_block z3 1
        have g4 := frozen_block z3 0
        have g5 := frozen_block z3 1
        have hy1 : y = 1 := by
          have h5 := HG.out
          rw [hx0] at h5
          simp at h5
          omega
        have hr0 : R = 0 := by
          rw [← HR.out, scR, hx0]
          simp [Rat.div_def]
        have hE0 : E = 0 := by rw [HE2.out, hr0]; rfl
        have HX0 := Lib.hid hx0
        have HY1 := Lib.hid hy1
        have HR0 := Lib.hid hr0
        have HE0 := Lib.hid hE0
        clear hx0 hy1 hr0 hE0
        go_wp2_with fail
        have q0 := setBlk (setBlk z3 0 (.int .i64 x)) 1 (.int .i64 y)
        simp at q0
        have c0 := cell_block q0 0
        have c1 := cell_block q0 1
        have hw : w.heap.size ≤ w.heap.size + 1 + 1 + 1 := by omega
        refine bodyPost_ret (v := .tuple #[.agg #[.int .i64 x, .int .i64 y], .int .i64 0]) (by simp [results, Try.results109, go_sem, c0, c1]) rfl ⟨by rw [HE0.out, qN, qD, if_pos rfl, if_pos rfl, HR0.out, HX0.out, HY1.out]; rfl, (BW2.setCell (by exact hw) _).setCell (by exact hw) _⟩
      · have b2 : (x == 0) = false := by simpa using hx0
        obtain ⟨X, e1⟩ : ∃ X, (if x < -x then -x else x) = X := ⟨_, rfl⟩
        have hX : (0 < x ∧ X = x) ∨ (x < 0 ∧ X = -x) := by rw [← e1]; split <;> omega
        have hX1 : 1 ≤ X ∧ X ≤ 1000000000 := by omega
        have HXX := Lib.hid hX
        clear hX hx0
        have hmm := @run_makeMap Try.prog
        have BM := (Below.refl W2.heap.size W2).alloc (Nat.le_refl _) (.map #[] 0)
        have hOo := OwQ.new W2
        have hmlt := hO2.lt
        have hzs := blk_lt z3
        replace hO2 := hO2.keep BM
        replace z2 := blk_keep z2 BM
        replace z3 := blk_keep z3 BM
        replace BW2 := BW2.trans (BM.mono BW2.size)
        have m0 := cell_block z2 0
        have m1 := cell_block z2 1
        clear f0 f1 hge
        go_wp2_with fail
        obtain ⟨ob, hob⟩ : ∃ ob, W2.heap.size = ob := ⟨_, rfl⟩
        rw [hob] at hOo hmlt hzs ⊢
        generalize W2.alloc (.map #[] 0) = W4 at *
        refine (timesI_any ob 0 X 1 0 1 _ hOo hX1 (by omega) (by omega) (by omega)).mono ?_
        rintro e w5 ⟨rfl, hO5, hg5⟩
        replace hO2 := hO2.kept hg5 (by intro h; injection h with h; omega)
        replace z2 := (hg5.block _ (blk_lt z2) (by intro h; injection h with h; omega)).trans z2
        replace z3 := (hg5.block _ (blk_lt z3) (by intro h; injection h with h; omega)).trans z3
        replace BW2 := BW2.trans (grown_below hg5 BW2.size (fun j e => by cases e; omega))
        replace g0 := cell_block z2 0
        replace g1 := cell_block z2 1
        go_wp2_with fail
        refine (timesI_any ob (0 + 30) y (-1) (0 + 120) _ _ hO5 (by omega) (by omega) (by omega) (by omega)).mono ?_
        rintro e w6 ⟨rfl, hO6, hg6⟩
        replace hO2 := hO2.kept hg6 (by intro h; injection h with h; omega)
        replace z2 := (hg6.block _ (blk_lt z2) (by intro h; injection h with h; omega)).trans z2
        replace z3 := (hg6.block _ (blk_lt z3) (by intro h; injection h with h; omega)).trans z3
        replace BW2 := BW2.trans (grown_below hg6 BW2.size (fun j e => by cases e; omega))
        clear g0 g1 m0 m1 hO5 hg5 hg6
        obtain ⟨base, hbase⟩ : ∃ base, (1 : Rat) * (X : Rat) ^ (1 : Int) * (y : Rat) ^ (-1 : Int) = base := ⟨_, rfl⟩
        rw [hbase] at hO6
        obtain ⟨D, l, hown, hQ, hVl⟩ := hO2
        have hlen := doneQ_len hQ hown
        have hQb := hQ.2.2
        have hobs := hO6.lt
        go_wp2_with (first | (at_range; refine wpList_range_own _ rfl _ 164 rfl 3 3 lawI Try.underlying164 _ mb 180 D rfl hown ?_; intro w0 hrg0 hg0 hs0))
        go_frame
        have hI : ScI w6 mb ob w6.heap.size D l base pw (Maps.has D) (Maps.size D) w0 := by
          refine ⟨hrg0, ⟨base, ?_, ?_⟩, hg0.but _⟩
          · rw [doneQ_start hQ]
            exact (hO6.kept hg0 (by simp)).mono (by simp) (by simp)
          · rw [doneQ_start hQ, valQ, one_zpow', Rat.mul_one]
        have HQ := Lib.hid hQ
        have HB := Lib.hid hbase
        have HVL := Lib.hid hVl
        have HQB := Lib.hid hQb
        have hpwb : -1 ≤ pw ∧ pw ≤ 1 := by omega
        clear hQ hbase hVl hQb hrg0 hg0 hs0 hown hO6
        go_loopw [13] (fun _ wr => ∃ left cnt, ScI w6 mb ob w6.heap.size D l base pw left cnt wr) (fun _ wr => wr.rangeLeft mb w6.heap.size)
        case atStart => exact ⟨_, _, hI⟩
        case round =>
          clear hI
          obtain ⟨left, cnt, hI⟩ := hrel
          have hrg := hI.rg
          have HI := Lib.hid hI
          clear hI
          go_wp2_with (first | (at_next; refine wpList_next_ranges_ii _ rfl _ rfl 3 3 .i64 .i64 lawI Try.underlying3 Try.underlying3 mb w6.heap.size 180 _ _ _ rfl hrg ?_ ?_))
          · intro _ hl0
            have hI := HI.out
            have e2 : doneQ l left = l := doneQ_end hl0
            obtain ⟨v, hO, hv⟩ := hI.own
            rw [e2] at hO hv
            rw [HVL.out, ← HB.out] at hv
            have hA : 0 ≤ v.num := by
              obtain ⟨D', l', _, hQ', rfl⟩ := hO
              rw [(valQ_num hQ'.2.1).1]
              omega
            have k2 := (hI.grown.block _ (blk_lt z2) (by intro h; injection h with h; omega)).trans z2
            have k3 := (hI.grown.block _ (blk_lt z3) (by intro h; injection h with h; omega)).trans z3
            have hB := BW2.trans (grown_below hI.grown BW2.size (fun j e => by cases e; omega))
            have hRv : (0 < x ∧ R = v) ∨ (x < 0 ∧ R = -v) := HXX.out.imp (fun h => ⟨h.1, HR.out.symm.trans (scR_pos h.2 hv)⟩) (fun h => ⟨h.1, HR.out.symm.trans (scR_neg h.2 hv)⟩)
            have hE : E = unlessE (fcOk v) 8 := by
              rw [HE2.out]
              rcases hRv with ⟨_, h⟩ | ⟨_, h⟩
              · rw [h, smQ_pos hA]
              · rw [h, smQ_neg hA]
            have HE3 := Lib.hid hE
            have HRV := Lib.hid hRv
            clear hE hRv hv e2
            go_wp2_with fail
            refine (frac_any ob _ _ v _ hO (by omega)).mono ?_
            rintro e w8 ⟨rfl, hs8⟩
            replace k2 := blk_keep k2 hs8
            replace k3 := blk_keep k3 hs8
            replace hB := hB.trans (hs8.mono hB.size)
            have hw8 := hB.size
            clear hs8 hI hO
            have hw : w.heap.size ≤ w.heap.size + 1 + 1 + 1 := by omega
            cases hok : fcOk v
            · rw [show fcN v = 0 by rw [fcN, hok]; rfl, show fcD v = 0 by rw [fcD, hok]; rfl]
              have BF := (Below.refl w8.heap.size w8).alloc (Nat.le_refl _) (.cells #[.int .i64 0, .int .i64 0] 77)
              replace k2 := blk_keep k2 BF
              replace k3 := blk_keep k3 BF
              replace hB := hB.trans (BF.mono hB.size)
              have g2 := cell_block k3 0
              have g3 := cell_block k3 1
              have g4 := frozen_block k3 0
              have g5 := frozen_block k3 1
              have hE8 := HE3.out
              rw [hok] at hE8
              have HE8 := Lib.hid hE8
              clear hE8 hok
              go_wp2_with fail
              have q0 := setBlk (setBlk k3 0 (.int .i64 0)) 1 (.int .i64 0)
              simp at q0
              have c0 := cell_block q0 0
              have c1 := cell_block q0 1
              refine bodyPost_ret (v := .tuple #[.agg #[.int .i64 0, .int .i64 0], .int .i64 8]) (by simp [results, Try.results109, go_sem, c0, c1]) rfl ⟨?_, (hB.setCell (by exact hw) _).setCell (by exact hw) _⟩
              rw [HE8.out]
              rfl
            · have hE0 : E = 0 := by rw [HE3.out, hok]; rfl
              have HE0 := Lib.hid hE0
              have hsm : v.num ≤ 1000000000 := by
                unfold fcOk at hok
                rw [Bool.and_eq_true, decide_eq_true_eq] at hok
                exact hok.1
              rw [show fcN v = v.num by rw [fcN, hok]; rfl, show fcD v = (v.den : Int) by rw [fcD, hok]; rfl]
              obtain ⟨vn, hvn⟩ : ∃ t, v.num = t := ⟨_, rfl⟩
              obtain ⟨vd, hvd⟩ : ∃ t, (v.den : Int) = t := ⟨_, rfl⟩
              rw [hvn] at hA hsm ⊢
              rw [hvd]
              have HVN := Lib.hid hvn
              have HVD := Lib.hid hvd
              clear hvn hvd hE0 hok
              have BF := (Below.refl w8.heap.size w8).alloc (Nat.le_refl _) (.cells #[.int .i64 vn, .int .i64 vd] 77)
              rcases HRV.out with ⟨hxs, hr⟩ | ⟨hxs, hr⟩
              · have HRr := Lib.hid hr
                clear hr
                replace k2 := blk_keep k2 BF
                replace k3 := blk_keep k3 BF
                replace hB := hB.trans (BF.mono hB.size)
                have g0 := cell_block k2 0
                have g2 := cell_block k3 0
                have g3 := cell_block k3 1
                have g4 := frozen_block k3 0
                have g5 := frozen_block k3 1
                go_wp2_with fail
                have q0 := setBlk (setBlk k3 0 (.int .i64 vn)) 1 (.int .i64 vd)
                simp at q0
                have c0 := cell_block q0 0
                have c1 := cell_block q0 1
                refine bodyPost_ret (v := .tuple #[.agg #[.int .i64 vn, .int .i64 vd], .int .i64 0]) (by simp [results, Try.results109, go_sem, c0, c1]) rfl ⟨?_, (hB.setCell (by exact hw) _).setCell (by exact hw) _⟩
                rw [HE0.out, qN, qD, if_pos rfl, if_pos rfl, HRr.out, HVN.out, HVD.out]
              · have HRr := Lib.hid hr
                clear hr
                have g0 := cell_block (blk_keep k2 BF) 0
                have BG := (Below.refl w8.heap.size w8).alloc (Nat.le_refl _) (.cells #[.int .i64 (-vn), .int .i64 vd] 77)
                replace k3 := blk_keep k3 BG
                replace hB := hB.trans (BG.mono hB.size)
                have g2 := cell_block k3 0
                have g3 := cell_block k3 1
                have g4 := frozen_block k3 0
                have g5 := frozen_block k3 1
                go_wp2_with fail
                have q0 := setBlk (setBlk k3 0 (.int .i64 (-vn))) 1 (.int .i64 vd)
                simp at q0
                have c0 := cell_block q0 0
                have c1 := cell_block q0 1
                refine bodyPost_ret (v := .tuple #[.agg #[.int .i64 (-vn), .int .i64 vd], .int .i64 0]) (by simp [results, Try.results109, go_sem, c0, c1]) rfl ⟨?_, (hB.setCell (by exact hw) _).setCell (by exact hw) _⟩
                rw [HE0.out, qN, qD, if_pos rfl, if_pos rfl, HRr.out, Rat.neg_num, Rat.neg_den, HVN.out, HVD.out]
          · intro k c w7 cnt1 hwx hwc hlx hat hrg1 hlt1 hg1 hs1 hen
            obtain ⟨p, rfl, hmem⟩ := HQ.out.came hat
            have hprm := HQ.out.2.1.2 _ hmem
            have hb9 := HQB.out _ hmem
            dsimp only at hprm hb9
            have hI := HI.out
            obtain ⟨v, ⟨D', l', hown', hQ', rfl⟩, hv⟩ := hI.own
            have hll : (doneQ l left).length ≤ l.length := List.length_filter_le _ _
            have hown1 := hown'.kept hg1 (by intro h; injection h with h; omega)
            have hwf : (Lit.int .i64 (p : Int)).wf = true := hwx
            have hex := exQ_bd hQ' (by omega) p
            have hcp : -720 ≤ c * pw ∧ c * pw ≤ 720 := by
              rcases hpw with rfl | rfl <;> omega
            have hcnt : w7.rangeLeft mb w6.heap.size < wr.rangeLeft mb w6.heap.size := by rw [hrg1.left_eq, hrg.left_eq]; exact hlt1
            have HQ' := Lib.hid hQ'
            have HV2 := Lib.hid hv
            have HP := Lib.hid hprm
            have HG1 := Lib.hid hg1
            have HLX := Lib.hid hlx
            have HRG := Lib.hid hrg1
            have HCNT := Lib.hid hcnt
            have HPW := Lib.hid hpw
            clear hQ' hv hprm hlx hat hrg hI hown' hcnt hlt1 hpw
            go_wp2_with (first | (at_lookup; refine wpList_lookup_own_int _ rfl _ _ 164 rfl 3 3 .i64 lawI Try.underlying164 Try.underlying3 (zeroI _) ob _ D' rfl hown1 _ _ rfl (keyOf_int_mk Try.underlying3 hwf) ?_; intro x0 hat2 hwx0; obtain rfl : exQ l' p = x0 := (by have h1 := hat2; rw [HQ'.out.1, atKey_ent] at h1; simpa using h1)) | (at_mapUpdate; refine wpList_mapUpdate_own _ rfl _ _ _ 164 rfl 3 3 lawI Try.underlying164 _ ob _ D' rfl hown1 (by unfold maxLen; omega) _ _ _ rfl rfl (keyOf_int_mk Try.underlying3 hwf) _ [] (plainElem_int Try.underlying3 (wf64 (by omega))) ?_; intro w9 hown2 hgrow2; go_frame))
            go_roundw
            case rel =>
              obtain ⟨l2, hQ2, hv2⟩ := HQ'.out.put (M' := 240 + 720 * (((doneQ l left).length + 1 : Nat) : Int)) HP.out hb9.1 (c := c * pw) (by omega) (by omega)
              exact ⟨_, cnt1, scI_step HQ.out hmem HLX.out HPW.out (HRG.out.kept hgrow2 (by intro h; injection h with h; omega) (by intro h; injection h with h; omega)) HV2.out ⟨_, l2, hown2, hQ2, rfl⟩ hv2 HI.out.grown HG1.out hgrow2 (Nat.le_refl _)⟩
            case measure =>
              have hk := HRG.out.kept hgrow2 (by intro h; injection h with h; omega) (by intro h; injection h with h; omega)
              rw [hk.left_eq, ← HRG.out.left_eq]
              exact HCNT.out
end Go.Proofs.Ytaiikekgckjdeaa

namespace Go.Proofs.Ytaiikekgckjdeaa
open Go.RowKit Go.Maps
open Calmly (Kept)
set_option maxHeartbeats 1000000 in
theorem ToModel_any (n1 d1 n2 d2 n3 d3 a b c x y : Int) (w : World) (h1 : F64 n1 d1) (h2 : F64 n2 d2) (h3 : F64 n3 d3) (hxy : F64 x y) (F : Int) (V R : Rat) (hF : facE n1 d1 n2 d2 n3 d3 a b c = F) (hV : facV n1 d1 n2 d2 n3 d3 a b c = V) (hR : scR x y V (1) = R) :
    Calls Try.prog 47 #[.agg #[.int .i64 n1, .int .i64 d1, .int .i64 n2, .int .i64 d2, .int .i64 n3, .int .i64 d3], .agg #[.int .i64 a, .int .i64 b, .int .i64 c], .agg #[.int .i64 x, .int .i64 y]] w fun e w' => e = .returned (.tuple #[.agg #[.int .i64 (qN (scE F x y R) R), .int .i64 (qD (scE F x y R) R)], .int .i64 (scE F x y R)]) ∧ Below w.heap.size w w' := by
  have y3 := alloc_new (((w.alloc (.cells #[.int .i64 n1, .int .i64 d1, .int .i64 n2, .int .i64 d2, .int .i64 n3, .int .i64 d3] 78)).alloc (.cells #[.int .i64 a, .int .i64 b, .int .i64 c] 79)).alloc (.cells #[.int .i64 x, .int .i64 y] 77)) (.cells #[.int .i64 0, .int .i64 0] 77)
  have BW : Below w.heap.size w ((((w.alloc (.cells #[.int .i64 n1, .int .i64 d1, .int .i64 n2, .int .i64 d2, .int .i64 n3, .int .i64 d3] 78)).alloc (.cells #[.int .i64 a, .int .i64 b, .int .i64 c] 79)).alloc (.cells #[.int .i64 x, .int .i64 y] 77)).alloc (.cells #[.int .i64 0, .int .i64 0] 77)) := ((((Below.refl _ _).alloc (Nat.le_refl _) _).alloc (by simp) _).alloc (by simp; omega) _).alloc (by simp; omega) _
  simp only [World.size_alloc] at y3
  have HF := Lib.hid hF
  have HV := Lib.hid hV
  have HR := Lib.hid hR
  clear hF hV hR
  obtain ⟨E, hE⟩ : ∃ E, scE F x y R = E := ⟨_, rfl⟩
  have HE := Lib.hid hE
  rw [hE]
  clear hE
  go_enter Try.func47, Try.ntmps47
  go_wp2_with fail
  generalize (((w.alloc (.cells #[.int .i64 n1, .int .i64 d1, .int .i64 n2, .int .i64 d2, .int .i64 n3, .int .i64 d3] 78)).alloc (.cells #[.int .i64 a, .int .i64 b, .int .i64 c] 79)).alloc (.cells #[.int .i64 x, .int .i64 y] 77)).alloc (.cells #[.int .i64 0, .int .i64 0] 77) = W at *
  refine (scaled_any n1 d1 n2 d2 n3 d3 a b c x y (1) W h1 h2 h3 hxy (by omega) F V R HF.out HV.out HR.out).mono ?_
  rintro e w1 ⟨rfl, hs1⟩
  rw [HE.out]
  replace y3 := blk_keep y3 hs1
  replace BW := BW.trans (hs1.mono BW.size)
  obtain ⟨vn, hvn⟩ : ∃ t, qN E R = t := ⟨_, rfl⟩
  obtain ⟨vd, hvd⟩ : ∃ t, qD E R = t := ⟨_, rfl⟩
  rw [hvn, hvd]
  have HVN := Lib.hid hvn
  have HVD := Lib.hid hvd
  clear hvn hvd
  have g0 := cell_block y3 0
  have g1 := cell_block y3 1
  have g2 := frozen_block y3 0
  have g3 := frozen_block y3 1
  have hw : w.heap.size ≤ w.heap.size + 1 + 1 + 1 := by omega
  go_wp2_with fail
  have q0 := setBlk (setBlk y3 0 (.int .i64 vn)) 1 (.int .i64 vd)
  simp at q0
  have c0 := cell_block q0 0
  have c1 := cell_block q0 1
  refine bodyPost_ret (v := .tuple #[.agg #[.int .i64 vn, .int .i64 vd], .int .i64 E]) (by simp [results, Try.results47, go_sem, c0, c1]) rfl ⟨by rw [HVN.out, HVD.out], (BW.setCell (by exact hw) _).setCell (by exact hw) _⟩
set_option maxHeartbeats 1000000 in
theorem ToFull_any (n1 d1 n2 d2 n3 d3 a b c x y : Int) (w : World) (h1 : F64 n1 d1) (h2 : F64 n2 d2) (h3 : F64 n3 d3) (hxy : F64 x y) (F : Int) (V R : Rat) (hF : facE n1 d1 n2 d2 n3 d3 a b c = F) (hV : facV n1 d1 n2 d2 n3 d3 a b c = V) (hR : scR x y V (-1) = R) :
    Calls Try.prog 48 #[.agg #[.int .i64 n1, .int .i64 d1, .int .i64 n2, .int .i64 d2, .int .i64 n3, .int .i64 d3], .agg #[.int .i64 a, .int .i64 b, .int .i64 c], .agg #[.int .i64 x, .int .i64 y]] w fun e w' => e = .returned (.tuple #[.agg #[.int .i64 (qN (scE F x y R) R), .int .i64 (qD (scE F x y R) R)], .int .i64 (scE F x y R)]) ∧ Below w.heap.size w w' := by
  have y3 := alloc_new (((w.alloc (.cells #[.int .i64 n1, .int .i64 d1, .int .i64 n2, .int .i64 d2, .int .i64 n3, .int .i64 d3] 78)).alloc (.cells #[.int .i64 a, .int .i64 b, .int .i64 c] 79)).alloc (.cells #[.int .i64 x, .int .i64 y] 77)) (.cells #[.int .i64 0, .int .i64 0] 77)
  have BW : Below w.heap.size w ((((w.alloc (.cells #[.int .i64 n1, .int .i64 d1, .int .i64 n2, .int .i64 d2, .int .i64 n3, .int .i64 d3] 78)).alloc (.cells #[.int .i64 a, .int .i64 b, .int .i64 c] 79)).alloc (.cells #[.int .i64 x, .int .i64 y] 77)).alloc (.cells #[.int .i64 0, .int .i64 0] 77)) := ((((Below.refl _ _).alloc (Nat.le_refl _) _).alloc (by simp) _).alloc (by simp; omega) _).alloc (by simp; omega) _
  simp only [World.size_alloc] at y3
  have HF := Lib.hid hF
  have HV := Lib.hid hV
  have HR := Lib.hid hR
  clear hF hV hR
  obtain ⟨E, hE⟩ : ∃ E, scE F x y R = E := ⟨_, rfl⟩
  have HE := Lib.hid hE
  rw [hE]
  clear hE
  go_enter Try.func48, Try.ntmps48
  go_wp2_with fail
  generalize (((w.alloc (.cells #[.int .i64 n1, .int .i64 d1, .int .i64 n2, .int .i64 d2, .int .i64 n3, .int .i64 d3] 78)).alloc (.cells #[.int .i64 a, .int .i64 b, .int .i64 c] 79)).alloc (.cells #[.int .i64 x, .int .i64 y] 77)).alloc (.cells #[.int .i64 0, .int .i64 0] 77) = W at *
  refine (scaled_any n1 d1 n2 d2 n3 d3 a b c x y (-1) W h1 h2 h3 hxy (by omega) F V R HF.out HV.out HR.out).mono ?_
  rintro e w1 ⟨rfl, hs1⟩
  rw [HE.out]
  replace y3 := blk_keep y3 hs1
  replace BW := BW.trans (hs1.mono BW.size)
  obtain ⟨vn, hvn⟩ : ∃ t, qN E R = t := ⟨_, rfl⟩
  obtain ⟨vd, hvd⟩ : ∃ t, qD E R = t := ⟨_, rfl⟩
  rw [hvn, hvd]
  have HVN := Lib.hid hvn
  have HVD := Lib.hid hvd
  clear hvn hvd
  have g0 := cell_block y3 0
  have g1 := cell_block y3 1
  have g2 := frozen_block y3 0
  have g3 := frozen_block y3 1
  have hw : w.heap.size ≤ w.heap.size + 1 + 1 + 1 := by omega
  go_wp2_with fail
  have q0 := setBlk (setBlk y3 0 (.int .i64 vn)) 1 (.int .i64 vd)
  simp at q0
  have c0 := cell_block q0 0
  have c1 := cell_block q0 1
  refine bodyPost_ret (v := .tuple #[.agg #[.int .i64 vn, .int .i64 vd], .int .i64 E]) (by simp [results, Try.results48, go_sem, c0, c1]) rfl ⟨by rw [HVN.out, HVD.out], (BW.setCell (by exact hw) _).setCell (by exact hw) _⟩
end Go.Proofs.Ytaiikekgckjdeaa

namespace Go.Proofs.Ytaiikekgckjdeaa
open Go.RowKit
open Calmly (Kept)
set_option maxRecDepth 100000 in
set_option maxHeartbeats 1000000 in
theorem rBegin_any (a : Option Addr) (n c : Nat) (l : List El) (w : World) (h1 : SEl w a n c l) (hn : n ≤ 1000) :
    Calls Try.prog 25 #[.slice a n c] w fun e w' => ∃ av, e = .returned (.agg #[.int .i64 0, .slice av n n]) ∧ OwS w' w.heap.size av n n (List.replicate n sp0) ∧ Below w.heap.size w w' := by
  have m1 := h1.max
  have c1 := h1.cap
  go_enter Try.func25, Try.ntmps25
  have y0 := alloc_new w (.cells #[.int .i64 0, .slice none 0 0] 49)
  have BW : Below w.heap.size w (w.alloc (.cells #[.int .i64 0, .slice none 0 0] 49)) := (Below.refl _ _).alloc (Nat.le_refl _) _
  have hsz : (w.alloc (.cells #[.int .i64 0, .slice none 0 0] 49)).heap.size = w.heap.size + 1 := by simp
  have HS := Lib.hid hsz
  clear hsz
  go_wp2_with (refine makeS (n := n) rfl _ _ rfl rfl rfl rfl (by omega) (fun w2 ho hb hlt => ?_); have k0 := blk_keep y0 hb; have c0 := cell_block k0 0; have c1 := cell_block k0 1; have f0 := frozen_block k0 0; have f1 := frozen_block k0 1)
  have hne2 : ∀ b, b ≠ w.heap.size → ((w2.setCell ⟨w.heap.size, 0, none⟩ (.int .i64 0)).setCell ⟨w.heap.size, 1, none⟩ (.slice (some ⟨w.heap.size + 1, 0, none⟩) n n)).heap[b]? = w2.heap[b]? := fun b hb => by
    rw [Below.heap_setCell _ _ _ _ hb, Below.heap_setCell _ _ _ _ hb]
  have q0 := setBlk (setBlk k0 0 (.int .i64 0)) 1 (.slice (some ⟨w.heap.size + 1, 0, none⟩) n n)
  simp at q0
  have e0 := cell_block q0 0
  have e1 := cell_block q0 1
  have BF : Below w.heap.size w ((w2.setCell ⟨w.heap.size, 0, none⟩ (.int .i64 0)).setCell ⟨w.heap.size, 1, none⟩ (.slice (some ⟨w.heap.size + 1, 0, none⟩) n n)) := ((BW.trans (hb.mono BW.size)).setCell (Nat.le_refl _) _).setCell (Nat.le_refl _) _
  have ho2 : OwS ((w2.setCell ⟨w.heap.size, 0, none⟩ (.int .i64 0)).setCell ⟨w.heap.size, 1, none⟩ (.slice (some ⟨w.heap.size + 1, 0, none⟩) n n)) w.heap.size (some ⟨w.heap.size + 1, 0, none⟩) n n (List.replicate n sp0) := by
    rw [HS.out] at ho
    exact owns_lower (owns_apart ho hne2 (by omega)) (by omega)
  refine bodyPost_ret (v := .agg #[.int .i64 0, .slice (some ⟨w.heap.size + 1, 0, none⟩) n n]) (by simp [results, Try.results25, go_sem, e0, e1]) rfl ⟨_, rfl, ho2, BF⟩
theorem takeG_step {α : Type} {xs ys : List α} (d : α) {k : Nat} (h : xs.take k = ys.take k) (h1 : k < xs.length) (h2 : k < ys.length) (he : xs[k]?.getD d = ys[k]?.getD d) : xs.take (k + 1) = ys.take (k + 1) := by
  rw [List.getElem?_eq_getElem h1, List.getElem?_eq_getElem h2] at he
  rw [List.take_succ_eq_append_getElem h1, List.take_succ_eq_append_getElem h2, h]
  have he' : xs[k] = ys[k] := by simpa using he
  rw [he']
set_option maxRecDepth 100000 in
set_option maxHeartbeats 1000000 in
theorem sameHold_any (A B : Int) (a b : Option Addr) (n m c d : Nat) (xs ys : List Sp) (w : World) (h1 : SSp w a n c xs) (h2 : SSp w b m d ys) :
    Calls Try.prog 33 #[.agg #[.int .i64 A, .slice a n c], .agg #[.int .i64 B, .slice b m d]] w fun e w' => e = .returned (.bool (decide (A = B ∧ xs = ys))) ∧ Below w.heap.size w w' := by
  have l1 := h1.len
  have k1 := h2.len
  have L1 := Lib.hid l1
  have K1 := Lib.hid k1
  have m1 := h1.max
  have m2 := h2.max
  have c1 := h1.cap
  have c2 := h2.cap
  have y0 := blk_keep (alloc_new w (.cells #[.int .i64 A, .slice a n c] 49)) ((Below.refl _ _).alloc (Nat.le_refl _) (.cells #[.int .i64 B, .slice b m d] 49))
  have y1 := alloc_new (w.alloc (.cells #[.int .i64 A, .slice a n c] 49)) (.cells #[.int .i64 B, .slice b m d] 49)
  have BW : Below w.heap.size w ((w.alloc (.cells #[.int .i64 A, .slice a n c] 49)).alloc (.cells #[.int .i64 B, .slice b m d] 49)) := ((Below.refl _ _).alloc (Nat.le_refl _) _).alloc (by simp) _
  simp only [World.size_alloc] at y1
  clear l1 k1
  obtain ⟨R, hR⟩ : ∃ R, decide (A = B ∧ xs = ys) = R := ⟨_, rfl⟩
  rw [hR]
  have HR := Lib.hid hR
  clear hR
  have f0 := cell_block y0 0
  have f1 := cell_block y0 1
  have g0 := cell_block y1 0
  have g1 := cell_block y1 1
  by_cases hAB : A = B
  · by_cases he : n = m
    · have b1 : (A != B) = false := by simpa using hAB
      have b2 : ((n : Int) != (m : Int)) = false := by rw [he]; simp
      have HAB := Lib.hid hAB
      have HE := Lib.hid he
      clear hAB he
      go_enter Try.func33, Try.ntmps33
      go_wp2_with fail
      generalize (w.alloc (.cells #[.int .i64 A, .slice a n c] 49)).alloc (.cells #[.int .i64 B, .slice b m d] 49) = W at *
      go_loopw [5] (fun i wr => ∃ k : Nat, k ≤ n ∧ i = .int .i64 k ∧ xs.take k = ys.take k ∧ Below W.heap.size W wr) (fun i _ => n - (intOf i).toNat)
      case atStart => exact ⟨0, by omega, rfl, rfl, Below.refl _ _⟩
      case round =>
        clear f0 f1 g0 g1
        obtain ⟨k, hk, rfl, ht, hb⟩ := hrel
        have HT := Lib.hid ht
        clear ht
        have z0 := blk_keep y0 hb
        have z1 := blk_keep y1 hb
        have f1 := cell_block z0 1
        have g1 := cell_block z1 1
        by_cases hlt : k < n
        · obtain ⟨b1', o1, rfl, hc1⟩ := (h1.keep (BW.trans (hb.mono BW.size))).at_ (by omega)
          obtain ⟨b2', o2, rfl, hc2⟩ := (h2.keep (BW.trans (hb.mono BW.size))).at_ (by have := HE.out; omega)
          obtain ⟨p0, p1⟩ := hc1 k hlt
          obtain ⟨q0, q1⟩ := hc2 k (by have := HE.out; omega)
          have hi : (k : Int) < (n : Int) := by omega
          have him : (k : Int) < (m : Int) := by have := HE.out; omega
          have hi0 : (0 : Int) ≤ (k : Int) := by omega
          obtain ⟨xx, hxx⟩ : ∃ x, xs[k]?.getD sp0 = x := ⟨_, rfl⟩
          obtain ⟨yy, hyy⟩ : ∃ x, ys[k]?.getD sp0 = x := ⟨_, rfl⟩
          obtain ⟨x0, x1⟩ := xx
          obtain ⟨v0, v1⟩ := yy
          rw [hxx] at p0 p1
          rw [hyy] at q0 q1
          dsimp only at p0 p1 q0 q1
          have HX := Lib.hid hxx
          have HY := Lib.hid hyy
          clear hc1 hc2 hxx hyy
          go_wp2_with fail
          refine Calmly.wp_region_mix 10 (.fl 0 <| .fl 1 <| .fl 2 <| .fl 3 <| .fl 4 <| .fl 5 <| .fl 6 <| .fl 7 <| .fl 8 <| .fl 9 <| .tail [10]) (by kernel_rfl) (by kernel_rfl) ?_
          have BD : Below wr.heap.size wr wr.drew := (Below.refl _ _).drew
          replace f1 := cell_block (blk_keep z0 BD) 1
          replace g1 := cell_block (blk_keep z1 BD) 1
          replace p0 := cell_keep p0 BD
          replace p1 := cell_keep p1 BD
          replace q0 := cell_keep q0 BD
          replace q1 := cell_keep q1 BD
          have hb2 := hb.trans (BD.mono hb.size)
          generalize wr.drew = V at *
          have hk5 := Below.refl V.heap.size V
          go_wp2_with (first | ((with_reducible refine Calmly.is_fl ?_); refine Calmly.mix_fl rfl ?_ (fun _ _ => ?_); (first | exact .move _ | exact .load _ _ | exact .fieldAddr _ _ _ (by kernel_rfl) | exact .assign _ | exact .binOp _ _ _ _ _ rfl | exact .indexAddr _ _ _ | exact .len _ _ (by kernel_rfl) | exact .field _ _ _ | exact .extract _ _ | exact .pick _ _ _ | exact .build _ _ | exact .slice _ _ _ _ _ | exact .unOp _ _ _ rfl | exact .index _ _ _ | exact .max _ _ _ rfl rfl | exact .min _ _ _ rfl rfl | exact .nilCheck _ _ rfl)) | ((with_reducible refine Calmly.is_gl ?_); refine Calmly.mix_gl rfl rfl rfl ?_; first | ((first | with_reducible refine Calmly.gl_tt ?_ (fun _ _ => ?_) | with_reducible refine Calmly.gl_ff ?_ (fun _ _ => ?_)); (first | exact .move _ | exact .load _ _ | exact .fieldAddr _ _ _ (by kernel_rfl) | exact .assign _ | exact .binOp _ _ _ _ _ rfl | exact .indexAddr _ _ _ | exact .len _ _ (by kernel_rfl) | exact .field _ _ _ | exact .extract _ _ | exact .pick _ _ _ | exact .build _ _ | exact .slice _ _ _ _ _ | exact .unOp _ _ _ rfl | exact .index _ _ _ | exact .max _ _ _ rfl rfl | exact .min _ _ _ rfl rfl | exact .nilCheck _ _ rfl)) | with_reducible refine Calmly.gl_tf (fun _ _ => ?_) | with_reducible refine Calmly.gl_ft (fun _ _ => ?_)) | ((with_reducible refine Calmly.is_eff ?_); refine Calmly.mix_eff rfl (fun _ _ => ?_)) | ((with_reducible refine Calmly.is_gf ?_); refine Calmly.mix_gf rfl rfl rfl ?_; first | with_reducible refine Calmly.gf_tt (fun _ _ => ?_) | with_reducible refine Calmly.gf_ff (fun _ _ => ?_) | with_reducible refine Calmly.gf_tf (kept_of hk) (fun _ _ => ?_) | with_reducible refine Calmly.gf_ft (kept_of hk) (fun _ _ => ?_)) | ((with_reducible refine Calmly.is_tail ?_); first | refine Calmly.mix_tail_nil ?_ | refine Calmly.mix_tail rfl (fun _ _ => ?_)) | ((with_reducible refine Calmly.is_kept ?_); refine ⟨kept_of hk, ?_⟩) | (with_reducible refine Calmly.mix_alt ?_ ?_))
          case roundEnd =>
            go_roundw
            case rel =>
              refine ⟨k + 1, by omega, by go_num, takeG_step sp0 HT.out (by rw [← L1.out]; exact hlt) (by rw [← K1.out, ← HE.out]; exact hlt) ?_, hb2⟩
              rw [HX.out, HY.out]
              first | rfl | simp [*]
            case measure => simp [intOf]; omega
          all_goals
            go_ret
            refine ⟨ret_bool ?_, BW.trans (hb2.mono BW.size)⟩
            have hne : ¬ xs = ys := fun h => by
              subst h
              have h5 := HX.out.symm.trans HY.out
              injection h5 with h6 h7
              first | contradiction | simp_all
            rw [← HR.out]
            simp [hne]
        · have hle : (n : Int) ≤ (k : Int) := by omega
          go_wp2_with fail
          go_ret
          refine ⟨ret_bool ?_, BW.trans (hb.mono BW.size)⟩
          have heq : xs = ys := by
            have h5 := HT.out
            rw [List.take_of_length_le (by have := L1.out; omega), List.take_of_length_le (by have := K1.out; have := HE.out; omega)] at h5
            exact h5
          rw [← HR.out]
          simp [heq, HAB.out]
    · have b1 : (A != B) = false := by simpa using hAB
      have b2 : ((n : Int) != (m : Int)) = true := by
        simp only [bne_iff_ne]
        omega
      have hne : ¬ xs = ys := fun h => by
        subst h
        exact he (L1.out.trans K1.out.symm)
      have HNE := Lib.hid hne
      clear hAB he hne
      go_enter Try.func33, Try.ntmps33
      go_wp2_with fail
      go_ret
      exact ⟨ret_bool (by rw [← HR.out]; simp [HNE.out]), BW⟩
  · have b1 : (A != B) = true := by simpa using hAB
    have HNE := Lib.hid hAB
    clear hAB
    go_enter Try.func33, Try.ntmps33
    go_wp2_with fail
    go_ret
    exact ⟨ret_bool (by rw [← HR.out]; simp [HNE.out]), BW⟩
end Go.Proofs.Ytaiikekgckjdeaa
