/- The reference's array of exponents: times. The reference's parts of a product. Printed by gen_m43.py. The reference's factor. Printed by gen_m44.py. -/
import Derived.Test.YtaiikekgckjdeaaGreatK17
import Derived.Laws.CopyOwn
namespace Go.Proofs.YtaiikekgckjdeaaGreat
open Go.RowKit Go.Maps
open Calmly (Kept)
theorem Tryz.info_fac : (Tryz.prog.info? 125).map (fun i => (i.zero, i.size)) = some (some (.agg (fA z101)), 101) := by kernel_rfl
theorem fac_size : (Tryz.prog.info? 125).map (·.size) = some 101 := (zero_of_info Tryz.info_fac).2
theorem fac_zero (w : World) : (zeroValue 125).run Tryz.prog w = .ok (.agg (fA z101)) w := (zero_of_info Tryz.info_fac).1 w
/-- A whole array is loaded. -/
theorem loadA {ops : Array Oper} {rest : List Oper} {o : Oper} {a : Act} {w : World} {Q : Exit → Act → World → Prop} {g : Nat} {xs : List Int} (hg : w.heap[g]? = some (.cells (fA xs) 125)) (hl : xs.length = 101) (hgd : o.guard = none) (x : Operand) (ho : o.op = .load 125 x)
    (hx : a.eval x = .pointer (some ⟨g, 0, none⟩)) (h : wpList Tryz.prog ops Q rest (a.put o.dst (.agg (fA xs))) w) : wpList Tryz.prog ops Q (o :: rest) a w := by
  exact wpList_load_row hgd 125 x ho g hx _ _ _ _ hg Tryz.underlying125 rfl (by rw [fac_size, fA_size, hl]) h
/-- A whole array is stored. -/
theorem storeA {ops : Array Oper} {rest : List Oper} {o : Oper} {a : Act} {w : World} {Q : Exit → Act → World → Prop} {g : Nat} {xs ys : List Int} (hg : w.heap[g]? = some (.cells (fA xs) 125)) (hl : xs.length = 101) (hl2 : ys.length = 101) (hgd : o.guard = none) (x y : Operand) (ho : o.op = .store 125 x y)
    (hx : a.eval x = .pointer (some ⟨g, 0, none⟩)) (hy : a.eval y = .agg (fA ys))
    (h : ∀ w', w'.heap[g]? = some (.cells (fA ys) 125) → (∀ b, b ≠ g → w'.heap[b]? = w.heap[b]?) → w'.heap.size = w.heap.size → (∀ B, B ≤ g → Below B w w') → wpList Tryz.prog ops Q rest (a.put o.dst undef) w') : wpList Tryz.prog ops Q (o :: rest) a w := by
  refine wpList_plain hgd fun K hK => wp_store_row 125 x y ho g (fA ys) hx hy _ (fA xs) hg (by rw [fac_size, fA_size, hl2]) (by rw [fA_size, fA_size, hl, hl2]) (fA_one ys) ?_
  refine hK _ _ (h _ (setRow_heap w g (fA xs) (fA ys) _ _ hg) (fun b hb => setRow_other w g b _ (by omega)) (by simp) (fun B hB => below_setRow (Below.refl _ _) hB _))
/-- What lies between two rounds. -/
structure TaI (w : World) (M : Int) (v0 : Rat) (n0 : Nat) (pw : Int) (N c : Nat) (xs : List Int) (wr : World) : Prop where
  t0 : wr.heap[w.heap.size]? = some (.cells (fA xs) 125)
  t1 : wr.heap[w.heap.size + 1]? = some (.cells (fA z101) 125)
  pr : PrA (M + 4 * (c : Int)) xs
  va : vaA xs 101 * (N : Rat) ^ pw = v0 * (n0 : Rat) ^ pw
  le : N * 2 ^ c ≤ n0
  pos : 1 ≤ N
  bel : Below w.heap.size w wr
theorem TaI.nle {w : World} {M : Int} {v0 : Rat} {n0 : Nat} {pw : Int} {N c : Nat} {xs : List Int} {wr : World} (h : TaI w M v0 n0 pw N c xs wr) : N ≤ n0 := Nat.le_trans (Nat.le_mul_of_pos_right _ (Nat.pow_pos (by omega))) h.le
theorem TaI.cle {w : World} {M : Int} {v0 : Rat} {n0 : Nat} {pw : Int} {N c : Nat} {xs : List Int} {wr : World} (h : TaI w M v0 n0 pw N c xs wr) (hn : n0 ≤ 100) : c ≤ 6 := by
  rcases Nat.lt_or_ge c 7 with h1 | h1
  · omega
  · exfalso
    have h2 : 2 ^ 7 ≤ 2 ^ c := Nat.pow_le_pow_right (by omega) h1
    have h3 := h.le
    have h4 := h.pos
    have h5 : 1 * 2 ^ 7 ≤ N * 2 ^ c := Nat.mul_le_mul h4 h2
    omega
theorem TaI.step {w : World} {M : Int} {v0 : Rat} {n0 : Nat} {pw : Int} {N c p : Nat} {xs : List Int} {wr : World} (h : TaI w M v0 n0 pw N c xs wr) (hp : p ∣ N) (hprm : Prm p) (hp9 : p ≤ 100) (hpw : -4 ≤ pw ∧ pw ≤ 4) :
    TaI w M v0 n0 pw (N / p) (c + 1) (xs.set p (xa xs p + pw)) (wr.setCell ⟨w.heap.size, p, none⟩ (.int .i64 (xa xs p + pw))) := by
  have hp2 := hprm.1
  have hbd := h.pr.bd p
  obtain ⟨k1, k2⟩ := h.pr.put (M' := M + 4 * ((c + 1 : Nat) : Int)) hprm hp9 (c := pw) (by omega) (by omega)
  obtain ⟨k, hk⟩ := hp
  have hkd : N / p = k := by rw [hk, Nat.mul_div_cancel_left _ (by omega)]
  have hpos := h.pos
  have hk0 : k ≠ 0 := by rintro rfl; simp at hk; omega
  have q0 := setBlk h.t0 p (.int .i64 (xa xs p + pw))
  rw [fA_set] at q0
  rw [hkd]
  refine ⟨q0, (Below.heap_setCell _ _ _ _ (by show w.heap.size + 1 ≠ w.heap.size; omega)).trans h.t1, k1, ?_, ?_, by omega, h.bel.setCell (Nat.le_refl _) _⟩
  · rw [k2, ← h.va, hk, Rat.natCast_mul, rat_mul_zpow]
    grind
  · have := h.le
    rw [hk] at this
    refine Nat.le_trans ?_ this
    rw [Nat.pow_succ]
    have : k * (2 ^ c * 2) ≤ k * (2 ^ c * p) := Nat.mul_le_mul_left _ (Nat.mul_le_mul_left _ hp2)
    refine Nat.le_trans this (Nat.le_of_eq ?_)
    rw [Nat.mul_comm p k, Nat.mul_assoc, Nat.mul_comm p]
set_option maxRecDepth 100000 in
set_option maxHeartbeats 2000000 in
theorem rTimes_any (n : Nat) (pw M : Int) (xs : List Int) (w : World) (h : PrA M xs) (hn : 1 ≤ n ∧ n ≤ 100) (hp : -4 ≤ pw ∧ pw ≤ 4) (hM : 0 ≤ M ∧ M ≤ 100000) :
    Calls Tryz.prog 68 #[.agg (fA xs), .int .i64 (n : Int), .int .i64 pw] w fun e w' => ∃ ys, e = .returned (.agg (fA ys)) ∧ PrA (M + 24) ys ∧ vaA ys 101 = vaA xs 101 * (n : Rat) ^ pw ∧ Below w.heap.size w w' := by
  have hz := fac_zero
  obtain ⟨v0, hv0⟩ : ∃ v, vaA xs 101 = v := ⟨_, rfl⟩
  rw [hv0]
  have HV0 := Lib.hid hv0
  clear hv0
  have y0 := blk_keep (alloc_new w (.cells (fA xs) 125)) ((Below.refl _ _).alloc (Nat.le_refl _) (.cells (fA z101) 125))
  have y1 := alloc_new (w.alloc (.cells (fA xs) 125)) (.cells (fA z101) 125)
  have BW : Below w.heap.size w ((w.alloc (.cells (fA xs) 125)).alloc (.cells (fA z101) 125)) := ((Below.refl _ _).alloc (Nat.le_refl _) _).alloc (by simp) _
  simp only [World.size_alloc] at y1
  go_enter Tryz.func68, Tryz.ntmps68
  go_wp2_with fail
  have hI : TaI w M (vaA xs 101) n pw n 0 xs ((w.alloc (.cells (fA xs) 125)).alloc (.cells (fA z101) 125)) := ⟨y0, y1, by simpa using h, rfl, by simp, hn.1, BW⟩
  generalize (w.alloc (.cells (fA xs) 125)).alloc (.cells (fA z101) 125) = W at *
  rw [HV0.out] at hI
  go_loopw [1, 7] (fun x i wr => ∃ (N p c : Nat) (ys : List Int), x = .int .i64 (N : Int) ∧ i = .int .i64 (p : Int) ∧ 2 ≤ p ∧ p ≤ 101 ∧ NoD N p ∧ TaI w M v0 n pw N c ys wr) (fun _ i _ => 101 - (intOf i).toNat)
  case atStart => exact ⟨n, 2, 0, xs, rfl, rfl, by omega, by omega, fun d h1 h2 => by omega, hI⟩
  case round =>
    clear hI y0 y1 BW
    obtain ⟨N, p, c, ys, rfl, rfl, hp2, hp4, hnd, hT⟩ := hrel
    have hNn := hT.nle
    by_cases hq : p ≤ 100
    · have hi1 : (p : Int) ≤ 100 := by omega
      have HND := Lib.hid hnd
      have HT := Lib.hid hT
      clear hnd hT
      go_wp2_with fail
      go_loopw [1] (fun x wr => ∃ (N' c' : Nat) (zs : List Int), x = .int .i64 (N' : Int) ∧ NoD N' p ∧ TaI w M v0 n pw N' c' zs wr) (fun x _ => (intOf x).toNat)
      case atStart => exact ⟨N, c, ys, rfl, HND.out, HT.out⟩
      case round =>
        obtain ⟨N', c', zs, rfl, hnd, hT⟩ := hrel
        have hNn' := hT.nle
        have hN1 := hT.pos
        have hc9 := hT.cle hn.2
        have hp0 : (p : Int) ≠ 0 := by omega
        by_cases hd : p ∣ N'
        · have t1 : (N' : Int).tmod (p : Int) = 0 := by
            have h0 : (N' : Int).tmod (p : Int) = ((N' % p : Nat) : Int) := rfl
            rw [h0, Nat.mod_eq_zero_of_dvd hd]
            rfl
          have hdl : (N' : Int).tdiv (p : Int) = ((N' / p : Nat) : Int) := rfl
          have hdb : N' / p < N' := Nat.div_lt_self (by omega) (by omega)
          have HDL := Lib.hid hdl
          have HND' := Lib.hid hnd
          have hbd := hT.pr.bd p
          have hzl := hT.pr.len
          have g0 := cell_block hT.t0 p
          rw [fA_get zs (by rw [hzl]; omega)] at g0
          have g1 := frozen_block hT.t0 p
          have HSx := Lib.hid (hT.step hd (prm_of_least hp2 hnd hd) (by omega) hp)
          have he : zs[p]?.getD 0 = xa zs p := rfl
          rw [he] at g0
          obtain ⟨v, hv⟩ : ∃ v, xa zs p = v := ⟨_, rfl⟩
          rw [hv] at g0 hbd
          have HVV := Lib.hid hv
          have hi0 : (0 : Int) ≤ (p : Int) := by omega
          have hi101 : (p : Int) < 101 := by omega
          obtain ⟨q, hq2⟩ : ∃ q, (N' : Int).tdiv (p : Int) = q := ⟨_, rfl⟩
          have hq3 : 0 ≤ q ∧ q < N' := by rw [← hq2, hdl]; exact ⟨Int.natCast_nonneg _, Int.ofNat_lt.2 hdb⟩
          have HZL := Lib.hid hzl
          clear hnd hT hdl he hv hzl
          go_wp2_with fail
          refine ⟨⟨N' / p, c' + 1, zs.set p (xa zs p + pw), by rw [← hq2, HDL.out], HND'.out.div hd, by rw [← HVV.out]; exact HSx.out⟩, ?_⟩
          simp only [intOf]
          omega
        · have t1 : (N' : Int).tmod (p : Int) ≠ 0 := by
            have h0 : (N' : Int).tmod (p : Int) = ((N' % p : Nat) : Int) := rfl
            rw [h0]
            intro h1
            exact hd (Nat.dvd_of_mod_eq_zero (by omega))
          have HND' := Lib.hid hnd
          have HT' := Lib.hid hT
          clear hnd hT
          go_wp2_with fail
          go_roundw
          case rel =>
            refine ⟨N', p + 1, c', zs, rfl, by go_num, by omega, by omega, fun d h1 h2 => ?_, HT'.out⟩
            rcases Nat.lt_or_ge d p with h3 | h3
            · exact HND'.out d h1 h3
            · obtain rfl : d = p := by omega
              exact hd
          case measure => simp [intOf]; omega
    · have hi1 : (100 : Int) < (p : Int) := by omega
      have hN1 : N = 1 := by
        have h1 := hT.pos
        by_cases h2 : N = 1
        · exact h2
        · exact absurd (Nat.dvd_refl N) (hnd N (by omega) (by omega))
      have hc9 := hT.cle hn.2
      have hyl := hT.pr.len
      have y0 := hT.t0
      have y1 := hT.t1
      have HT := Lib.hid hT
      clear hT hnd
      go_wp2_with (first | (refine loadA y0 hyl rfl _ rfl rfl ?_) | (refine storeA y1 (by simp [z101]) hyl rfl _ _ rfl rfl rfl (fun w' k1 k2 k3 k4 => ?_)))
      refine bodyPost_ret (v := .agg (fA ys)) (results_cell_row Tryz.results68 _ w' (w.heap.size + 1) _ (fA ys) _ _ rfl k1 Tryz.underlying125 rfl (by rw [fac_size, fA_size, hyl])) rfl ⟨ys, rfl, HT.out.pr.mono (by omega), ?_, HT.out.bel.trans (k4 _ (by omega))⟩
      have := HT.out.va
      rw [hN1, show ((1 : Nat) : Rat) = 1 from rfl, one_zpow', Rat.mul_one] at this
      exact this
end Go.Proofs.YtaiikekgckjdeaaGreat

namespace Go.Proofs.YtaiikekgckjdeaaGreat
open Go.RowKit Go.Maps
open Calmly (Kept)
structure PaI (w : World) (xs : List Int) (U V : Nat) (wr : World) : Prop where
  t0 : wr.heap[w.heap.size]? = some (.cells (fA xs) 125)
  t1 : wr.heap[w.heap.size + 1]? = some (.cells #[.int .i64 0, .int .i64 0] 27)
  t2 : wr.heap[w.heap.size + 1 + 1]? = some (.cells #[.int .i64 (U : Int), .int .i64 (V : Int)] 27)
  ule : U ≤ 1000000000
  vle : V ≤ 1000000000
  bel : Below w.heap.size w wr
theorem PaI.keep {w : World} {xs : List Int} {U V : Nat} {wr W : World} (h : PaI w xs U V wr) (hb : Below wr.heap.size wr W) : PaI w xs U V W :=
  ⟨blk_keep h.t0 hb, blk_keep h.t1 hb, blk_keep h.t2 hb, h.ule, h.vle, h.bel.trans (hb.mono h.bel.size)⟩
theorem PaI.set0 {w : World} {xs : List Int} {U V : Nat} {wr : World} (h : PaI w xs U V wr) {x : Nat} (hx : x ≤ 1000000000) : PaI w xs x V (wr.setCell ⟨w.heap.size + 1 + 1, 0, none⟩ (.int .i64 (x : Int))) :=
  ⟨(Below.heap_setCell _ _ _ _ (by show w.heap.size ≠ w.heap.size + 1 + 1; omega)).trans h.t0, (Below.heap_setCell _ _ _ _ (by show w.heap.size + 1 ≠ w.heap.size + 1 + 1; omega)).trans h.t1, by simpa using setBlk h.t2 0 (.int .i64 (x : Int)), hx, h.vle, h.bel.setCell (by show w.heap.size ≤ w.heap.size + 1 + 1; omega) _⟩
theorem PaI.set1 {w : World} {xs : List Int} {U V : Nat} {wr : World} (h : PaI w xs U V wr) {x : Nat} (hx : x ≤ 1000000000) : PaI w xs U x (wr.setCell ⟨w.heap.size + 1 + 1, 1, none⟩ (.int .i64 (x : Int))) :=
  ⟨(Below.heap_setCell _ _ _ _ (by show w.heap.size ≠ w.heap.size + 1 + 1; omega)).trans h.t0, (Below.heap_setCell _ _ _ _ (by show w.heap.size + 1 ≠ w.heap.size + 1 + 1; omega)).trans h.t1, by simpa using setBlk h.t2 1 (.int .i64 (x : Int)), h.ule, hx, h.bel.setCell (by show w.heap.size ≤ w.heap.size + 1 + 1; omega) _⟩
theorem prm_two {p : Nat} (h : Prm p) : 2 ≤ p := h.1
theorem upA_two {M : Int} {xs : List Int} (h : PrA M xs) : upA xs 2 = 1 ∧ dnA xs 2 = 1 := by
  have h0 : xa xs 0 = 0 := by
    by_cases h0 : xa xs 0 = 0
    · exact h0
    · have := (h.prm 0 h0).1; omega
  have h1 : xa xs 1 = 0 := by
    by_cases h1 : xa xs 1 = 0
    · exact h1
    · have := (h.prm 1 h1).1; omega
  simp [upA, dnA, h0, h1]
set_option maxRecDepth 100000 in
set_option maxHeartbeats 4000000 in
theorem parts_any (M : Int) (xs : List Int) (w : World) (h : PrA M xs) (hM : 0 ≤ M ∧ M ≤ 1000) :
    Calls Tryz.prog 69 #[.agg (fA xs)] w fun e w' => e = .returned (.tuple #[.agg #[.int .i64 (fcN (vaA xs 101)), .int .i64 (fcD (vaA xs 101))], .bool (fcOk (vaA xs 101))]) ∧ Below w.heap.size w w' := by
  obtain ⟨hvn, hvd⟩ := vaA_num h 101
  obtain ⟨v0, hv0⟩ : ∃ v, vaA xs 101 = v := ⟨_, rfl⟩
  rw [hv0] at hvn hvd ⊢
  have HVN := Lib.hid hvn
  have HVD := Lib.hid hvd
  have HP := Lib.hid h
  have hlen := h.len
  have HLEN := Lib.hid hlen
  clear hv0 hvn hvd
  have y0 := blk_keep (blk_keep (alloc_new w (.cells (fA xs) 125)) ((Below.refl _ _).alloc (Nat.le_refl _) (.cells #[.int .i64 0, .int .i64 0] 27))) ((Below.refl _ _).alloc (Nat.le_refl _) (.cells #[.int .i64 1, .int .i64 1] 27))
  have y1 := blk_keep (alloc_new (w.alloc (.cells (fA xs) 125)) (.cells #[.int .i64 0, .int .i64 0] 27)) ((Below.refl _ _).alloc (Nat.le_refl _) (.cells #[.int .i64 1, .int .i64 1] 27))
  have y2 := alloc_new ((w.alloc (.cells (fA xs) 125)).alloc (.cells #[.int .i64 0, .int .i64 0] 27)) (.cells #[.int .i64 1, .int .i64 1] 27)
  have BW : Below w.heap.size w (((w.alloc (.cells (fA xs) 125)).alloc (.cells #[.int .i64 0, .int .i64 0] 27)).alloc (.cells #[.int .i64 1, .int .i64 1] 27)) := (((Below.refl _ _).alloc (Nat.le_refl _) _).alloc (by simp) _).alloc (by simp; omega) _
  simp only [World.size_alloc] at y1 y2
  have hI : PaI w xs (upA xs 2) (dnA xs 2) (((w.alloc (.cells (fA xs) 125)).alloc (.cells #[.int .i64 0, .int .i64 0] 27)).alloc (.cells #[.int .i64 1, .int .i64 1] 27)) := by
    rw [(upA_two h).1, (upA_two h).2]
    exact ⟨y0, y1, y2, by omega, by omega, BW⟩
  go_enter Tryz.func69, Tryz.ntmps69
  go_wp2_with fail
  generalize ((w.alloc (.cells (fA xs) 125)).alloc (.cells #[.int .i64 0, .int .i64 0] 27)).alloc (.cells #[.int .i64 1, .int .i64 1] 27) = W at *
  go_loopw [5] (fun i wr => ∃ p : Nat, i = .int .i64 (p : Int) ∧ 2 ≤ p ∧ p ≤ 101 ∧ PaI w xs (upA xs p) (dnA xs p) wr) (fun i _ => 101 - (intOf i).toNat)
  case atStart => exact ⟨2, rfl, by omega, by omega, hI⟩
  case round =>
    clear hI y0 y1 y2 BW
    obtain ⟨p, rfl, hp2, hp4, hI⟩ := hrel
    by_cases hq : p ≤ 100
    · have hi1 : (p : Int) ≤ 100 := by omega
      have hbd := h.bd p
      have hmu := upA_mono h (p + 1) (100 - p)
      rw [show p + 1 + (100 - p) = 101 by omega] at hmu
      obtain ⟨x, hx⟩ : ∃ x, xa xs p = x := ⟨_, rfl⟩
      have hup : upA xs (p + 1) = upA xs p * p ^ x.toNat := by rw [← hx]; rfl
      have hdn : dnA xs (p + 1) = dnA xs p * p ^ (-x).toNat := by rw [← hx]; rfl
      rw [hx] at hbd
      obtain ⟨U, hU⟩ : ∃ U, upA xs p = U := ⟨_, rfl⟩
      obtain ⟨V, hV⟩ : ∃ V, dnA xs p = V := ⟨_, rfl⟩
      rw [hU, hV] at hI
      rw [hU] at hup
      rw [hV] at hdn
      rw [hup, hdn] at hmu
      have HUP := Lib.hid hup
      have HDN := Lib.hid hdn
      have HMU := Lib.hid hmu
      have HX := Lib.hid hx
      have HI := Lib.hid hI
      clear hup hdn hmu hx hU hV hI
      go_wp2_with fail
      go_loopw [6] (fun i wi => ∃ j : Nat, i = .int .i64 (j : Int) ∧ j ≤ x.natAbs ∧ PaI w xs (U * p ^ (min j x.toNat)) (V * p ^ (min j (-x).toNat)) wi) (fun i _ => x.natAbs - (intOf i).toNat)
      case atStart => exact ⟨0, rfl, by omega, by simpa using HI.out⟩
      case round =>
        obtain ⟨j, rfl, hj, hI⟩ := hrel
        have hi0 : (0 : Int) ≤ (p : Int) := by omega
        have hi101 : (p : Int) < 101 := by omega
        have g0 := cell_block hI.t0 p
        rw [fA_get xs (by rw [HLEN.out]; omega), show xs[p]?.getD 0 = x from HX.out] at g0
        have hIu := hI.ule
        have hIv := hI.vle
        obtain ⟨A, hA⟩ : ∃ A, U * p ^ (min j x.toNat) = A := ⟨_, rfl⟩
        obtain ⟨B, hB⟩ : ∃ B, V * p ^ (min j (-x).toNat) = B := ⟨_, rfl⟩
        rw [hA] at hIu
        rw [hB] at hIv
        rw [hA, hB] at hI
        have HA := Lib.hid hA
        have HB := Lib.hid hB
        clear hA hB
        have f0 := cell_block hI.t2 0
        have f1 := cell_block hI.t2 1
        have f2 := frozen_block hI.t2 0
        have f3 := frozen_block hI.t2 1
        go_wp2_with fail
        refine (size_any x _ (by omega) (by omega)).mono ?_
        rintro e w1 ⟨rfl, rfl⟩
        by_cases hlt : j < x.natAbs
        · have hji : (j : Int) < (x.natAbs : Int) := by omega
          by_cases hxs : 0 < x
          · skip
            have hxn : ¬ x < 0 := by omega
            have hpr : A * p ≤ 1000000000 * 100 := Nat.mul_le_mul hIu hq
            obtain ⟨Y, hY⟩ : ∃ Y, A * p = Y := ⟨_, rfl⟩
            have e1 : (A : Int) * (p : Int) = (Y : Int) := by rw [← hY]; exact (Int.natCast_mul _ _).symm
            rw [hY] at hpr
            have hmin : min (j + 1) x.toNat = min j x.toNat + 1 := by omega
            have hoth : min (j + 1) (-x).toNat = 0 ∧ min j (-x).toNat = 0 := by omega
            have hYU : U * p ^ (min (j + 1) x.toNat) = Y := by rw [hmin, Nat.pow_succ, ← Nat.mul_assoc, HA.out, hY]
            have hYO : V * p ^ (min (j + 1) (-x).toNat) = B := by rw [hoth.1, ← HB.out, hoth.2]
            have HYU := Lib.hid hYU
            have HYO := Lib.hid hYO
            clear hY hmin hoth hYU hYO
            by_cases hbig : Y ≤ 1000000000
            · have hb1 : ¬ (1000000000 : Int) < (Y : Int) := by omega
              have hb2 : ¬ (1000000000 : Int) < (B : Int) := by omega
              have HS := Lib.hid (hI.set0 hbig)
              go_wp2_with fail
              refine ⟨⟨j + 1, by go_num, by omega, ?_⟩, ?_⟩
              · rw [HYU.out, HYO.out]
                exact HS.out
              · simp only [intOf]
                omega
            · have hb1 : (1000000000 : Int) < (Y : Int) := by omega
              have hb2 : ¬ (1000000000 : Int) < (B : Int) := by omega
              have hgt : Y ≤ upA xs 101 := by
                have h1 := HMU.out.1
                have h2 : p ^ (min (j + 1) x.toNat) ≤ p ^ x.toNat := Nat.pow_le_pow_right (by omega) (by omega)
                have h3 := Nat.mul_le_mul_left U h2
                rw [HYU.out] at h3
                omega
              have hok : fcOk v0 = false := by
                unfold fcOk
                rw [HVN.out, HVD.out]
                simp only [Bool.and_eq_false_iff, decide_eq_false_iff_not]
                omega
              have HOK := Lib.hid hok
              have g4 := cell_block hI.t1 0
              have g5 := cell_block hI.t1 1
              have g6 := frozen_block hI.t1 0
              have g7 := frozen_block hI.t1 1
              clear hok hgt
              go_wp2_with fail
              have k1 := (Below.heap_setCell wr ⟨w.heap.size + 1 + 1, 0, none⟩ (.int .i64 (Y : Int)) (w.heap.size + 1) (by show w.heap.size + 1 ≠ w.heap.size + 1 + 1; omega)).trans hI.t1
              have q0 := setBlk (setBlk k1 0 (.int .i64 0)) 1 (.int .i64 0)
              simp at q0
              have c0 := cell_block q0 0
              have c1 := cell_block q0 1
              refine bodyPost_ret (v := .tuple #[.agg #[.int .i64 0, .int .i64 0], .bool false]) (by simp [results, Tryz.results69, go_sem, c0, c1]) rfl ⟨?_, ((hI.bel.setCell (by show w.heap.size ≤ w.heap.size + 1 + 1; omega) _).setCell (by show w.heap.size ≤ w.heap.size + 1; omega) _).setCell (by show w.heap.size ≤ w.heap.size + 1; omega) _⟩
              rw [fcN, fcD, HOK.out]
              rfl
          · skip
            have hxn : x < 0 := by omega
            have hpr : B * p ≤ 1000000000 * 100 := Nat.mul_le_mul hIv hq
            obtain ⟨Y, hY⟩ : ∃ Y, B * p = Y := ⟨_, rfl⟩
            have e1 : (B : Int) * (p : Int) = (Y : Int) := by rw [← hY]; exact (Int.natCast_mul _ _).symm
            rw [hY] at hpr
            have hmin : min (j + 1) (-x).toNat = min j (-x).toNat + 1 := by omega
            have hoth : min (j + 1) x.toNat = 0 ∧ min j x.toNat = 0 := by omega
            have hYU : V * p ^ (min (j + 1) (-x).toNat) = Y := by rw [hmin, Nat.pow_succ, ← Nat.mul_assoc, HB.out, hY]
            have hYO : U * p ^ (min (j + 1) x.toNat) = A := by rw [hoth.1, ← HA.out, hoth.2]
            have HYU := Lib.hid hYU
            have HYO := Lib.hid hYO
            clear hY hmin hoth hYU hYO
            by_cases hbig : Y ≤ 1000000000
            · have hb1 : ¬ (1000000000 : Int) < (Y : Int) := by omega
              have hb2 : ¬ (1000000000 : Int) < (A : Int) := by omega
              have HS := Lib.hid (hI.set1 hbig)
              go_wp2_with fail
              refine ⟨⟨j + 1, by go_num, by omega, ?_⟩, ?_⟩
              · rw [HYU.out, HYO.out]
                exact HS.out
              · simp only [intOf]
                omega
            · have hb1 : (1000000000 : Int) < (Y : Int) := by omega
              have hb2 : ¬ (1000000000 : Int) < (A : Int) := by omega
              have hgt : Y ≤ dnA xs 101 := by
                have h1 := HMU.out.2
                have h2 : p ^ (min (j + 1) (-x).toNat) ≤ p ^ (-x).toNat := Nat.pow_le_pow_right (by omega) (by omega)
                have h3 := Nat.mul_le_mul_left V h2
                rw [HYU.out] at h3
                omega
              have hok : fcOk v0 = false := by
                unfold fcOk
                rw [HVN.out, HVD.out]
                simp only [Bool.and_eq_false_iff, decide_eq_false_iff_not]
                omega
              have HOK := Lib.hid hok
              have g4 := cell_block hI.t1 0
              have g5 := cell_block hI.t1 1
              have g6 := frozen_block hI.t1 0
              have g7 := frozen_block hI.t1 1
              clear hok hgt
              go_wp2_with fail
              have k1 := (Below.heap_setCell wr ⟨w.heap.size + 1 + 1, 1, none⟩ (.int .i64 (Y : Int)) (w.heap.size + 1) (by show w.heap.size + 1 ≠ w.heap.size + 1 + 1; omega)).trans hI.t1
              have q0 := setBlk (setBlk k1 0 (.int .i64 0)) 1 (.int .i64 0)
              simp at q0
              have c0 := cell_block q0 0
              have c1 := cell_block q0 1
              refine bodyPost_ret (v := .tuple #[.agg #[.int .i64 0, .int .i64 0], .bool false]) (by simp [results, Tryz.results69, go_sem, c0, c1]) rfl ⟨?_, ((hI.bel.setCell (by show w.heap.size ≤ w.heap.size + 1 + 1; omega) _).setCell (by show w.heap.size ≤ w.heap.size + 1; omega) _).setCell (by show w.heap.size ≤ w.heap.size + 1; omega) _⟩
              rw [fcN, fcD, HOK.out]
              rfl
        · have hle : (x.natAbs : Int) ≤ (j : Int) := by omega
          obtain rfl : x.natAbs = j := by omega
          have hU1 : A = upA xs (p + 1) := by
            rw [← HA.out, HUP.out]
            congr 2
            omega
          have hV1 : B = dnA xs (p + 1) := by
            rw [← HB.out, HDN.out]
            congr 2
            omega
          have HS := Lib.hid hI
          have HU1 := Lib.hid hU1
          have HV1 := Lib.hid hV1
          clear hU1 hV1 hI
          go_wp2_with fail
          refine ⟨⟨p + 1, by go_num, by omega, by omega, ?_⟩, ?_⟩
          · rw [← HU1.out, ← HV1.out]
            exact HS.out
          · simp only [intOf]
            omega
    · have hi1 : (100 : Int) < (p : Int) := by omega
      obtain rfl : 101 = p := by omega
      have f4 := cell_block hI.t2 0
      have f5 := cell_block hI.t2 1
      have f6 := cell_block hI.t1 0
      have f7 := cell_block hI.t1 1
      have f8 := frozen_block hI.t1 0
      have f9 := frozen_block hI.t1 1
      have hok : fcOk v0 = true := by
        have h1 := hI.ule
        have h2 := hI.vle
        unfold fcOk
        rw [HVN.out, HVD.out]
        simp only [Bool.and_eq_true, decide_eq_true_eq]
        omega
      have e2 : fcN v0 = (upA xs 101 : Int) := by rw [fcN, hok]; exact HVN.out
      have e3 : fcD v0 = (dnA xs 101 : Int) := by rw [fcD, hok, HVD.out]; rfl
      have HOK := Lib.hid hok
      have E2 := Lib.hid e2
      have E3 := Lib.hid e3
      obtain ⟨U, hU⟩ : ∃ U, upA xs 101 = U := ⟨_, rfl⟩
      obtain ⟨V, hV⟩ : ∃ V, dnA xs 101 = V := ⟨_, rfl⟩
      rw [hU] at f4 e2
      rw [hV] at f5 e3
      have HU := Lib.hid hU
      have HV := Lib.hid hV
      clear hok e2 e3 hU hV
      rw [HU.out] at f5
      rw [HV.out] at f4
      go_wp2_with fail
      have q0 := setBlk (setBlk hI.t1 0 (.int .i64 (U : Int))) 1 (.int .i64 (V : Int))
      simp at q0
      have c0 := cell_block q0 0
      have c1 := cell_block q0 1
      refine bodyPost_ret (v := .tuple #[.agg #[.int .i64 (U : Int), .int .i64 (V : Int)], .bool true]) (by simp [results, Tryz.results69, go_sem, c0, c1]) rfl ⟨?_, (hI.bel.setCell (by show w.heap.size ≤ w.heap.size + 1; omega) _).setCell (by show w.heap.size ≤ w.heap.size + 1; omega) _⟩
      rw [HOK.out, E2.out, E3.out, HU.out, HV.out]
end Go.Proofs.YtaiikekgckjdeaaGreat

namespace Go.Proofs.YtaiikekgckjdeaaGreat
open Go.RowKit Go.Maps
open Calmly (Kept)
/-- A whole array, loaded and stored within a plan. -/
theorem mix_loadA (i : Nat) {w0 w : World} {g : Nat} {xs : List Int} (hg : w0.heap[g]? = some (.cells (fA xs) 125)) (hl : xs.length = 101) {k : Calmly.Plan} {dst : Option Tmp} {x : Operand} {ty : TypeId} {pos : String} {after : Array Edge} {a : Act} {ops : Array Oper} {Q : Exit → Act → World → Prop}
    (hi : ops[i]? = some ⟨dst, .load 125 x, ty, pos, after, none⟩) (hx : a.eval x = .pointer (some ⟨g, 0, none⟩)) (h : Calmly.WpMix Tryz.prog ops Q w0 k (a.put dst (.agg (fA xs))) w) : Calmly.WpMix Tryz.prog ops Q w0 (.fl i k) a w :=
  Calmly.mix_fl hi (.load _ _) fun _ hK => wp_load_row 125 x rfl g hx _ _ _ _ hg Tryz.underlying125 rfl (by rw [fac_size, fA_size, hl]) (hK _ h)
theorem mix_storeA (i : Nat) {w0 w : World} {g : Nat} {xs ys : List Int} (hg : w.heap[g]? = some (.cells (fA xs) 125)) (hl : xs.length = 101) (hl2 : ys.length = 101) {l : List Nat} {dst : Option Tmp} {x y : Operand} {ty : TypeId} {pos : String} {after : Array Edge} {a : Act} {ops : Array Oper} {Q : Exit → Act → World → Prop}
    (hi : ops[i]? = some ⟨dst, .store 125 x y, ty, pos, after, none⟩) (hx : a.eval x = .pointer (some ⟨g, 0, none⟩)) (hy : a.eval y = .agg (fA ys))
    (h : ∀ w', w'.heap[g]? = some (.cells (fA ys) 125) → (∀ b, b ≠ g → w'.heap[b]? = w.heap[b]?) → w'.heap.size = w.heap.size → (∀ B, B ≤ g → Below B w w') → Calmly.WpMix Tryz.prog ops Q w0 (.tail l) (a.put dst undef) w') : Calmly.WpMix Tryz.prog ops Q w0 (.tail (i :: l)) a w :=
  Calmly.mix_tail hi fun _ hK => wp_store_row 125 x y rfl g (fA ys) hx hy _ (fA xs) hg (by rw [fac_size, fA_size, hl2]) (by rw [fA_size, fA_size, hl, hl2]) (fA_one ys)
    (hK _ _ (h _ (setRow_heap w g (fA xs) (fA ys) _ _ hg) (fun b hb => setRow_other w g b _ (by omega)) (by simp) (fun B hB => below_setRow (Below.refl _ _) hB _)))
theorem rTimesI_any (n : Int) (pw M : Int) (xs : List Int) (w : World) (h : PrA M xs) (hn : 1 ≤ n ∧ n ≤ 100) (hp : -4 ≤ pw ∧ pw ≤ 4) (hM : 0 ≤ M ∧ M ≤ 100000) :
    Calls Tryz.prog 68 #[.agg (fA xs), .int .i64 n, .int .i64 pw] w fun e w' => ∃ ys, e = .returned (.agg (fA ys)) ∧ PrA (M + 24) ys ∧ vaA ys 101 = vaA xs 101 * (n : Rat) ^ pw ∧ Below w.heap.size w w' := by
  obtain ⟨N, rfl⟩ : ∃ N : Nat, n = (N : Int) := ⟨n.toNat, by omega⟩
  exact rTimes_any N pw M xs w h (by omega) hp hM
structure FaJ (w : World) (n1 d1 n2 d2 n3 d3 a b c : Int) (xs : List Int) (k : Nat) (wr : World) : Prop where
  bel : Below w.heap.size w wr
  t0 : wr.heap[w.heap.size]? = some (.cells #[.int .i64 n1, .int .i64 d1, .int .i64 n2, .int .i64 d2, .int .i64 n3, .int .i64 d3] 28)
  t1 : wr.heap[w.heap.size + 1]? = some (.cells #[.int .i64 a, .int .i64 b, .int .i64 c] 53)
  t2 : wr.heap[w.heap.size + 1 + 1]? = some (.cells #[.int .i64 0, .int .i64 0] 27)
  t3 : wr.heap[w.heap.size + 1 + 1 + 1]? = some (.cells (fA xs) 125)
  pr : PrA (48 * (k : Int)) xs
  va : vaA xs 101 = fcP n1 d1 n2 d2 n3 d3 a b c k
theorem FaJ.keep {w : World} {n1 d1 n2 d2 n3 d3 a b c : Int} {xs : List Int} {k : Nat} {wr W : World} (h : FaJ w n1 d1 n2 d2 n3 d3 a b c xs k wr) (hb : Below wr.heap.size wr W) : FaJ w n1 d1 n2 d2 n3 d3 a b c xs k W :=
  ⟨h.bel.trans (hb.mono h.bel.size), blk_keep h.t0 hb, blk_keep h.t1 hb, blk_keep h.t2 hb, blk_keep h.t3 hb, h.pr, h.va⟩
set_option maxRecDepth 100000 in
set_option maxHeartbeats 4000000 in
theorem rFactor_any (n1 d1 n2 d2 n3 d3 a b c : Int) (w : World) (hok : FacOk n1 d1 n2 d2 n3 d3 a b c) :
    Calls Tryz.prog 55 #[.agg #[.int .i64 n1, .int .i64 d1, .int .i64 n2, .int .i64 d2, .int .i64 n3, .int .i64 d3], .agg #[.int .i64 a, .int .i64 b, .int .i64 c]] w fun e w' => e = .returned (.tuple #[.agg #[.int .i64 (fcN (facV n1 d1 n2 d2 n3 d3 a b c)), .int .i64 (fcD (facV n1 d1 n2 d2 n3 d3 a b c))], .bool (fcOk (facV n1 d1 n2 d2 n3 d3 a b c))]) ∧ Below w.heap.size w w' := by
  have HOK := Lib.hid hok
  clear hok
  obtain ⟨V, hV⟩ : ∃ V, facV n1 d1 n2 d2 n3 d3 a b c = V := ⟨_, rfl⟩
  rw [hV]
  have HV := Lib.hid hV
  clear hV
  have hz := fac_zero
  have y0 := blk_keep (blk_keep (blk_keep (alloc_new w (.cells #[.int .i64 n1, .int .i64 d1, .int .i64 n2, .int .i64 d2, .int .i64 n3, .int .i64 d3] 28)) ((Below.refl _ _).alloc (Nat.le_refl _) (.cells #[.int .i64 a, .int .i64 b, .int .i64 c] 53))) ((Below.refl _ _).alloc (Nat.le_refl _) (.cells #[.int .i64 0, .int .i64 0] 27))) ((Below.refl _ _).alloc (Nat.le_refl _) (.cells (fA z101) 125))
  have y1 := blk_keep (blk_keep (alloc_new (w.alloc (.cells #[.int .i64 n1, .int .i64 d1, .int .i64 n2, .int .i64 d2, .int .i64 n3, .int .i64 d3] 28)) (.cells #[.int .i64 a, .int .i64 b, .int .i64 c] 53)) ((Below.refl _ _).alloc (Nat.le_refl _) (.cells #[.int .i64 0, .int .i64 0] 27))) ((Below.refl _ _).alloc (Nat.le_refl _) (.cells (fA z101) 125))
  have y2 := blk_keep (alloc_new ((w.alloc (.cells #[.int .i64 n1, .int .i64 d1, .int .i64 n2, .int .i64 d2, .int .i64 n3, .int .i64 d3] 28)).alloc (.cells #[.int .i64 a, .int .i64 b, .int .i64 c] 53)) (.cells #[.int .i64 0, .int .i64 0] 27)) ((Below.refl _ _).alloc (Nat.le_refl _) (.cells (fA z101) 125))
  have y3 := alloc_new (((w.alloc (.cells #[.int .i64 n1, .int .i64 d1, .int .i64 n2, .int .i64 d2, .int .i64 n3, .int .i64 d3] 28)).alloc (.cells #[.int .i64 a, .int .i64 b, .int .i64 c] 53)).alloc (.cells #[.int .i64 0, .int .i64 0] 27)) (.cells (fA z101) 125)
  have BW : Below w.heap.size w ((((w.alloc (.cells #[.int .i64 n1, .int .i64 d1, .int .i64 n2, .int .i64 d2, .int .i64 n3, .int .i64 d3] 28)).alloc (.cells #[.int .i64 a, .int .i64 b, .int .i64 c] 53)).alloc (.cells #[.int .i64 0, .int .i64 0] 27)).alloc (.cells (fA z101) 125)) := ((((Below.refl _ _).alloc (Nat.le_refl _) _).alloc (by simp) _).alloc (by simp; omega) _).alloc (by simp; omega) _
  simp only [World.size_alloc] at y1 y2 y3
  have hI : FaJ w n1 d1 n2 d2 n3 d3 a b c z101 0 ((((w.alloc (.cells #[.int .i64 n1, .int .i64 d1, .int .i64 n2, .int .i64 d2, .int .i64 n3, .int .i64 d3] 28)).alloc (.cells #[.int .i64 a, .int .i64 b, .int .i64 c] 53)).alloc (.cells #[.int .i64 0, .int .i64 0] 27)).alloc (.cells (fA z101) 125)) := ⟨BW, y0, y1, y2, y3, by simpa using PrA.zero, vaA_zero 101⟩
  go_enter Tryz.func55, Tryz.ntmps55
  go_wp2_with fail
  generalize (((w.alloc (.cells #[.int .i64 n1, .int .i64 d1, .int .i64 n2, .int .i64 d2, .int .i64 n3, .int .i64 d3] 28)).alloc (.cells #[.int .i64 a, .int .i64 b, .int .i64 c] 53)).alloc (.cells #[.int .i64 0, .int .i64 0] 27)).alloc (.cells (fA z101) 125) = W at *
  go_loopw [7] (fun i wr => ∃ (k : Nat) (xs : List Int), k ≤ 3 ∧ i = .int .i64 (k : Int) ∧ FaJ w n1 d1 n2 d2 n3 d3 a b c xs k wr) (fun i _ => 3 - (intOf i).toNat)
  case atStart => exact ⟨0, z101, by omega, rfl, hI⟩
  case round =>
      clear hI y0 y1 y2 y3 BW
      obtain ⟨k, xs, hk3, rfl, hI⟩ := hrel
      rcases (by omega : k = 0 ∨ k = 1 ∨ k = 2 ∨ k = 3) with rfl | rfl | rfl | rfl
      · have hi1 : (0 : Int) < 3 := by omega
        go_wp2_with fail
        refine Calmly.wp_region_mix 9 (.fl 0 <| .fl 1 <| .fl 2 <| .fl 3 <| .fl 4 <| .fl 5 <| .fl 6 <| .fl 7 <| .eff 8 <| .tail [9]) (by kernel_rfl) (by kernel_rfl) ?_
        have hI1 := hI.keep (Below.refl _ _).drew
        generalize World.drew _ = V5 at *
        have hpr := hI1.pr
        have hzl := hpr.len
        have g0 := cell_block hI1.t0 0
        have g1 := cell_block hI1.t1 0
        have hk := Below.refl V5.heap.size V5
        go_wp2_with (first | (refine mix_loadA 0 hI1.t3 hzl rfl rfl ?_) | (go_at_call 68; refine (rTimesI_any n1 a _ _ _ hpr (by have := HOK.out.s1; omega) (by have := HOK.out.q; omega) (by omega)).mono ?_; rintro e w' ⟨ys, rfl, hpy, hvy, hb⟩; replace hk := step_of hk hb; clear hb; have y3 := blk_keep hI1.t3 hk; have hyl := hpy.len) | (refine mix_storeA 9 y3 hzl hyl rfl rfl rfl (fun w6 k1 k2 k3 k4 => ?_)) | ((with_reducible refine Calmly.is_fl ?_); refine Calmly.mix_fl rfl ?_ (fun _ _ => ?_); (first | exact .move _ | exact .load _ _ | exact .fieldAddr _ _ _ (by kernel_rfl) | exact .assign _ | exact .binOp _ _ _ _ _ rfl | exact .indexAddr _ _ _ | exact .len _ _ (by kernel_rfl) | exact .field _ _ _ | exact .extract _ _ | exact .pick _ _ _ | exact .build _ _ | exact .slice _ _ _ _ _ | exact .unOp _ _ _ rfl | exact .index _ _ _ | exact .max _ _ _ rfl rfl | exact .min _ _ _ rfl rfl | exact .nilCheck _ _ rfl)) | ((with_reducible refine Calmly.is_gl ?_); refine Calmly.mix_gl rfl rfl rfl ?_; first | ((first | with_reducible refine Calmly.gl_tt ?_ (fun _ _ => ?_) | with_reducible refine Calmly.gl_ff ?_ (fun _ _ => ?_)); (first | exact .move _ | exact .load _ _ | exact .fieldAddr _ _ _ (by kernel_rfl) | exact .assign _ | exact .binOp _ _ _ _ _ rfl | exact .indexAddr _ _ _ | exact .len _ _ (by kernel_rfl) | exact .field _ _ _ | exact .extract _ _ | exact .pick _ _ _ | exact .build _ _ | exact .slice _ _ _ _ _ | exact .unOp _ _ _ rfl | exact .index _ _ _ | exact .max _ _ _ rfl rfl | exact .min _ _ _ rfl rfl | exact .nilCheck _ _ rfl)) | with_reducible refine Calmly.gl_tf (fun _ _ => ?_) | with_reducible refine Calmly.gl_ft (fun _ _ => ?_)) | ((with_reducible refine Calmly.is_eff ?_); refine Calmly.mix_eff rfl (fun _ _ => ?_)) | ((with_reducible refine Calmly.is_gf ?_); refine Calmly.mix_gf rfl rfl rfl ?_; first | with_reducible refine Calmly.gf_tt (fun _ _ => ?_) | with_reducible refine Calmly.gf_ff (fun _ _ => ?_) | with_reducible refine Calmly.gf_tf (kept_of hk) (fun _ _ => ?_) | with_reducible refine Calmly.gf_ft (kept_of hk) (fun _ _ => ?_)) | ((with_reducible refine Calmly.is_tail ?_); first | refine Calmly.mix_tail_nil ?_ | refine Calmly.mix_tail rfl (fun _ _ => ?_)) | ((with_reducible refine Calmly.is_kept ?_); refine ⟨kept_of hk, ?_⟩) | (with_reducible refine Calmly.mix_alt ?_ ?_))
        have hB6 := (hI1.bel.trans (hk.mono hI1.bel.size)).trans (k4 _ (by omega))
        have x0 := (k2 _ (by omega)).trans (blk_keep hI1.t0 hk)
        have x1 := (k2 _ (by omega)).trans (blk_keep hI1.t1 hk)
        have x2 := (k2 _ (by omega)).trans (blk_keep hI1.t2 hk)
        clear g0 g1
        refine Calmly.wp_region_mix 10 (.fl 0 <| .fl 1 <| .fl 2 <| .fl 3 <| .fl 4 <| .fl 5 <| .fl 6 <| .fl 7 <| .fl 8 <| .eff 9 <| .tail [10]) (by kernel_rfl) (by kernel_rfl) ?_
        have BD : Below w6.heap.size w6 w6.drew := (Below.refl _ _).drew
        replace x0 := blk_keep x0 BD
        replace x1 := blk_keep x1 BD
        replace x2 := blk_keep x2 BD
        replace k1 := blk_keep k1 BD
        replace hB6 := hB6.trans (BD.mono hB6.size)
        generalize w6.drew = V6 at *
        have g0 := cell_block x0 1
        have g1 := cell_block x1 0
        clear hk y3
        have hk := Below.refl V6.heap.size V6
        have hq := HOK.out.q
        go_wp2_with (first | (refine mix_loadA 0 k1 hyl rfl rfl ?_) | (go_at_call 68; refine (rTimesI_any d1 (-a) _ _ _ hpy (by have := HOK.out.s1; omega) (by omega) (by omega)).mono ?_; rintro e w' ⟨zs, rfl, hpz, hvz, hb⟩; replace hk := step_of hk hb; clear hb; have y3 := blk_keep k1 hk; have hzl2 := hpz.len) | (refine mix_storeA 10 y3 hyl hzl2 rfl rfl rfl (fun w7 m1 m2 m3 m4 => ?_)) | ((with_reducible refine Calmly.is_fl ?_); refine Calmly.mix_fl rfl ?_ (fun _ _ => ?_); (first | exact .move _ | exact .load _ _ | exact .fieldAddr _ _ _ (by kernel_rfl) | exact .assign _ | exact .binOp _ _ _ _ _ rfl | exact .indexAddr _ _ _ | exact .len _ _ (by kernel_rfl) | exact .field _ _ _ | exact .extract _ _ | exact .pick _ _ _ | exact .build _ _ | exact .slice _ _ _ _ _ | exact .unOp _ _ _ rfl | exact .index _ _ _ | exact .max _ _ _ rfl rfl | exact .min _ _ _ rfl rfl | exact .nilCheck _ _ rfl)) | ((with_reducible refine Calmly.is_gl ?_); refine Calmly.mix_gl rfl rfl rfl ?_; first | ((first | with_reducible refine Calmly.gl_tt ?_ (fun _ _ => ?_) | with_reducible refine Calmly.gl_ff ?_ (fun _ _ => ?_)); (first | exact .move _ | exact .load _ _ | exact .fieldAddr _ _ _ (by kernel_rfl) | exact .assign _ | exact .binOp _ _ _ _ _ rfl | exact .indexAddr _ _ _ | exact .len _ _ (by kernel_rfl) | exact .field _ _ _ | exact .extract _ _ | exact .pick _ _ _ | exact .build _ _ | exact .slice _ _ _ _ _ | exact .unOp _ _ _ rfl | exact .index _ _ _ | exact .max _ _ _ rfl rfl | exact .min _ _ _ rfl rfl | exact .nilCheck _ _ rfl)) | with_reducible refine Calmly.gl_tf (fun _ _ => ?_) | with_reducible refine Calmly.gl_ft (fun _ _ => ?_)) | ((with_reducible refine Calmly.is_eff ?_); refine Calmly.mix_eff rfl (fun _ _ => ?_)) | ((with_reducible refine Calmly.is_gf ?_); refine Calmly.mix_gf rfl rfl rfl ?_; first | with_reducible refine Calmly.gf_tt (fun _ _ => ?_) | with_reducible refine Calmly.gf_ff (fun _ _ => ?_) | with_reducible refine Calmly.gf_tf (kept_of hk) (fun _ _ => ?_) | with_reducible refine Calmly.gf_ft (kept_of hk) (fun _ _ => ?_)) | ((with_reducible refine Calmly.is_tail ?_); first | refine Calmly.mix_tail_nil ?_ | refine Calmly.mix_tail rfl (fun _ _ => ?_)) | ((with_reducible refine Calmly.is_kept ?_); refine ⟨kept_of hk, ?_⟩) | (with_reducible refine Calmly.mix_alt ?_ ?_))
        have hI7 : FaJ w n1 d1 n2 d2 n3 d3 a b c zs 1 w7 := ⟨(hB6.trans (hk.mono hB6.size)).trans (m4 _ (by omega)), (m2 _ (by omega)).trans (blk_keep x0 hk), (m2 _ (by omega)).trans (blk_keep x1 hk), (m2 _ (by omega)).trans (blk_keep x2 hk), m1, by simpa using hpz, by rw [hvz, hvy, hI1.va]; simp [fcP]⟩
        have HI7 := Lib.hid hI7
        clear hI7 hpz hvz hpy hvy
        refine ⟨⟨1, zs, by omega, by go_num, HI7.out⟩, ?_⟩
        simp [intOf]
      · have hi1 : (1 : Int) < 3 := by omega
        go_wp2_with fail
        refine Calmly.wp_region_mix 9 (.fl 0 <| .fl 1 <| .fl 2 <| .fl 3 <| .fl 4 <| .fl 5 <| .fl 6 <| .fl 7 <| .eff 8 <| .tail [9]) (by kernel_rfl) (by kernel_rfl) ?_
        have hI1 := hI.keep (Below.refl _ _).drew
        generalize World.drew _ = V5 at *
        have hpr := hI1.pr
        have hzl := hpr.len
        have g0 := cell_block hI1.t0 2
        have g1 := cell_block hI1.t1 1
        have hk := Below.refl V5.heap.size V5
        go_wp2_with (first | (refine mix_loadA 0 hI1.t3 hzl rfl rfl ?_) | (go_at_call 68; refine (rTimesI_any n2 b _ _ _ hpr (by have := HOK.out.s2; omega) (by have := HOK.out.q; omega) (by omega)).mono ?_; rintro e w' ⟨ys, rfl, hpy, hvy, hb⟩; replace hk := step_of hk hb; clear hb; have y3 := blk_keep hI1.t3 hk; have hyl := hpy.len) | (refine mix_storeA 9 y3 hzl hyl rfl rfl rfl (fun w6 k1 k2 k3 k4 => ?_)) | ((with_reducible refine Calmly.is_fl ?_); refine Calmly.mix_fl rfl ?_ (fun _ _ => ?_); (first | exact .move _ | exact .load _ _ | exact .fieldAddr _ _ _ (by kernel_rfl) | exact .assign _ | exact .binOp _ _ _ _ _ rfl | exact .indexAddr _ _ _ | exact .len _ _ (by kernel_rfl) | exact .field _ _ _ | exact .extract _ _ | exact .pick _ _ _ | exact .build _ _ | exact .slice _ _ _ _ _ | exact .unOp _ _ _ rfl | exact .index _ _ _ | exact .max _ _ _ rfl rfl | exact .min _ _ _ rfl rfl | exact .nilCheck _ _ rfl)) | ((with_reducible refine Calmly.is_gl ?_); refine Calmly.mix_gl rfl rfl rfl ?_; first | ((first | with_reducible refine Calmly.gl_tt ?_ (fun _ _ => ?_) | with_reducible refine Calmly.gl_ff ?_ (fun _ _ => ?_)); (first | exact .move _ | exact .load _ _ | exact .fieldAddr _ _ _ (by kernel_rfl) | exact .assign _ | exact .binOp _ _ _ _ _ rfl | exact .indexAddr _ _ _ | exact .len _ _ (by kernel_rfl) | exact .field _ _ _ | exact .extract _ _ | exact .pick _ _ _ | exact .build _ _ | exact .slice _ _ _ _ _ | exact .unOp _ _ _ rfl | exact .index _ _ _ | exact .max _ _ _ rfl rfl | exact .min _ _ _ rfl rfl | exact .nilCheck _ _ rfl)) | with_reducible refine Calmly.gl_tf (fun _ _ => ?_) | with_reducible refine Calmly.gl_ft (fun _ _ => ?_)) | ((with_reducible refine Calmly.is_eff ?_); refine Calmly.mix_eff rfl (fun _ _ => ?_)) | ((with_reducible refine Calmly.is_gf ?_); refine Calmly.mix_gf rfl rfl rfl ?_; first | with_reducible refine Calmly.gf_tt (fun _ _ => ?_) | with_reducible refine Calmly.gf_ff (fun _ _ => ?_) | with_reducible refine Calmly.gf_tf (kept_of hk) (fun _ _ => ?_) | with_reducible refine Calmly.gf_ft (kept_of hk) (fun _ _ => ?_)) | ((with_reducible refine Calmly.is_tail ?_); first | refine Calmly.mix_tail_nil ?_ | refine Calmly.mix_tail rfl (fun _ _ => ?_)) | ((with_reducible refine Calmly.is_kept ?_); refine ⟨kept_of hk, ?_⟩) | (with_reducible refine Calmly.mix_alt ?_ ?_))
        have hB6 := (hI1.bel.trans (hk.mono hI1.bel.size)).trans (k4 _ (by omega))
        have x0 := (k2 _ (by omega)).trans (blk_keep hI1.t0 hk)
        have x1 := (k2 _ (by omega)).trans (blk_keep hI1.t1 hk)
        have x2 := (k2 _ (by omega)).trans (blk_keep hI1.t2 hk)
        clear g0 g1
        refine Calmly.wp_region_mix 10 (.fl 0 <| .fl 1 <| .fl 2 <| .fl 3 <| .fl 4 <| .fl 5 <| .fl 6 <| .fl 7 <| .fl 8 <| .eff 9 <| .tail [10]) (by kernel_rfl) (by kernel_rfl) ?_
        have BD : Below w6.heap.size w6 w6.drew := (Below.refl _ _).drew
        replace x0 := blk_keep x0 BD
        replace x1 := blk_keep x1 BD
        replace x2 := blk_keep x2 BD
        replace k1 := blk_keep k1 BD
        replace hB6 := hB6.trans (BD.mono hB6.size)
        generalize w6.drew = V6 at *
        have g0 := cell_block x0 3
        have g1 := cell_block x1 1
        clear hk y3
        have hk := Below.refl V6.heap.size V6
        have hq := HOK.out.q
        go_wp2_with (first | (refine mix_loadA 0 k1 hyl rfl rfl ?_) | (go_at_call 68; refine (rTimesI_any d2 (-b) _ _ _ hpy (by have := HOK.out.s2; omega) (by omega) (by omega)).mono ?_; rintro e w' ⟨zs, rfl, hpz, hvz, hb⟩; replace hk := step_of hk hb; clear hb; have y3 := blk_keep k1 hk; have hzl2 := hpz.len) | (refine mix_storeA 10 y3 hyl hzl2 rfl rfl rfl (fun w7 m1 m2 m3 m4 => ?_)) | ((with_reducible refine Calmly.is_fl ?_); refine Calmly.mix_fl rfl ?_ (fun _ _ => ?_); (first | exact .move _ | exact .load _ _ | exact .fieldAddr _ _ _ (by kernel_rfl) | exact .assign _ | exact .binOp _ _ _ _ _ rfl | exact .indexAddr _ _ _ | exact .len _ _ (by kernel_rfl) | exact .field _ _ _ | exact .extract _ _ | exact .pick _ _ _ | exact .build _ _ | exact .slice _ _ _ _ _ | exact .unOp _ _ _ rfl | exact .index _ _ _ | exact .max _ _ _ rfl rfl | exact .min _ _ _ rfl rfl | exact .nilCheck _ _ rfl)) | ((with_reducible refine Calmly.is_gl ?_); refine Calmly.mix_gl rfl rfl rfl ?_; first | ((first | with_reducible refine Calmly.gl_tt ?_ (fun _ _ => ?_) | with_reducible refine Calmly.gl_ff ?_ (fun _ _ => ?_)); (first | exact .move _ | exact .load _ _ | exact .fieldAddr _ _ _ (by kernel_rfl) | exact .assign _ | exact .binOp _ _ _ _ _ rfl | exact .indexAddr _ _ _ | exact .len _ _ (by kernel_rfl) | exact .field _ _ _ | exact .extract _ _ | exact .pick _ _ _ | exact .build _ _ | exact .slice _ _ _ _ _ | exact .unOp _ _ _ rfl | exact .index _ _ _ | exact .max _ _ _ rfl rfl | exact .min _ _ _ rfl rfl | exact .nilCheck _ _ rfl)) | with_reducible refine Calmly.gl_tf (fun _ _ => ?_) | with_reducible refine Calmly.gl_ft (fun _ _ => ?_)) | ((with_reducible refine Calmly.is_eff ?_); refine Calmly.mix_eff rfl (fun _ _ => ?_)) | ((with_reducible refine Calmly.is_gf ?_); refine Calmly.mix_gf rfl rfl rfl ?_; first | with_reducible refine Calmly.gf_tt (fun _ _ => ?_) | with_reducible refine Calmly.gf_ff (fun _ _ => ?_) | with_reducible refine Calmly.gf_tf (kept_of hk) (fun _ _ => ?_) | with_reducible refine Calmly.gf_ft (kept_of hk) (fun _ _ => ?_)) | ((with_reducible refine Calmly.is_tail ?_); first | refine Calmly.mix_tail_nil ?_ | refine Calmly.mix_tail rfl (fun _ _ => ?_)) | ((with_reducible refine Calmly.is_kept ?_); refine ⟨kept_of hk, ?_⟩) | (with_reducible refine Calmly.mix_alt ?_ ?_))
        have hI7 : FaJ w n1 d1 n2 d2 n3 d3 a b c zs 2 w7 := ⟨(hB6.trans (hk.mono hB6.size)).trans (m4 _ (by omega)), (m2 _ (by omega)).trans (blk_keep x0 hk), (m2 _ (by omega)).trans (blk_keep x1 hk), (m2 _ (by omega)).trans (blk_keep x2 hk), m1, by simpa using hpz, by rw [hvz, hvy, hI1.va]; simp [fcP]⟩
        have HI7 := Lib.hid hI7
        clear hI7 hpz hvz hpy hvy
        refine ⟨⟨2, zs, by omega, by go_num, HI7.out⟩, ?_⟩
        simp [intOf]
      · have hi1 : (2 : Int) < 3 := by omega
        go_wp2_with fail
        refine Calmly.wp_region_mix 9 (.fl 0 <| .fl 1 <| .fl 2 <| .fl 3 <| .fl 4 <| .fl 5 <| .fl 6 <| .fl 7 <| .eff 8 <| .tail [9]) (by kernel_rfl) (by kernel_rfl) ?_
        have hI1 := hI.keep (Below.refl _ _).drew
        generalize World.drew _ = V5 at *
        have hpr := hI1.pr
        have hzl := hpr.len
        have g0 := cell_block hI1.t0 4
        have g1 := cell_block hI1.t1 2
        have hk := Below.refl V5.heap.size V5
        go_wp2_with (first | (refine mix_loadA 0 hI1.t3 hzl rfl rfl ?_) | (go_at_call 68; refine (rTimesI_any n3 c _ _ _ hpr (by have := HOK.out.s3; omega) (by have := HOK.out.q; omega) (by omega)).mono ?_; rintro e w' ⟨ys, rfl, hpy, hvy, hb⟩; replace hk := step_of hk hb; clear hb; have y3 := blk_keep hI1.t3 hk; have hyl := hpy.len) | (refine mix_storeA 9 y3 hzl hyl rfl rfl rfl (fun w6 k1 k2 k3 k4 => ?_)) | ((with_reducible refine Calmly.is_fl ?_); refine Calmly.mix_fl rfl ?_ (fun _ _ => ?_); (first | exact .move _ | exact .load _ _ | exact .fieldAddr _ _ _ (by kernel_rfl) | exact .assign _ | exact .binOp _ _ _ _ _ rfl | exact .indexAddr _ _ _ | exact .len _ _ (by kernel_rfl) | exact .field _ _ _ | exact .extract _ _ | exact .pick _ _ _ | exact .build _ _ | exact .slice _ _ _ _ _ | exact .unOp _ _ _ rfl | exact .index _ _ _ | exact .max _ _ _ rfl rfl | exact .min _ _ _ rfl rfl | exact .nilCheck _ _ rfl)) | ((with_reducible refine Calmly.is_gl ?_); refine Calmly.mix_gl rfl rfl rfl ?_; first | ((first | with_reducible refine Calmly.gl_tt ?_ (fun _ _ => ?_) | with_reducible refine Calmly.gl_ff ?_ (fun _ _ => ?_)); (first | exact .move _ | exact .load _ _ | exact .fieldAddr _ _ _ (by kernel_rfl) | exact .assign _ | exact .binOp _ _ _ _ _ rfl | exact .indexAddr _ _ _ | exact .len _ _ (by kernel_rfl) | exact .field _ _ _ | exact .extract _ _ | exact .pick _ _ _ | exact .build _ _ | exact .slice _ _ _ _ _ | exact .unOp _ _ _ rfl | exact .index _ _ _ | exact .max _ _ _ rfl rfl | exact .min _ _ _ rfl rfl | exact .nilCheck _ _ rfl)) | with_reducible refine Calmly.gl_tf (fun _ _ => ?_) | with_reducible refine Calmly.gl_ft (fun _ _ => ?_)) | ((with_reducible refine Calmly.is_eff ?_); refine Calmly.mix_eff rfl (fun _ _ => ?_)) | ((with_reducible refine Calmly.is_gf ?_); refine Calmly.mix_gf rfl rfl rfl ?_; first | with_reducible refine Calmly.gf_tt (fun _ _ => ?_) | with_reducible refine Calmly.gf_ff (fun _ _ => ?_) | with_reducible refine Calmly.gf_tf (kept_of hk) (fun _ _ => ?_) | with_reducible refine Calmly.gf_ft (kept_of hk) (fun _ _ => ?_)) | ((with_reducible refine Calmly.is_tail ?_); first | refine Calmly.mix_tail_nil ?_ | refine Calmly.mix_tail rfl (fun _ _ => ?_)) | ((with_reducible refine Calmly.is_kept ?_); refine ⟨kept_of hk, ?_⟩) | (with_reducible refine Calmly.mix_alt ?_ ?_))
        have hB6 := (hI1.bel.trans (hk.mono hI1.bel.size)).trans (k4 _ (by omega))
        have x0 := (k2 _ (by omega)).trans (blk_keep hI1.t0 hk)
        have x1 := (k2 _ (by omega)).trans (blk_keep hI1.t1 hk)
        have x2 := (k2 _ (by omega)).trans (blk_keep hI1.t2 hk)
        clear g0 g1
        refine Calmly.wp_region_mix 10 (.fl 0 <| .fl 1 <| .fl 2 <| .fl 3 <| .fl 4 <| .fl 5 <| .fl 6 <| .fl 7 <| .fl 8 <| .eff 9 <| .tail [10]) (by kernel_rfl) (by kernel_rfl) ?_
        have BD : Below w6.heap.size w6 w6.drew := (Below.refl _ _).drew
        replace x0 := blk_keep x0 BD
        replace x1 := blk_keep x1 BD
        replace x2 := blk_keep x2 BD
        replace k1 := blk_keep k1 BD
        replace hB6 := hB6.trans (BD.mono hB6.size)
        generalize w6.drew = V6 at *
        have g0 := cell_block x0 5
        have g1 := cell_block x1 2
        clear hk y3
        have hk := Below.refl V6.heap.size V6
        have hq := HOK.out.q
        go_wp2_with (first | (refine mix_loadA 0 k1 hyl rfl rfl ?_) | (go_at_call 68; refine (rTimesI_any d3 (-c) _ _ _ hpy (by have := HOK.out.s3; omega) (by omega) (by omega)).mono ?_; rintro e w' ⟨zs, rfl, hpz, hvz, hb⟩; replace hk := step_of hk hb; clear hb; have y3 := blk_keep k1 hk; have hzl2 := hpz.len) | (refine mix_storeA 10 y3 hyl hzl2 rfl rfl rfl (fun w7 m1 m2 m3 m4 => ?_)) | ((with_reducible refine Calmly.is_fl ?_); refine Calmly.mix_fl rfl ?_ (fun _ _ => ?_); (first | exact .move _ | exact .load _ _ | exact .fieldAddr _ _ _ (by kernel_rfl) | exact .assign _ | exact .binOp _ _ _ _ _ rfl | exact .indexAddr _ _ _ | exact .len _ _ (by kernel_rfl) | exact .field _ _ _ | exact .extract _ _ | exact .pick _ _ _ | exact .build _ _ | exact .slice _ _ _ _ _ | exact .unOp _ _ _ rfl | exact .index _ _ _ | exact .max _ _ _ rfl rfl | exact .min _ _ _ rfl rfl | exact .nilCheck _ _ rfl)) | ((with_reducible refine Calmly.is_gl ?_); refine Calmly.mix_gl rfl rfl rfl ?_; first | ((first | with_reducible refine Calmly.gl_tt ?_ (fun _ _ => ?_) | with_reducible refine Calmly.gl_ff ?_ (fun _ _ => ?_)); (first | exact .move _ | exact .load _ _ | exact .fieldAddr _ _ _ (by kernel_rfl) | exact .assign _ | exact .binOp _ _ _ _ _ rfl | exact .indexAddr _ _ _ | exact .len _ _ (by kernel_rfl) | exact .field _ _ _ | exact .extract _ _ | exact .pick _ _ _ | exact .build _ _ | exact .slice _ _ _ _ _ | exact .unOp _ _ _ rfl | exact .index _ _ _ | exact .max _ _ _ rfl rfl | exact .min _ _ _ rfl rfl | exact .nilCheck _ _ rfl)) | with_reducible refine Calmly.gl_tf (fun _ _ => ?_) | with_reducible refine Calmly.gl_ft (fun _ _ => ?_)) | ((with_reducible refine Calmly.is_eff ?_); refine Calmly.mix_eff rfl (fun _ _ => ?_)) | ((with_reducible refine Calmly.is_gf ?_); refine Calmly.mix_gf rfl rfl rfl ?_; first | with_reducible refine Calmly.gf_tt (fun _ _ => ?_) | with_reducible refine Calmly.gf_ff (fun _ _ => ?_) | with_reducible refine Calmly.gf_tf (kept_of hk) (fun _ _ => ?_) | with_reducible refine Calmly.gf_ft (kept_of hk) (fun _ _ => ?_)) | ((with_reducible refine Calmly.is_tail ?_); first | refine Calmly.mix_tail_nil ?_ | refine Calmly.mix_tail rfl (fun _ _ => ?_)) | ((with_reducible refine Calmly.is_kept ?_); refine ⟨kept_of hk, ?_⟩) | (with_reducible refine Calmly.mix_alt ?_ ?_))
        have hI7 : FaJ w n1 d1 n2 d2 n3 d3 a b c zs 3 w7 := ⟨(hB6.trans (hk.mono hB6.size)).trans (m4 _ (by omega)), (m2 _ (by omega)).trans (blk_keep x0 hk), (m2 _ (by omega)).trans (blk_keep x1 hk), (m2 _ (by omega)).trans (blk_keep x2 hk), m1, by simpa using hpz, by rw [hvz, hvy, hI1.va]; simp [fcP]⟩
        have HI7 := Lib.hid hI7
        clear hI7 hpz hvz hpy hvy
        refine ⟨⟨3, zs, by omega, by go_num, HI7.out⟩, ?_⟩
        simp [intOf]
      · have hpr := hI.pr
        have hzl := hpr.len
        have hva : vaA xs 101 = V := by rw [hI.va, ← HV.out]; rfl
        have HVA := Lib.hid hva
        clear hva
        go_wp2_with (first | (refine loadA hI.t3 hzl rfl _ rfl rfl ?_))
        refine (parts_any _ xs _ hpr (by omega)).mono ?_
        rintro e w8 ⟨rfl, hs8⟩
        rw [HVA.out]
        have y2 := blk_keep hI.t2 hs8
        have hB := hI.bel.trans (hs8.mono hI.bel.size)
        obtain ⟨vn, hvn⟩ : ∃ t, fcN V = t := ⟨_, rfl⟩
        obtain ⟨vd, hvd⟩ : ∃ t, fcD V = t := ⟨_, rfl⟩
        obtain ⟨vo, hvo⟩ : ∃ t, fcOk V = t := ⟨_, rfl⟩
        rw [hvn, hvd, hvo]
        have HVN := Lib.hid hvn
        have HVD := Lib.hid hvd
        have HVO := Lib.hid hvo
        clear hvn hvd hvo
        have g0 := cell_block y2 0
        have g1 := cell_block y2 1
        have g2 := frozen_block y2 0
        have g3 := frozen_block y2 1
        go_wp2_with fail
        have q0 := setBlk (setBlk y2 0 (.int .i64 vn)) 1 (.int .i64 vd)
        simp at q0
        have c0 := cell_block q0 0
        have c1 := cell_block q0 1
        have hw : w.heap.size ≤ w.heap.size + 1 + 1 := by omega
        refine bodyPost_ret (v := .tuple #[.agg #[.int .i64 vn, .int .i64 vd], .bool vo]) (by simp [results, Tryz.results55, go_sem, c0, c1]) rfl ⟨by rw [HVN.out, HVD.out, HVO.out], (hB.setCell (by exact hw) _).setCell (by exact hw) _⟩
set_option maxRecDepth 100000 in
set_option maxHeartbeats 2000000 in
theorem rFactorErr_any (n1 d1 n2 d2 n3 d3 a b c : Int) (w : World) (h1 : F64 n1 d1) (h2 : F64 n2 d2) (h3 : F64 n3 d3) :
    Calls Tryz.prog 53 #[.agg #[.int .i64 n1, .int .i64 d1, .int .i64 n2, .int .i64 d2, .int .i64 n3, .int .i64 d3], .agg #[.int .i64 a, .int .i64 b, .int .i64 c]] w fun e w' => e = .returned (.int .i64 (facE n1 d1 n2 d2 n3 d3 a b c)) ∧ Below w.heap.size w w' := by
  have hFE : facE n1 d1 n2 d2 n3 d3 a b c = if facH n1 d1 n2 d2 n3 d3 a b c = 0 then unlessE (fcOk (facV n1 d1 n2 d2 n3 d3 a b c)) 8 else facH n1 d1 n2 d2 n3 d3 a b c := rfl
  have hFH : facH n1 d1 n2 d2 n3 d3 a b c = firstE [(sclE (fs3 n1 d1 n2 d2 n3 d3)).2, qtyE a b c] := rfl
  have hok : facH n1 d1 n2 d2 n3 d3 a b c = 0 → FacOk n1 d1 n2 d2 n3 d3 a b c := facH_ok
  obtain ⟨V, hV⟩ : ∃ V, facV n1 d1 n2 d2 n3 d3 a b c = V := ⟨_, rfl⟩
  obtain ⟨H, hH⟩ : ∃ H, facH n1 d1 n2 d2 n3 d3 a b c = H := ⟨_, rfl⟩
  obtain ⟨E, hE⟩ : ∃ E, facE n1 d1 n2 d2 n3 d3 a b c = E := ⟨_, rfl⟩
  obtain ⟨S, hS⟩ : ∃ S, (sclE (fs3 n1 d1 n2 d2 n3 d3)).2 = S := ⟨_, rfl⟩
  obtain ⟨S1, hS1⟩ : ∃ S, (sclE (fs3 n1 d1 n2 d2 n3 d3)).1 = S := ⟨_, rfl⟩
  obtain ⟨Q, hQ⟩ : ∃ Q, qtyE a b c = Q := ⟨_, rfl⟩
  rw [hE, hV, hH] at hFE
  rw [hH, hS, hQ] at hFH
  rw [hH] at hok
  rw [hE]
  have HFE := Lib.hid hFE
  have HFH := Lib.hid hFH
  have HOK := Lib.hid hok
  have HV := Lib.hid hV
  have HS := Lib.hid hS
  have HS1 := Lib.hid hS1
  have HQ := Lib.hid hQ
  clear hFE hFH hok hV hH hE hS hS1 hQ
  have y0 := blk_keep (alloc_new w (.cells #[.int .i64 n1, .int .i64 d1, .int .i64 n2, .int .i64 d2, .int .i64 n3, .int .i64 d3] 28)) ((Below.refl _ _).alloc (Nat.le_refl _) (.cells #[.int .i64 a, .int .i64 b, .int .i64 c] 53))
  have y1 := alloc_new (w.alloc (.cells #[.int .i64 n1, .int .i64 d1, .int .i64 n2, .int .i64 d2, .int .i64 n3, .int .i64 d3] 28)) (.cells #[.int .i64 a, .int .i64 b, .int .i64 c] 53)
  have BW : Below w.heap.size w ((w.alloc (.cells #[.int .i64 n1, .int .i64 d1, .int .i64 n2, .int .i64 d2, .int .i64 n3, .int .i64 d3] 28)).alloc (.cells #[.int .i64 a, .int .i64 b, .int .i64 c] 53)) := ((Below.refl _ _).alloc (Nat.le_refl _) _).alloc (by simp) _
  simp only [World.size_alloc] at y1
  go_enter Tryz.func53, Tryz.ntmps53
  go_wp2_with fail
  generalize (w.alloc (.cells #[.int .i64 n1, .int .i64 d1, .int .i64 n2, .int .i64 d2, .int .i64 n3, .int .i64 d3] 28)).alloc (.cells #[.int .i64 a, .int .i64 b, .int .i64 c] 53) = W at *
  refine (rCheckScales_any n1 d1 n2 d2 n3 d3 W h1 h2 h3).mono ?_
  rintro e w1 ⟨rfl, hs1⟩
  rw [HS.out, HS1.out]
  replace y0 := blk_keep y0 hs1
  replace y1 := blk_keep y1 hs1
  replace BW := BW.trans (hs1.mono BW.size)
  by_cases hz : S = 0
  case neg =>
    have b1 : (S != 0) = true := by simpa using hz
    have HZ := Lib.hid hz
    clear hz
    go_wp2_with fail
    go_ret
    have hh : H = S := by rw [HFH.out]; simp [firstE, HZ.out]
    exact ⟨ret_int (by rw [HFE.out, hh, if_neg HZ.out]), BW⟩
  case pos =>
    have b1 : (S != 0) = false := by rw [hz]; rfl
    have HZ := Lib.hid hz
    clear hz
    have f0 := cell_block y1 0
    have f1 := cell_block y1 1
    have f2 := cell_block y1 2
    go_wp2_with fail
    refine (rQuantityErr_any a b c _).mono ?_
    rintro e w2 ⟨rfl, hs2⟩
    rw [HQ.out]
    replace y0 := blk_keep y0 hs2
    replace y1 := blk_keep y1 hs2
    replace BW := BW.trans (hs2.mono BW.size)
    have hh : H = Q := by
      rw [HFH.out, show firstE [S, Q] = if S = 0 then (if Q = 0 then 0 else Q) else S from rfl, if_pos HZ.out]
      split
      · exact (by assumption : Q = 0).symm
      · rfl
    have HHH := Lib.hid hh
    clear hh f0 f1 f2
    by_cases hz : Q = 0
    case neg =>
      have b2 : (Q != 0) = true := by simpa using hz
      have HZ2 := Lib.hid hz
      clear hz
      go_wp2_with fail
      go_ret
      exact ⟨ret_int (by rw [HFE.out, HHH.out, if_neg HZ2.out]), BW⟩
    case pos =>
      have b2 : (Q != 0) = false := by rw [hz]; rfl
      have hh0 : H = 0 := HHH.out.trans hz
      have hFok := HOK.out hh0
      have HH0 := Lib.hid hh0
      clear hz hh0
      have f0 := cell_block y1 0
      have f1 := cell_block y1 1
      have f2 := cell_block y1 2
      have e0 := cell_block y0 0
      have e1 := cell_block y0 1
      have e2 := cell_block y0 2
      have e3 := cell_block y0 3
      have e4 := cell_block y0 4
      have e5 := cell_block y0 5
      go_wp2_with fail
      refine (rFactor_any n1 d1 n2 d2 n3 d3 a b c _ hFok).mono ?_
      rintro e w3 ⟨rfl, hs3⟩
      rw [HV.out]
      replace BW := BW.trans (hs3.mono BW.size)
      have hE8 : E = unlessE (fcOk V) 8 := by rw [HFE.out, if_pos HH0.out]
      have HE8 := Lib.hid hE8
      clear hE8
      cases hok : fcOk V
      · go_wp2_with fail
        go_ret
        exact ⟨ret_int (by rw [HE8.out, hok]; rfl), BW.alloc BW.size _⟩
      · go_wp2_with fail
        go_ret
        exact ⟨ret_int (by rw [HE8.out, hok]; rfl), BW.alloc BW.size _⟩
end Go.Proofs.YtaiikekgckjdeaaGreat
