/- Contracts of chapter 6: the period of a decay. -/
import Derived.Test.YteigmjlfpmdmoaaGreatDoorK12
namespace Go.Proofs.YteigmjlfpmdmoaaGreatDoor
open Go.RowKit
open Calmly (Kept)

/-- A fraction in lowest terms. -/
def fracF (x y : Int) : Int × Int := (x.tdiv (Int.gcd x y), y.tdiv (Int.gcd x y))
def periodE (xs : List Int) (off : Int) : Int := firstE [decayE xs off, unlessE (decide (1 ≤ ((crossF off 0 (-1) xs).length : Int) - 1)) 12]
def periodF (xs : List Int) (off : Int) : (Int × Int) × (Int × Int) :=
  let c := crossF off 0 (-1) xs
  let n := c.length - 1
  (fracF ((c[n]?.getD (0, 0)).1 - (c[0]?.getD (0, 0)).2) (n : Int), fracF ((c[n]?.getD (0, 0)).2 - (c[0]?.getD (0, 0)).1) (n : Int))

theorem kept_two (X : World) (A B : Obj) : Kept X.drew ((X.alloc A).alloc B).drew := by
  have h : Below X.heap.size X ((X.alloc A).alloc B) := ((Below.refl _ _).alloc (Nat.le_refl _) _).alloc (by simp) _
  exact ⟨h.size, h.block⟩
/-- Four cells of a block are stored into. -/
theorem set4 {v : World} {r : Nat} {u0 u1 u2 u3 x y z u : Value} {t : TypeId} (h : v.heap[r]? = some (.cells #[u0, u1, u2, u3] t)) :
    ((((v.setCell ⟨r, 0, none⟩ x).setCell ⟨r, 1, none⟩ y).setCell ⟨r, 2, none⟩ z).setCell ⟨r, 3, none⟩ u).heap[r]? = some (.cells #[x, y, z, u] t) :=
  blk_setAt (blk_setAt (blk_setAt (blk_setAt h 0 x) 1 y) 2 z) 3 u

theorem openD_any (a : Option Addr) (n c : Nat) (xs : List Int) (off : Int) (w : World) (h1 : SI w a n c xs) :
    Calls Tryz.prog 59 #[.agg #[.slice a n c, .int .i64 off]] w fun e w' => ∃ a' L c' a0 n0 c0 o0, e = .returned (.tuple #[.agg #[.slice a0 n0 c0, .int .i64 o0, .slice a' L c'], .int .i64 (decayE xs off)]) ∧
      (decayE xs off = 0 → a0 = a ∧ n0 = n ∧ c0 = c ∧ o0 = off ∧ OwR w' w.heap.size a' L c' (crossF off 0 (-1) xs)) ∧ (decayE xs off ≠ 0 → a' = none ∧ L = 0 ∧ c' = 0) ∧ L ≤ 100 ∧ Below w.heap.size w w' := by
  by_cases hE : decayE xs off = 0
  · refine (openDecay_ok a n c xs off w h1 hE).mono ?_
    rintro e w' ⟨a', L, c', rfl, ho, hb⟩
    have := ho.len
    have h2 := crossF_len off 0 (-1) xs
    have h3 := (decayE_ok hE).2.1
    exact ⟨a', L, c', a, n, c, off, by rw [hE], fun _ => ⟨rfl, rfl, rfl, rfl, ho⟩, fun h => absurd hE h, by omega, hb⟩
  · refine (openDecay_err a n c xs off _ w h1 rfl hE).mono ?_
    rintro e w' ⟨rfl, hb⟩
    exact ⟨none, 0, 0, none, 0, 0, 0, rfl, fun h => absurd h hE, fun _ => ⟨rfl, rfl, rfl⟩, by omega, hb⟩

theorem periodE_eq {xs : List Int} {off : Int} {L : Nat} (h1 : decayE xs off = 0 → L = (crossF off 0 (-1) xs).length) : firstE [decayE xs off, unlessE (decide (1 ≤ (L : Int) - 1)) 12] = periodE xs off := by
  unfold periodE
  by_cases h : decayE xs off = 0
  · rw [h1 h]
  · rw [firstE_two, firstE_two, if_neg h, if_neg h]

theorem crossF_bd (off : Int) (l : List Int) (i b : Int) (hi : 0 ≤ i) (hb : b ≤ i) : ∀ p ∈ crossF off i b l, 0 ≤ p.1 ∧ p.1 ≤ p.2 ∧ p.2 ≤ i + l.length := by
  induction l generalizing i b with
  | nil => simp [crossF]
  | cons x l ih =>
    intro p hp
    unfold crossF at hp
    split at hp
    · have := ih (i + 1) i (by omega) (by omega) p hp
      simp; omega
    · split at hp
      · rename_i h2
        rcases List.mem_cons.1 hp with rfl | hp
        · simp; omega
        · have := ih (i + 1) (-1) (by omega) (by omega) p hp
          simp; omega
      · have := ih (i + 1) b (by omega) (by omega) p hp
        simp; omega
theorem crossF_at {off : Int} {xs : List Int} (hE : decayE xs off = 0) (j : Nat) : 0 ≤ ((crossF off 0 (-1) xs)[j]?.getD (0, 0)).1 ∧ ((crossF off 0 (-1) xs)[j]?.getD (0, 0)).1 ≤ 60 ∧ 0 ≤ ((crossF off 0 (-1) xs)[j]?.getD (0, 0)).2 ∧ ((crossF off 0 (-1) xs)[j]?.getD (0, 0)).2 ≤ 60 := by
  rcases Nat.lt_or_ge j (crossF off 0 (-1) xs).length with h | h
  · rw [List.getElem?_eq_getElem h]
    have := crossF_bd off xs 0 (-1) (by omega) (by omega) _ (List.getElem_mem h)
    have h2 := (decayE_ok hE).2.1
    simp only [Option.getD_some]
    omega
  · rw [List.getElem?_eq_none h]
    decide

set_option maxRecDepth 100000 in
set_option maxHeartbeats 4000000 in
theorem PeriodIn_any (a : Option Addr) (n c : Nat) (xs : List Int) (off E p q r s : Int) (w : World) (h1 : SI w a n c xs) (hE : periodE xs off = E) (hz : E ≠ 0 → p = 0 ∧ q = 0 ∧ r = 0 ∧ s = 0) (hok : E = 0 → periodF xs off = ((p, q), (r, s))) :
    Calls Tryz.prog 15 #[.agg #[.slice a n c, .int .i64 off]] w fun e w' => e = .returned (.tuple #[.agg #[.int .i64 p, .int .i64 q, .int .i64 r, .int .i64 s], .int .i64 E]) ∧ Below w.heap.size w w' := by
  have hb : Below w.heap.size w ((w.alloc (.cells #[.slice a n c, .int .i64 off] 28)).alloc (.cells #[.int .i64 0, .int .i64 0, .int .i64 0, .int .i64 0] 41)) := ((Below.refl _ _).alloc (Nat.le_refl _) _).alloc (by simp) _
  have HE := Lib.hid hE
  have HZ := Lib.hid hz
  have HOK := Lib.hid hok
  clear hE hz hok
  go_enter Tryz.func15, Tryz.ntmps15
  go_wp2_with fail
  refine (openD_any a n c xs off _ (h1.keep hb)).mono ?_
  rintro e w1 ⟨a', L, c', a0, n0, c0, o0, rfl, hyes, hno, hL, hb1⟩
  have HYES := Lib.hid hyes
  have HNO := Lib.hid hno
  clear hyes hno
  obtain ⟨x1, x2⟩ := box2 (w := w) (o := .cells #[.slice a n c, .int .i64 off] 28) (o' := .cells #[.int .i64 0, .int .i64 0, .int .i64 0, .int .i64 0] 41) hb1
  have hs0 := blk_lt x1
  have hs1 := blk_lt x2
  go_wp2_with fail
  refine (unless_any _ _ _).mono ?_
  rintro e w' ⟨rfl, rfl⟩
  go_wp2_with fail
  refine (first_any _ 2 2 _ _ (SI.two _ _ _ _ (by simp))).mono ?_
  rintro e w' ⟨rfl, rfl⟩
  have hE1 : firstE [decayE xs off, unlessE (decide (1 ≤ (L : Int) - 1)) 12] = E := (periodE_eq (fun h => (HYES.out h).2.2.2.2.len)).trans HE.out
  rw [hE1]
  clear hE1
  have hbw : Below w.heap.size w w1 := hb.trans (hb1.mono (by simp; omega))
  have hA : ∀ (A : World) (o o' : Obj), Below A.heap.size A ((A.alloc o).alloc o') := fun A o o' => ((Below.refl _ _).alloc (Nat.le_refl _) _).alloc (by simp) _
  by_cases hz : E = 0
  · subst hz
    have hd0 : decayE xs off = 0 := by
      have := HE.out
      unfold periodE at this
      rw [firstE_two] at this
      split at this
      · assumption
      · exact absurd this (by assumption)
    obtain ⟨rfl, rfl, rfl, rfl, hown⟩ := HYES.out hd0
    have hL2 : 2 ≤ L := by
      have := HE.out
      unfold periodE at this
      rw [firstE_two, if_pos hd0, ← hown.len] at this
      by_cases h : (1 : Int) ≤ (L : Int) - 1
      · omega
      · simp [unlessE, h] at this
    obtain ⟨cb, co, rfl, hcc⟩ := hown.sr.at_ (by omega)
    obtain ⟨e0, e1⟩ := hcc 0 (by omega)
    obtain ⟨e2, e3⟩ := hcc (L - 1) (by omega)
    simp only [Nat.zero_mul, Nat.add_zero] at e0 e1
    obtain ⟨z1, z2, z3, z4⟩ := crossF_at hd0 0
    obtain ⟨z5, z6, z7, z8⟩ := crossF_at hd0 (L - 1)
    have hpq := HOK.out rfl
    unfold periodF at hpq
    simp only [← hown.len] at hpq
    have HPQ := Lib.hid hpq
    clear hpq
    obtain ⟨p0, hp0⟩ : ∃ p0, (crossF o0 0 (-1) xs)[0]?.getD (0, 0) = p0 := ⟨_, rfl⟩
    obtain ⟨p1, hp1⟩ : ∃ p1, (crossF o0 0 (-1) xs)[L - 1]?.getD (0, 0) = p1 := ⟨_, rfl⟩
    obtain ⟨x0, y0⟩ := p0
    obtain ⟨x1', y1⟩ := p1
    rw [hp0] at e0 e1 z1 z2 z3 z4 HPQ
    rw [hp1] at e2 e3 z5 z6 z7 z8 HPQ
    clear hp0 hp1
    dsimp only at e0 e1 e2 e3 z1 z2 z3 z4 z5 z6 z7 z8 HPQ
    have hlt := cell_lt e0
    have HD0 := Lib.hid hd0
    clear hd0
    have hLi : ((L : Int) - 1).toNat = L - 1 := by omega
    have hL0 : (1 : Int) ≤ (L : Int) := by omega
    have hLL : (0 : Int) < (L : Int) := by omega
    go_wp2_with fail
    refine Calmly.wp_region_mix 12 (.fl 0 <| .fl 1 <| .fl 2 <| .fl 3 <| .fl 4 <| .fl 5 <| .fl 6 <| .fl 7 <| .fl 8 <| .alt 9 (.eff 10 <| .eff 11 <| .tail [12]) (.eff 10 (.eff 9 <| .eff 11 <| .tail [12]))) (by kernel_rfl) (by kernel_rfl) ?_
    have hk := Below.refl ((w1.alloc (.cells #[.slice a0 n0 c0, .int .i64 o0, .slice (some ⟨cb, co, none⟩) L c'] 109)).alloc (.cells #[.int .i64 (decayE xs o0), .int .i64 (unlessE (decide (1 ≤ (L : Int) - 1)) 12)] 30)).drew.heap.size ((w1.alloc (.cells #[.slice a0 n0 c0, .int .i64 o0, .slice (some ⟨cb, co, none⟩) L c'] 109)).alloc (.cells #[.int .i64 (decayE xs o0), .int .i64 (unlessE (decide (1 ≤ (L : Int) - 1)) 12)] 30)).drew
    go_wp2_with (first | ((with_reducible refine Calmly.is_fl ?_); refine Calmly.mix_fl rfl ?_ (fun _ _ => ?_); (first | exact .move _ | exact .load _ _ | exact .fieldAddr _ _ _ (by kernel_rfl) | exact .assign _ | exact .binOp _ _ _ _ _ rfl | exact .indexAddr _ _ _ | exact .len _ _ (by kernel_rfl) | exact .field _ _ _ | exact .extract _ _ | exact .pick _ _ _ | exact .build _ _ | exact .slice _ _ _ _ _ | exact .unOp _ _ _ rfl | exact .index _ _ _ | exact .max _ _ _ rfl rfl | exact .min _ _ _ rfl rfl | exact .nilCheck _ _ rfl)) | ((with_reducible refine Calmly.is_gl ?_); refine Calmly.mix_gl rfl rfl rfl ?_; first | ((first | with_reducible refine Calmly.gl_tt ?_ (fun _ _ => ?_) | with_reducible refine Calmly.gl_ff ?_ (fun _ _ => ?_)); (first | exact .move _ | exact .load _ _ | exact .fieldAddr _ _ _ (by kernel_rfl) | exact .assign _ | exact .binOp _ _ _ _ _ rfl | exact .indexAddr _ _ _ | exact .len _ _ (by kernel_rfl) | exact .field _ _ _ | exact .extract _ _ | exact .pick _ _ _ | exact .build _ _ | exact .slice _ _ _ _ _ | exact .unOp _ _ _ rfl | exact .index _ _ _ | exact .max _ _ _ rfl rfl | exact .min _ _ _ rfl rfl | exact .nilCheck _ _ rfl)) | with_reducible refine Calmly.gl_tf (fun _ _ => ?_) | with_reducible refine Calmly.gl_ft (fun _ _ => ?_)) | ((with_reducible refine Calmly.is_eff ?_); refine Calmly.mix_eff rfl (fun _ _ => ?_)) | ((with_reducible refine Calmly.is_gf ?_); refine Calmly.mix_gf rfl rfl rfl ?_; first | with_reducible refine Calmly.gf_tt (fun _ _ => ?_) | with_reducible refine Calmly.gf_ff (fun _ _ => ?_) | with_reducible refine Calmly.gf_tf (kept_of hk) (fun _ _ => ?_) | with_reducible refine Calmly.gf_ft (kept_of hk) (fun _ _ => ?_)) | ((with_reducible refine Calmly.is_kept ?_); refine ⟨kept_of hk, ?_⟩) | (with_reducible refine Calmly.mix_alt ?_ ?_) | (refine kept_alloc hk (fun hk' hblk hge => ?_); replace hk := hk'; clear hk'))
    all_goals (refine ⟨kept_two _ _ _, ?_⟩; go_wp2_with (first | ((with_reducible refine Calmly.is_fl ?_); refine Calmly.mix_fl rfl ?_ (fun _ _ => ?_); (first | exact .move _ | exact .load _ _ | exact .fieldAddr _ _ _ (by kernel_rfl) | exact .assign _ | exact .binOp _ _ _ _ _ rfl | exact .indexAddr _ _ _ | exact .len _ _ (by kernel_rfl) | exact .field _ _ _ | exact .extract _ _ | exact .pick _ _ _ | exact .build _ _ | exact .slice _ _ _ _ _ | exact .unOp _ _ _ rfl | exact .index _ _ _ | exact .max _ _ _ rfl rfl | exact .min _ _ _ rfl rfl | exact .nilCheck _ _ rfl)) | ((with_reducible refine Calmly.is_gl ?_); refine Calmly.mix_gl rfl rfl rfl ?_; first | ((first | with_reducible refine Calmly.gl_tt ?_ (fun _ _ => ?_) | with_reducible refine Calmly.gl_ff ?_ (fun _ _ => ?_)); (first | exact .move _ | exact .load _ _ | exact .fieldAddr _ _ _ (by kernel_rfl) | exact .assign _ | exact .binOp _ _ _ _ _ rfl | exact .indexAddr _ _ _ | exact .len _ _ (by kernel_rfl) | exact .field _ _ _ | exact .extract _ _ | exact .pick _ _ _ | exact .build _ _ | exact .slice _ _ _ _ _ | exact .unOp _ _ _ rfl | exact .index _ _ _ | exact .max _ _ _ rfl rfl | exact .min _ _ _ rfl rfl | exact .nilCheck _ _ rfl)) | with_reducible refine Calmly.gl_tf (fun _ _ => ?_) | with_reducible refine Calmly.gl_ft (fun _ _ => ?_)) | ((with_reducible refine Calmly.is_eff ?_); refine Calmly.mix_eff rfl (fun _ _ => ?_)) | ((with_reducible refine Calmly.is_gf ?_); refine Calmly.mix_gf rfl rfl rfl ?_; first | with_reducible refine Calmly.gf_tt (fun _ _ => ?_) | with_reducible refine Calmly.gf_ff (fun _ _ => ?_) | with_reducible refine Calmly.gf_tf (kept_of hk) (fun _ _ => ?_) | with_reducible refine Calmly.gf_ft (kept_of hk) (fun _ _ => ?_)) | ((with_reducible refine Calmly.is_tail ?_); first | refine Calmly.mix_tail_nil ?_ | refine Calmly.mix_tail rfl (fun _ _ => ?_)) | ((with_reducible refine Calmly.is_kept ?_); refine ⟨kept_of hk, ?_⟩) | (with_reducible refine Calmly.mix_alt ?_ ?_)))
    · refine wp_gen (fun v => Below w1.heap.size w1 v ∧ w1.heap.size + 2 < v.heap.size ∧ w1.heap.size + 3 < v.heap.size ∧ v.heap[w1.heap.size + 1 + 1]? = some (.cells #[.int .i64 x0, .int .i64 y0] 46) ∧ v.heap[w1.heap.size + 1 + 1 + 1]? = some (.cells #[.int .i64 x1', .int .i64 y1] 46)) ?_ ?_
      · obtain ⟨hq1, hq2⟩ := allocs_below [(.cells #[.slice a0 n0 c0, .int .i64 o0, .slice (some ⟨cb, co, none⟩) L c'] 109), (.cells #[.int .i64 (decayE xs o0), .int .i64 (unlessE (decide (1 ≤ (L : Int) - 1)) 12)] 30), (.cells #[.int .i64 x0, .int .i64 y0] 46), (.cells #[.int .i64 x1', .int .i64 y1] 46)] w1
        have hq3 := allocs_at [(.cells #[.slice a0 n0 c0, .int .i64 o0, .slice (some ⟨cb, co, none⟩) L c'] 109), (.cells #[.int .i64 (decayE xs o0), .int .i64 (unlessE (decide (1 ≤ (L : Int) - 1)) 12)] 30), (.cells #[.int .i64 x0, .int .i64 y0] 46), (.cells #[.int .i64 x1', .int .i64 y1] 46)] w1
        simp only [List.length_cons, List.length_nil, Nat.reduceAdd] at hq2
        exact ⟨hq1.drew, by show _ < (List.foldl World.alloc w1 [(.cells #[.slice a0 n0 c0, .int .i64 o0, .slice (some ⟨cb, co, none⟩) L c'] 109), (.cells #[.int .i64 (decayE xs o0), .int .i64 (unlessE (decide (1 ≤ (L : Int) - 1)) 12)] 30), (.cells #[.int .i64 x0, .int .i64 y0] 46), (.cells #[.int .i64 x1', .int .i64 y1] 46)]).heap.size; omega, by show _ < (List.foldl World.alloc w1 [(.cells #[.slice a0 n0 c0, .int .i64 o0, .slice (some ⟨cb, co, none⟩) L c'] 109), (.cells #[.int .i64 (decayE xs o0), .int .i64 (unlessE (decide (1 ≤ (L : Int) - 1)) 12)] 30), (.cells #[.int .i64 x0, .int .i64 y0] 46), (.cells #[.int .i64 x1', .int .i64 y1] 46)]).heap.size; omega, hq3 2 (by simp), hq3 3 (by simp)⟩
      rintro v ⟨hbv, hsv2, hsv3, hv2, hv3⟩
      have d0 : v.cell? ⟨w1.heap.size + 1 + 1, 0, none⟩ = some (.int .i64 x0) := cell_block hv2 0
      have d1 : v.cell? ⟨w1.heap.size + 1 + 1, 1, none⟩ = some (.int .i64 y0) := cell_block hv2 1
      have d2 : v.cell? ⟨w1.heap.size + 1 + 1 + 1, 0, none⟩ = some (.int .i64 x1') := cell_block hv3 0
      have d3 : v.cell? ⟨w1.heap.size + 1 + 1 + 1, 1, none⟩ = some (.int .i64 y1) := cell_block hv3 1
      refine Calmly.wp_region_mix 14 (.fl 0 <| .fl 1 <| .fl 2 <| .fl 3 <| .fl 4 <| .fl 5 <| .fl 7 <| .fl 8 <| .fl 9 <| .fl 10 <| .fl 11 <| .fl 12 <| .eff 6 <| .eff 13 <| .tail [14, 15, 16]) (by kernel_rfl) (by kernel_rfl) ?_
      have hk := Below.refl v.drew.heap.size v.drew
      go_wp2_with (first | ((with_reducible refine Calmly.is_fl ?_); refine Calmly.mix_fl rfl ?_ (fun _ _ => ?_); (first | exact .move _ | exact .load _ _ | exact .fieldAddr _ _ _ (by kernel_rfl) | exact .assign _ | exact .binOp _ _ _ _ _ rfl | exact .indexAddr _ _ _ | exact .len _ _ (by kernel_rfl) | exact .field _ _ _ | exact .extract _ _ | exact .pick _ _ _ | exact .build _ _ | exact .slice _ _ _ _ _ | exact .unOp _ _ _ rfl | exact .index _ _ _ | exact .max _ _ _ rfl rfl | exact .min _ _ _ rfl rfl | exact .nilCheck _ _ rfl)) | ((with_reducible refine Calmly.is_gl ?_); refine Calmly.mix_gl rfl rfl rfl ?_; first | ((first | with_reducible refine Calmly.gl_tt ?_ (fun _ _ => ?_) | with_reducible refine Calmly.gl_ff ?_ (fun _ _ => ?_)); (first | exact .move _ | exact .load _ _ | exact .fieldAddr _ _ _ (by kernel_rfl) | exact .assign _ | exact .binOp _ _ _ _ _ rfl | exact .indexAddr _ _ _ | exact .len _ _ (by kernel_rfl) | exact .field _ _ _ | exact .extract _ _ | exact .pick _ _ _ | exact .build _ _ | exact .slice _ _ _ _ _ | exact .unOp _ _ _ rfl | exact .index _ _ _ | exact .max _ _ _ rfl rfl | exact .min _ _ _ rfl rfl | exact .nilCheck _ _ rfl)) | with_reducible refine Calmly.gl_tf (fun _ _ => ?_) | with_reducible refine Calmly.gl_ft (fun _ _ => ?_)) | ((with_reducible refine Calmly.is_eff ?_); refine Calmly.mix_eff rfl (fun _ _ => ?_)) | ((with_reducible refine Calmly.is_gf ?_); refine Calmly.mix_gf rfl rfl rfl ?_; first | with_reducible refine Calmly.gf_tt (fun _ _ => ?_) | with_reducible refine Calmly.gf_ff (fun _ _ => ?_) | with_reducible refine Calmly.gf_tf (kept_of hk) (fun _ _ => ?_) | with_reducible refine Calmly.gf_ft (kept_of hk) (fun _ _ => ?_)) | ((with_reducible refine Calmly.is_tail ?_); first | refine Calmly.mix_tail_nil ?_ | refine Calmly.mix_tail rfl (fun _ _ => ?_)) | ((with_reducible refine Calmly.is_kept ?_); refine ⟨kept_of hk, ?_⟩) | (with_reducible refine Calmly.mix_alt ?_ ?_))
      refine (fraction_any _ _ _ (by omega) (by omega) (by omega) (by omega)).mono ?_
      rintro e w4 ⟨rfl, hb4⟩
      replace hk := step_of hk hb4
      go_wp2_with (first | ((with_reducible refine Calmly.is_fl ?_); refine Calmly.mix_fl rfl ?_ (fun _ _ => ?_); (first | exact .move _ | exact .load _ _ | exact .fieldAddr _ _ _ (by kernel_rfl) | exact .assign _ | exact .binOp _ _ _ _ _ rfl | exact .indexAddr _ _ _ | exact .len _ _ (by kernel_rfl) | exact .field _ _ _ | exact .extract _ _ | exact .pick _ _ _ | exact .build _ _ | exact .slice _ _ _ _ _ | exact .unOp _ _ _ rfl | exact .index _ _ _ | exact .max _ _ _ rfl rfl | exact .min _ _ _ rfl rfl | exact .nilCheck _ _ rfl)) | ((with_reducible refine Calmly.is_gl ?_); refine Calmly.mix_gl rfl rfl rfl ?_; first | ((first | with_reducible refine Calmly.gl_tt ?_ (fun _ _ => ?_) | with_reducible refine Calmly.gl_ff ?_ (fun _ _ => ?_)); (first | exact .move _ | exact .load _ _ | exact .fieldAddr _ _ _ (by kernel_rfl) | exact .assign _ | exact .binOp _ _ _ _ _ rfl | exact .indexAddr _ _ _ | exact .len _ _ (by kernel_rfl) | exact .field _ _ _ | exact .extract _ _ | exact .pick _ _ _ | exact .build _ _ | exact .slice _ _ _ _ _ | exact .unOp _ _ _ rfl | exact .index _ _ _ | exact .max _ _ _ rfl rfl | exact .min _ _ _ rfl rfl | exact .nilCheck _ _ rfl)) | with_reducible refine Calmly.gl_tf (fun _ _ => ?_) | with_reducible refine Calmly.gl_ft (fun _ _ => ?_)) | ((with_reducible refine Calmly.is_eff ?_); refine Calmly.mix_eff rfl (fun _ _ => ?_)) | ((with_reducible refine Calmly.is_gf ?_); refine Calmly.mix_gf rfl rfl rfl ?_; first | with_reducible refine Calmly.gf_tt (fun _ _ => ?_) | with_reducible refine Calmly.gf_ff (fun _ _ => ?_) | with_reducible refine Calmly.gf_tf (kept_of hk) (fun _ _ => ?_) | with_reducible refine Calmly.gf_ft (kept_of hk) (fun _ _ => ?_)) | ((with_reducible refine Calmly.is_tail ?_); first | refine Calmly.mix_tail_nil ?_ | refine Calmly.mix_tail rfl (fun _ _ => ?_)) | ((with_reducible refine Calmly.is_kept ?_); refine ⟨kept_of hk, ?_⟩) | (with_reducible refine Calmly.mix_alt ?_ ?_))
      refine (fraction_any _ _ _ (by omega) (by omega) (by omega) (by omega)).mono ?_
      rintro e w5 ⟨rfl, hb5⟩
      replace hk := step_of hk hb5
      have x2v := blk_keep x2 hbv
      have x5 := blk_keep (w := v.drew) x2v hk
      have g0 : w5.cell? ⟨w.heap.size + 1, 0, none⟩ = some (.int .i64 0) := cell_block x5 0
      have g1 : w5.cell? ⟨w.heap.size + 1, 1, none⟩ = some (.int .i64 0) := cell_block x5 1
      have g2 : w5.cell? ⟨w.heap.size + 1, 2, none⟩ = some (.int .i64 0) := cell_block x5 2
      have g3 : w5.cell? ⟨w.heap.size + 1, 3, none⟩ = some (.int .i64 0) := cell_block x5 3
      have r0 := frozen_block x5 0
      have r1 := frozen_block x5 1
      have r2 := frozen_block x5 2
      have r3 := frozen_block x5 3
      have hlast : ∀ i j k l : Int, Below w.heap.size w ((((w5.setCell ⟨w.heap.size + 1, 0, none⟩ (.int .i64 i)).setCell ⟨w.heap.size + 1, 1, none⟩ (.int .i64 j)).setCell ⟨w.heap.size + 1, 2, none⟩ (.int .i64 k)).setCell ⟨w.heap.size + 1, 3, none⟩ (.int .i64 l)) := fun i j k l =>
        (((((hbw.trans (hbv.mono (by omega))).drew.trans (hk.mono (by have := hbv.size; show _ ≤ v.heap.size; omega))).setCell (by simp) _).setCell (by simp) _).setCell (by simp) _).setCell (by simp) _
      go_wp2_with (first | ((with_reducible refine Calmly.is_fl ?_); refine Calmly.mix_fl rfl ?_ (fun _ _ => ?_); (first | exact .move _ | exact .load _ _ | exact .fieldAddr _ _ _ (by kernel_rfl) | exact .assign _ | exact .binOp _ _ _ _ _ rfl | exact .indexAddr _ _ _ | exact .len _ _ (by kernel_rfl) | exact .field _ _ _ | exact .extract _ _ | exact .pick _ _ _ | exact .build _ _ | exact .slice _ _ _ _ _ | exact .unOp _ _ _ rfl | exact .index _ _ _ | exact .max _ _ _ rfl rfl | exact .min _ _ _ rfl rfl | exact .nilCheck _ _ rfl)) | ((with_reducible refine Calmly.is_gl ?_); refine Calmly.mix_gl rfl rfl rfl ?_; first | ((first | with_reducible refine Calmly.gl_tt ?_ (fun _ _ => ?_) | with_reducible refine Calmly.gl_ff ?_ (fun _ _ => ?_)); (first | exact .move _ | exact .load _ _ | exact .fieldAddr _ _ _ (by kernel_rfl) | exact .assign _ | exact .binOp _ _ _ _ _ rfl | exact .indexAddr _ _ _ | exact .len _ _ (by kernel_rfl) | exact .field _ _ _ | exact .extract _ _ | exact .pick _ _ _ | exact .build _ _ | exact .slice _ _ _ _ _ | exact .unOp _ _ _ rfl | exact .index _ _ _ | exact .max _ _ _ rfl rfl | exact .min _ _ _ rfl rfl | exact .nilCheck _ _ rfl)) | with_reducible refine Calmly.gl_tf (fun _ _ => ?_) | with_reducible refine Calmly.gl_ft (fun _ _ => ?_)) | ((with_reducible refine Calmly.is_eff ?_); refine Calmly.mix_eff rfl (fun _ _ => ?_)) | ((with_reducible refine Calmly.is_gf ?_); refine Calmly.mix_gf rfl rfl rfl ?_; first | with_reducible refine Calmly.gf_tt (fun _ _ => ?_) | with_reducible refine Calmly.gf_ff (fun _ _ => ?_) | with_reducible refine Calmly.gf_tf (kept_of hk) (fun _ _ => ?_) | with_reducible refine Calmly.gf_ft (kept_of hk) (fun _ _ => ?_)) | ((with_reducible refine Calmly.is_tail ?_); first | refine Calmly.mix_tail_nil ?_ | refine Calmly.mix_tail rfl (fun _ _ => ?_)) | ((with_reducible refine Calmly.is_kept ?_); refine ⟨kept_of hk, ?_⟩) | (with_reducible refine Calmly.mix_alt ?_ ?_))
      have hpq := HPQ.out
      rw [show ((L - 1 : Nat) : Int) = (L : Int) - 1 by omega] at hpq
      simp only [fracF, Prod.mk.injEq] at hpq
      obtain ⟨⟨u1, u2⟩, u3, u4⟩ := hpq
      rw [u1, u2, u3, u4]
      have hx4 := set4 (x := .int .i64 p) (y := .int .i64 q) (z := .int .i64 r) (u := .int .i64 s) x5
      have t0 := cell_block hx4 0
      have t1 := cell_block hx4 1
      have t2 := cell_block hx4 2
      have t3 := cell_block hx4 3
      simp only [List.getElem?_toArray, List.getElem?_cons_zero, List.getElem?_cons_succ] at t0 t1 t2 t3
      refine bodyPost_ret (v := .tuple #[.agg #[.int .i64 p, .int .i64 q, .int .i64 r, .int .i64 s], .int .i64 0]) (by simp [results, Tryz.results15, go_sem, t0, t1, t2, t3]) rfl ⟨rfl, hlast _ _ _ _⟩
    · refine wp_gen (fun v => Below w1.heap.size w1 v ∧ w1.heap.size + 2 < v.heap.size ∧ w1.heap.size + 3 < v.heap.size ∧ v.heap[w1.heap.size + 1 + 1]? = some (.cells #[.int .i64 x1', .int .i64 y1] 46) ∧ v.heap[w1.heap.size + 1 + 1 + 1]? = some (.cells #[.int .i64 x0, .int .i64 y0] 46)) ?_ ?_
      · obtain ⟨hq1, hq2⟩ := allocs_below [(.cells #[.slice a0 n0 c0, .int .i64 o0, .slice (some ⟨cb, co, none⟩) L c'] 109), (.cells #[.int .i64 (decayE xs o0), .int .i64 (unlessE (decide (1 ≤ (L : Int) - 1)) 12)] 30), (.cells #[.int .i64 x1', .int .i64 y1] 46), (.cells #[.int .i64 x0, .int .i64 y0] 46)] w1
        have hq3 := allocs_at [(.cells #[.slice a0 n0 c0, .int .i64 o0, .slice (some ⟨cb, co, none⟩) L c'] 109), (.cells #[.int .i64 (decayE xs o0), .int .i64 (unlessE (decide (1 ≤ (L : Int) - 1)) 12)] 30), (.cells #[.int .i64 x1', .int .i64 y1] 46), (.cells #[.int .i64 x0, .int .i64 y0] 46)] w1
        simp only [List.length_cons, List.length_nil, Nat.reduceAdd] at hq2
        exact ⟨hq1.drew, by show _ < (List.foldl World.alloc w1 [(.cells #[.slice a0 n0 c0, .int .i64 o0, .slice (some ⟨cb, co, none⟩) L c'] 109), (.cells #[.int .i64 (decayE xs o0), .int .i64 (unlessE (decide (1 ≤ (L : Int) - 1)) 12)] 30), (.cells #[.int .i64 x1', .int .i64 y1] 46), (.cells #[.int .i64 x0, .int .i64 y0] 46)]).heap.size; omega, by show _ < (List.foldl World.alloc w1 [(.cells #[.slice a0 n0 c0, .int .i64 o0, .slice (some ⟨cb, co, none⟩) L c'] 109), (.cells #[.int .i64 (decayE xs o0), .int .i64 (unlessE (decide (1 ≤ (L : Int) - 1)) 12)] 30), (.cells #[.int .i64 x1', .int .i64 y1] 46), (.cells #[.int .i64 x0, .int .i64 y0] 46)]).heap.size; omega, hq3 2 (by simp), hq3 3 (by simp)⟩
      rintro v ⟨hbv, hsv2, hsv3, hv2, hv3⟩
      have d0 : v.cell? ⟨w1.heap.size + 1 + 1, 0, none⟩ = some (.int .i64 x1') := cell_block hv2 0
      have d1 : v.cell? ⟨w1.heap.size + 1 + 1, 1, none⟩ = some (.int .i64 y1) := cell_block hv2 1
      have d2 : v.cell? ⟨w1.heap.size + 1 + 1 + 1, 0, none⟩ = some (.int .i64 x0) := cell_block hv3 0
      have d3 : v.cell? ⟨w1.heap.size + 1 + 1 + 1, 1, none⟩ = some (.int .i64 y0) := cell_block hv3 1
      refine Calmly.wp_region_mix 14 (.fl 0 <| .fl 1 <| .fl 2 <| .fl 3 <| .fl 4 <| .fl 5 <| .fl 7 <| .fl 8 <| .fl 9 <| .fl 10 <| .fl 11 <| .fl 12 <| .eff 6 <| .eff 13 <| .tail [14, 15, 16]) (by kernel_rfl) (by kernel_rfl) ?_
      have hk := Below.refl v.drew.heap.size v.drew
      go_wp2_with (first | ((with_reducible refine Calmly.is_fl ?_); refine Calmly.mix_fl rfl ?_ (fun _ _ => ?_); (first | exact .move _ | exact .load _ _ | exact .fieldAddr _ _ _ (by kernel_rfl) | exact .assign _ | exact .binOp _ _ _ _ _ rfl | exact .indexAddr _ _ _ | exact .len _ _ (by kernel_rfl) | exact .field _ _ _ | exact .extract _ _ | exact .pick _ _ _ | exact .build _ _ | exact .slice _ _ _ _ _ | exact .unOp _ _ _ rfl | exact .index _ _ _ | exact .max _ _ _ rfl rfl | exact .min _ _ _ rfl rfl | exact .nilCheck _ _ rfl)) | ((with_reducible refine Calmly.is_gl ?_); refine Calmly.mix_gl rfl rfl rfl ?_; first | ((first | with_reducible refine Calmly.gl_tt ?_ (fun _ _ => ?_) | with_reducible refine Calmly.gl_ff ?_ (fun _ _ => ?_)); (first | exact .move _ | exact .load _ _ | exact .fieldAddr _ _ _ (by kernel_rfl) | exact .assign _ | exact .binOp _ _ _ _ _ rfl | exact .indexAddr _ _ _ | exact .len _ _ (by kernel_rfl) | exact .field _ _ _ | exact .extract _ _ | exact .pick _ _ _ | exact .build _ _ | exact .slice _ _ _ _ _ | exact .unOp _ _ _ rfl | exact .index _ _ _ | exact .max _ _ _ rfl rfl | exact .min _ _ _ rfl rfl | exact .nilCheck _ _ rfl)) | with_reducible refine Calmly.gl_tf (fun _ _ => ?_) | with_reducible refine Calmly.gl_ft (fun _ _ => ?_)) | ((with_reducible refine Calmly.is_eff ?_); refine Calmly.mix_eff rfl (fun _ _ => ?_)) | ((with_reducible refine Calmly.is_gf ?_); refine Calmly.mix_gf rfl rfl rfl ?_; first | with_reducible refine Calmly.gf_tt (fun _ _ => ?_) | with_reducible refine Calmly.gf_ff (fun _ _ => ?_) | with_reducible refine Calmly.gf_tf (kept_of hk) (fun _ _ => ?_) | with_reducible refine Calmly.gf_ft (kept_of hk) (fun _ _ => ?_)) | ((with_reducible refine Calmly.is_tail ?_); first | refine Calmly.mix_tail_nil ?_ | refine Calmly.mix_tail rfl (fun _ _ => ?_)) | ((with_reducible refine Calmly.is_kept ?_); refine ⟨kept_of hk, ?_⟩) | (with_reducible refine Calmly.mix_alt ?_ ?_))
      refine (fraction_any _ _ _ (by omega) (by omega) (by omega) (by omega)).mono ?_
      rintro e w4 ⟨rfl, hb4⟩
      replace hk := step_of hk hb4
      go_wp2_with (first | ((with_reducible refine Calmly.is_fl ?_); refine Calmly.mix_fl rfl ?_ (fun _ _ => ?_); (first | exact .move _ | exact .load _ _ | exact .fieldAddr _ _ _ (by kernel_rfl) | exact .assign _ | exact .binOp _ _ _ _ _ rfl | exact .indexAddr _ _ _ | exact .len _ _ (by kernel_rfl) | exact .field _ _ _ | exact .extract _ _ | exact .pick _ _ _ | exact .build _ _ | exact .slice _ _ _ _ _ | exact .unOp _ _ _ rfl | exact .index _ _ _ | exact .max _ _ _ rfl rfl | exact .min _ _ _ rfl rfl | exact .nilCheck _ _ rfl)) | ((with_reducible refine Calmly.is_gl ?_); refine Calmly.mix_gl rfl rfl rfl ?_; first | ((first | with_reducible refine Calmly.gl_tt ?_ (fun _ _ => ?_) | with_reducible refine Calmly.gl_ff ?_ (fun _ _ => ?_)); (first | exact .move _ | exact .load _ _ | exact .fieldAddr _ _ _ (by kernel_rfl) | exact .assign _ | exact .binOp _ _ _ _ _ rfl | exact .indexAddr _ _ _ | exact .len _ _ (by kernel_rfl) | exact .field _ _ _ | exact .extract _ _ | exact .pick _ _ _ | exact .build _ _ | exact .slice _ _ _ _ _ | exact .unOp _ _ _ rfl | exact .index _ _ _ | exact .max _ _ _ rfl rfl | exact .min _ _ _ rfl rfl | exact .nilCheck _ _ rfl)) | with_reducible refine Calmly.gl_tf (fun _ _ => ?_) | with_reducible refine Calmly.gl_ft (fun _ _ => ?_)) | ((with_reducible refine Calmly.is_eff ?_); refine Calmly.mix_eff rfl (fun _ _ => ?_)) | ((with_reducible refine Calmly.is_gf ?_); refine Calmly.mix_gf rfl rfl rfl ?_; first | with_reducible refine Calmly.gf_tt (fun _ _ => ?_) | with_reducible refine Calmly.gf_ff (fun _ _ => ?_) | with_reducible refine Calmly.gf_tf (kept_of hk) (fun _ _ => ?_) | with_reducible refine Calmly.gf_ft (kept_of hk) (fun _ _ => ?_)) | ((with_reducible refine Calmly.is_tail ?_); first | refine Calmly.mix_tail_nil ?_ | refine Calmly.mix_tail rfl (fun _ _ => ?_)) | ((with_reducible refine Calmly.is_kept ?_); refine ⟨kept_of hk, ?_⟩) | (with_reducible refine Calmly.mix_alt ?_ ?_))
      refine (fraction_any _ _ _ (by omega) (by omega) (by omega) (by omega)).mono ?_
      rintro e w5 ⟨rfl, hb5⟩
      replace hk := step_of hk hb5
      have x2v := blk_keep x2 hbv
      have x5 := blk_keep (w := v.drew) x2v hk
      have g0 : w5.cell? ⟨w.heap.size + 1, 0, none⟩ = some (.int .i64 0) := cell_block x5 0
      have g1 : w5.cell? ⟨w.heap.size + 1, 1, none⟩ = some (.int .i64 0) := cell_block x5 1
      have g2 : w5.cell? ⟨w.heap.size + 1, 2, none⟩ = some (.int .i64 0) := cell_block x5 2
      have g3 : w5.cell? ⟨w.heap.size + 1, 3, none⟩ = some (.int .i64 0) := cell_block x5 3
      have r0 := frozen_block x5 0
      have r1 := frozen_block x5 1
      have r2 := frozen_block x5 2
      have r3 := frozen_block x5 3
      have hlast : ∀ i j k l : Int, Below w.heap.size w ((((w5.setCell ⟨w.heap.size + 1, 0, none⟩ (.int .i64 i)).setCell ⟨w.heap.size + 1, 1, none⟩ (.int .i64 j)).setCell ⟨w.heap.size + 1, 2, none⟩ (.int .i64 k)).setCell ⟨w.heap.size + 1, 3, none⟩ (.int .i64 l)) := fun i j k l =>
        (((((hbw.trans (hbv.mono (by omega))).drew.trans (hk.mono (by have := hbv.size; show _ ≤ v.heap.size; omega))).setCell (by simp) _).setCell (by simp) _).setCell (by simp) _).setCell (by simp) _
      go_wp2_with (first | ((with_reducible refine Calmly.is_fl ?_); refine Calmly.mix_fl rfl ?_ (fun _ _ => ?_); (first | exact .move _ | exact .load _ _ | exact .fieldAddr _ _ _ (by kernel_rfl) | exact .assign _ | exact .binOp _ _ _ _ _ rfl | exact .indexAddr _ _ _ | exact .len _ _ (by kernel_rfl) | exact .field _ _ _ | exact .extract _ _ | exact .pick _ _ _ | exact .build _ _ | exact .slice _ _ _ _ _ | exact .unOp _ _ _ rfl | exact .index _ _ _ | exact .max _ _ _ rfl rfl | exact .min _ _ _ rfl rfl | exact .nilCheck _ _ rfl)) | ((with_reducible refine Calmly.is_gl ?_); refine Calmly.mix_gl rfl rfl rfl ?_; first | ((first | with_reducible refine Calmly.gl_tt ?_ (fun _ _ => ?_) | with_reducible refine Calmly.gl_ff ?_ (fun _ _ => ?_)); (first | exact .move _ | exact .load _ _ | exact .fieldAddr _ _ _ (by kernel_rfl) | exact .assign _ | exact .binOp _ _ _ _ _ rfl | exact .indexAddr _ _ _ | exact .len _ _ (by kernel_rfl) | exact .field _ _ _ | exact .extract _ _ | exact .pick _ _ _ | exact .build _ _ | exact .slice _ _ _ _ _ | exact .unOp _ _ _ rfl | exact .index _ _ _ | exact .max _ _ _ rfl rfl | exact .min _ _ _ rfl rfl | exact .nilCheck _ _ rfl)) | with_reducible refine Calmly.gl_tf (fun _ _ => ?_) | with_reducible refine Calmly.gl_ft (fun _ _ => ?_)) | ((with_reducible refine Calmly.is_eff ?_); refine Calmly.mix_eff rfl (fun _ _ => ?_)) | ((with_reducible refine Calmly.is_gf ?_); refine Calmly.mix_gf rfl rfl rfl ?_; first | with_reducible refine Calmly.gf_tt (fun _ _ => ?_) | with_reducible refine Calmly.gf_ff (fun _ _ => ?_) | with_reducible refine Calmly.gf_tf (kept_of hk) (fun _ _ => ?_) | with_reducible refine Calmly.gf_ft (kept_of hk) (fun _ _ => ?_)) | ((with_reducible refine Calmly.is_tail ?_); first | refine Calmly.mix_tail_nil ?_ | refine Calmly.mix_tail rfl (fun _ _ => ?_)) | ((with_reducible refine Calmly.is_kept ?_); refine ⟨kept_of hk, ?_⟩) | (with_reducible refine Calmly.mix_alt ?_ ?_))
      have hpq := HPQ.out
      rw [show ((L - 1 : Nat) : Int) = (L : Int) - 1 by omega] at hpq
      simp only [fracF, Prod.mk.injEq] at hpq
      obtain ⟨⟨u1, u2⟩, u3, u4⟩ := hpq
      rw [u1, u2, u3, u4]
      have hx4 := set4 (x := .int .i64 p) (y := .int .i64 q) (z := .int .i64 r) (u := .int .i64 s) x5
      have t0 := cell_block hx4 0
      have t1 := cell_block hx4 1
      have t2 := cell_block hx4 2
      have t3 := cell_block hx4 3
      simp only [List.getElem?_toArray, List.getElem?_cons_zero, List.getElem?_cons_succ] at t0 t1 t2 t3
      refine bodyPost_ret (v := .tuple #[.agg #[.int .i64 p, .int .i64 q, .int .i64 r, .int .i64 s], .int .i64 0]) (by simp [results, Tryz.results15, go_sem, t0, t1, t2, t3]) rfl ⟨rfl, hlast _ _ _ _⟩
  · have hz1 : (E != 0) = true := by simpa using hz
    obtain ⟨rfl, rfl, rfl, rfl⟩ := HZ.out hz
    clear hz
    have hx4 := set4 (x := .int .i64 0) (y := .int .i64 0) (z := .int .i64 0) (u := .int .i64 0) x2
    have g0 : w1.cell? ⟨w.heap.size + 1, 0, none⟩ = some (.int .i64 0) := cell_block x2 0
    have g1 : w1.cell? ⟨w.heap.size + 1, 1, none⟩ = some (.int .i64 0) := cell_block x2 1
    have g2 : w1.cell? ⟨w.heap.size + 1, 2, none⟩ = some (.int .i64 0) := cell_block x2 2
    have g3 : w1.cell? ⟨w.heap.size + 1, 3, none⟩ = some (.int .i64 0) := cell_block x2 3
    have r0 := frozen_block x2 0
    have r1 := frozen_block x2 1
    have r2 := frozen_block x2 2
    have r3 := frozen_block x2 3
    have hx5 := blk_keep hx4 (hA _ (.cells #[.slice a0 n0 c0, .int .i64 o0, .slice a' L c'] 109) (.cells #[.int .i64 (decayE xs off), .int .i64 (unlessE (decide (1 ≤ (L : Int) - 1)) 12)] 30))
    have t0 := cell_block hx5 0
    have t1 := cell_block hx5 1
    have t2 := cell_block hx5 2
    have t3 := cell_block hx5 3
    simp only [List.getElem?_toArray, List.getElem?_cons_zero, List.getElem?_cons_succ] at t0 t1 t2 t3
    go_wp2_with fail
    refine bodyPost_ret (v := .tuple #[.agg #[.int .i64 0, .int .i64 0, .int .i64 0, .int .i64 0], .int .i64 E]) (by simp [results, Tryz.results15, go_sem, t0, t1, t2, t3]) rfl ⟨rfl, ?_⟩
    exact (((((hbw.setCell (by simp) _).setCell (by simp) _).setCell (by simp) _).setCell (by simp) _).alloc (by simp; omega) _).alloc (by simp; omega) _
end Go.Proofs.YteigmjlfpmdmoaaGreatDoor
